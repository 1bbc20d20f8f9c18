/- A text of the proof: a verified executor of the program form, or the contracts of the functions that the law reaches. -/
import Derived.Test.YtafmdjdjabifjaaGreatDoorShLib
set_option linter.all false
namespace Go.Vx
open Go Go.RowKit
set_option linter.unusedVariables false
structure api_Sample where
  At : Int
  N : Int
  Mark : Int
structure api_Series where
  Den : Int
  Samples : List api_Sample
structure api_Track where
  Name : Str
  Series : api_Series
  Long : Int
structure api_Zone where
  From : Int
  To : Int
  Name : Str
structure api_Instrument where
  Kind : Int
  Name : Str
  Track : Str
  Places : Int
  Low : Int
  High : Int
  Steps : Int
  Zones : List api_Zone
  Op : Int
  N : Int
  Latch : Bool
  Size : Int
structure api_Panel where
  Instruments : List api_Instrument
structure api_Memo where
  Lit : Bool
  Some : Bool
  N : Int
  Count : Int
  Tape : List Int
structure api_PanelState where
  Frame : Int
  Memos : List api_Memo
structure api_Bookmark where
  Frame : Int
  Text : Str
structure panel_Replay where
  p : api_Panel
  l : List api_Track
  keep : Int
  state : api_PanelState
  kept : List api_PanelState
  marks : List api_Bookmark
structure api_Face where
  Text : Str
  Needle : Int
  Lit : Bool
  Mark : Int
structure api_Extent where
  From : Int
  To : Int

noncomputable def event_within (n : Int) (low : Int) (high : Int) : Option Bool :=
  some ((decide (low ≤ n)) && (decide (n ≤ high)))

noncomputable def event_isWord (s : Str) : Option Bool :=
  ((if (decide (s = [112, 104, 97, 115, 101])) = true then
  some (decide (s = [112, 104, 97, 115, 101]))
  else
  if (decide (s = [109, 111, 118, 101])) = true then
  some (decide (s = [109, 111, 118, 101]))
  else
  if (decide (s = [114, 117, 108, 101])) = true then
  some (decide (s = [114, 117, 108, 101]))
  else
  if (decide (s = [105, 102])) = true then
  some (decide (s = [105, 102]))
  else
  if (decide (s = [111, 114])) = true then
  some (decide (s = [111, 114]))
  else
  if (decide (s = [97, 110, 100])) = true then
  some (decide (s = [97, 110, 100]))
  else
  if (decide (s = [116, 114, 117, 101])) = true then
  some (decide (s = [116, 114, 117, 101]))
  else
  if (decide (s = [102, 97, 108, 115, 101])) = true then
  some (decide (s = [102, 97, 108, 115, 101]))
  else
  if (decide (s = [115, 116, 101, 97, 100, 121])) = true then
  some (decide (s = [115, 116, 101, 97, 100, 121]))
  else
  if (decide (s = [110, 111, 116])) = true then
  some (decide (s = [110, 111, 116]))
  else
  if (decide (s = [102, 111, 114])) = true then
  some (decide (s = [102, 111, 114]))
  else
  if (decide (s = [119, 105, 116, 104, 105, 110])) = true then
  some (decide (s = [119, 105, 116, 104, 105, 110]))
  else
  if (decide (s = [99, 111, 117, 110, 116])) = true then
  some (decide (s = [99, 111, 117, 110, 116]))
  else
  if (decide (s = [111, 102])) = true then
  some (decide (s = [111, 102]))
  else
  if (decide (s = [114, 105, 115, 101, 115])) = true then
  some (decide (s = [114, 105, 115, 101, 115]))
  else
  some (decide (s = [115, 105, 110, 99, 101]))) : Option ((Bool))).bind (t1 fun (v : Bool) =>
  if v = true then
  some true
  else
  some false)

noncomputable def event_nameByte (c_ : Int) : Option Bool :=
  some ((((decide (97 ≤ c_)) && (decide (c_ ≤ 122))) || ((decide (48 ≤ c_)) && (decide (c_ ≤ 57)))) || (decide (c_ = 45)))

noncomputable def event_isName_L1 (s : Str) (i : Int) : Option ((Int) ⊕ (Bool) ⊕ (Unit)) :=
  if (decide (i < (s.length : Int))) = true then
  (sidx s i).bind fun b3 =>
  (event_nameByte b3).bind fun y3 =>
  if (!y3) = true then
  some (.inr (.inl false))
  else
  some (.inl (i64 (i + 1)))
  else
  some (.inr (.inr ()))

noncomputable def event_isName (s : Str) : Option Bool :=
  (event_within (s.length : Int) 1 30).bind fun y =>
  (gd ((!y) == false) 0 (sidx s 0)).bind fun b =>
  (gd (((!y) || (decide (b < 97))) == false) 0 (sidx s 0)).bind fun b2 =>
  (gd ((((!y) || (decide (b < 97))) || (decide (122 < b2))) == false) false (event_isWord s)).bind fun y2 =>
  if ((((!y) || (decide (b < 97))) || (decide (122 < b2))) || y2) = true then
  some false
  else
  ((loop (t1 (event_isName_L1 s)) 0) : Option ((Bool) ⊕ (Unit))).bind (Sum.elim (fun v => some v) (t0 (some true)))

noncomputable def slices_IndexFunc_api_Track_api_Track_L1 (s : List api_Track) (f : api_Track → Option Bool) (i : Int) : Option ((Int) ⊕ (Int) ⊕ (Unit)) :=
  if (decide (i < (s.length : Int))) = true then
  (idx s i).bind fun x =>
  (f x).bind fun y =>
  if y = true then
  some (.inr (.inl i))
  else
  some (.inl (i64 (i + 1)))
  else
  some (.inr (.inr ()))

noncomputable def slices_IndexFunc_api_Track_api_Track (s : List api_Track) (f : api_Track → Option Bool) : Option Int :=
  ((loop (t1 (slices_IndexFunc_api_Track_api_Track_L1 s f)) 0) : Option ((Int) ⊕ (Unit))).bind (Sum.elim (fun v => some v) (t0 (some (-1))))

noncomputable def slices_ContainsFunc_api_Track_api_Track (s : List api_Track) (f : api_Track → Option Bool) : Option Bool :=
  (slices_IndexFunc_api_Track_api_Track s f).bind fun y =>
  some (decide (0 ≤ y))

noncomputable def event_CheckTracks_1 (x : api_Track) (c0 : api_Track) : Option Bool :=
  some (decide (x.Name = c0.Name))

noncomputable def series_within (n : Int) (low : Int) (high : Int) : Option Bool :=
  some ((decide (low ≤ n)) && (decide (n ≤ high)))

noncomputable def series_check_L1 (s : api_Series) (i : Int) : Option ((Int) ⊕ (Int × Int) ⊕ (Unit)) :=
  if (decide (i < (s.Samples.length : Int))) = true then
  (idx s.Samples i).bind fun x =>
  (series_within x.At 0 1099511627776).bind fun y2 =>
  (gd ((!y2) == false) false (series_within x.N (-1125899906842624) 1125899906842624)).bind fun y3 =>
  (gd (((!y2) || (!y3)) == false) false (series_within x.Mark 0 4)).bind fun y4 =>
  if (((!y2) || (!y3)) || (!y4)) = true then
  some (.inr (.inl (i, 9)))
  else
  if ((!decide (x.N = 0)) && (decide (x.Mark ≤ 1))) = true then
  some (.inr (.inl (i, 2)))
  else
  (gd ((decide (0 < i)) == true) (api_Sample.mk 0 0 0) (idx s.Samples (i64 (i - 1)))).bind fun x2 =>
  if ((decide (0 < i)) && (decide (x.At ≤ x2.At))) = true then
  some (.inr (.inl (i, 10)))
  else
  some (.inl (i64 (i + 1)))
  else
  some (.inr (.inr ()))

noncomputable def series_check (s : api_Series) : Option (Int × Int) :=
  (series_within s.Den 1 1000000).bind fun y =>
  if (!y) = true then
  some ((-1), 9)
  else
  if (decide (20000 < (s.Samples.length : Int))) = true then
  some ((-1), 3)
  else
  ((loop (t1 (series_check_L1 s)) 0) : Option ((Int × Int) ⊕ (Unit))).bind (Sum.elim (fun v => some v) (t0 (some ((-1), 0))))

noncomputable def series_Check (s : api_Series) : Option Int :=
  (series_check s).bind fun y =>
  some y.2

noncomputable def event_CheckTracks_L1 (l : List api_Track) (i : Int) : Option ((Int) ⊕ (Int) ⊕ (Unit)) :=
  if (decide (i < (l.length : Int))) = true then
  (idx l i).bind fun x =>
  (event_isName x.Name).bind fun y =>
  if (!y) = true then
  some (.inr (.inl 8))
  else
  (slc l 0 i).bind fun l2 =>
  (slices_ContainsFunc_api_Track_api_Track l2 (fun z0 => event_CheckTracks_1 z0 x)).bind fun y2 =>
  if y2 = true then
  some (.inr (.inl 5))
  else
  (series_Check x.Series).bind fun y3 =>
  if (!decide (y3 = 0)) = true then
  some (.inr (.inl y3))
  else
  (event_within x.Long 0 1099511627776).bind fun y4 =>
  if (!y4) = true then
  some (.inr (.inl 9))
  else
  some (.inl (i64 (i + 1)))
  else
  some (.inr (.inr ()))

noncomputable def event_CheckTracks (l : List api_Track) : Option Int :=
  if (decide (50 < (l.length : Int))) = true then
  some 3
  else
  ((loop (t1 (event_CheckTracks_L1 l)) 0) : Option ((Int) ⊕ (Unit))).bind (Sum.elim (fun v => some v) (t0 (some 0)))

noncomputable def panel_within (n : Int) (low : Int) (high : Int) : Option Bool :=
  some ((decide (low ≤ n)) && (decide (n ≤ high)))

noncomputable def slices_BinarySearchFunc_api_Sample_api_Sample_int_L1 (x : List api_Sample) (target : Int) (cmp : api_Sample → Int → Option Int) (i2 : Int) (j : Int) : Option ((Int × Int) ⊕ (Int)) :=
  if (decide (i2 < j)) = true then
  (shr .u64 (u64 (i64 (i2 + j))) 1).bind fun q =>
  (idx x (i64 q)).bind fun x2 =>
  (cmp x2 target).bind fun y =>
  if (decide (y < 0)) = true then
  some (.inl ((i64 ((i64 q) + 1)), j))
  else
  some (.inl (i2, (i64 q)))
  else
  some (.inr i2)

noncomputable def slices_BinarySearchFunc_api_Sample_api_Sample_int (x : List api_Sample) (target : Int) (cmp : api_Sample → Int → Option Int) : Option (Int × Bool) :=
  ((loop (t2 (slices_BinarySearchFunc_api_Sample_api_Sample_int_L1 x target cmp)) (0, (x.length : Int))) : Option ((Int))).bind (t1 fun (i : Int) =>
  (gd ((decide (i < (x.length : Int))) == true) (api_Sample.mk 0 0 0) (idx x i)).bind fun x3 =>
  (gd ((decide (i < (x.length : Int))) == true) 0 (cmp x3 target)).bind fun y2 =>
  some (i, ((decide (i < (x.length : Int))) && (decide (y2 = 0)))))

noncomputable def series_latest_1 (x : api_Sample) (at_ : Int) : Option Int :=
  some (i64 (x.At - at_))

noncomputable def series_latest (s : api_Series) (at_ : Int) : Option Int :=
  (slices_BinarySearchFunc_api_Sample_api_Sample_int s.Samples at_ (fun z0 z1 => series_latest_1 z0 z1)).bind fun y =>
  if y.2 = true then
  some y.1
  else
  some (i64 (y.1 - 1))

noncomputable def series_solid (x : api_Sample) : Option Bool :=
  some (decide (3 ≤ x.Mark))

noncomputable def series_hold (s : api_Series) (at_ : Int) (long : Int) : Option (api_Sample × Bool) :=
  (series_latest s at_).bind fun y =>
  (gd ((decide (y < 0)) == false) (api_Sample.mk 0 0 0) (idx s.Samples y)).bind fun x =>
  (gd ((decide (y < 0)) == false) false (series_solid x)).bind fun y2 =>
  (gd (((decide (y < 0)) || (!y2)) == false) (api_Sample.mk 0 0 0) (idx s.Samples y)).bind fun x2 =>
  if (((decide (y < 0)) || (!y2)) || (decide (long < (i64 (at_ - x2.At))))) = true then
  some ((api_Sample.mk 0 0 0), false)
  else
  (idx s.Samples y).bind fun x3 =>
  some (x3, true)

noncomputable def series_Held (s : api_Series) (at_ : Int) (long : Int) : Option (api_Sample × Bool) :=
  (series_hold s at_ long).bind fun y =>
  some (y.1, y.2)

noncomputable def panel_value (t : api_Track) (frame : Int) : Option (api_Sample × Bool) :=
  (series_Held t.Series (i64 ((i64 ((i64 (64 * frame)) + 64)) - 1)) t.Long).bind fun y =>
  some (y.1, y.2)

noncomputable def ref6_words  : Option (List Str) :=
  some ([[112, 104, 97, 115, 101], [109, 111, 118, 101], [114, 117, 108, 101], [105, 102], [111, 114], [97, 110, 100], [116, 114, 117, 101], [102, 97, 108, 115, 101], [115, 116, 101, 97, 100, 121], [110, 111, 116], [102, 111, 114], [119, 105, 116, 104, 105, 110], [99, 111, 117, 110, 116], [111, 102], [114, 105, 115, 101, 115], [115, 105, 110, 99, 101]] : List Str)

noncomputable def ref6_Reserved_L1 (s : Str) (y : (List Str)) (i : Int) : Option ((Int) ⊕ (Bool) ⊕ (Unit)) :=
  if (decide (i < (y.length : Int))) = true then
  (idx y i).bind fun x =>
  if (decide (x = s)) = true then
  some (.inr (.inl true))
  else
  some (.inl (i64 (i + 1)))
  else
  some (.inr (.inr ()))

noncomputable def ref6_Reserved (s : Str) : Option Bool :=
  (ref6_words).bind fun y =>
  ((loop (t1 (ref6_Reserved_L1 s y)) 0) : Option ((Bool) ⊕ (Unit))).bind (Sum.elim (fun v => some v) (t0 (some false)))

noncomputable def ref6_IsName_L1 (s : Str) (i : Int) : Option ((Int) ⊕ (Bool) ⊕ (Unit)) :=
  if (decide (i < (s.length : Int))) = true then
  (sidx s i).bind fun b =>
  if (!(((decide (97 ≤ b)) && (decide (b ≤ 122))) || ((decide (0 < i)) && (((decide (48 ≤ b)) && (decide (b ≤ 57))) || (decide (b = 45)))))) = true then
  some (.inr (.inl false))
  else
  some (.inl (i64 (i + 1)))
  else
  some (.inr (.inr ()))

noncomputable def ref6_IsName (s : Str) : Option Bool :=
  ((loop (t1 (ref6_IsName_L1 s)) 0) : Option ((Bool) ⊕ (Unit))).bind (Sum.elim (fun v => some v) (t0 ((gd (((!decide (s = [])) && (decide ((s.length : Int) ≤ 30))) == true) false (ref6_Reserved s)).bind fun y =>
  some (((!decide (s = [])) && (decide ((s.length : Int) ≤ 30))) && (!y)))))

noncomputable def ref5_outside (n : Int) (low : Int) (high : Int) : Option Bool :=
  some ((decide (n < low)) || (decide (high < n)))

noncomputable def ref5_numbered (mark : Int) : Option Bool :=
  some (decide (2 ≤ mark))

noncomputable def ref5_sampleFault (s : api_Sample) : Option Int :=
  (ref5_outside s.At 0 1099511627776).bind fun y =>
  (gd (y == false) false (ref5_outside s.N (-1125899906842624) 1125899906842624)).bind fun y2 =>
  (gd ((y || y2) == false) false (ref5_outside s.Mark 0 4)).bind fun y3 =>
  if ((y || y2) || y3) = true then
  some 9
  else
  (gd ((!decide (s.N = 0)) == true) false (ref5_numbered s.Mark)).bind fun y4 =>
  if ((!decide (s.N = 0)) && (!y4)) = true then
  some 2
  else
  some 0

noncomputable def ref5_fault_L1 (s : api_Series) (i : Int) : Option ((Int) ⊕ (Int × Int) ⊕ (Unit)) :=
  if (decide (i < (s.Samples.length : Int))) = true then
  (idx s.Samples i).bind fun x =>
  (ref5_sampleFault x).bind fun y2 =>
  if (!decide (y2 = 0)) = true then
  some (.inr (.inl (i, y2)))
  else
  (gd ((decide (0 < i)) == true) (api_Sample.mk 0 0 0) (idx s.Samples i)).bind fun x2 =>
  (gd ((decide (0 < i)) == true) (api_Sample.mk 0 0 0) (idx s.Samples (i64 (i - 1)))).bind fun x3 =>
  if ((decide (0 < i)) && (decide (x2.At ≤ x3.At))) = true then
  some (.inr (.inl (i, 10)))
  else
  some (.inl (i64 (i + 1)))
  else
  some (.inr (.inr ()))

noncomputable def ref5_fault (s : api_Series) : Option (Int × Int) :=
  (ref5_outside s.Den 1 1000000).bind fun y =>
  if y = true then
  some ((-1), 9)
  else
  if (decide (20000 < (s.Samples.length : Int))) = true then
  some ((-1), 3)
  else
  ((loop (t1 (ref5_fault_L1 s)) 0) : Option ((Int × Int) ⊕ (Unit))).bind (Sum.elim (fun v => some v) (t0 (some ((-1), 0))))

noncomputable def ref5_Check (s : api_Series) : Option Int :=
  (ref5_fault s).bind fun y =>
  some y.2

noncomputable def ref6_outside (n : Int) (low : Int) (high : Int) : Option Bool :=
  some ((decide (n < low)) || (decide (high < n)))

noncomputable def ref6_CheckTracks_L2 (l : List api_Track) (i : Int) (k : Int) : Option ((Int) ⊕ (Int) ⊕ (Unit)) :=
  if (decide (k < i)) = true then
  (idx l k).bind fun x2 =>
  (idx l i).bind fun x3 =>
  if (decide (x2.Name = x3.Name)) = true then
  some (.inr (.inl 5))
  else
  some (.inl (i64 (k + 1)))
  else
  some (.inr (.inr ()))

noncomputable def ref6_CheckTracks_L1 (l : List api_Track) (i : Int) : Option ((Int) ⊕ (Int) ⊕ (Unit)) :=
  if (decide (i < (l.length : Int))) = true then
  (idx l i).bind fun x =>
  (ref6_IsName x.Name).bind fun y =>
  if (!y) = true then
  some (.inr (.inl 8))
  else
  ((loop (t1 (ref6_CheckTracks_L2 l i)) 0) : Option ((Int) ⊕ (Unit))).bind (Sum.elim (fun v => some (.inr (.inl v))) (t0 ((idx l i).bind fun x4 =>
  (ref5_Check x4.Series).bind fun y2 =>
  if (!decide (y2 = 0)) = true then
  some (.inr (.inl y2))
  else
  (idx l i).bind fun x5 =>
  (ref6_outside x5.Long 0 1099511627776).bind fun y3 =>
  if y3 = true then
  some (.inr (.inl 9))
  else
  some (.inl (i64 (i + 1))))))
  else
  some (.inr (.inr ()))

noncomputable def ref6_CheckTracks (l : List api_Track) : Option Int :=
  if (decide (50 < (l.length : Int))) = true then
  some 3
  else
  ((loop (t1 (ref6_CheckTracks_L1 l)) 0) : Option ((Int) ⊕ (Unit))).bind (Sum.elim (fun v => some v) (t0 (some 0)))

noncomputable def ref8_outside (n : Int) (low : Int) (high : Int) : Option Bool :=
  some ((decide (n < low)) || (decide (high < n)))

noncomputable def ref5_solid (mark : Int) : Option Bool :=
  some (decide (3 ≤ mark))

noncomputable def ref5_Held_L1 (s : api_Series) (at_ : Int) (low2 : Int) (high : Int) : Option ((Int × Int) ⊕ (Int)) :=
  if (decide (low2 < high)) = true then
  (quo .i64 (i64 (low2 + high)) 2).bind fun q =>
  (idx s.Samples q).bind fun x =>
  if (decide (x.At ≤ at_)) = true then
  some (.inl ((i64 (q + 1)), high))
  else
  some (.inl (low2, q))
  else
  some (.inr low2)

noncomputable def ref5_Held (s : api_Series) (at_ : Int) (long : Int) : Option (api_Sample × Bool) :=
  ((loop (t2 (ref5_Held_L1 s at_)) (0, (s.Samples.length : Int))) : Option ((Int))).bind (t1 fun (low : Int) =>
  if (decide (low = 0)) = true then
  some ((api_Sample.mk 0 0 0), false)
  else
  (idx s.Samples (i64 (low - 1))).bind fun x2 =>
  (ref5_solid x2.Mark).bind fun y =>
  if ((!y) || (decide (long < (i64 (at_ - x2.At))))) = true then
  some ((api_Sample.mk 0 0 0), false)
  else
  some (x2, true))

noncomputable def ref5_Hold (s : api_Series) (at_ : Int) (long : Int) : Option (api_Sample × Bool × Int) :=
  (ref5_Check s).bind fun y =>
  if (!decide (y = 0)) = true then
  some ((api_Sample.mk 0 0 0), false, y)
  else
  (ref5_outside at_ 0 1099511627776).bind fun y2 =>
  (gd (y2 == false) false (ref5_outside long 0 1099511627776)).bind fun y3 =>
  if (y2 || y3) = true then
  some ((api_Sample.mk 0 0 0), false, 9)
  else
  (ref5_Held s at_ long).bind fun y4 =>
  some (y4.1, y4.2, 0)

noncomputable def ref8_valueAt (t : api_Track) (frame : Int) : Option (api_Sample × Bool) :=
  (ref5_Hold t.Series (i64 ((i64 (64 * frame)) + 63)) t.Long).bind fun y =>
  some (y.1, y.2.1)

noncomputable def strings_trimRightByte_L1 (c_ : Int) (s3 : Str) : Option ((Str) ⊕ (Str)) :=
  (gd ((decide (0 < (s3.length : Int))) == true) 0 (sidx s3 (i64 ((s3.length : Int) - 1)))).bind fun b =>
  if ((decide (0 < (s3.length : Int))) && (decide (b = c_))) = true then
  (slc s3 0 (i64 ((s3.length : Int) - 1))).bind fun s4 =>
  some (.inl s4)
  else
  some (.inr s3)

noncomputable def strings_trimRightByte (s : Str) (c_ : Int) : Option Str :=
  ((loop (t1 (strings_trimRightByte_L1 c_)) s) : Option ((Str))).bind (t1 fun (s2 : Str) =>
  some s2)

noncomputable def strings_trimLeftByte_L1 (c_ : Int) (s3 : Str) : Option ((Str) ⊕ (Str)) :=
  (gd ((decide (0 < (s3.length : Int))) == true) 0 (sidx s3 0)).bind fun b =>
  if ((decide (0 < (s3.length : Int))) && (decide (b = c_))) = true then
  (slc s3 1 (s3.length : Int)).bind fun s4 =>
  some (.inl s4)
  else
  some (.inr s3)

noncomputable def strings_trimLeftByte (s : Str) (c_ : Int) : Option Str :=
  ((loop (t1 (strings_trimLeftByte_L1 c_)) s) : Option ((Str))).bind (t1 fun (s2 : Str) =>
  some s2)

noncomputable def strings_makeASCIISet_L1 (chars : Str) (as_2 : Vector Bool 256) (i : Int) : Option (((Vector Bool 256) × Int) ⊕ ((Vector Bool 256) × Bool) ⊕ ((Vector Bool 256))) :=
  if (decide (i < (chars.length : Int))) = true then
  (sidx chars i).bind fun b =>
  if (decide (128 ≤ b)) = true then
  some (.inr (.inl (as_2, false)))
  else
  (vidx as_2 b).bind fun x =>
  some (.inl ((vset as_2 b true), (i64 (i + 1))))
  else
  some (.inr (.inr as_2))

noncomputable def strings_makeASCIISet (chars : Str) : Option ((Vector Bool 256) × Bool) :=
  ((loop (t2 (strings_makeASCIISet_L1 chars)) ((Vector.replicate 256 false), 0)) : Option (((Vector Bool 256) × Bool) ⊕ ((Vector Bool 256)))).bind (Sum.elim (fun v => some v) (t1 fun (as_ : Vector Bool 256) =>
  some (as_, true)))

noncomputable def strings_asciiSet_contains (as_ : Vector Bool 256) (c_ : Int) : Option Bool :=
  (vidx as_ c_).bind fun x =>
  some x

noncomputable def strings_trimRightASCII_L1 (as_ : Vector Bool 256) (s3 : Str) : Option ((Str) ⊕ (Str)) :=
  if (decide (0 < (s3.length : Int))) = true then
  (sidx s3 (i64 ((s3.length : Int) - 1))).bind fun b =>
  (strings_asciiSet_contains as_ b).bind fun y =>
  if (!y) = true then
  some (.inr s3)
  else
  (slc s3 0 (i64 ((s3.length : Int) - 1))).bind fun s4 =>
  some (.inl s4)
  else
  some (.inr s3)

noncomputable def strings_trimRightASCII (s : Str) (as_ : Vector Bool 256) : Option Str :=
  ((loop (t1 (strings_trimRightASCII_L1 as_)) s) : Option ((Str))).bind (t1 fun (s2 : Str) =>
  some s2)

noncomputable def strings_trimLeftASCII_L1 (as_ : Vector Bool 256) (s3 : Str) : Option ((Str) ⊕ (Str)) :=
  if (decide (0 < (s3.length : Int))) = true then
  (sidx s3 0).bind fun b =>
  (strings_asciiSet_contains as_ b).bind fun y =>
  if (!y) = true then
  some (.inr s3)
  else
  (slc s3 1 (s3.length : Int)).bind fun s4 =>
  some (.inl s4)
  else
  some (.inr s3)

noncomputable def strings_trimLeftASCII (s : Str) (as_ : Vector Bool 256) : Option Str :=
  ((loop (t1 (strings_trimLeftASCII_L1 as_)) s) : Option ((Str))).bind (t1 fun (s2 : Str) =>
  some s2)

noncomputable def utf8_RuneStart (b : Int) : Option Bool :=
  some (!decide ((band .u8 b 192) = 128))

noncomputable def utf8_decodeRuneInStringSlow (s : Str) : Option (Int × Int) :=
  if (decide ((s.length : Int) < 1)) = true then
  some (65533, 0)
  else
  (sidx s 0).bind fun b =>
  none

noncomputable def utf8_DecodeRuneInString (s : Str) : Option (Int × Int) :=
  (gd ((!decide (s = [])) == true) 0 (sidx s 0)).bind fun b =>
  if ((!decide (s = [])) && (decide (b < 128))) = true then
  (sidx s 0).bind fun b2 =>
  some ((i32 b2), 1)
  else
  (utf8_decodeRuneInStringSlow s).bind fun y =>
  some (y.1, y.2)

noncomputable def utf8_DecodeLastRuneInString_L1 (s : Str) (start2 : Int) : Option ((Int) ⊕ (Int)) :=
  if (decide ((max (i64 ((s.length : Int) - 4)) 0) ≤ start2)) = true then
  (sidx s start2).bind fun b2 =>
  (utf8_RuneStart b2).bind fun y =>
  if y = true then
  some (.inr start2)
  else
  some (.inl (i64 (start2 - 1)))
  else
  some (.inr start2)

noncomputable def utf8_DecodeLastRuneInString (s : Str) : Option (Int × Int) :=
  if (decide ((s.length : Int) = 0)) = true then
  some (65533, 0)
  else
  (sidx s (i64 ((s.length : Int) - 1))).bind fun b =>
  if (decide ((i32 b) < 128)) = true then
  some ((i32 b), 1)
  else
  ((loop (t1 (utf8_DecodeLastRuneInString_L1 s)) (i64 ((i64 ((s.length : Int) - 1)) - 1))) : Option ((Int))).bind (t1 fun (start : Int) =>
  ((if (decide (start < 0)) = true then
  some 0
  else
  some start) : Option ((Int))).bind (t1 fun (start3 : Int) =>
  (slc s start3 (s.length : Int)).bind fun s2 =>
  (utf8_DecodeRuneInString s2).bind fun y2 =>
  if (!decide ((i64 (start3 + y2.2)) = (s.length : Int))) = true then
  some (65533, 1)
  else
  some (y2.1, y2.2)))

noncomputable def strings_ContainsRune (s : Str) (r_ : Int) : Option Bool :=
  none

noncomputable def strings_trimRightUnicode_L1 (cutset : Str) (s3 : Str) : Option ((Str) ⊕ (Str)) :=
  if (decide (0 < (s3.length : Int))) = true then
  (sidx s3 (i64 ((s3.length : Int) - 1))).bind fun b =>
  ((if (decide (128 ≤ (i32 b))) = true then
  (utf8_DecodeLastRuneInString s3).bind fun y =>
  some (y.1, y.2)
  else
  some ((i32 b), 1)) : Option ((Int × Int))).bind (t2 fun (r_ : Int) (n : Int) =>
  (strings_ContainsRune cutset r_).bind fun y2 =>
  if (!y2) = true then
  some (.inr s3)
  else
  (slc s3 0 (i64 ((s3.length : Int) - n))).bind fun s4 =>
  some (.inl s4))
  else
  some (.inr s3)

noncomputable def strings_trimRightUnicode (s : Str) (cutset : Str) : Option Str :=
  ((loop (t1 (strings_trimRightUnicode_L1 cutset)) s) : Option ((Str))).bind (t1 fun (s2 : Str) =>
  some s2)

noncomputable def strings_trimLeftUnicode_L1 (cutset : Str) (s3 : Str) : Option ((Str) ⊕ (Str)) :=
  if (decide (0 < (s3.length : Int))) = true then
  (utf8_DecodeRuneInString s3).bind fun y =>
  (strings_ContainsRune cutset y.1).bind fun y2 =>
  if (!y2) = true then
  some (.inr s3)
  else
  (slc s3 y.2 (s3.length : Int)).bind fun s4 =>
  some (.inl s4)
  else
  some (.inr s3)

noncomputable def strings_trimLeftUnicode (s : Str) (cutset : Str) : Option Str :=
  ((loop (t1 (strings_trimLeftUnicode_L1 cutset)) s) : Option ((Str))).bind (t1 fun (s2 : Str) =>
  some s2)

noncomputable def strings_Trim (s : Str) (cutset : Str) : Option Str :=
  if ((decide (s = [])) || (decide (cutset = []))) = true then
  some s
  else
  (gd ((decide ((cutset.length : Int) = 1)) == true) 0 (sidx cutset 0)).bind fun b =>
  if ((decide ((cutset.length : Int) = 1)) && (decide (b < 128))) = true then
  (sidx cutset 0).bind fun b2 =>
  (strings_trimRightByte s b2).bind fun y =>
  (sidx cutset 0).bind fun b3 =>
  (strings_trimLeftByte y b3).bind fun y2 =>
  some y2
  else
  (strings_makeASCIISet cutset).bind fun y3 =>
  if y3.2 = true then
  (strings_trimRightASCII s y3.1).bind fun y4 =>
  (strings_trimLeftASCII y4 y3.1).bind fun y5 =>
  some y5
  else
  (strings_trimRightUnicode s cutset).bind fun y6 =>
  (strings_trimLeftUnicode y6 cutset).bind fun y7 =>
  some y7

noncomputable def panel_isName (s : Str) : Option Bool :=
  (panel_within (s.length : Int) 1 30).bind fun y =>
  (gd (y == true) [] (strings_Trim s [97, 98, 99, 100, 101, 102, 103, 104, 105, 106, 107, 108, 109, 110, 111, 112, 113, 114, 115, 116, 117, 118, 119, 120, 121, 122, 48, 49, 50, 51, 52, 53, 54, 55, 56, 57, 45])).bind fun y2 =>
  some (y && (decide (y2 = [])))

noncomputable def slices_Index_int_int_L1 (s : List Int) (v : Int) (i : Int) : Option ((Int) ⊕ (Int) ⊕ (Unit)) :=
  if (decide (i < (s.length : Int))) = true then
  (idx s i).bind fun x =>
  if (decide (v = x)) = true then
  some (.inr (.inl i))
  else
  some (.inl (i64 (i + 1)))
  else
  some (.inr (.inr ()))

noncomputable def slices_Index_int_int (s : List Int) (v : Int) : Option Int :=
  ((loop (t1 (slices_Index_int_int_L1 s v)) 0) : Option ((Int) ⊕ (Unit))).bind (Sum.elim (fun v => some v) (t0 (some (-1))))

noncomputable def slices_Contains_int_int (s : List Int) (v : Int) : Option Bool :=
  (slices_Index_int_int s v).bind fun y =>
  some (decide (0 ≤ y))

noncomputable def panel_unused_1 (l : List Int) (c0 : api_Instrument) : Option Bool :=
  (slices_Contains_int_int l c0.Kind).bind fun y =>
  some y

noncomputable def panel_unused (i : api_Instrument) : Option Bool :=
  (gd ((!decide (i.Places = 0)) == true) false (panel_unused_1 ([1, 4, 6] : List Int) i)).bind fun y =>
  (gd ((((!decide (i.Places = 0)) && (!y)) == false) && (((((!decide (i.Low = 0)) || (!decide (i.High = 0))) || (!decide (i.Steps = 0))) || (decide (0 < (i.Zones.length : Int)))) == true)) false (panel_unused_1 ([2] : List Int) i)).bind fun y2 =>
  (gd (((((!decide (i.Places = 0)) && (!y)) || (((((!decide (i.Low = 0)) || (!decide (i.High = 0))) || (!decide (i.Steps = 0))) || (decide (0 < (i.Zones.length : Int)))) && (!y2))) == false) && (((!decide (i.Op = 0)) || (!decide (i.N = 0))) == true)) false (panel_unused_1 ([3, 5] : List Int) i)).bind fun y3 =>
  (gd ((((((!decide (i.Places = 0)) && (!y)) || (((((!decide (i.Low = 0)) || (!decide (i.High = 0))) || (!decide (i.Steps = 0))) || (decide (0 < (i.Zones.length : Int)))) && (!y2))) || (((!decide (i.Op = 0)) || (!decide (i.N = 0))) && (!y3))) == false) && (i.Latch == true)) false (panel_unused_1 ([3] : List Int) i)).bind fun y4 =>
  (gd (((((((!decide (i.Places = 0)) && (!y)) || (((((!decide (i.Low = 0)) || (!decide (i.High = 0))) || (!decide (i.Steps = 0))) || (decide (0 < (i.Zones.length : Int)))) && (!y2))) || (((!decide (i.Op = 0)) || (!decide (i.N = 0))) && (!y3))) || (i.Latch && (!y4))) == false) && ((!decide (i.Size = 0)) == true)) false (panel_unused_1 ([6] : List Int) i)).bind fun y5 =>
  some ((((((!decide (i.Places = 0)) && (!y)) || (((((!decide (i.Low = 0)) || (!decide (i.High = 0))) || (!decide (i.Steps = 0))) || (decide (0 < (i.Zones.length : Int)))) && (!y2))) || (((!decide (i.Op = 0)) || (!decide (i.N = 0))) && (!y3))) || (i.Latch && (!y4))) || ((!decide (i.Size = 0)) && (!y5)))

noncomputable def panel_number (n : Int) : Option Bool :=
  (panel_within n (-1125899906842624) 1125899906842624).bind fun y =>
  some y

noncomputable def panel_checkDial_L1 (i : api_Instrument) (i2 : Int) : Option ((Int) ⊕ (Int) ⊕ (Unit)) :=
  if (decide (i2 < (i.Zones.length : Int))) = true then
  (idx i.Zones i2).bind fun x =>
  (panel_isName x.Name).bind fun y4 =>
  if (!y4) = true then
  some (.inr (.inl 8))
  else
  if (decide (x.To < x.From)) = true then
  some (.inr (.inl 9))
  else
  (gd ((decide (0 < i2)) == true) (api_Zone.mk 0 0 []) (idx i.Zones (i64 (i2 - 1)))).bind fun x2 =>
  if ((decide (0 < i2)) && (decide (x.From ≤ x2.To))) = true then
  some (.inr (.inl 10))
  else
  some (.inl (i64 (i2 + 1)))
  else
  some (.inr (.inr ()))

noncomputable def panel_checkDial (i : api_Instrument) : Option Int :=
  (gd ((decide (i.High ≤ i.Low)) == false) false (panel_number i.Low)).bind fun y =>
  (gd (((decide (i.High ≤ i.Low)) || (!y)) == false) false (panel_number i.High)).bind fun y2 =>
  (gd ((((decide (i.High ≤ i.Low)) || (!y)) || (!y2)) == false) false (panel_within i.Steps 1 1000)).bind fun y3 =>
  if ((((decide (i.High ≤ i.Low)) || (!y)) || (!y2)) || (!y3)) = true then
  some 9
  else
  if (decide (10 < (i.Zones.length : Int))) = true then
  some 3
  else
  ((loop (t1 (panel_checkDial_L1 i)) 0) : Option ((Int) ⊕ (Unit))).bind (Sum.elim (fun v => some v) (t0 (some 0)))

noncomputable def panel_CheckInstrument (i : api_Instrument) : Option Int :=
  (panel_within i.Kind 1 6).bind fun y =>
  if (!y) = true then
  some 7
  else
  (panel_isName i.Name).bind fun y2 =>
  (gd ((!y2) == false) false (panel_within (i.Track.length : Int) 1 30)).bind fun y3 =>
  if ((!y2) || (!y3)) = true then
  some 8
  else
  (panel_unused i).bind fun y4 =>
  if y4 = true then
  some 2
  else
  (panel_within i.Places 0 6).bind fun y5 =>
  if (!y5) = true then
  some 9
  else
  if (decide (i.Kind = 2)) = true then
  (panel_checkDial i).bind fun y6 =>
  some y6
  else
  ((if (decide (i.Kind = 3)) = true then
  some (decide (i.Kind = 3))
  else
  some (decide (i.Kind = 5))) : Option ((Bool))).bind (t1 fun (v : Bool) =>
  if v = true then
  (panel_within i.Op 1 6).bind fun y7 =>
  if (!y7) = true then
  some 7
  else
  (panel_number i.N).bind fun y8 =>
  if (!y8) = true then
  some 9
  else
  some 0
  else
  if (decide (i.Kind = 6)) = true then
  (panel_within i.Size 1 50).bind fun y9 =>
  if (!y9) = true then
  some 9
  else
  some 0
  else
  some 0)

noncomputable def slices_IndexFunc_api_Instrument_api_Instrument_L1 (s : List api_Instrument) (f : api_Instrument → Option Bool) (i : Int) : Option ((Int) ⊕ (Int) ⊕ (Unit)) :=
  if (decide (i < (s.length : Int))) = true then
  (idx s i).bind fun x =>
  (f x).bind fun y =>
  if y = true then
  some (.inr (.inl i))
  else
  some (.inl (i64 (i + 1)))
  else
  some (.inr (.inr ()))

noncomputable def slices_IndexFunc_api_Instrument_api_Instrument (s : List api_Instrument) (f : api_Instrument → Option Bool) : Option Int :=
  ((loop (t1 (slices_IndexFunc_api_Instrument_api_Instrument_L1 s f)) 0) : Option ((Int) ⊕ (Unit))).bind (Sum.elim (fun v => some v) (t0 (some (-1))))

noncomputable def slices_ContainsFunc_api_Instrument_api_Instrument (s : List api_Instrument) (f : api_Instrument → Option Bool) : Option Bool :=
  (slices_IndexFunc_api_Instrument_api_Instrument s f).bind fun y =>
  some (decide (0 ≤ y))

noncomputable def panel_Check_1 (x : api_Instrument) (c0 : api_Instrument) : Option Bool :=
  some (decide (x.Name = c0.Name))

noncomputable def panel_Check_L1 (p : api_Panel) (i : Int) : Option ((Int) ⊕ (Int) ⊕ (Unit)) :=
  if (decide (i < (p.Instruments.length : Int))) = true then
  (idx p.Instruments i).bind fun x =>
  (panel_CheckInstrument x).bind fun y =>
  if (!decide (y = 0)) = true then
  some (.inr (.inl y))
  else
  (slc p.Instruments 0 i).bind fun l =>
  (slices_ContainsFunc_api_Instrument_api_Instrument l (fun z0 => panel_Check_1 z0 x)).bind fun y2 =>
  if y2 = true then
  some (.inr (.inl 5))
  else
  some (.inl (i64 (i + 1)))
  else
  some (.inr (.inr ()))

noncomputable def panel_Check (p : api_Panel) : Option Int :=
  if (decide (100 < (p.Instruments.length : Int))) = true then
  some 3
  else
  ((loop (t1 (panel_Check_L1 p)) 0) : Option ((Int) ⊕ (Unit))).bind (Sum.elim (fun v => some v) (t0 (some 0)))

noncomputable def panel_trackOf_1 (t : api_Track) (c0 : api_Instrument) : Option Bool :=
  some (decide (t.Name = c0.Track))

noncomputable def panel_trackOf (l : List api_Track) (i : api_Instrument) : Option Int :=
  (slices_IndexFunc_api_Track_api_Track l (fun z0 => panel_trackOf_1 z0 i)).bind fun y =>
  some y

noncomputable def panel_checkBoth_1 (i : api_Instrument) (c0 : List api_Track) : Option Bool :=
  (panel_trackOf c0 i).bind fun y =>
  some (decide (y < 0))

noncomputable def panel_checkBoth (p : api_Panel) (l : List api_Track) : Option Int :=
  (panel_Check p).bind fun y =>
  if (!decide (y = 0)) = true then
  some y
  else
  (event_CheckTracks l).bind fun y2 =>
  if (!decide (y2 = 0)) = true then
  some y2
  else
  (slices_ContainsFunc_api_Instrument_api_Instrument p.Instruments (fun z0 => panel_checkBoth_1 z0 l)).bind fun y3 =>
  if y3 = true then
  some 4
  else
  some 0

noncomputable def panel_copyPanel_L1 (y : List api_Instrument) (Instruments2 : List api_Instrument) (i : Int) : Option (((List api_Instrument) × Int) ⊕ ((List api_Instrument))) :=
  if (decide (i < (y.length : Int))) = true then
  (idx Instruments2 i).bind fun x =>
  (clone x.Zones).bind fun y2 =>
  (idx Instruments2 i).bind fun x2 =>
  some (.inl ((Instruments2.set i.toNat (api_Instrument.mk x2.Kind x2.Name x2.Track x2.Places x2.Low x2.High x2.Steps y2 x2.Op x2.N x2.Latch x2.Size)), (i64 (i + 1))))
  else
  some (.inr Instruments2)

noncomputable def panel_copyPanel (p : api_Panel) : Option api_Panel :=
  (clone p.Instruments).bind fun y =>
  ((loop (t2 (panel_copyPanel_L1 y)) (y, 0)) : Option (((List api_Instrument)))).bind (t1 fun (Instruments : List api_Instrument) =>
  some (api_Panel.mk Instruments))

noncomputable def panel_copyTracks_L1 (y : List api_Track) (out2 : List api_Track) (i : Int) : Option (((List api_Track) × Int) ⊕ ((List api_Track))) :=
  if (decide (i < (y.length : Int))) = true then
  (idx out2 i).bind fun x =>
  (clone x.Series.Samples).bind fun y2 =>
  (idx out2 i).bind fun x2 =>
  some (.inl ((out2.set i.toNat (api_Track.mk x2.Name (api_Series.mk x2.Series.Den y2) x2.Long)), (i64 (i + 1))))
  else
  some (.inr out2)

noncomputable def panel_copyTracks (l : List api_Track) : Option (List api_Track) :=
  (clone l).bind fun y =>
  ((loop (t2 (panel_copyTracks_L1 y)) (y, 0)) : Option (((List api_Track)))).bind (t1 fun (out : List api_Track) =>
  some out)

noncomputable def panel_first (p : api_Panel) : Option api_PanelState :=
  (mks (p.Instruments.length : Int) (api_Memo.mk false false 0 0 [])).bind fun l =>
  some (api_PanelState.mk (-1) l)

noncomputable def panel_New (p : api_Panel) (l : List api_Track) (keep : Int) : Option ((Int) ⊕ (panel_Replay × Int)) :=
  (panel_checkBoth p l).bind fun y =>
  if (!decide (y = 0)) = true then
  some (Sum.inl y)
  else
  (panel_within keep 1 1000).bind fun y2 =>
  if (!y2) = true then
  some (Sum.inl 9)
  else
  (panel_copyPanel p).bind fun y3 =>
  (panel_copyTracks l).bind fun y4 =>
  (panel_first p).bind fun y5 =>
  some (Sum.inr ((panel_Replay.mk y3 y4 keep y5 [] []), 0))

noncomputable def panel_holds (op : Int) (a : Int) (b : Int) : Option Bool :=
  if (decide (op = 1)) = true then
  some (decide (a < b))
  else
  if (decide (op = 2)) = true then
  some (decide (a ≤ b))
  else
  if (decide (op = 3)) = true then
  some (decide (a = b))
  else
  if (decide (op = 4)) = true then
  some (!decide (a = b))
  else
  if (decide (op = 5)) = true then
  some (decide (b ≤ a))
  else
  some (decide (b < a))

noncomputable def panel_shifted_L1 (out2 : List Int) (i : Int) : Option (((List Int) × Int) ⊕ ((List Int))) :=
  if (decide ((i64 (i + 2)) ≤ (out2.length : Int))) = true then
  (slp out2 i (i64 (i + 2))).bind fun u =>
  (ck (decide (2 ≤ Int.toNat ((i64 (i + 2)) - i)))).bind fun u2 =>
  (ck (decide ((0 : Int) ≤ 1) && decide (1 < (2 : Int)))).bind fun u3 =>
  (idx out2 (i + 1)).bind fun x =>
  (ck (decide ((0 : Int) ≤ 0) && decide (0 < (2 : Int)))).bind fun u4 =>
  (idx out2 (i + 0)).bind fun x2 =>
  some (.inl ((out2.set (i + 0).toNat x), (i64 (i + 1))))
  else
  some (.inr out2)

noncomputable def panel_shifted (tape : List Int) (size : Int) (n : Int) : Option (List Int) :=
  (clone tape).bind fun y =>
  (app y ([n] : List Int)).bind fun l =>
  if (decide ((l.length : Int) ≤ size)) = true then
  some l
  else
  ((loop (t2 (panel_shifted_L1)) (l, 0)) : Option (((List Int)))).bind (t1 fun (out : List Int) =>
  (slc out 0 (i64 ((out.length : Int) - 1))).bind fun l2 =>
  some l2)

noncomputable def panel_advancedMemo (i : api_Instrument) (m : api_Memo) (n : Int) (known : Bool) : Option api_Memo :=
  (gd ((known && ((decide (i.Kind = 3)) || (decide (i.Kind = 5)))) == true) false (panel_holds i.Op n i.N)).bind fun y =>
  ((if (decide (i.Kind = 3)) = true then
  some (api_Memo.mk (((known && ((decide (i.Kind = 3)) || (decide (i.Kind = 5)))) && y) || (i.Latch && m.Lit)) m.Some m.N m.Count m.Tape)
  else
  if (decide (i.Kind = 5)) = true then
  if (((known && ((decide (i.Kind = 3)) || (decide (i.Kind = 5)))) && y) && (!m.Lit)) = true then
  some (api_Memo.mk ((known && ((decide (i.Kind = 3)) || (decide (i.Kind = 5)))) && y) m.Some m.N (i64 (m.Count + 1)) m.Tape)
  else
  some (api_Memo.mk ((known && ((decide (i.Kind = 3)) || (decide (i.Kind = 5)))) && y) m.Some m.N m.Count m.Tape)
  else
  if ((decide (i.Kind = 4)) && known) = true then
  ((if m.Some = true then
  some (max n m.N)
  else
  some n) : Option ((Int))).bind (t1 fun (n2 : Int) =>
  some (api_Memo.mk m.Lit true n2 m.Count m.Tape))
  else
  if ((decide (i.Kind = 6)) && known) = true then
  (panel_shifted m.Tape i.Size n).bind fun y2 =>
  some (api_Memo.mk m.Lit m.Some m.N m.Count y2)
  else
  some m) : Option ((api_Memo))).bind (t1 fun (m2 : api_Memo) =>
  some m2)

noncomputable def panel_advance_L1 (p : api_Panel) (l : List api_Track) (s : api_PanelState) (Memos2 : List api_Memo) (i : Int) : Option (((List api_Memo) × Int) ⊕ ((List api_Memo))) :=
  if (decide (i < (p.Instruments.length : Int))) = true then
  (idx p.Instruments i).bind fun x =>
  (panel_trackOf l x).bind fun y =>
  (idx l y).bind fun x2 =>
  (panel_value x2 (i64 (s.Frame + 1))).bind fun y2 =>
  (idx s.Memos i).bind fun x3 =>
  (clone x3.Tape).bind fun y3 =>
  (panel_advancedMemo x (api_Memo.mk x3.Lit x3.Some x3.N x3.Count y3) y2.1.N y2.2).bind fun y4 =>
  (app Memos2 ([y4] : List api_Memo)).bind fun l2 =>
  some (.inl (l2, (i64 (i + 1))))
  else
  some (.inr Memos2)

noncomputable def panel_advance (p : api_Panel) (l : List api_Track) (s : api_PanelState) : Option api_PanelState :=
  ((loop (t2 (panel_advance_L1 p l s)) ([], 0)) : Option (((List api_Memo)))).bind (t1 fun (Memos : List api_Memo) =>
  some (api_PanelState.mk (i64 (s.Frame + 1)) Memos))

noncomputable def panel_digits_L1 (places : Int) (scale2 : Int) (i : Int) : Option ((Int × Int) ⊕ (Int)) :=
  if (decide (i < places)) = true then
  some (.inl ((i64 (scale2 * 10)), (i64 (i + 1))))
  else
  some (.inr scale2)

noncomputable def panel_digits (n : Int) (den : Int) (places : Int) : Option Str :=
  (quo .i64 (max n (i64 (-n))) den).bind fun q =>
  ((loop (t2 (panel_digits_L1 places)) (1, 0)) : Option ((Int))).bind (t1 fun (scale : Int) =>
  (rem (max n (i64 (-n))) den).bind fun q2 =>
  (quo .i64 (i64 ((i64 ((i64 (q2 * scale)) * 2)) + den)) (i64 (2 * den))).bind fun q3 =>
  ((if (decide (q3 = scale)) = true then
  some ((i64 (q + 1)), 0)
  else
  some (q, q3)) : Option ((Int × Int))).bind (t2 fun (whole : Int) (part : Int) =>
  (itoa whole).bind fun y =>
  ((if (decide (0 < places)) = true then
  (itoa (i64 (scale + part))).bind fun y2 =>
  (slc y2 1 (y2.length : Int)).bind fun s =>
  (cat [46] s).bind fun s2 =>
  (cat y s2).bind fun s3 =>
  some s3
  else
  some y) : Option ((Str))).bind (t1 fun (out : Str) =>
  if ((decide (n < 0)) && ((decide (0 < whole)) || (decide (0 < part)))) = true then
  (cat [45] out).bind fun s4 =>
  some s4
  else
  some out)))

noncomputable def panel_needle (i : api_Instrument) (n : Int) : Option Int :=
  if (decide (n ≤ i.Low)) = true then
  some 0
  else
  if (decide (i.High ≤ n)) = true then
  some i.Steps
  else
  (quo .i64 (i64 ((i64 (n - i.Low)) * i.Steps)) (i64 (i.High - i.Low))).bind fun q =>
  some q

noncomputable def panel_zoneOf_L1 (i : api_Instrument) (n : Int) (i2 : Int) : Option ((Int) ⊕ (Str) ⊕ (Unit)) :=
  if (decide (i2 < (i.Zones.length : Int))) = true then
  (idx i.Zones i2).bind fun x =>
  (panel_within n x.From x.To).bind fun y =>
  if y = true then
  some (.inr (.inl x.Name))
  else
  some (.inl (i64 (i2 + 1)))
  else
  some (.inr (.inr ()))

noncomputable def panel_zoneOf (i : api_Instrument) (n : Int) : Option Str :=
  ((loop (t1 (panel_zoneOf_L1 i n)) 0) : Option ((Str) ⊕ (Unit))).bind (Sum.elim (fun v => some v) (t0 (some [])))

noncomputable def panel_face_L1 (i : api_Instrument) (m : api_Memo) (den : Int) (l2 : List Str) (i2 : Int) : Option (((List Str) × Int) ⊕ ((List Str))) :=
  if (decide (i2 < (m.Tape.length : Int))) = true then
  (idx m.Tape i2).bind fun x2 =>
  (panel_digits x2 den i.Places).bind fun y6 =>
  (app l2 ([y6] : List Str)).bind fun l3 =>
  some (.inl (l3, (i64 (i2 + 1))))
  else
  some (.inr l2)

noncomputable def panel_face (i : api_Instrument) (m : api_Memo) (den : Int) (x : api_Sample) (known : Bool) : Option api_Face :=
  ((if (decide (i.Kind = 1)) = true then
  if known = true then
  (panel_digits x.N den i.Places).bind fun y =>
  some (api_Face.mk y 0 m.Lit x.Mark)
  else
  some (api_Face.mk [45, 45, 45] 0 m.Lit x.Mark)
  else
  if (decide (i.Kind = 2)) = true then
  if known = true then
  (panel_needle i x.N).bind fun y2 =>
  (panel_zoneOf i x.N).bind fun y3 =>
  some (api_Face.mk y3 y2 m.Lit x.Mark)
  else
  some (api_Face.mk [45, 45, 45] 0 m.Lit x.Mark)
  else
  if (decide (i.Kind = 3)) = true then
  if m.Lit = true then
  some (api_Face.mk [111, 110] 0 m.Lit x.Mark)
  else
  if known = true then
  some (api_Face.mk [111, 102, 102] 0 m.Lit x.Mark)
  else
  some (api_Face.mk [45, 45, 45] 0 m.Lit x.Mark)
  else
  if (decide (i.Kind = 4)) = true then
  if m.Some = true then
  (panel_digits m.N den i.Places).bind fun y4 =>
  some (api_Face.mk y4 0 m.Lit x.Mark)
  else
  some (api_Face.mk [45, 45, 45] 0 m.Lit x.Mark)
  else
  if (decide (i.Kind = 5)) = true then
  (itoa m.Count).bind fun y5 =>
  some (api_Face.mk y5 0 m.Lit x.Mark)
  else
  if (decide (i.Kind = 6)) = true then
  ((loop (t2 (panel_face_L1 i m den)) ([], 0)) : Option (((List Str)))).bind (t1 fun (l : List Str) =>
  if (decide (0 < (l.length : Int))) = true then
  (sjoin l [32]).bind fun y7 =>
  some (api_Face.mk y7 0 m.Lit x.Mark)
  else
  some (api_Face.mk [45, 45, 45] 0 m.Lit x.Mark))
  else
  some (api_Face.mk [45, 45, 45] 0 m.Lit x.Mark)) : Option ((api_Face))).bind (t1 fun (out : api_Face) =>
  some out)

noncomputable def panel_faces_L1 (p : api_Panel) (l : List api_Track) (s : api_PanelState) (out2 : List api_Face) (i : Int) : Option (((List api_Face) × Int) ⊕ ((List api_Face))) :=
  if (decide (i < (p.Instruments.length : Int))) = true then
  (idx p.Instruments i).bind fun x =>
  (panel_trackOf l x).bind fun y =>
  (idx l y).bind fun x2 =>
  ((if (decide (0 ≤ s.Frame)) = true then
  (panel_value x2 s.Frame).bind fun y2 =>
  some (y2.1, y2.2)
  else
  some ((api_Sample.mk 0 0 0), false)) : Option ((api_Sample × Bool))).bind (t2 fun (x3 : api_Sample) (known : Bool) =>
  (idx s.Memos i).bind fun x4 =>
  (panel_face x x4 x2.Series.Den x3 known).bind fun y3 =>
  (app out2 ([y3] : List api_Face)).bind fun l2 =>
  some (.inl (l2, (i64 (i + 1)))))
  else
  some (.inr out2)

noncomputable def panel_faces (p : api_Panel) (l : List api_Track) (s : api_PanelState) : Option (List api_Face) :=
  ((loop (t2 (panel_faces_L1 p l s)) ([], 0)) : Option (((List api_Face)))).bind (t1 fun (out : List api_Face) =>
  some out)

noncomputable def panel_Replay_Faces (r_ : panel_Replay) : Option (List api_Face) :=
  (panel_faces r_.p r_.l r_.state).bind fun y =>
  some y

noncomputable def slices_BinarySearchFunc_api_PanelState_api_PanelState_int_L1 (x : List api_PanelState) (target : Int) (cmp : api_PanelState → Int → Option Int) (i2 : Int) (j : Int) : Option ((Int × Int) ⊕ (Int)) :=
  if (decide (i2 < j)) = true then
  (shr .u64 (u64 (i64 (i2 + j))) 1).bind fun q =>
  (idx x (i64 q)).bind fun x2 =>
  (cmp x2 target).bind fun y =>
  if (decide (y < 0)) = true then
  some (.inl ((i64 ((i64 q) + 1)), j))
  else
  some (.inl (i2, (i64 q)))
  else
  some (.inr i2)

noncomputable def slices_BinarySearchFunc_api_PanelState_api_PanelState_int (x : List api_PanelState) (target : Int) (cmp : api_PanelState → Int → Option Int) : Option (Int × Bool) :=
  ((loop (t2 (slices_BinarySearchFunc_api_PanelState_api_PanelState_int_L1 x target cmp)) (0, (x.length : Int))) : Option ((Int))).bind (t1 fun (i : Int) =>
  (gd ((decide (i < (x.length : Int))) == true) (api_PanelState.mk 0 []) (idx x i)).bind fun x3 =>
  (gd ((decide (i < (x.length : Int))) == true) 0 (cmp x3 target)).bind fun y2 =>
  some (i, ((decide (i < (x.length : Int))) && (decide (y2 = 0)))))

noncomputable def panel_Replay_keptAt_1 (s : api_PanelState) (frame : Int) : Option Int :=
  some (i64 (s.Frame - frame))

noncomputable def panel_Replay_keptAt (r_ : panel_Replay) (frame : Int) : Option (Int × Bool) :=
  (slices_BinarySearchFunc_api_PanelState_api_PanelState_int r_.kept frame (fun z0 z1 => panel_Replay_keptAt_1 z0 z1)).bind fun y =>
  some (y.1, y.2)

noncomputable def panel_copyState_L1 (y : List api_Memo) (Memos2 : List api_Memo) (i : Int) : Option (((List api_Memo) × Int) ⊕ ((List api_Memo))) :=
  if (decide (i < (y.length : Int))) = true then
  (idx Memos2 i).bind fun x =>
  (clone x.Tape).bind fun y2 =>
  (idx Memos2 i).bind fun x2 =>
  some (.inl ((Memos2.set i.toNat (api_Memo.mk x2.Lit x2.Some x2.N x2.Count y2)), (i64 (i + 1))))
  else
  some (.inr Memos2)

noncomputable def panel_copyState (s : api_PanelState) : Option api_PanelState :=
  (clone s.Memos).bind fun y =>
  ((loop (t2 (panel_copyState_L1 y)) (y, 0)) : Option (((List api_Memo)))).bind (t1 fun (Memos : List api_Memo) =>
  some (api_PanelState.mk s.Frame Memos))

noncomputable def slices_Insert_api_PanelState_api_PanelState (s : List api_PanelState) (i : Int) (v : List api_PanelState) : Option (List api_PanelState) :=
  (slc s i (s.length : Int)).bind fun l =>
  if (decide ((v.length : Int) = 0)) = true then
  some s
  else
  if (decide (i = (s.length : Int))) = true then
  (app s v).bind fun l2 =>
  some l2
  else
  none

noncomputable def panel_Replay_advance_v1_L1 (r_ : panel_Replay) (n : Int) (state : api_PanelState) (kept : List api_PanelState) (i : Int) : Option ((api_PanelState × (List api_PanelState) × Int) ⊕ (panel_Replay)) :=
  if (decide (i < n)) = true then
  (((panel_advance r_.p r_.l state).bind fun y =>
  (rem y.Frame r_.keep).bind fun q =>
  if (!decide (q = (i64 (r_.keep - 1)))) = true then
  some (y.Frame, y.Memos, kept)
  else
  (panel_Replay_keptAt (panel_Replay.mk r_.p r_.l r_.keep y kept r_.marks) y.Frame).bind fun y2 =>
  if (!y2.2) = true then
  (panel_copyState y).bind fun y3 =>
  (slices_Insert_api_PanelState_api_PanelState kept y2.1 ([y3] : List api_PanelState)).bind fun y4 =>
  some (y.Frame, y.Memos, y4)
  else
  some (y.Frame, y.Memos, kept)) : Option ((Int × (List api_Memo) × (List api_PanelState)))).bind (t3 fun (Frame : Int) (Memos : List api_Memo) (kept2 : List api_PanelState) =>
  some (.inl ((api_PanelState.mk Frame Memos), kept2, (i64 (i + 1)))))
  else
  some (.inr (panel_Replay.mk r_.p r_.l r_.keep state kept r_.marks))

noncomputable def panel_Replay_advance_v1 (r_ : panel_Replay) (n : Int) : Option panel_Replay :=
  loop (t3 (panel_Replay_advance_v1_L1 r_ n)) (r_.state, r_.kept, 0)

noncomputable def panel_Replay_Step_v1 (r_ : panel_Replay) (n : Int) : Option (Int × panel_Replay) :=
  if ((decide (n < 0)) || (decide ((i64 (19999 - r_.state.Frame)) < n))) = true then
  some (9, r_)
  else
  (panel_Replay_advance_v1 r_ n).bind fun y =>
  some (0, y)

noncomputable def law8_shown  : Option Bool :=
  (panel_New (api_Panel.mk ([(api_Instrument.mk 1 [97] [116] 1 0 0 0 [] 0 0 false 0)] : List api_Instrument)) ([(api_Track.mk [116] (api_Series.mk 2 ([(api_Sample.mk 70 (-3) 4)] : List api_Sample)) 100)] : List api_Track) 1).bind (Sum.elim (fun y =>
  (gd ((!decide (y = 0)) == false) () (none : Option Unit)).bind fun u =>
  if ((!decide (y = 0)) || (!decide (0 = 0))) = true then
  some false
  else
  none) (fun y =>
  ((if ((!decide (y.2 = 0)) == false) = true then
  (panel_Replay_Step_v1 y.1 2).bind fun y2 =>
  if (false || (!decide (y2.1 = 0))) = true then
  some (.inl false)
  else
  some (.inr (y2.2.p, y2.2.l, y2.2.keep, y2.2.state, y2.2.kept, y2.2.marks))
  else
  (gd (true == false) () (none : Option Unit)).bind fun u2 =>
  if (true || false) = true then
  some (.inl false)
  else
  some (.inr (y.1.p, y.1.l, y.1.keep, y.1.state, y.1.kept, y.1.marks))) : Option ((Bool) ⊕ (api_Panel × (List api_Track) × Int × api_PanelState × (List api_PanelState) × (List api_Bookmark)))).bind (Sum.elim (fun v => some v) (t6 fun (p : api_Panel) (l : List api_Track) (keep : Int) (state : api_PanelState) (kept : List api_PanelState) (marks : List api_Bookmark) =>
  (panel_Replay_Faces (panel_Replay.mk p l keep state kept marks)).bind fun y3 =>
  (gd ((decide ((y3.length : Int) = 1)) == true) (api_Face.mk [] 0 false 0) (idx y3 0)).bind fun x =>
  some ((decide ((y3.length : Int) = 1)) && (decide (x.Text = [45, 49, 46, 53]) && (decide (x.Needle = 0) && ((x.Lit == false) && (decide (x.Mark = 4) && true)))))))))

noncomputable def ref8_isName_L1 (s : Str) (i : Int) : Option ((Int) ⊕ (Bool) ⊕ (Unit)) :=
  if (decide (i < (s.length : Int))) = true then
  (sidx s i).bind fun b =>
  if (!((((decide (97 ≤ b)) && (decide (b ≤ 122))) || ((decide (48 ≤ b)) && (decide (b ≤ 57)))) || (decide (b = 45)))) = true then
  some (.inr (.inl false))
  else
  some (.inl (i64 (i + 1)))
  else
  some (.inr (.inr ()))

noncomputable def ref8_isName (s : Str) : Option Bool :=
  ((loop (t1 (ref8_isName_L1 s)) 0) : Option ((Bool) ⊕ (Unit))).bind (Sum.elim (fun v => some v) (t0 (some ((decide (1 ≤ (s.length : Int))) && (decide ((s.length : Int) ≤ 30))))))

noncomputable def ref8_has_L1 (kind : Int) (l : List Int) (i : Int) : Option ((Int) ⊕ (Bool) ⊕ (Unit)) :=
  if (decide (i < (l.length : Int))) = true then
  (idx l i).bind fun x =>
  if (decide (x = kind)) = true then
  some (.inr (.inl true))
  else
  some (.inl (i64 (i + 1)))
  else
  some (.inr (.inr ()))

noncomputable def ref8_has (kind : Int) (l : List Int) : Option Bool :=
  ((loop (t1 (ref8_has_L1 kind l)) 0) : Option ((Bool) ⊕ (Unit))).bind (Sum.elim (fun v => some v) (t0 (some false)))

noncomputable def ref8_unused (i : api_Instrument) : Option Bool :=
  (gd ((!decide (i.Places = 0)) == true) false (ref8_has i.Kind ([1, 4, 6] : List Int))).bind fun y =>
  if ((!decide (i.Places = 0)) && (!y)) = true then
  some true
  else
  if ((!(decide (i.Kind = 2))) && ((((!decide (i.Low = 0)) || (!decide (i.High = 0))) || (!decide (i.Steps = 0))) || (decide (0 < (i.Zones.length : Int))))) = true then
  some true
  else
  (gd (((!decide (i.Op = 0)) || (!decide (i.N = 0))) == true) false (ref8_has i.Kind ([3, 5] : List Int))).bind fun y2 =>
  if (((!decide (i.Op = 0)) || (!decide (i.N = 0))) && (!y2)) = true then
  some true
  else
  if (i.Latch && (!decide (i.Kind = 3))) = true then
  some true
  else
  some ((!decide (i.Size = 0)) && (!decide (i.Kind = 6)))

noncomputable def ref8_dialFault_L1 (i : api_Instrument) (i2 : Int) : Option ((Int) ⊕ (Int) ⊕ (Unit)) :=
  if (decide (i2 < (i.Zones.length : Int))) = true then
  (idx i.Zones i2).bind fun x =>
  (ref8_isName x.Name).bind fun y4 =>
  if (!y4) = true then
  some (.inr (.inl 8))
  else
  if (decide (x.To < x.From)) = true then
  some (.inr (.inl 9))
  else
  (gd ((decide (0 < i2)) == true) (api_Zone.mk 0 0 []) (idx i.Zones (i64 (i2 - 1)))).bind fun x2 =>
  if ((decide (0 < i2)) && (decide (x.From ≤ x2.To))) = true then
  some (.inr (.inl 10))
  else
  some (.inl (i64 (i2 + 1)))
  else
  some (.inr (.inr ()))

noncomputable def ref8_dialFault (i : api_Instrument) : Option Int :=
  (gd ((decide (i.High ≤ i.Low)) == false) false (ref8_outside i.Low (-1125899906842624) 1125899906842624)).bind fun y =>
  (gd (((decide (i.High ≤ i.Low)) || y) == false) false (ref8_outside i.High (-1125899906842624) 1125899906842624)).bind fun y2 =>
  (gd ((((decide (i.High ≤ i.Low)) || y) || y2) == false) false (ref8_outside i.Steps 1 1000)).bind fun y3 =>
  if ((((decide (i.High ≤ i.Low)) || y) || y2) || y3) = true then
  some 9
  else
  if (decide (10 < (i.Zones.length : Int))) = true then
  some 3
  else
  ((loop (t1 (ref8_dialFault_L1 i)) 0) : Option ((Int) ⊕ (Unit))).bind (Sum.elim (fun v => some v) (t0 (some 0)))

noncomputable def ref8_CheckInstrument (i : api_Instrument) : Option Int :=
  (ref8_outside i.Kind 1 6).bind fun y =>
  if y = true then
  some 7
  else
  (ref8_isName i.Name).bind fun y2 =>
  if (((!y2) || (decide (i.Track = []))) || (decide (30 < (i.Track.length : Int)))) = true then
  some 8
  else
  (ref8_unused i).bind fun y3 =>
  if y3 = true then
  some 2
  else
  (ref8_outside i.Places 0 6).bind fun y4 =>
  if y4 = true then
  some 9
  else
  if (decide (i.Kind = 2)) = true then
  (ref8_dialFault i).bind fun y5 =>
  some y5
  else
  ((if (decide (i.Kind = 3)) = true then
  some (decide (i.Kind = 3))
  else
  some (decide (i.Kind = 5))) : Option ((Bool))).bind (t1 fun (v : Bool) =>
  if v = true then
  (ref8_outside i.Op 1 6).bind fun y6 =>
  if y6 = true then
  some 7
  else
  (ref8_outside i.N (-1125899906842624) 1125899906842624).bind fun y7 =>
  if y7 = true then
  some 9
  else
  some 0
  else
  if (decide (i.Kind = 6)) = true then
  (ref8_outside i.Size 1 50).bind fun y8 =>
  if y8 = true then
  some 9
  else
  some 0
  else
  some 0)

noncomputable def ref8_needle (i : api_Instrument) (n : Int) : Option Int :=
  if (decide (n ≤ i.Low)) = true then
  some 0
  else
  if (decide (i.High ≤ n)) = true then
  some i.Steps
  else
  (quo .i64 (i64 ((i64 (n - i.Low)) * i.Steps)) (i64 (i.High - i.Low))).bind fun q =>
  some q

noncomputable def ref8_zone_L1 (i : api_Instrument) (n : Int) (i2 : Int) : Option ((Int) ⊕ (Str) ⊕ (Unit)) :=
  if (decide (i2 < (i.Zones.length : Int))) = true then
  (idx i.Zones i2).bind fun x =>
  if ((decide (x.From ≤ n)) && (decide (n ≤ x.To))) = true then
  some (.inr (.inl x.Name))
  else
  some (.inl (i64 (i2 + 1)))
  else
  some (.inr (.inr ()))

noncomputable def ref8_zone (i : api_Instrument) (n : Int) : Option Str :=
  ((loop (t1 (ref8_zone_L1 i n)) 0) : Option ((Str) ⊕ (Unit))).bind (Sum.elim (fun v => some v) (t0 (some [])))

noncomputable def ref8_Check_L2 (x : api_Instrument) (l : List api_Instrument) (i2 : Int) : Option ((Int) ⊕ (Int) ⊕ (Unit)) :=
  if (decide (i2 < (l.length : Int))) = true then
  (idx l i2).bind fun x2 =>
  if (decide (x2.Name = x.Name)) = true then
  some (.inr (.inl 5))
  else
  some (.inl (i64 (i2 + 1)))
  else
  some (.inr (.inr ()))

noncomputable def ref8_Check_L1 (p : api_Panel) (i : Int) : Option ((Int) ⊕ (Int) ⊕ (Unit)) :=
  if (decide (i < (p.Instruments.length : Int))) = true then
  (((idx p.Instruments i).bind fun x =>
  (ref8_CheckInstrument x).bind fun y =>
  if (!decide (y = 0)) = true then
  some (.inl y)
  else
  (slc p.Instruments 0 i).bind fun l =>
  loop (t1 (ref8_Check_L2 x l)) 0) : Option ((Int) ⊕ (Unit))).bind (Sum.elim (fun v => some (.inr (.inl v))) (t0 (some (.inl (i64 (i + 1))))))
  else
  some (.inr (.inr ()))

noncomputable def ref8_Check (p : api_Panel) : Option Int :=
  if (decide (100 < (p.Instruments.length : Int))) = true then
  some 3
  else
  ((loop (t1 (ref8_Check_L1 p)) 0) : Option ((Int) ⊕ (Unit))).bind (Sum.elim (fun v => some v) (t0 (some 0)))

noncomputable def ref8_First (p : api_Panel) : Option (api_PanelState × Int) :=
  (ref8_Check p).bind fun y =>
  if (!decide (y = 0)) = true then
  some ((api_PanelState.mk 0 []), y)
  else
  (mks (p.Instruments.length : Int) (api_Memo.mk false false 0 0 [])).bind fun l =>
  some ((api_PanelState.mk (-1) l), 0)

noncomputable def ref8_digits_L1 (places : Int) (unit2 : Int) (i : Int) : Option ((Int × Int) ⊕ (Int)) :=
  if (decide (i < places)) = true then
  some (.inl ((i64 (unit2 * 10)), (i64 (i + 1))))
  else
  some (.inr unit2)

noncomputable def ref8_digits (n : Int) (den : Int) (places : Int) : Option Str :=
  ((if (decide (n < 0)) = true then
  some ((i64 (-n)), [45])
  else
  some (n, [])) : Option ((Int × Str))).bind (t2 fun (size : Int) (sign : Str) =>
  ((loop (t2 (ref8_digits_L1 places)) (1, 0)) : Option ((Int))).bind (t1 fun (unit : Int) =>
  (quo .i64 size den).bind fun q =>
  (rem size den).bind fun q2 =>
  (quo .i64 (i64 ((i64 ((i64 (2 * unit)) * q2)) + den)) (i64 (2 * den))).bind fun q3 =>
  ((if (decide (q3 = unit)) = true then
  some ((i64 (q + 1)), 0)
  else
  some (q, q3)) : Option ((Int × Int))).bind (t2 fun (whole : Int) (part : Int) =>
  ((if ((decide (whole = 0)) && (decide (part = 0))) = true then
  some []
  else
  some sign) : Option ((Str))).bind (t1 fun (sign2 : Str) =>
  (itoa whole).bind fun y =>
  ((if (decide (0 < places)) = true then
  (itoa (i64 (unit + part))).bind fun y2 =>
  (slc y2 1 (y2.length : Int)).bind fun s2 =>
  (cat [46] s2).bind fun s3 =>
  (cat y s3).bind fun s4 =>
  some s4
  else
  some y) : Option ((Str))).bind (t1 fun (s : Str) =>
  (cat sign2 s).bind fun s5 =>
  some s5)))))

noncomputable def ref8_holds (op : Int) (a : Int) (b : Int) : Option Bool :=
  if (decide (op = 1)) = true then
  some (decide (a < b))
  else
  if (decide (op = 2)) = true then
  some (decide (a ≤ b))
  else
  if (decide (op = 3)) = true then
  some (decide (a = b))
  else
  if (decide (op = 4)) = true then
  some (!decide (a = b))
  else
  if (decide (op = 5)) = true then
  some (decide (b ≤ a))
  else
  some (decide (b < a))

noncomputable def ref8_track_L1 (l : List api_Track) (name : Str) (i : Int) : Option ((Int) ⊕ (api_Track × Bool) ⊕ (Unit)) :=
  if (decide (i < (l.length : Int))) = true then
  (idx l i).bind fun x =>
  if (decide (x.Name = name)) = true then
  some (.inr (.inl (x, true)))
  else
  some (.inl (i64 (i + 1)))
  else
  some (.inr (.inr ()))

noncomputable def ref8_track (l : List api_Track) (name : Str) : Option (api_Track × Bool) :=
  ((loop (t1 (ref8_track_L1 l name)) 0) : Option ((api_Track × Bool) ⊕ (Unit))).bind (Sum.elim (fun v => some v) (t0 (some ((api_Track.mk [] (api_Series.mk 0 []) 0), false))))

noncomputable def ref8_Fault_L1 (p : api_Panel) (l : List api_Track) (i : Int) : Option ((Int) ⊕ (Int) ⊕ (Unit)) :=
  if (decide (i < (p.Instruments.length : Int))) = true then
  (idx p.Instruments i).bind fun x =>
  (ref8_track l x.Track).bind fun y3 =>
  if (!y3.2) = true then
  some (.inr (.inl 4))
  else
  some (.inl (i64 (i + 1)))
  else
  some (.inr (.inr ()))

noncomputable def ref8_Fault (p : api_Panel) (l : List api_Track) : Option Int :=
  (ref8_Check p).bind fun y =>
  if (!decide (y = 0)) = true then
  some y
  else
  (ref6_CheckTracks l).bind fun y2 =>
  if (!decide (y2 = 0)) = true then
  some y2
  else
  ((loop (t1 (ref8_Fault_L1 p l)) 0) : Option ((Int) ⊕ (Unit))).bind (Sum.elim (fun v => some v) (t0 (some 0)))

noncomputable def panel_Differ_L1 (p : api_Panel) (a : List api_Track) (b : List api_Track) (i : Int) : Option ((Int) ⊕ (Int × Int × Bool × Int) ⊕ (Unit)) :=
  if (decide (i < (([a, b] : List (List api_Track)).length : Int))) = true then
  (idx ([a, b] : List (List api_Track)) i).bind fun x =>
  (panel_checkBoth p x).bind fun y =>
  if (!decide (y = 0)) = true then
  some (.inr (.inl (0, 0, false, y)))
  else
  some (.inl (i64 (i + 1)))
  else
  some (.inr (.inr ()))

noncomputable def panel_Differ_L3 (i2 : Int) (y5 : api_PanelState) (y6 : api_PanelState) (y7 : (List api_Face)) (y8 : (List api_Face)) (i3 : Int) : Option ((Int) ⊕ (Int × Int × Bool × Int) ⊕ (api_PanelState × api_PanelState)) :=
  if (decide (i3 < (y7.length : Int))) = true then
  (idx y7 i3).bind fun x2 =>
  (idx y8 i3).bind fun x3 =>
  if (!(decide (x2.Text = x3.Text) && (decide (x2.Needle = x3.Needle) && ((x2.Lit == x3.Lit) && (decide (x2.Mark = x3.Mark) && true))))) = true then
  some (.inr (.inl (i2, i3, true, 0)))
  else
  some (.inl (i64 (i3 + 1)))
  else
  some (.inr (.inr (y5, y6)))

noncomputable def panel_Differ_L2 (p : api_Panel) (a : List api_Track) (b : List api_Track) (to : Int) (s : api_PanelState) (t : api_PanelState) (i2 : Int) : Option ((api_PanelState × api_PanelState × Int) ⊕ (Int × Int × Bool × Int) ⊕ (Unit)) :=
  if (decide (i2 < (i64 (to + 1)))) = true then
  (((panel_advance p a s).bind fun y5 =>
  (panel_advance p b t).bind fun y6 =>
  (panel_faces p a y5).bind fun y7 =>
  (panel_faces p b y6).bind fun y8 =>
  loop (t1 (panel_Differ_L3 i2 y5 y6 y7 y8)) 0) : Option ((Int × Int × Bool × Int) ⊕ (api_PanelState × api_PanelState))).bind (Sum.elim (fun v => some (.inr (.inl v))) (t2 fun (s2 : api_PanelState) (t2 : api_PanelState) =>
  some (.inl (s2, t2, (i64 (i2 + 1))))))
  else
  some (.inr (.inr ()))

noncomputable def panel_Differ (p : api_Panel) (a : List api_Track) (b : List api_Track) (to : Int) : Option (Int × Int × Bool × Int) :=
  ((loop (t1 (panel_Differ_L1 p a b)) 0) : Option ((Int × Int × Bool × Int) ⊕ (Unit))).bind (Sum.elim (fun v => some v) (t0 ((panel_within to 0 19999).bind fun y2 =>
  if (!y2) = true then
  some (0, 0, false, 9)
  else
  (panel_first p).bind fun y3 =>
  (panel_first p).bind fun y4 =>
  ((loop (t3 (panel_Differ_L2 p a b to)) (y3, y4, 0)) : Option ((Int × Int × Bool × Int) ⊕ (Unit))).bind (Sum.elim (fun v => some v) (t0 (some (0, 0, false, 0)))))))

noncomputable def ref8_remember (i : api_Instrument) (m : api_Memo) (s : api_Sample) (known : Bool) : Option api_Memo :=
  (app ([] : List Int) m.Tape).bind fun l =>
  ((if ((decide (i.Kind = 3)) && known) = true then
  (ref8_holds i.Op s.N i.N).bind fun y =>
  some ((y || (i.Latch && m.Lit)), m.Some, m.N, m.Count, l)
  else
  if (decide (i.Kind = 3)) = true then
  some ((m.Lit && i.Latch), m.Some, m.N, m.Count, l)
  else
  if ((decide (i.Kind = 5)) && known) = true then
  (ref8_holds i.Op s.N i.N).bind fun y2 =>
  if (y2 && (!m.Lit)) = true then
  some (y2, m.Some, m.N, (i64 (m.Count + 1)), l)
  else
  some (y2, m.Some, m.N, m.Count, l)
  else
  if (decide (i.Kind = 5)) = true then
  some (false, m.Some, m.N, m.Count, l)
  else
  if ((decide (i.Kind = 4)) && known) = true then
  if ((!m.Some) || (decide (m.N < s.N))) = true then
  some (m.Lit, true, s.N, m.Count, l)
  else
  some (m.Lit, true, m.N, m.Count, l)
  else
  if ((decide (i.Kind = 6)) && known) = true then
  (app l ([s.N] : List Int)).bind fun l2 =>
  if (decide (i.Size < (l2.length : Int))) = true then
  (slc l2 1 (l2.length : Int)).bind fun l3 =>
  some (m.Lit, m.Some, m.N, m.Count, l3)
  else
  some (m.Lit, m.Some, m.N, m.Count, l2)
  else
  some (m.Lit, m.Some, m.N, m.Count, l)) : Option ((Bool × Bool × Int × Int × (List Int)))).bind (t5 fun (Lit : Bool) (Some : Bool) (N : Int) (Count : Int) (Tape : List Int) =>
  some (api_Memo.mk Lit Some N Count Tape))

noncomputable def ref8_advance_L1 (p : api_Panel) (l : List api_Track) (s : api_PanelState) (Memos2 : List api_Memo) (i : Int) : Option (((List api_Memo) × Int) ⊕ ((List api_Memo))) :=
  if (decide (i < (p.Instruments.length : Int))) = true then
  (idx p.Instruments i).bind fun x =>
  (ref8_track l x.Track).bind fun y =>
  (ref8_valueAt y.1 (i64 (s.Frame + 1))).bind fun y2 =>
  (idx s.Memos i).bind fun x2 =>
  (ref8_remember x x2 y2.1 y2.2).bind fun y3 =>
  (app Memos2 ([y3] : List api_Memo)).bind fun l2 =>
  some (.inl (l2, (i64 (i + 1))))
  else
  some (.inr Memos2)

noncomputable def ref8_advance (p : api_Panel) (l : List api_Track) (s : api_PanelState) : Option api_PanelState :=
  ((loop (t2 (ref8_advance_L1 p l s)) ([], 0)) : Option (((List api_Memo)))).bind (t1 fun (Memos : List api_Memo) =>
  some (api_PanelState.mk (i64 (s.Frame + 1)) Memos))

noncomputable def ref8_face_L1 (i : api_Instrument) (den : Int) (m : api_Memo) (Mark : Int) (Text : Str) (i2 : Int) : Option ((Str × Int) ⊕ (api_Face)) :=
  if (decide (i2 < (m.Tape.length : Int))) = true then
  (idx m.Tape i2).bind fun x =>
  if (decide (i2 = 0)) = true then
  (ref8_digits x den i.Places).bind fun y6 =>
  some (.inl (y6, (i64 (i2 + 1))))
  else
  (ref8_digits x den i.Places).bind fun y7 =>
  (cat [32] y7).bind fun s2 =>
  (cat Text s2).bind fun s3 =>
  some (.inl (s3, (i64 (i2 + 1))))
  else
  some (.inr (api_Face.mk Text 0 false Mark))

noncomputable def ref8_face (i : api_Instrument) (den : Int) (m : api_Memo) (s : api_Sample) (known : Bool) : Option api_Face :=
  ((if known = true then
  some s.Mark
  else
  some 0) : Option ((Int))).bind (t1 fun (Mark : Int) =>
  ((if (decide (i.Kind = 1)) = true then
  if known = true then
  (ref8_digits s.N den i.Places).bind fun y =>
  some (api_Face.mk y 0 false Mark)
  else
  some (api_Face.mk [45, 45, 45] 0 false Mark)
  else
  if (decide (i.Kind = 2)) = true then
  if known = true then
  (ref8_needle i s.N).bind fun y2 =>
  (ref8_zone i s.N).bind fun y3 =>
  some (api_Face.mk y3 y2 false Mark)
  else
  some (api_Face.mk [45, 45, 45] 0 false Mark)
  else
  if (decide (i.Kind = 3)) = true then
  if m.Lit = true then
  some (api_Face.mk [111, 110] 0 m.Lit Mark)
  else
  if known = true then
  some (api_Face.mk [111, 102, 102] 0 m.Lit Mark)
  else
  some (api_Face.mk [45, 45, 45] 0 m.Lit Mark)
  else
  if (decide (i.Kind = 4)) = true then
  if m.Some = true then
  (ref8_digits m.N den i.Places).bind fun y4 =>
  some (api_Face.mk y4 0 false Mark)
  else
  some (api_Face.mk [45, 45, 45] 0 false Mark)
  else
  if (decide (i.Kind = 5)) = true then
  (itoa m.Count).bind fun y5 =>
  some (api_Face.mk y5 0 m.Lit Mark)
  else
  if (decide (i.Kind = 6)) = true then
  loop (t2 (ref8_face_L1 i den m Mark)) ([45, 45, 45], 0)
  else
  some (api_Face.mk [45, 45, 45] 0 false Mark)) : Option ((api_Face))).bind (t1 fun (f : api_Face) =>
  some f))

noncomputable def ref8_faces_L1 (p : api_Panel) (l : List api_Track) (s : api_PanelState) (out2 : List api_Face) (i : Int) : Option (((List api_Face) × Int) ⊕ ((List api_Face))) :=
  if (decide (i < (p.Instruments.length : Int))) = true then
  (idx p.Instruments i).bind fun x =>
  (ref8_track l x.Track).bind fun y =>
  ((if (decide (0 ≤ s.Frame)) = true then
  (ref8_valueAt y.1 s.Frame).bind fun y2 =>
  some (y2.1, y2.2)
  else
  some ((api_Sample.mk 0 0 0), false)) : Option ((api_Sample × Bool))).bind (t2 fun (x2 : api_Sample) (known : Bool) =>
  (idx s.Memos i).bind fun x3 =>
  (ref8_face x y.1.Series.Den x3 x2 known).bind fun y3 =>
  (app out2 ([y3] : List api_Face)).bind fun l2 =>
  some (.inl (l2, (i64 (i + 1)))))
  else
  some (.inr out2)

noncomputable def ref8_faces (p : api_Panel) (l : List api_Track) (s : api_PanelState) : Option (List api_Face) :=
  ((loop (t2 (ref8_faces_L1 p l s)) ([], 0)) : Option (((List api_Face)))).bind (t1 fun (out : List api_Face) =>
  some out)

noncomputable def ref8_Differ_L1 (p : api_Panel) (a : List api_Track) (b : List api_Track) (i : Int) : Option ((Int) ⊕ (Int × Int × Bool × Int) ⊕ (Unit)) :=
  if (decide (i < (([a, b] : List (List api_Track)).length : Int))) = true then
  (idx ([a, b] : List (List api_Track)) i).bind fun x =>
  (ref8_Fault p x).bind fun y =>
  if (!decide (y = 0)) = true then
  some (.inr (.inl (0, 0, false, y)))
  else
  some (.inl (i64 (i + 1)))
  else
  some (.inr (.inr ()))

noncomputable def ref8_Differ_L3 (n : Int) (y5 : api_PanelState) (y6 : api_PanelState) (y7 : (List api_Face)) (y8 : (List api_Face)) (i2 : Int) : Option ((Int) ⊕ (Int × Int × Bool × Int) ⊕ (api_PanelState × api_PanelState)) :=
  if (decide (i2 < (y7.length : Int))) = true then
  (idx y7 i2).bind fun x2 =>
  (idx y8 i2).bind fun x3 =>
  if (!(decide (x2.Text = x3.Text) && (decide (x2.Needle = x3.Needle) && ((x2.Lit == x3.Lit) && (decide (x2.Mark = x3.Mark) && true))))) = true then
  some (.inr (.inl (n, i2, true, 0)))
  else
  some (.inl (i64 (i2 + 1)))
  else
  some (.inr (.inr (y5, y6)))

noncomputable def ref8_Differ_L2 (p : api_Panel) (a : List api_Track) (b : List api_Track) (to : Int) (s : api_PanelState) (t : api_PanelState) (n : Int) : Option ((api_PanelState × api_PanelState × Int) ⊕ (Int × Int × Bool × Int) ⊕ (Unit)) :=
  if (decide (n ≤ to)) = true then
  (((ref8_advance p a s).bind fun y5 =>
  (ref8_advance p b t).bind fun y6 =>
  (ref8_faces p a y5).bind fun y7 =>
  (ref8_faces p b y6).bind fun y8 =>
  loop (t1 (ref8_Differ_L3 n y5 y6 y7 y8)) 0) : Option ((Int × Int × Bool × Int) ⊕ (api_PanelState × api_PanelState))).bind (Sum.elim (fun v => some (.inr (.inl v))) (t2 fun (s2 : api_PanelState) (t2 : api_PanelState) =>
  some (.inl (s2, t2, (i64 (n + 1))))))
  else
  some (.inr (.inr ()))

noncomputable def ref8_Differ (p : api_Panel) (a : List api_Track) (b : List api_Track) (to : Int) : Option (Int × Int × Bool × Int) :=
  ((loop (t1 (ref8_Differ_L1 p a b)) 0) : Option ((Int × Int × Bool × Int) ⊕ (Unit))).bind (Sum.elim (fun v => some v) (t0 ((ref8_outside to 0 19999).bind fun y2 =>
  if y2 = true then
  some (0, 0, false, 9)
  else
  (ref8_First p).bind fun y3 =>
  (ref8_First p).bind fun y4 =>
  ((loop (t3 (ref8_Differ_L2 p a b to)) (y3.1, y4.1, 0)) : Option ((Int × Int × Bool × Int) ⊕ (Unit))).bind (Sum.elim (fun v => some v) (t0 (some (0, 0, false, 0)))))))

noncomputable def law8_PanelDifferMatchesSpec (p : api_Panel) (a : List api_Track) (b : List api_Track) (to : Int) : Option Bool :=
  (panel_Differ p a b to).bind fun y =>
  (ref8_Differ p a b to).bind fun y2 =>
  (gd (((((decide (y.1 = y2.1)) && (decide (y.2.1 = y2.2.1))) && (y.2.2.1 == y2.2.2.1)) && (decide (y.2.2.2 = y2.2.2.2))) == true) false law8_shown).bind fun y3 =>
  some (((((decide (y.1 = y2.1)) && (decide (y.2.1 = y2.2.1))) && (y.2.2.1 == y2.2.2.1)) && (decide (y.2.2.2 = y2.2.2.2))) && y3)

end Go.Vx
