/- A text of the proof: a verified executor of the program form, or the contracts of the functions that the law reaches. -/
import Derived.Test.YtafmdjdjabifjaaGreatDoorShT
import Derived.Test.YtafmdjdjabifjaaGreatDoorProg
import Derived.Test.YtafmdjdjabifjaaGreatDoorLayQ
set_option linter.all false
namespace Go.Proofs.YtafmdjdjabifjaaGreatDoor
open Go Go.Vx
set_option maxRecDepth 10000
set_option maxHeartbeats 1000000
set_option linter.unusedVariables false
theorem tZ_169 : Tryz.prog.cellsOf 169 = 3 := by kernel_rfl
theorem tZ_55 : Tryz.prog.cellsOf 55 = 12 := by kernel_rfl
theorem tZ_28 : Tryz.prog.cellsOf 28 = 3 := by kernel_rfl
theorem tZ_26 : Tryz.prog.cellsOf 26 = 4 := by kernel_rfl
theorem tZ_41 : Tryz.prog.cellsOf 41 = 1 := by kernel_rfl
theorem tA41 : tAgg Tryz.prog 41 1 = true := by kernel_rfl
theorem tL104 : tSl Tryz.prog 104 42 1 24 = true := by kernel_rfl
theorem tZ_42 : Tryz.prog.cellsOf 42 = 1 := by kernel_rfl
theorem tS42 : tScal Tryz.prog 42 = true := by kernel_rfl
theorem tF41_0 : tFld Tryz.prog 41 0 0 = true := by kernel_rfl
theorem tS39 : tScal Tryz.prog 39 = true := by kernel_rfl
theorem tL39 : tSl Tryz.prog 39 55 12 128 = true := by kernel_rfl
theorem tA55 : tAgg Tryz.prog 55 12 = true := by kernel_rfl
theorem tZ55 : zeroOf Tryz.prog 55 = some [.int .i64 0, .string ⟨#[]⟩, .string ⟨#[]⟩, .int .i64 0, .int .i64 0, .int .i64 0, .int .i64 0, .slice none 0 0, .int .i64 0, .int .i64 0, .bool false, .int .i64 0] := by kernel_rfl
theorem tF55_0 : tFld Tryz.prog 55 0 0 = true := by kernel_rfl
theorem tS3 : tScal Tryz.prog 3 = true := by kernel_rfl
theorem tF55_1 : tFld Tryz.prog 55 1 1 = true := by kernel_rfl
theorem tS9 : tScal Tryz.prog 9 = true := by kernel_rfl
theorem tStr9 : tStr Tryz.prog 9 = true := by kernel_rfl
theorem tZ194 : zeroOf Tryz.prog 194 = some [.bool false, .bool false, .bool false, .bool false, .bool false, .bool false, .bool false, .bool false, .bool false, .bool false, .bool false, .bool false, .bool false, .bool false, .bool false, .bool false, .bool false, .bool false, .bool false, .bool false, .bool false, .bool false, .bool false, .bool false, .bool false, .bool false, .bool false, .bool false, .bool false, .bool false, .bool false, .bool false, .bool false, .bool false, .bool false, .bool false, .bool false, .bool false, .bool false, .bool false, .bool false, .bool false, .bool false, .bool false, .bool false, .bool false, .bool false, .bool false, .bool false, .bool false, .bool false, .bool false, .bool false, .bool false, .bool false, .bool false, .bool false, .bool false, .bool false, .bool false, .bool false, .bool false, .bool false, .bool false, .bool false, .bool false, .bool false, .bool false, .bool false, .bool false, .bool false, .bool false, .bool false, .bool false, .bool false, .bool false, .bool false, .bool false, .bool false, .bool false, .bool false, .bool false, .bool false, .bool false, .bool false, .bool false, .bool false, .bool false, .bool false, .bool false, .bool false, .bool false, .bool false, .bool false, .bool false, .bool false, .bool false, .bool false, .bool false, .bool false, .bool false, .bool false, .bool false, .bool false, .bool false, .bool false, .bool false, .bool false, .bool false, .bool false, .bool false, .bool false, .bool false, .bool false, .bool false, .bool false, .bool false, .bool false, .bool false, .bool false, .bool false, .bool false, .bool false, .bool false, .bool false, .bool false, .bool false, .bool false, .bool false, .bool false, .bool false, .bool false, .bool false, .bool false, .bool false, .bool false, .bool false, .bool false, .bool false, .bool false, .bool false, .bool false, .bool false, .bool false, .bool false, .bool false, .bool false, .bool false, .bool false, .bool false, .bool false, .bool false, .bool false, .bool false, .bool false, .bool false, .bool false, .bool false, .bool false, .bool false, .bool false, .bool false, .bool false, .bool false, .bool false, .bool false, .bool false, .bool false, .bool false, .bool false, .bool false, .bool false, .bool false, .bool false, .bool false, .bool false, .bool false, .bool false, .bool false, .bool false, .bool false, .bool false, .bool false, .bool false, .bool false, .bool false, .bool false, .bool false, .bool false, .bool false, .bool false, .bool false, .bool false, .bool false, .bool false, .bool false, .bool false, .bool false, .bool false, .bool false, .bool false, .bool false, .bool false, .bool false, .bool false, .bool false, .bool false, .bool false, .bool false, .bool false, .bool false, .bool false, .bool false, .bool false, .bool false, .bool false, .bool false, .bool false, .bool false, .bool false, .bool false, .bool false, .bool false, .bool false, .bool false, .bool false, .bool false, .bool false, .bool false, .bool false, .bool false, .bool false, .bool false, .bool false, .bool false, .bool false, .bool false, .bool false, .bool false, .bool false, .bool false, .bool false, .bool false, .bool false, .bool false, .bool false, .bool false, .bool false, .bool false, .bool false, .bool false, .bool false, .bool false, .bool false, .bool false, .bool false] := by kernel_rfl
theorem tZ_194 : Tryz.prog.cellsOf 194 = 256 := by kernel_rfl
theorem tA194 : tAgg Tryz.prog 194 256 = true := by kernel_rfl
theorem tR194 : tArr Tryz.prog 194 256 4 1 = true := by kernel_rfl
theorem tS4 : tScal Tryz.prog 4 = true := by kernel_rfl
theorem tI5 : tInt Tryz.prog 5 .u8 = true := by kernel_rfl
theorem tI21 : tInt Tryz.prog 21 .i32 = true := by kernel_rfl
theorem tF55_2 : tFld Tryz.prog 55 2 2 = true := by kernel_rfl
theorem tF55_3 : tFld Tryz.prog 55 3 3 = true := by kernel_rfl
theorem tL127 : tSl Tryz.prog 127 3 1 8 = true := by kernel_rfl
theorem tZ_3 : Tryz.prog.cellsOf 3 = 1 := by kernel_rfl
theorem tF55_4 : tFld Tryz.prog 55 4 4 = true := by kernel_rfl
theorem tF55_5 : tFld Tryz.prog 55 5 5 = true := by kernel_rfl
theorem tF55_6 : tFld Tryz.prog 55 6 6 = true := by kernel_rfl
theorem tF55_7 : tFld Tryz.prog 55 7 7 = true := by kernel_rfl
theorem tS53 : tScal Tryz.prog 53 = true := by kernel_rfl
theorem tL53 : tSl Tryz.prog 53 169 3 32 = true := by kernel_rfl
theorem tF55_8 : tFld Tryz.prog 55 8 8 = true := by kernel_rfl
theorem tF55_9 : tFld Tryz.prog 55 9 9 = true := by kernel_rfl
theorem tF55_10 : tFld Tryz.prog 55 10 10 = true := by kernel_rfl
theorem tF55_11 : tFld Tryz.prog 55 11 11 = true := by kernel_rfl
theorem tA169 : tAgg Tryz.prog 169 3 = true := by kernel_rfl
theorem tZ169 : zeroOf Tryz.prog 169 = some [.int .i64 0, .int .i64 0, .string ⟨#[]⟩] := by kernel_rfl
theorem tF169_2 : tFld Tryz.prog 169 2 2 = true := by kernel_rfl
theorem tF169_0 : tFld Tryz.prog 169 0 0 = true := by kernel_rfl
theorem tF169_1 : tFld Tryz.prog 169 1 1 = true := by kernel_rfl
theorem tL42 : tSl Tryz.prog 42 26 4 56 = true := by kernel_rfl
theorem tA26 : tAgg Tryz.prog 26 4 = true := by kernel_rfl
theorem tZ26 : zeroOf Tryz.prog 26 = some [.string ⟨#[]⟩, .int .i64 0, .slice none 0 0, .int .i64 0] := by kernel_rfl
theorem tF26_0 : tFld Tryz.prog 26 0 0 = true := by kernel_rfl
theorem tF26_1 : tFld Tryz.prog 26 1 1 = true := by kernel_rfl
theorem tA24 : tAgg Tryz.prog 24 2 = true := by kernel_rfl
theorem tZ_24 : Tryz.prog.cellsOf 24 = 2 := by kernel_rfl
theorem tF24_0 : tFld Tryz.prog 24 0 0 = true := by kernel_rfl
theorem tF24_1 : tFld Tryz.prog 24 1 1 = true := by kernel_rfl
theorem tS22 : tScal Tryz.prog 22 = true := by kernel_rfl
theorem tL22 : tSl Tryz.prog 22 28 3 24 = true := by kernel_rfl
theorem tA28 : tAgg Tryz.prog 28 3 = true := by kernel_rfl
theorem tZ28 : zeroOf Tryz.prog 28 = some [.int .i64 0, .int .i64 0, .int .i64 0] := by kernel_rfl
theorem tF28_0 : tFld Tryz.prog 28 0 0 = true := by kernel_rfl
theorem tF28_1 : tFld Tryz.prog 28 1 1 = true := by kernel_rfl
theorem tF28_2 : tFld Tryz.prog 28 2 2 = true := by kernel_rfl
theorem tF26_2 : tFld Tryz.prog 26 2 3 = true := by kernel_rfl
theorem tZ65 : zeroOf Tryz.prog 65 = some [.int .i64 0, .slice none 0 0] := by kernel_rfl
theorem tZ_65 : Tryz.prog.cellsOf 65 = 2 := by kernel_rfl
theorem tZ_129 : Tryz.prog.cellsOf 129 = 5 := by kernel_rfl
theorem tL63 : tSl Tryz.prog 63 129 5 48 = true := by kernel_rfl
theorem tZ129 : zeroOf Tryz.prog 129 = some [.bool false, .bool false, .int .i64 0, .int .i64 0, .slice none 0 0] := by kernel_rfl
theorem tPL65 : structPl Tryz.prog 65 = some [(0, 1), (1, 1)] := by kernel_rfl
theorem tHA65 : hasAll Tryz.prog 65 = true := by kernel_rfl
theorem tA65 : tAgg Tryz.prog 65 2 = true := by kernel_rfl
theorem tF65_0 : tFld Tryz.prog 65 0 0 = true := by kernel_rfl
theorem tI3 : tInt Tryz.prog 3 .i64 = true := by kernel_rfl
theorem tI189 : tInt Tryz.prog 189 .u64 = true := by kernel_rfl
theorem tPL28 : structPl Tryz.prog 28 = some [(0, 1), (1, 1), (2, 1)] := by kernel_rfl
theorem tHA28 : hasAll Tryz.prog 28 = true := by kernel_rfl
theorem tF65_1 : tFld Tryz.prog 65 1 1 = true := by kernel_rfl
theorem tS63 : tScal Tryz.prog 63 = true := by kernel_rfl
theorem tA129 : tAgg Tryz.prog 129 5 = true := by kernel_rfl
theorem tF129_4 : tFld Tryz.prog 129 4 4 = true := by kernel_rfl
theorem tS127 : tScal Tryz.prog 127 = true := by kernel_rfl
theorem tIsl127 : (match Tryz.prog.underlying 127 with | some (.slice _) => true | _ => false) = true := by kernel_rfl
theorem tF129_0 : tFld Tryz.prog 129 0 0 = true := by kernel_rfl
theorem tF129_3 : tFld Tryz.prog 129 3 3 = true := by kernel_rfl
theorem tF129_1 : tFld Tryz.prog 129 1 1 = true := by kernel_rfl
theorem tF129_2 : tFld Tryz.prog 129 2 2 = true := by kernel_rfl
theorem tR253 : tArr Tryz.prog 253 2 3 1 = true := by kernel_rfl
theorem tZ57 : zeroOf Tryz.prog 57 = some [.string ⟨#[]⟩, .int .i64 0, .bool false, .int .i64 0] := by kernel_rfl
theorem tZ_57 : Tryz.prog.cellsOf 57 = 4 := by kernel_rfl
theorem tPL57 : structPl Tryz.prog 57 = some [(0, 1), (1, 1), (2, 1), (3, 1)] := by kernel_rfl
theorem tHA57 : hasAll Tryz.prog 57 = true := by kernel_rfl
theorem tA57 : tAgg Tryz.prog 57 4 = true := by kernel_rfl
theorem tF57_0 : tFld Tryz.prog 57 0 0 = true := by kernel_rfl
theorem tF57_1 : tFld Tryz.prog 57 1 1 = true := by kernel_rfl
theorem tL187 : tSl Tryz.prog 187 9 1 16 = true := by kernel_rfl
theorem tZ_9 : Tryz.prog.cellsOf 9 = 1 := by kernel_rfl
theorem tL51 : tSl Tryz.prog 51 57 4 40 = true := by kernel_rfl
theorem tFS57 : flatSt Tryz.prog 57 [.s, .i .i64, .b, .i .i64] = true := by kernel_rfl
theorem tPL26 : structPl Tryz.prog 26 = some [(0, 1), (1, 2), (3, 1)] := by kernel_rfl
theorem tHA26 : hasAll Tryz.prog 26 = true := by kernel_rfl
theorem tF57_3 : tFld Tryz.prog 57 3 3 = true := by kernel_rfl
theorem tF57_2 : tFld Tryz.prog 57 2 2 = true := by kernel_rfl
theorem tB4 : (match Tryz.prog.underlying 4 with | some .bool => true | _ => false) = true := by kernel_rfl
theorem tPL55 : structPl Tryz.prog 55 = some [(0, 1), (1, 1), (2, 1), (3, 1), (4, 1), (5, 1), (6, 1), (7, 1), (8, 1), (9, 1), (10, 1), (11, 1)] := by kernel_rfl
theorem tHA55 : hasAll Tryz.prog 55 = true := by kernel_rfl
theorem tPL41 : structPl Tryz.prog 41 = some [(0, 1)] := by kernel_rfl
theorem tHA41 : hasAll Tryz.prog 41 = true := by kernel_rfl
theorem tZ41 : zeroOf Tryz.prog 41 = some [.slice none 0 0] := by kernel_rfl
theorem tPL24 : structPl Tryz.prog 24 = some [(0, 1), (1, 1)] := by kernel_rfl
theorem tHA24 : hasAll Tryz.prog 24 = true := by kernel_rfl
theorem tZ24 : zeroOf Tryz.prog 24 = some [.int .i64 0, .slice none 0 0] := by kernel_rfl
theorem tIsl39 : (match Tryz.prog.underlying 39 with | some (.slice _) => true | _ => false) = true := by kernel_rfl
theorem tIsl53 : (match Tryz.prog.underlying 53 with | some (.slice _) => true | _ => false) = true := by kernel_rfl
theorem tIsl42 : (match Tryz.prog.underlying 42 with | some (.slice _) => true | _ => false) = true := by kernel_rfl
theorem tIsl22 : (match Tryz.prog.underlying 22 with | some (.slice _) => true | _ => false) = true := by kernel_rfl
theorem tPL114 : structPl Tryz.prog 114 = some [(0, 1), (1, 1), (2, 1), (3, 2), (5, 1), (6, 1)] := by kernel_rfl
theorem tHA114 : hasAll Tryz.prog 114 = true := by kernel_rfl
theorem tZ114 : zeroOf Tryz.prog 114 = some [.slice none 0 0, .slice none 0 0, .int .i64 0, .int .i64 0, .slice none 0 0, .slice none 0 0, .slice none 0 0] := by kernel_rfl
theorem tA114 : tAgg Tryz.prog 114 7 = true := by kernel_rfl
theorem tZ_114 : Tryz.prog.cellsOf 114 = 7 := by kernel_rfl
theorem tZ_137 : Tryz.prog.cellsOf 137 = 2 := by kernel_rfl
theorem tF114_3 : tFld Tryz.prog 114 3 3 = true := by kernel_rfl
theorem tF114_0 : tFld Tryz.prog 114 0 0 = true := by kernel_rfl
theorem tF114_1 : tFld Tryz.prog 114 1 1 = true := by kernel_rfl
theorem tF114_2 : tFld Tryz.prog 114 2 2 = true := by kernel_rfl
theorem tF114_4 : tFld Tryz.prog 114 4 5 = true := by kernel_rfl
theorem tS111 : tScal Tryz.prog 111 = true := by kernel_rfl
theorem tL111 : tSl Tryz.prog 111 65 2 32 = true := by kernel_rfl
theorem tIsl63 : (match Tryz.prog.underlying 63 with | some (.slice _) => true | _ => false) = true := by kernel_rfl
def gl0 : Gl := ⟨1, [(0, (Go.Lib.pow10Tab.map fun z => Value.int .u64 z).toArray)]⟩
def R169 (x : api_Zone) : List AV := [.int .i64 x.From, .int .i64 x.To, .str x.Name]
def R55 (x : api_Instrument) : List AV := [.int .i64 x.Kind, .str x.Name, .str x.Track, .int .i64 x.Places, .int .i64 x.Low, .int .i64 x.High, .int .i64 x.Steps, .sl 169 (List.map R169 x.Zones), .int .i64 x.Op, .int .i64 x.N, .bool x.Latch, .int .i64 x.Size]
def R28 (x : api_Sample) : List AV := [.int .i64 x.At, .int .i64 x.N, .int .i64 x.Mark]
def R26 (x : api_Track) : List AV := [.str x.Name, .int .i64 x.Series.Den, .sl 28 (List.map R28 x.Series.Samples), .int .i64 x.Long]
def R42 (x : List api_Track) : List AV := [.sl 26 (List.map R26 x)]
def C4 (x : Bool) : AV := .bool x
def R3 (x : Int) : List AV := [.int .i64 x]
def R129 (x : api_Memo) : List AV := [.bool x.Lit, .bool x.Some, .int .i64 x.N, .int .i64 x.Count, .sl 3 (List.map R3 x.Tape)]
theorem D129 (x : api_Memo) : (R129 x).length = Tryz.prog.cellsOf 129 ∧ (R129 x).all datB = true := ⟨tZ_129.symm, rfl⟩
theorem D3 (x : Int) : (R3 x).length = Tryz.prog.cellsOf 3 ∧ (R3 x).all datB = true := ⟨tZ_3.symm, rfl⟩
def R9 (x : Str) : List AV := [.str x]
theorem D9 (x : Str) : (R9 x).length = Tryz.prog.cellsOf 9 ∧ (R9 x).all datB = true := ⟨tZ_9.symm, rfl⟩
def R57 (x : api_Face) : List AV := [.str x.Text, .int .i64 x.Needle, .bool x.Lit, .int .i64 x.Mark]
theorem D57 (x : api_Face) : (R57 x).length = Tryz.prog.cellsOf 57 ∧ (R57 x).all datB = true := ⟨tZ_57.symm, rfl⟩
theorem D55 (x : api_Instrument) : (R55 x).length = Tryz.prog.cellsOf 55 ∧ (R55 x).all datB = true := ⟨tZ_55.symm, rfl⟩
theorem D169 (x : api_Zone) : (R169 x).length = Tryz.prog.cellsOf 169 ∧ (R169 x).all datB = true := ⟨tZ_169.symm, rfl⟩
theorem D26 (x : api_Track) : (R26 x).length = Tryz.prog.cellsOf 26 ∧ (R26 x).all datB = true := ⟨tZ_26.symm, rfl⟩
theorem D28 (x : api_Sample) : (R28 x).length = Tryz.prog.cellsOf 28 ∧ (R28 x).all datB = true := ⟨tZ_28.symm, rfl⟩
def R65 (x : api_PanelState) : List AV := [.int .i64 x.Frame, .sl 129 (List.map R129 x.Memos)]
def R137 (x : api_Bookmark) : List AV := [.int .i64 x.Frame, .str x.Text]
theorem D65 (x : api_PanelState) : (R65 x).length = Tryz.prog.cellsOf 65 ∧ (R65 x).all datB = true := ⟨tZ_65.symm, rfl⟩
theorem D137 (x : api_Bookmark) : (R137 x).length = Tryz.prog.cellsOf 137 ∧ (R137 x).all datB = true := ⟨tZ_137.symm, rfl⟩

theorem ok_panel_within {n : Int} {low : Int} {high : Int} {r : Bool} (h : panel_within n low high = some r) :
  CSpec Tryz.prog gl0 59 [.int .i64 n, .int .i64 low, .int .i64 high] (.bool r) := by
 unfold panel_within at h
 replace h := bnd0 h
 refine spec_of (by kernel_rfl) Tryz.func59 rfl rfl ?_
 intro w0 A
 refine T_seq (T_reg ?_)
 refine R_q _ rfl (v_assign (ov rfl)) ?_
 refine R_nil ?_
 refine T_seq (T_reg ?_)
 refine R_q _ rfl (v_move (ov rfl)) ?_
 refine R_q _ rfl (v_move (ov rfl)) ?_
 refine R_q _ rfl (v_geq (ov rfl) (ov rfl)) ?_
 refine R_q _ rfl (v_move (ov rfl)) ?_
 refine R_q _ rfl (.guarded ((decide (low ≤ n)) == true) rfl rfl rfl rfl fun h => v_move (ov rfl)) ?_
 refine R_q _ rfl (.guarded ((decide (low ≤ n)) == true) rfl rfl rfl rfl fun h => v_move (ov rfl)) ?_
 refine R_q _ rfl (.guarded ((decide (low ≤ n)) == true) rfl rfl rfl rfl fun h => v_leq (ow rfl h) (ow rfl h)) ?_
 refine R_q _ rfl (v_and (ov rfl) (fun hp => ow rfl (gT hp))) ?_
 refine R_q _ rfl (v_assign (ov rfl)) ?_
 refine R_nil ?_
 obtain rfl := rt (v := ((decide (low ≤ n)) && (decide (n ≤ high)))) h
 refine T_ret (retq ?_ (.one (.tmp rfl (Dat.view (.b rfl)))))
 rfl

theorem ok_strings_trimRightByte {s : Str} {c_ : Int} {r : Str} (h : strings_trimRightByte s c_ = some r) :
  CSpec Tryz.prog gl0 169 [.str s, .int .u8 c_] (.str r) := by
 unfold strings_trimRightByte at h
 replace h := bnd0 h
 refine spec_of (by kernel_rfl) Tryz.func169 rfl rfl ?_
 intro w0 A
 refine T_seq (T_reg ?_)
 refine R_q _ rfl (v_assign (ov rfl)) ?_
 refine R_nil ?_
 refine T_joinG id (t1 fun s2 => ⟨[(0, .str s2)], []⟩) h (fun h => ?_) (fun j h => ?_)
 ·
  refine T_block ?_
  obtain ⟨r1, hl1, ho1⟩ := bndL h
  refine T_loopG _ (t1 fun s3 => ⟨[(0, .str s3), (1, .int .u8 c_)], []⟩) _ hl1 (Ent.sel [] (sd 0 rfl rfl <| sd 1 rfl rfl <| sn) (.nil) rfl rfl) (fun n1 s1 h => ?_)
  obtain ⟨s3, rfl⟩ : ∃ x, x = s1 := ⟨_, rfl⟩
  replace h := t1i h
  refine t1T ?_
  unfold strings_trimRightByte_L1 at h
  refine T_seq ?_
  refine T_seq (T_reg ?_)
  refine R_q _ rfl (v_move (ov rfl)) ?_
  refine R_q _ rfl (v_lenStr (ov rfl) tStr9 rfl) ?_
  refine R_q _ rfl (v_gtr (ov rfl) (ov rfl)) ?_
  refine R_q _ rfl (v_move (ov rfl)) ?_
  refine R_q _ rfl (.guarded ((decide (0 < (s3.length : Int))) == true) rfl rfl rfl rfl fun h => v_move (ov rfl)) ?_
  refine R_q _ rfl (.guarded ((decide (0 < (s3.length : Int))) == true) rfl rfl rfl rfl fun h => v_move (ov rfl)) ?_
  refine R_q _ rfl (.guarded ((decide (0 < (s3.length : Int))) == true) rfl rfl rfl rfl fun h => v_lenStr (ow rfl h) tStr9 rfl) ?_
  refine R_q _ rfl (.guarded ((decide (0 < (s3.length : Int))) == true) rfl rfl rfl rfl fun h => v_sub (ow rfl h) (ov rfl) rfl) ?_
  obtain ⟨b, h_b, h⟩ := bnd h
  refine R_q _ rfl (.guarded ((decide (0 < (s3.length : Int))) == true) rfl rfl rfl rfl fun h => v_idxStr (ow rfl h) (ow rfl h) tStr9 (gdT h_b h)) ?_
  refine R_q _ rfl (.guarded ((decide (0 < (s3.length : Int))) == true) rfl rfl rfl rfl fun h => v_move (ov rfl)) ?_
  refine R_q _ rfl (.guarded ((decide (0 < (s3.length : Int))) == true) rfl rfl rfl rfl fun h => v_eql (ow rfl h) (ow rfl h)) ?_
  refine R_q _ rfl (v_and (ov rfl) (fun hp => ow rfl (gT hp))) ?_
  refine R_nil ?_
  refine T_keep (kc 0 rfl <| kc 1 rfl <| kc 16 rfl <| kn) rfl ?_
  refine T_if h rfl (fun b16 h => ?_) (fun b16 h => ?_)
  ·
   refine T_skip ?_
   refine T_block ?_
   refine T_keep (kc 0 rfl <| kc 1 rfl <| kn) rfl ?_
   refine T_reg ?_
   refine R_q _ rfl (v_move (ov rfl)) ?_
   refine R_q _ rfl (v_move (ov rfl)) ?_
   refine R_q _ rfl (v_lenStr (ov rfl) tStr9 rfl) ?_
   refine R_q _ rfl (v_sub (ov rfl) (ov rfl) rfl) ?_
   obtain ⟨s4, h_s4, h⟩ := bnd h
   refine R_q _ rfl (v_sliceStrG (ov rfl) tStr9 on (oi (ov rfl)) h_s4) ?_
   refine R_q _ rfl (v_assign (ov rfl)) ?_
   refine R_nil ?_
   exact ⟨s4, h, Ent.sel [] (sd 0 rfl rfl <| sd 1 rfl rfl <| sn) (.nil) rfl rfl⟩
  ·
   refine T_exit ?_
   rw [lx h] at ho1
   replace h := ho1
   exact ⟨s3, h, Ent.sel [] (sd 0 rfl rfl <| sn) (.nil) rfl rfl⟩
 ·
  obtain ⟨s2, rfl⟩ : ∃ x, x = j := ⟨_, rfl⟩
  replace h := t1i h
  refine t1T ?_
  refine T_seq (T_reg ?_)
  refine R_q _ rfl (v_move (ov rfl)) ?_
  refine R_q _ rfl (v_assign (ov rfl)) ?_
  refine R_nil ?_
  obtain rfl := rt (v := s2) h
  refine T_ret (retq ?_ (.one (.tmp rfl (Dat.view (.b rfl)))))
  rfl

theorem ok_strings_trimLeftByte {s : Str} {c_ : Int} {r : Str} (h : strings_trimLeftByte s c_ = some r) :
  CSpec Tryz.prog gl0 168 [.str s, .int .u8 c_] (.str r) := by
 unfold strings_trimLeftByte at h
 replace h := bnd0 h
 refine spec_of (by kernel_rfl) Tryz.func168 rfl rfl ?_
 intro w0 A
 refine T_seq (T_reg ?_)
 refine R_q _ rfl (v_assign (ov rfl)) ?_
 refine R_nil ?_
 refine T_joinG id (t1 fun s2 => ⟨[(0, .str s2)], []⟩) h (fun h => ?_) (fun j h => ?_)
 ·
  refine T_block ?_
  obtain ⟨r1, hl1, ho1⟩ := bndL h
  refine T_loopG _ (t1 fun s3 => ⟨[(0, .str s3), (1, .int .u8 c_)], []⟩) _ hl1 (Ent.sel [] (sd 0 rfl rfl <| sd 1 rfl rfl <| sn) (.nil) rfl rfl) (fun n1 s1 h => ?_)
  obtain ⟨s3, rfl⟩ : ∃ x, x = s1 := ⟨_, rfl⟩
  replace h := t1i h
  refine t1T ?_
  unfold strings_trimLeftByte_L1 at h
  refine T_seq ?_
  refine T_seq (T_reg ?_)
  refine R_q _ rfl (v_move (ov rfl)) ?_
  refine R_q _ rfl (v_lenStr (ov rfl) tStr9 rfl) ?_
  refine R_q _ rfl (v_gtr (ov rfl) (ov rfl)) ?_
  refine R_q _ rfl (v_move (ov rfl)) ?_
  refine R_q _ rfl (.guarded ((decide (0 < (s3.length : Int))) == true) rfl rfl rfl rfl fun h => v_move (ov rfl)) ?_
  obtain ⟨b, h_b, h⟩ := bnd h
  refine R_q _ rfl (.guarded ((decide (0 < (s3.length : Int))) == true) rfl rfl rfl rfl fun h => v_idxStr (ow rfl h) (ov rfl) tStr9 (gdT h_b h)) ?_
  refine R_q _ rfl (.guarded ((decide (0 < (s3.length : Int))) == true) rfl rfl rfl rfl fun h => v_move (ov rfl)) ?_
  refine R_q _ rfl (.guarded ((decide (0 < (s3.length : Int))) == true) rfl rfl rfl rfl fun h => v_eql (ow rfl h) (ow rfl h)) ?_
  refine R_q _ rfl (v_and (ov rfl) (fun hp => ow rfl (gT hp))) ?_
  refine R_nil ?_
  refine T_keep (kc 0 rfl <| kc 1 rfl <| kc 13 rfl <| kn) rfl ?_
  refine T_if h rfl (fun b13 h => ?_) (fun b13 h => ?_)
  ·
   refine T_skip ?_
   refine T_block ?_
   refine T_keep (kc 0 rfl <| kc 1 rfl <| kn) rfl ?_
   refine T_reg ?_
   refine R_q _ rfl (v_move (ov rfl)) ?_
   obtain ⟨s4, h_s4, h⟩ := bnd h
   refine R_q _ rfl (v_sliceStrG (ov rfl) tStr9 (oi (ov rfl)) on h_s4) ?_
   refine R_q _ rfl (v_assign (ov rfl)) ?_
   refine R_nil ?_
   exact ⟨s4, h, Ent.sel [] (sd 0 rfl rfl <| sd 1 rfl rfl <| sn) (.nil) rfl rfl⟩
  ·
   refine T_exit ?_
   rw [lx h] at ho1
   replace h := ho1
   exact ⟨s3, h, Ent.sel [] (sd 0 rfl rfl <| sn) (.nil) rfl rfl⟩
 ·
  obtain ⟨s2, rfl⟩ : ∃ x, x = j := ⟨_, rfl⟩
  replace h := t1i h
  refine t1T ?_
  refine T_seq (T_reg ?_)
  refine R_q _ rfl (v_move (ov rfl)) ?_
  refine R_q _ rfl (v_assign (ov rfl)) ?_
  refine R_nil ?_
  obtain rfl := rt (v := s2) h
  refine T_ret (retq ?_ (.one (.tmp rfl (Dat.view (.b rfl)))))
  rfl

theorem ok_strings_makeASCIISet {chars : Str} {r : (Vector Bool 256) × Bool} (h : strings_makeASCIISet chars = some r) :
  CSpec Tryz.prog gl0 170 [.str chars] (.tuple [.agg (List.map C4 r.1.toList), .bool r.2]) := by
 unfold strings_makeASCIISet at h
 replace h := bnd0 h
 refine spec_of (by kernel_rfl) Tryz.func170 rfl rfl ?_
 intro w0 A
 refine T_seq (T_reg ?_)
 refine R_w _ _ rfl (w_alloc (row := (List.map C4 (Vector.replicate 256 false).toList)) 0 rfl tZ194 rfl tZ_194) ?_
 refine R_q _ rfl (v_assign (ov rfl)) ?_
 refine R_nil ?_
 refine T_joinG (fun j => (.inr j)) (t1 fun as_ => ⟨[(2, .ptr 0 1 0 0)], [some ⟨194, [(List.map C4 as_.toList)]⟩]⟩) h (fun h => ?_) (fun j h => ?_)
 ·
  refine T_keep (kc 0 rfl <| kc 2 rfl <| kn) rfl ?_
  refine T_seq (T_reg ?_)
  refine R_q _ rfl (v_assign (ov rfl)) ?_
  refine R_nil ?_
  refine T_block ?_
  obtain ⟨r1, hl1, ho1⟩ := bndL h
  refine T_loopG _ (t2 fun as_2 i => ⟨[(0, .str chars), (2, .ptr 0 1 0 0), (4, .int .i64 i)], [some ⟨194, [(List.map C4 as_2.toList)]⟩]⟩) _ hl1 (Ent.sel [some 0] (sd 0 rfl rfl <| sr 2 rfl (.ptr _ _ _ rfl) <| sd 4 rfl rfl <| sn) (.cons rfl (ro1 (arL.trans tZ_194.symm) (rld (arD fun _ => rfl))) <| .nil) rfl rfl) (fun n1 s1 h => ?_)
  obtain ⟨as_2, i⟩ := s1
  replace h := t2i h
  refine t2T ?_
  unfold strings_makeASCIISet_L1 at h
  refine T_seq ?_
  refine T_seq (T_reg ?_)
  refine R_q _ rfl (v_move (ov rfl)) ?_
  refine R_q _ rfl (v_move (ov rfl)) ?_
  refine R_q _ rfl (v_lenStr (ov rfl) tStr9 rfl) ?_
  refine R_q _ rfl (v_lss (ov rfl) (ov rfl)) ?_
  refine R_nil ?_
  refine T_keep (kc 0 rfl <| kc 2 rfl <| kc 4 rfl <| kc 9 rfl <| kn) rfl ?_
  refine T_if h rfl (fun b9 h => ?_) (fun b9 h => ?_)
  ·
   refine T_skip ?_
   refine T_seq ?_
   refine T_block ?_
   refine T_keep (kc 0 rfl <| kc 2 rfl <| kc 4 rfl <| kn) rfl ?_
   refine T_seq (T_reg ?_)
   refine R_q _ rfl (v_move (ov rfl)) ?_
   refine R_q _ rfl (v_move (ov rfl)) ?_
   obtain ⟨b, h_b, h⟩ := bnd h
   refine R_q _ rfl (v_idxStr (ov rfl) (ov rfl) tStr9 h_b) ?_
   refine R_q _ rfl (v_assign (ov rfl)) ?_
   refine R_nil ?_
   refine T_seq ?_
   refine T_keep (kc 0 rfl <| kc 2 rfl <| kc 4 rfl <| kc 5 rfl <| kn) rfl ?_
   refine T_seq (T_reg ?_)
   refine R_q _ rfl (v_move (ov rfl)) ?_
   refine R_q _ rfl (v_geq (ov rfl) (ov rfl)) ?_
   refine R_nil ?_
   refine T_keep (kc 0 rfl <| kc 2 rfl <| kc 4 rfl <| kc 5 rfl <| kc 16 rfl <| kn) rfl ?_
   refine T_if h rfl (fun b16 h => ?_) (fun b16 h => ?_)
   ·
    refine T_keep (kc 2 rfl <| kn) rfl ?_
    refine T_seq (T_reg ?_)
    refine R_q _ rfl (v_loadA (ov rfl) rfl rfl rfl tA194 arW arL) ?_
    refine R_w _ _ rfl (w_store (ov rfl) (ov rfl) (cells_agg tA194 arL) rfl rfl rfl (Nat.le_of_eq (by simp)) (cell1_all (arC fun _ => rfl)) (arWhole (by simp))) ?_
    refine R_q _ rfl (v_assign (ov rfl)) ?_
    refine R_nil ?_
    rw [lx h] at ho1
    replace h := ho1
    obtain rfl := rt (v := (as_2, false)) h
    refine T_ret (retq ?_ (.two (.agg rfl rfl rfl rfl tA194 arW arL (pwB (arD fun _ => rfl))) (.tmp rfl (Dat.view (.b rfl)))))
    rfl
   ·
    refine T_skip ?_
    refine T_keep (kc 0 rfl <| kc 2 rfl <| kc 4 rfl <| kc 5 rfl <| kn) rfl ?_
    refine T_reg ?_
    refine R_q _ rfl (v_move (ov rfl)) ?_
    obtain ⟨x, h_x, h⟩ := bnd h
    refine R_q _ rfl (v_ixAG (ov rfl) (ov rfl) tR194 rfl rfl h_x) ?_
    refine R_w _ _ rfl (w_store (ov rfl) (ov rfl) (cells_scal tS4) rfl rfl rfl (arB h_x) (cell1_all rfl) (arS h_x)) ?_
    refine R_nil ?_
    refine T_keep (kc 0 rfl <| kc 2 rfl <| kc 4 rfl <| kn) rfl ?_
    refine T_reg ?_
    refine R_q _ rfl (v_move (ov rfl)) ?_
    refine R_q _ rfl (v_add (ov rfl) (ov rfl) rfl) ?_
    refine R_q _ rfl (v_assign (ov rfl)) ?_
    refine R_nil ?_
    exact ⟨((vset as_2 b true), (i64 (i + 1))), h, Ent.sel [some 0] (sd 0 rfl rfl <| sr 2 rfl (.ptr _ _ _ rfl) <| sd 4 rfl rfl <| sn) (.cons rfl (ro1 (arL.trans tZ_194.symm) (rld (arD fun _ => rfl))) <| .nil) rfl rfl⟩
  ·
   refine T_exit ?_
   rw [lx h] at ho1
   replace h := ho1
   exact ⟨as_2, h, Ent.sel [some 0] (sr 2 rfl (.ptr _ _ _ rfl) <| sn) (.cons rfl (ro1 (arL.trans tZ_194.symm) (rld (arD fun _ => rfl))) <| .nil) rfl rfl⟩
 ·
  replace h := elr h
  obtain ⟨as_, rfl⟩ : ∃ x, x = j := ⟨_, rfl⟩
  replace h := t1i h
  refine t1T ?_
  refine T_seq (T_reg ?_)
  refine R_q _ rfl (v_loadA (ov rfl) rfl rfl rfl tA194 arW arL) ?_
  refine R_w _ _ rfl (w_store (ov rfl) (ov rfl) (cells_agg tA194 arL) rfl rfl rfl (Nat.le_of_eq (by simp)) (cell1_all (arC fun _ => rfl)) (arWhole (by simp))) ?_
  refine R_q _ rfl (v_assign (ov rfl)) ?_
  refine R_nil ?_
  obtain rfl := rt (v := (as_, true)) h
  refine T_ret (retq ?_ (.two (.agg rfl rfl rfl rfl tA194 arW arL (pwB (arD fun _ => rfl))) (.tmp rfl (Dat.view (.b rfl)))))
  rfl

theorem ok_strings_asciiSet_contains_w {as_ : Vector Bool 256} {c_ : Int} {r : Bool} (h : strings_asciiSet_contains as_ c_ = some r) :
  GSpec Tryz.prog gl0 189 [.ptr 0 1 0 0, .int .u8 c_] [some ⟨194, [(List.map C4 as_.toList)]⟩] (.bool r) [some ⟨194, [(List.map C4 as_.toList)]⟩] := by
 unfold strings_asciiSet_contains at h
 replace h := bnd0 h
 refine gspec_of (by kernel_rfl) Tryz.func189 rfl rfl ?_
 intro w0 A W φ0
 refine T_seq (T_reg ?_)
 refine R_q _ rfl (v_assign (ov rfl)) ?_
 refine R_nil ?_
 refine T_seq (T_reg ?_)
 refine R_q _ rfl (v_move (ov rfl)) ?_
 refine R_q _ rfl (v_move (ov rfl)) ?_
 refine R_q _ rfl (v_nilCheckP (ov rfl) rfl rfl) ?_
 obtain ⟨x, h_x, h⟩ := bnd h
 refine R_q _ rfl (v_ixAG (ov rfl) (ov rfl) tR194 rfl rfl h_x) ?_
 refine R_q _ rfl (v_loadS (ov rfl) rfl rfl rfl tS4 (arG h_x)) ?_
 refine R_q _ rfl (v_assign (ov rfl)) ?_
 refine R_nil ?_
 obtain rfl := rt (v := x) h
 refine T_ret ?_
 exact retg [some 0] rfl (.cons (.tmp rfl) <| .nil) (.cons rfl (ro1 (arL.trans tZ_194.symm) (rld (arD fun _ => rfl))) <| .nil) rfl rfl (.dat rfl)

theorem ok_strings_trimRightASCII_w {s : Str} {as_ : Vector Bool 256} {r : Str} (h : strings_trimRightASCII s as_ = some r) :
  GSpec Tryz.prog gl0 172 [.str s, .ptr 0 1 0 0] [some ⟨194, [(List.map C4 as_.toList)]⟩] (.str r) [some ⟨194, [(List.map C4 as_.toList)]⟩] := by
 unfold strings_trimRightASCII at h
 replace h := bnd0 h
 refine gspec_of (by kernel_rfl) Tryz.func172 rfl rfl ?_
 intro w0 A W φ0
 refine T_seq (T_reg ?_)
 refine R_q _ rfl (v_assign (ov rfl)) ?_
 refine R_nil ?_
 refine T_joinG id (t1 fun s2 => ⟨[(0, .str s2)], [some ⟨194, [(List.map C4 as_.toList)]⟩]⟩) h (fun h => ?_) (fun j h => ?_)
 ·
  refine T_block ?_
  obtain ⟨r1, hl1, ho1⟩ := bndL h
  refine T_loopG _ (t1 fun s3 => ⟨[(0, .str s3), (1, .ptr 0 1 0 0)], [some ⟨194, [(List.map C4 as_.toList)]⟩]⟩) _ hl1 (Ent.sel [some 0] (sd 0 rfl rfl <| sr 1 rfl (.ptr _ _ _ rfl) <| sn) (.cons rfl (ro1 (arL.trans tZ_194.symm) (rld (arD fun _ => rfl))) <| .nil) rfl rfl) (fun n1 s1 h => ?_)
  obtain ⟨s3, rfl⟩ : ∃ x, x = s1 := ⟨_, rfl⟩
  replace h := t1i h
  refine t1T ?_
  unfold strings_trimRightASCII_L1 at h
  refine T_seq ?_
  refine T_seq (T_reg ?_)
  refine R_q _ rfl (v_move (ov rfl)) ?_
  refine R_q _ rfl (v_lenStr (ov rfl) tStr9 rfl) ?_
  refine R_q _ rfl (v_gtr (ov rfl) (ov rfl)) ?_
  refine R_nil ?_
  refine T_keep (kc 0 rfl <| kc 1 rfl <| kc 7 rfl <| kn) rfl ?_
  refine T_if h rfl (fun b7 h => ?_) (fun b7 h => ?_)
  ·
   refine T_skip ?_
   refine T_block ?_
   refine T_seq ?_
   refine T_keep (kc 0 rfl <| kc 1 rfl <| kn) rfl ?_
   refine T_seq (T_reg ?_)
   refine R_q _ rfl (v_move (ov rfl)) ?_
   refine R_q _ rfl (v_move (ov rfl)) ?_
   refine R_q _ rfl (v_move (ov rfl)) ?_
   refine R_q _ rfl (v_lenStr (ov rfl) tStr9 rfl) ?_
   refine R_q _ rfl (v_sub (ov rfl) (ov rfl) rfl) ?_
   obtain ⟨b, h_b, h⟩ := bnd h
   refine R_q _ rfl (v_idxStr (ov rfl) (ov rfl) tStr9 h_b) ?_
   obtain ⟨y, h_y, h⟩ := bnd h
   refine R_w _ _ rfl (w_callG [0] (ok_strings_asciiSet_contains_w h_y) (.cons (ov rfl) (.ptr _ _ _ rfl) <| .cons (ov rfl) (.dat rfl) <| .nil) (.cons rfl (ro1 (arL.trans tZ_194.symm) (rld (arD fun _ => rfl))) <| .nil) rfl (.lent 0 (.inl rfl) rfl (ro1 (arL.trans tZ_194.symm) (rld (arD fun _ => rfl))) <| .nil) rfl rfl (.dat rfl)) ?_
   refine R_q _ rfl (v_not (ov rfl)) ?_
   refine R_nil ?_
   refine T_keep (kc 0 rfl <| kc 1 rfl <| kc 15 rfl <| kn) rfl ?_
   refine T_if h rfl (fun b15 h => ?_) (fun b15 h => ?_)
   ·
    refine T_exit ?_
    rw [lx h] at ho1
    replace h := ho1
    exact ⟨s3, h, Ent.sel [some 0] (sd 0 rfl rfl <| sn) (.cons rfl (ro1 (arL.trans tZ_194.symm) (rld (arD fun _ => rfl))) <| .nil) rfl rfl⟩
   ·
    refine T_skip ?_
    refine T_keep (kc 0 rfl <| kc 1 rfl <| kn) rfl ?_
    refine T_reg ?_
    refine R_q _ rfl (v_move (ov rfl)) ?_
    refine R_q _ rfl (v_move (ov rfl)) ?_
    refine R_q _ rfl (v_lenStr (ov rfl) tStr9 rfl) ?_
    refine R_q _ rfl (v_sub (ov rfl) (ov rfl) rfl) ?_
    obtain ⟨s4, h_s4, h⟩ := bnd h
    refine R_q _ rfl (v_sliceStrG (ov rfl) tStr9 on (oi (ov rfl)) h_s4) ?_
    refine R_q _ rfl (v_assign (ov rfl)) ?_
    refine R_nil ?_
    exact ⟨s4, h, Ent.sel [some 0] (sd 0 rfl rfl <| sr 1 rfl (.ptr _ _ _ rfl) <| sn) (.cons rfl (ro1 (arL.trans tZ_194.symm) (rld (arD fun _ => rfl))) <| .nil) rfl rfl⟩
  ·
   refine T_exit ?_
   rw [lx h] at ho1
   replace h := ho1
   exact ⟨s3, h, Ent.sel [some 0] (sd 0 rfl rfl <| sn) (.cons rfl (ro1 (arL.trans tZ_194.symm) (rld (arD fun _ => rfl))) <| .nil) rfl rfl⟩
 ·
  obtain ⟨s2, rfl⟩ : ∃ x, x = j := ⟨_, rfl⟩
  replace h := t1i h
  refine t1T ?_
  refine T_seq (T_reg ?_)
  refine R_q _ rfl (v_move (ov rfl)) ?_
  refine R_q _ rfl (v_assign (ov rfl)) ?_
  refine R_nil ?_
  obtain rfl := rt (v := s2) h
  refine T_ret ?_
  exact retg [some 0] rfl (.cons (.tmp rfl) <| .nil) (.cons rfl (ro1 (arL.trans tZ_194.symm) (rld (arD fun _ => rfl))) <| .nil) rfl rfl (.dat rfl)

theorem ok_strings_trimLeftASCII_w {s : Str} {as_ : Vector Bool 256} {r : Str} (h : strings_trimLeftASCII s as_ = some r) :
  GSpec Tryz.prog gl0 171 [.str s, .ptr 0 1 0 0] [some ⟨194, [(List.map C4 as_.toList)]⟩] (.str r) [some ⟨194, [(List.map C4 as_.toList)]⟩] := by
 unfold strings_trimLeftASCII at h
 replace h := bnd0 h
 refine gspec_of (by kernel_rfl) Tryz.func171 rfl rfl ?_
 intro w0 A W φ0
 refine T_seq (T_reg ?_)
 refine R_q _ rfl (v_assign (ov rfl)) ?_
 refine R_nil ?_
 refine T_joinG id (t1 fun s2 => ⟨[(0, .str s2)], [some ⟨194, [(List.map C4 as_.toList)]⟩]⟩) h (fun h => ?_) (fun j h => ?_)
 ·
  refine T_block ?_
  obtain ⟨r1, hl1, ho1⟩ := bndL h
  refine T_loopG _ (t1 fun s3 => ⟨[(0, .str s3), (1, .ptr 0 1 0 0)], [some ⟨194, [(List.map C4 as_.toList)]⟩]⟩) _ hl1 (Ent.sel [some 0] (sd 0 rfl rfl <| sr 1 rfl (.ptr _ _ _ rfl) <| sn) (.cons rfl (ro1 (arL.trans tZ_194.symm) (rld (arD fun _ => rfl))) <| .nil) rfl rfl) (fun n1 s1 h => ?_)
  obtain ⟨s3, rfl⟩ : ∃ x, x = s1 := ⟨_, rfl⟩
  replace h := t1i h
  refine t1T ?_
  unfold strings_trimLeftASCII_L1 at h
  refine T_seq ?_
  refine T_seq (T_reg ?_)
  refine R_q _ rfl (v_move (ov rfl)) ?_
  refine R_q _ rfl (v_lenStr (ov rfl) tStr9 rfl) ?_
  refine R_q _ rfl (v_gtr (ov rfl) (ov rfl)) ?_
  refine R_nil ?_
  refine T_keep (kc 0 rfl <| kc 1 rfl <| kc 7 rfl <| kn) rfl ?_
  refine T_if h rfl (fun b7 h => ?_) (fun b7 h => ?_)
  ·
   refine T_skip ?_
   refine T_block ?_
   refine T_seq ?_
   refine T_keep (kc 0 rfl <| kc 1 rfl <| kn) rfl ?_
   refine T_seq (T_reg ?_)
   refine R_q _ rfl (v_move (ov rfl)) ?_
   refine R_q _ rfl (v_move (ov rfl)) ?_
   obtain ⟨b, h_b, h⟩ := bnd h
   refine R_q _ rfl (v_idxStr (ov rfl) (ov rfl) tStr9 h_b) ?_
   obtain ⟨y, h_y, h⟩ := bnd h
   refine R_w _ _ rfl (w_callG [0] (ok_strings_asciiSet_contains_w h_y) (.cons (ov rfl) (.ptr _ _ _ rfl) <| .cons (ov rfl) (.dat rfl) <| .nil) (.cons rfl (ro1 (arL.trans tZ_194.symm) (rld (arD fun _ => rfl))) <| .nil) rfl (.lent 0 (.inl rfl) rfl (ro1 (arL.trans tZ_194.symm) (rld (arD fun _ => rfl))) <| .nil) rfl rfl (.dat rfl)) ?_
   refine R_q _ rfl (v_not (ov rfl)) ?_
   refine R_nil ?_
   refine T_keep (kc 0 rfl <| kc 1 rfl <| kc 12 rfl <| kn) rfl ?_
   refine T_if h rfl (fun b12 h => ?_) (fun b12 h => ?_)
   ·
    refine T_exit ?_
    rw [lx h] at ho1
    replace h := ho1
    exact ⟨s3, h, Ent.sel [some 0] (sd 0 rfl rfl <| sn) (.cons rfl (ro1 (arL.trans tZ_194.symm) (rld (arD fun _ => rfl))) <| .nil) rfl rfl⟩
   ·
    refine T_skip ?_
    refine T_keep (kc 0 rfl <| kc 1 rfl <| kn) rfl ?_
    refine T_reg ?_
    refine R_q _ rfl (v_move (ov rfl)) ?_
    obtain ⟨s4, h_s4, h⟩ := bnd h
    refine R_q _ rfl (v_sliceStrG (ov rfl) tStr9 (oi (ov rfl)) on h_s4) ?_
    refine R_q _ rfl (v_assign (ov rfl)) ?_
    refine R_nil ?_
    exact ⟨s4, h, Ent.sel [some 0] (sd 0 rfl rfl <| sr 1 rfl (.ptr _ _ _ rfl) <| sn) (.cons rfl (ro1 (arL.trans tZ_194.symm) (rld (arD fun _ => rfl))) <| .nil) rfl rfl⟩
  ·
   refine T_exit ?_
   rw [lx h] at ho1
   replace h := ho1
   exact ⟨s3, h, Ent.sel [some 0] (sd 0 rfl rfl <| sn) (.cons rfl (ro1 (arL.trans tZ_194.symm) (rld (arD fun _ => rfl))) <| .nil) rfl rfl⟩
 ·
  obtain ⟨s2, rfl⟩ : ∃ x, x = j := ⟨_, rfl⟩
  replace h := t1i h
  refine t1T ?_
  refine T_seq (T_reg ?_)
  refine R_q _ rfl (v_move (ov rfl)) ?_
  refine R_q _ rfl (v_assign (ov rfl)) ?_
  refine R_nil ?_
  obtain rfl := rt (v := s2) h
  refine T_ret ?_
  exact retg [some 0] rfl (.cons (.tmp rfl) <| .nil) (.cons rfl (ro1 (arL.trans tZ_194.symm) (rld (arD fun _ => rfl))) <| .nil) rfl rfl (.dat rfl)

theorem ok_utf8_RuneStart {b : Int} {r : Bool} (h : utf8_RuneStart b = some r) :
  CSpec Tryz.prog gl0 206 [.int .u8 b] (.bool r) := by
 unfold utf8_RuneStart at h
 replace h := bnd0 h
 refine spec_of (by kernel_rfl) Tryz.func206 rfl rfl ?_
 intro w0 A
 refine T_seq (T_reg ?_)
 refine R_q _ rfl (v_assign (ov rfl)) ?_
 refine R_nil ?_
 refine T_seq (T_reg ?_)
 refine R_q _ rfl (v_move (ov rfl)) ?_
 refine R_q _ rfl (v_and_ (ov rfl) (ov rfl)) ?_
 refine R_q _ rfl (v_neq (ov rfl) (ov rfl)) ?_
 refine R_q _ rfl (v_assign (ov rfl)) ?_
 refine R_nil ?_
 obtain rfl := rt (v := (!decide ((band .u8 b 192) = 128))) h
 refine T_ret (retq ?_ (.one (.tmp rfl (Dat.view (.b rfl)))))
 rfl

theorem ok_utf8_decodeRuneInStringSlow {s : Str} {r : Int × Int} (h : utf8_decodeRuneInStringSlow s = some r) :
  CSpec Tryz.prog gl0 204 [.str s] (.tuple [.int .i32 r.1, .int .i64 r.2]) := by
 unfold utf8_decodeRuneInStringSlow at h
 replace h := bnd0 h
 refine spec_of (by kernel_rfl) Tryz.func204 rfl rfl ?_
 intro w0 A
 refine T_seq (T_reg ?_)
 refine R_q _ rfl (v_assign (ov rfl)) ?_
 refine R_q _ rfl (v_assign (ov rfl)) ?_
 refine R_nil ?_
 refine T_keep (kc 0 rfl <| kn) rfl ?_
 refine T_seq (T_reg ?_)
 refine R_q _ rfl (v_move (ov rfl)) ?_
 refine R_q _ rfl (v_lenStr (ov rfl) tStr9 rfl) ?_
 refine R_q _ rfl (v_assign (ov rfl)) ?_
 refine R_nil ?_
 refine T_seq ?_
 refine T_keep (kc 0 rfl <| kc 4 rfl <| kn) rfl ?_
 refine T_seq (T_reg ?_)
 refine R_q _ rfl (v_move (ov rfl)) ?_
 refine R_q _ rfl (v_lss (ov rfl) (ov rfl)) ?_
 refine R_nil ?_
 refine T_keep (kc 0 rfl <| kc 4 rfl <| kc 16 rfl <| kn) rfl ?_
 refine T_if h rfl (fun b16 h => ?_) (fun b16 h => ?_)
 ·
  refine T_keep (kn) rfl ?_
  refine T_seq (T_reg ?_)
  refine R_q _ rfl (v_assign (ov rfl)) ?_
  refine R_q _ rfl (v_assign (ov rfl)) ?_
  refine R_nil ?_
  obtain rfl := rt (v := (65533, 0)) h
  refine T_ret (retq ?_ (.two (.tmp rfl (Dat.view (.b rfl))) (.tmp rfl (Dat.view (.b rfl)))))
  rfl
 ·
  refine T_skip ?_
  refine T_keep (kc 0 rfl <| kc 4 rfl <| kn) rfl ?_
  refine T_seq (T_reg ?_)
  refine R_q _ rfl (v_move (ov rfl)) ?_
  obtain ⟨b, h_b, h⟩ := bnd h
  refine R_q _ rfl (v_idxStr (ov rfl) (ov rfl) tStr9 h_b) ?_
  refine R_q _ rfl (v_assign (ov rfl)) ?_
  refine R_nil ?_
  exact (noneB h).elim

theorem ok_utf8_DecodeRuneInString {s : Str} {r : Int × Int} (h : utf8_DecodeRuneInString s = some r) :
  CSpec Tryz.prog gl0 190 [.str s] (.tuple [.int .i32 r.1, .int .i64 r.2]) := by
 unfold utf8_DecodeRuneInString at h
 replace h := bnd0 h
 refine spec_of (by kernel_rfl) Tryz.func190 rfl rfl ?_
 intro w0 A
 refine T_seq (T_reg ?_)
 refine R_q _ rfl (v_assign (ov rfl)) ?_
 refine R_q _ rfl (v_assign (ov rfl)) ?_
 refine R_nil ?_
 refine T_seq ?_
 refine T_keep (kc 0 rfl <| kn) rfl ?_
 refine T_seq (T_reg ?_)
 refine R_q _ rfl (v_move (ov rfl)) ?_
 refine R_q _ rfl (v_neqStr (ov rfl) (ov rfl)) ?_
 refine R_q _ rfl (v_move (ov rfl)) ?_
 refine R_q _ rfl (.guarded ((!decide (s = [])) == true) rfl rfl rfl rfl fun h => v_move (ov rfl)) ?_
 obtain ⟨b, h_b, h⟩ := bnd h
 refine R_q _ rfl (.guarded ((!decide (s = [])) == true) rfl rfl rfl rfl fun h => v_idxStr (ow rfl h) (ov rfl) tStr9 (gdT h_b h)) ?_
 refine R_q _ rfl (.guarded ((!decide (s = [])) == true) rfl rfl rfl rfl fun h => v_lss (ow rfl h) (ov rfl)) ?_
 refine R_q _ rfl (v_and (ov rfl) (fun hp => ow rfl (gT hp))) ?_
 refine R_nil ?_
 refine T_keep (kc 0 rfl <| kc 10 rfl <| kn) rfl ?_
 refine T_if h rfl (fun b10 h => ?_) (fun b10 h => ?_)
 ·
  refine T_keep (kc 0 rfl <| kn) rfl ?_
  refine T_seq (T_reg ?_)
  refine R_q _ rfl (v_move (ov rfl)) ?_
  obtain ⟨b2, h_b2, h⟩ := bnd h
  refine R_q _ rfl (v_idxStr (ov rfl) (ov rfl) tStr9 h_b2) ?_
  refine R_q _ rfl (v_conv (ov rfl) tI5 tI21 rfl) ?_
  refine R_q _ rfl (v_assign (ov rfl)) ?_
  refine R_q _ rfl (v_assign (ov rfl)) ?_
  refine R_nil ?_
  obtain rfl := rt (v := ((i32 b2), 1)) h
  refine T_ret (retq ?_ (.two (.tmp rfl (Dat.view (.b rfl))) (.tmp rfl (Dat.view (.b rfl)))))
  rfl
 ·
  refine T_keep (kc 0 rfl <| kn) rfl ?_
  refine T_reg ?_
  refine R_q _ rfl (v_move (ov rfl)) ?_
  obtain ⟨y, h_y, h⟩ := bnd h
  refine R_q _ rfl (v_call (ok_utf8_decodeRuneInStringSlow h_y) (.cons (ov rfl) (.b rfl) <| .nil)) ?_
  refine R_q _ rfl (v_move (ov rfl)) ?_
  refine R_q _ rfl (v_extract (ov rfl) rfl) ?_
  refine R_q _ rfl (v_extract (ov rfl) rfl) ?_
  refine R_q _ rfl (v_assign (ov rfl)) ?_
  refine R_q _ rfl (v_assign (ov rfl)) ?_
  refine R_nil ?_
  obtain rfl := rt (v := (y.1, y.2)) h
  refine T_ret (retq ?_ (.two (.tmp rfl (Dat.view (.b rfl))) (.tmp rfl (Dat.view (.b rfl)))))
  rfl

theorem ok_utf8_DecodeLastRuneInString {s : Str} {r : Int × Int} (h : utf8_DecodeLastRuneInString s = some r) :
  CSpec Tryz.prog gl0 192 [.str s] (.tuple [.int .i32 r.1, .int .i64 r.2]) := by
 unfold utf8_DecodeLastRuneInString at h
 replace h := bnd0 h
 refine spec_of (by kernel_rfl) Tryz.func192 rfl rfl ?_
 intro w0 A
 refine T_seq (T_reg ?_)
 refine R_q _ rfl (v_assign (ov rfl)) ?_
 refine R_q _ rfl (v_assign (ov rfl)) ?_
 refine R_nil ?_
 refine T_keep (kc 0 rfl <| kn) rfl ?_
 refine T_seq (T_reg ?_)
 refine R_q _ rfl (v_move (ov rfl)) ?_
 refine R_q _ rfl (v_lenStr (ov rfl) tStr9 rfl) ?_
 refine R_q _ rfl (v_assign (ov rfl)) ?_
 refine R_nil ?_
 refine T_seq ?_
 refine T_keep (kc 0 rfl <| kc 4 rfl <| kn) rfl ?_
 refine T_seq (T_reg ?_)
 refine R_q _ rfl (v_move (ov rfl)) ?_
 refine R_q _ rfl (v_eql (ov rfl) (ov rfl)) ?_
 refine R_nil ?_
 refine T_keep (kc 0 rfl <| kc 4 rfl <| kc 10 rfl <| kn) rfl ?_
 refine T_if h rfl (fun b10 h => ?_) (fun b10 h => ?_)
 ·
  refine T_keep (kn) rfl ?_
  refine T_seq (T_reg ?_)
  refine R_q _ rfl (v_assign (ov rfl)) ?_
  refine R_q _ rfl (v_assign (ov rfl)) ?_
  refine R_nil ?_
  obtain rfl := rt (v := (65533, 0)) h
  refine T_ret (retq ?_ (.two (.tmp rfl (Dat.view (.b rfl))) (.tmp rfl (Dat.view (.b rfl)))))
  rfl
 ·
  refine T_skip ?_
  refine T_keep (kc 0 rfl <| kc 4 rfl <| kn) rfl ?_
  refine T_seq (T_reg ?_)
  refine R_q _ rfl (v_move (ov rfl)) ?_
  refine R_q _ rfl (v_sub (ov rfl) (ov rfl) rfl) ?_
  refine R_q _ rfl (v_assign (ov rfl)) ?_
  refine R_nil ?_
  refine T_keep (kc 0 rfl <| kc 4 rfl <| kc 5 rfl <| kn) rfl ?_
  refine T_seq (T_reg ?_)
  refine R_q _ rfl (v_move (ov rfl)) ?_
  refine R_q _ rfl (v_move (ov rfl)) ?_
  obtain ⟨b, h_b, h⟩ := bnd h
  refine R_q _ rfl (v_idxStr (ov rfl) (ov rfl) tStr9 h_b) ?_
  refine R_q _ rfl (v_conv (ov rfl) tI5 tI21 rfl) ?_
  refine R_q _ rfl (v_assign (ov rfl)) ?_
  refine R_nil ?_
  refine T_seq ?_
  refine T_keep (kc 0 rfl <| kc 2 rfl <| kc 4 rfl <| kc 5 rfl <| kn) rfl ?_
  refine T_seq (T_reg ?_)
  refine R_q _ rfl (v_move (ov rfl)) ?_
  refine R_q _ rfl (v_lss (ov rfl) (ov rfl)) ?_
  refine R_nil ?_
  refine T_keep (kc 0 rfl <| kc 2 rfl <| kc 4 rfl <| kc 5 rfl <| kc 18 rfl <| kn) rfl ?_
  refine T_if h rfl (fun b18 h => ?_) (fun b18 h => ?_)
  ·
   refine T_keep (kc 2 rfl <| kn) rfl ?_
   refine T_seq (T_reg ?_)
   refine R_q _ rfl (v_move (ov rfl)) ?_
   refine R_q _ rfl (v_assign (ov rfl)) ?_
   refine R_q _ rfl (v_assign (ov rfl)) ?_
   refine R_nil ?_
   obtain rfl := rt (v := ((i32 b), 1)) h
   refine T_ret (retq ?_ (.two (.tmp rfl (Dat.view (.b rfl))) (.tmp rfl (Dat.view (.b rfl)))))
   rfl
  ·
   refine T_skip ?_
   refine T_keep (kc 0 rfl <| kc 4 rfl <| kc 5 rfl <| kn) rfl ?_
   refine T_seq (T_reg ?_)
   refine R_q _ rfl (v_move (ov rfl)) ?_
   refine R_q _ rfl (v_sub (ov rfl) (ov rfl) rfl) ?_
   refine R_q _ rfl (v_max (ov rfl) (ov rfl) rfl) ?_
   refine R_q _ rfl (v_assign (ov rfl)) ?_
   refine R_nil ?_
   refine T_joinG id (t1 fun start => ⟨[(0, .str s), (4, .int .i64 (s.length : Int)), (5, .int .i64 start)], []⟩) h (fun h => ?_) (fun j h => ?_)
   ·
    refine T_keep (kc 0 rfl <| kc 4 rfl <| kc 5 rfl <| kc 6 rfl <| kn) rfl ?_
    refine T_seq (T_reg ?_)
    refine R_q _ rfl (v_move (ov rfl)) ?_
    refine R_q _ rfl (v_sub (ov rfl) (ov rfl) rfl) ?_
    refine R_q _ rfl (v_assign (ov rfl)) ?_
    refine R_nil ?_
    refine T_block ?_
    obtain ⟨r1, hl1, ho1⟩ := bndL h
    refine T_loopG _ (t1 fun start2 => ⟨[(0, .str s), (4, .int .i64 (s.length : Int)), (5, .int .i64 start2), (6, .int .i64 (max (i64 ((s.length : Int) - 4)) 0))], []⟩) _ hl1 (Ent.sel [] (sd 0 rfl rfl <| sd 4 rfl rfl <| sd 5 rfl rfl <| sd 6 rfl rfl <| sn) (.nil) rfl rfl) (fun n1 s1 h => ?_)
    obtain ⟨start2, rfl⟩ : ∃ x, x = s1 := ⟨_, rfl⟩
    replace h := t1i h
    refine t1T ?_
    unfold utf8_DecodeLastRuneInString_L1 at h
    refine T_seq ?_
    refine T_seq (T_reg ?_)
    refine R_q _ rfl (v_move (ov rfl)) ?_
    refine R_q _ rfl (v_move (ov rfl)) ?_
    refine R_q _ rfl (v_geq (ov rfl) (ov rfl)) ?_
    refine R_nil ?_
    refine T_keep (kc 0 rfl <| kc 4 rfl <| kc 5 rfl <| kc 6 rfl <| kc 27 rfl <| kn) rfl ?_
    refine T_if h rfl (fun b27 h => ?_) (fun b27 h => ?_)
    ·
     refine T_skip ?_
     refine T_seq ?_
     refine T_block ?_
     refine T_keep (kc 0 rfl <| kc 4 rfl <| kc 5 rfl <| kc 6 rfl <| kn) rfl ?_
     refine T_seq (T_reg ?_)
     refine R_q _ rfl (v_move (ov rfl)) ?_
     refine R_q _ rfl (v_move (ov rfl)) ?_
     obtain ⟨b2, h_b2, h⟩ := bnd h
     refine R_q _ rfl (v_idxStr (ov rfl) (ov rfl) tStr9 h_b2) ?_
     obtain ⟨y, h_y, h⟩ := bnd h
     refine R_q _ rfl (v_call (ok_utf8_RuneStart h_y) (.cons (ov rfl) (.b rfl) <| .nil)) ?_
     refine R_nil ?_
     refine T_keep (kc 0 rfl <| kc 4 rfl <| kc 5 rfl <| kc 6 rfl <| kc 33 rfl <| kn) rfl ?_
     refine T_if h rfl (fun b33 h => ?_) (fun b33 h => ?_)
     ·
      refine T_exit ?_
      rw [lx h] at ho1
      replace h := ho1
      exact ⟨start2, h, Ent.sel [] (sd 0 rfl rfl <| sd 4 rfl rfl <| sd 5 rfl rfl <| sn) (.nil) rfl rfl⟩
     ·
      refine T_skip ?_
      refine T_keep (kc 0 rfl <| kc 4 rfl <| kc 5 rfl <| kc 6 rfl <| kn) rfl ?_
      refine T_reg ?_
      refine R_q _ rfl (v_move (ov rfl)) ?_
      refine R_q _ rfl (v_sub (ov rfl) (ov rfl) rfl) ?_
      refine R_q _ rfl (v_assign (ov rfl)) ?_
      refine R_nil ?_
      exact ⟨(i64 (start2 - 1)), h, Ent.sel [] (sd 0 rfl rfl <| sd 4 rfl rfl <| sd 5 rfl rfl <| sd 6 rfl rfl <| sn) (.nil) rfl rfl⟩
    ·
     refine T_exit ?_
     rw [lx h] at ho1
     replace h := ho1
     exact ⟨start2, h, Ent.sel [] (sd 0 rfl rfl <| sd 4 rfl rfl <| sd 5 rfl rfl <| sn) (.nil) rfl rfl⟩
   ·
    obtain ⟨start, rfl⟩ : ∃ x, x = j := ⟨_, rfl⟩
    replace h := t1i h
    refine t1T ?_
    refine T_joinG id (t1 fun start3 => ⟨[(0, .str s), (4, .int .i64 (s.length : Int)), (5, .int .i64 start3)], []⟩) h (fun h => ?_) (fun j h => ?_)
    ·
     refine T_seq (T_reg ?_)
     refine R_q _ rfl (v_move (ov rfl)) ?_
     refine R_q _ rfl (v_lss (ov rfl) (ov rfl)) ?_
     refine R_nil ?_
     refine T_keep (kc 0 rfl <| kc 4 rfl <| kc 5 rfl <| kc 35 rfl <| kn) rfl ?_
     refine T_if h rfl (fun b35 h => ?_) (fun b35 h => ?_)
     ·
      refine T_keep (kc 0 rfl <| kc 4 rfl <| kc 5 rfl <| kn) rfl ?_
      refine T_reg ?_
      refine R_q _ rfl (v_assign (ov rfl)) ?_
      refine R_nil ?_
      exact ⟨0, h, Ent.sel [] (sd 0 rfl rfl <| sd 4 rfl rfl <| sd 5 rfl rfl <| sn) (.nil) rfl rfl⟩
     ·
      refine T_skip ?_
      exact ⟨start, h, Ent.sel [] (sd 0 rfl rfl <| sd 4 rfl rfl <| sd 5 rfl rfl <| sn) (.nil) rfl rfl⟩
    ·
     obtain ⟨start3, rfl⟩ : ∃ x, x = j := ⟨_, rfl⟩
     replace h := t1i h
     refine t1T ?_
     refine T_seq (T_reg ?_)
     refine R_q _ rfl (v_move (ov rfl)) ?_
     refine R_q _ rfl (v_move (ov rfl)) ?_
     refine R_q _ rfl (v_move (ov rfl)) ?_
     obtain ⟨s2, h_s2, h⟩ := bnd h
     refine R_q _ rfl (v_sliceStrG (ov rfl) tStr9 (oi (ov rfl)) (oi (ov rfl)) h_s2) ?_
     obtain ⟨y2, h_y2, h⟩ := bnd h
     refine R_q _ rfl (v_call (ok_utf8_DecodeRuneInString h_y2) (.cons (ov rfl) (.b rfl) <| .nil)) ?_
     refine R_q _ rfl (v_move (ov rfl)) ?_
     refine R_q _ rfl (v_extract (ov rfl) rfl) ?_
     refine R_q _ rfl (v_extract (ov rfl) rfl) ?_
     refine R_q _ rfl (v_assign (ov rfl)) ?_
     refine R_q _ rfl (v_assign (ov rfl)) ?_
     refine R_nil ?_
     refine T_seq ?_
     refine T_keep (kc 2 rfl <| kc 3 rfl <| kc 4 rfl <| kc 5 rfl <| kn) rfl ?_
     refine T_seq (T_reg ?_)
     refine R_q _ rfl (v_move (ov rfl)) ?_
     refine R_q _ rfl (v_move (ov rfl)) ?_
     refine R_q _ rfl (v_add (ov rfl) (ov rfl) rfl) ?_
     refine R_q _ rfl (v_move (ov rfl)) ?_
     refine R_q _ rfl (v_neq (ov rfl) (ov rfl)) ?_
     refine R_nil ?_
     refine T_keep (kc 2 rfl <| kc 3 rfl <| kc 48 rfl <| kn) rfl ?_
     refine T_if h rfl (fun b48 h => ?_) (fun b48 h => ?_)
     ·
      refine T_keep (kc 2 rfl <| kc 3 rfl <| kn) rfl ?_
      refine T_seq (T_reg ?_)
      refine R_q _ rfl (v_assign (ov rfl)) ?_
      refine R_q _ rfl (v_assign (ov rfl)) ?_
      refine R_nil ?_
      obtain rfl := rt (v := (65533, 1)) h
      refine T_ret (retq ?_ (.two (.tmp rfl (Dat.view (.b rfl))) (.tmp rfl (Dat.view (.b rfl)))))
      rfl
     ·
      refine T_skip ?_
      refine T_keep (kc 2 rfl <| kc 3 rfl <| kn) rfl ?_
      refine T_seq (T_reg ?_)
      refine R_q _ rfl (v_move (ov rfl)) ?_
      refine R_q _ rfl (v_move (ov rfl)) ?_
      refine R_q _ rfl (v_assign (ov rfl)) ?_
      refine R_q _ rfl (v_assign (ov rfl)) ?_
      refine R_nil ?_
      obtain rfl := rt (v := (y2.1, y2.2)) h
      refine T_ret (retq ?_ (.two (.tmp rfl (Dat.view (.b rfl))) (.tmp rfl (Dat.view (.b rfl)))))
      rfl

theorem ok_strings_ContainsRune {s : Str} {r_ : Int} {r : Bool} (h : strings_ContainsRune s r_ = some r) :
  CSpec Tryz.prog gl0 191 [.str s, .int .i32 r_] (.bool r) := by
 unfold strings_ContainsRune at h
 replace h := bnd0 h
 refine spec_of (by kernel_rfl) Tryz.func191 rfl rfl ?_
 intro w0 A
 refine T_seq (T_reg ?_)
 refine R_q _ rfl (v_assign (ov rfl)) ?_
 refine R_nil ?_
 exact (noneB h).elim

theorem ok_strings_trimRightUnicode {s : Str} {cutset : Str} {r : Str} (h : strings_trimRightUnicode s cutset = some r) :
  CSpec Tryz.prog gl0 174 [.str s, .str cutset] (.str r) := by
 unfold strings_trimRightUnicode at h
 replace h := bnd0 h
 refine spec_of (by kernel_rfl) Tryz.func174 rfl rfl ?_
 intro w0 A
 refine T_seq (T_reg ?_)
 refine R_q _ rfl (v_assign (ov rfl)) ?_
 refine R_nil ?_
 refine T_joinG id (t1 fun s2 => ⟨[(0, .str s2)], []⟩) h (fun h => ?_) (fun j h => ?_)
 ·
  refine T_block ?_
  obtain ⟨r1, hl1, ho1⟩ := bndL h
  refine T_loopG _ (t1 fun s3 => ⟨[(0, .str s3), (1, .str cutset)], []⟩) _ hl1 (Ent.sel [] (sd 0 rfl rfl <| sd 1 rfl rfl <| sn) (.nil) rfl rfl) (fun n1 s1 h => ?_)
  obtain ⟨s3, rfl⟩ : ∃ x, x = s1 := ⟨_, rfl⟩
  replace h := t1i h
  refine t1T ?_
  unfold strings_trimRightUnicode_L1 at h
  refine T_seq ?_
  refine T_seq (T_reg ?_)
  refine R_q _ rfl (v_move (ov rfl)) ?_
  refine R_q _ rfl (v_lenStr (ov rfl) tStr9 rfl) ?_
  refine R_q _ rfl (v_gtr (ov rfl) (ov rfl)) ?_
  refine R_nil ?_
  refine T_keep (kc 0 rfl <| kc 1 rfl <| kc 9 rfl <| kn) rfl ?_
  refine T_if h rfl (fun b9 h => ?_) (fun b9 h => ?_)
  ·
   refine T_skip ?_
   refine T_block ?_
   refine T_keep (kc 0 rfl <| kc 1 rfl <| kn) rfl ?_
   refine T_seq (T_reg ?_)
   refine R_q _ rfl (v_move (ov rfl)) ?_
   refine R_q _ rfl (v_move (ov rfl)) ?_
   refine R_q _ rfl (v_lenStr (ov rfl) tStr9 rfl) ?_
   refine R_q _ rfl (v_sub (ov rfl) (ov rfl) rfl) ?_
   obtain ⟨b, h_b, h⟩ := bnd h
   refine R_q _ rfl (v_idxStr (ov rfl) (ov rfl) tStr9 h_b) ?_
   refine R_q _ rfl (v_conv (ov rfl) tI5 tI21 rfl) ?_
   refine R_q _ rfl (v_assign (ov rfl)) ?_
   refine R_q _ rfl (v_assign (ov rfl)) ?_
   refine R_nil ?_
   refine T_joinG id (t2 fun r_ n => ⟨[(0, .str s3), (1, .str cutset), (5, .int .i32 r_), (6, .int .i64 n)], []⟩) h (fun h => ?_) (fun j h => ?_)
   ·
    refine T_keep (kc 0 rfl <| kc 1 rfl <| kc 5 rfl <| kc 6 rfl <| kn) rfl ?_
    refine T_seq (T_reg ?_)
    refine R_q _ rfl (v_move (ov rfl)) ?_
    refine R_q _ rfl (v_geq (ov rfl) (ov rfl)) ?_
    refine R_nil ?_
    refine T_keep (kc 0 rfl <| kc 1 rfl <| kc 5 rfl <| kc 6 rfl <| kc 17 rfl <| kn) rfl ?_
    refine T_if h rfl (fun b17 h => ?_) (fun b17 h => ?_)
    ·
     refine T_keep (kc 0 rfl <| kc 1 rfl <| kc 5 rfl <| kc 6 rfl <| kn) rfl ?_
     refine T_reg ?_
     refine R_q _ rfl (v_move (ov rfl)) ?_
     obtain ⟨y, h_y, h⟩ := bnd h
     refine R_q _ rfl (v_call (ok_utf8_DecodeLastRuneInString h_y) (.cons (ov rfl) (.b rfl) <| .nil)) ?_
     refine R_q _ rfl (v_move (ov rfl)) ?_
     refine R_q _ rfl (v_extract (ov rfl) rfl) ?_
     refine R_q _ rfl (v_extract (ov rfl) rfl) ?_
     refine R_q _ rfl (v_assign (ov rfl)) ?_
     refine R_q _ rfl (v_assign (ov rfl)) ?_
     refine R_nil ?_
     exact ⟨(y.1, y.2), h, Ent.sel [] (sd 0 rfl rfl <| sd 1 rfl rfl <| sd 5 rfl rfl <| sd 6 rfl rfl <| sn) (.nil) rfl rfl⟩
    ·
     refine T_skip ?_
     exact ⟨((i32 b), 1), h, Ent.sel [] (sd 0 rfl rfl <| sd 1 rfl rfl <| sd 5 rfl rfl <| sd 6 rfl rfl <| sn) (.nil) rfl rfl⟩
   ·
    obtain ⟨r_, n⟩ := j
    replace h := t2i h
    refine t2T ?_
    refine T_seq ?_
    refine T_seq (T_reg ?_)
    refine R_q _ rfl (v_move (ov rfl)) ?_
    refine R_q _ rfl (v_move (ov rfl)) ?_
    obtain ⟨y2, h_y2, h⟩ := bnd h
    refine R_q _ rfl (v_call (ok_strings_ContainsRune h_y2) (.cons (ov rfl) (.b rfl) <| .cons (ov rfl) (.b rfl) <| .nil)) ?_
    refine R_q _ rfl (v_not (ov rfl)) ?_
    refine R_nil ?_
    refine T_keep (kc 0 rfl <| kc 1 rfl <| kc 6 rfl <| kc 26 rfl <| kn) rfl ?_
    refine T_if h rfl (fun b26 h => ?_) (fun b26 h => ?_)
    ·
     refine T_exit ?_
     rw [lx h] at ho1
     replace h := ho1
     exact ⟨s3, h, Ent.sel [] (sd 0 rfl rfl <| sn) (.nil) rfl rfl⟩
    ·
     refine T_skip ?_
     refine T_keep (kc 0 rfl <| kc 1 rfl <| kc 6 rfl <| kn) rfl ?_
     refine T_reg ?_
     refine R_q _ rfl (v_move (ov rfl)) ?_
     refine R_q _ rfl (v_move (ov rfl)) ?_
     refine R_q _ rfl (v_lenStr (ov rfl) tStr9 rfl) ?_
     refine R_q _ rfl (v_move (ov rfl)) ?_
     refine R_q _ rfl (v_sub (ov rfl) (ov rfl) rfl) ?_
     obtain ⟨s4, h_s4, h⟩ := bnd h
     refine R_q _ rfl (v_sliceStrG (ov rfl) tStr9 on (oi (ov rfl)) h_s4) ?_
     refine R_q _ rfl (v_assign (ov rfl)) ?_
     refine R_nil ?_
     exact ⟨s4, h, Ent.sel [] (sd 0 rfl rfl <| sd 1 rfl rfl <| sn) (.nil) rfl rfl⟩
  ·
   refine T_exit ?_
   rw [lx h] at ho1
   replace h := ho1
   exact ⟨s3, h, Ent.sel [] (sd 0 rfl rfl <| sn) (.nil) rfl rfl⟩
 ·
  obtain ⟨s2, rfl⟩ : ∃ x, x = j := ⟨_, rfl⟩
  replace h := t1i h
  refine t1T ?_
  refine T_seq (T_reg ?_)
  refine R_q _ rfl (v_move (ov rfl)) ?_
  refine R_q _ rfl (v_assign (ov rfl)) ?_
  refine R_nil ?_
  obtain rfl := rt (v := s2) h
  refine T_ret (retq ?_ (.one (.tmp rfl (Dat.view (.b rfl)))))
  rfl

theorem ok_strings_trimLeftUnicode {s : Str} {cutset : Str} {r : Str} (h : strings_trimLeftUnicode s cutset = some r) :
  CSpec Tryz.prog gl0 173 [.str s, .str cutset] (.str r) := by
 unfold strings_trimLeftUnicode at h
 replace h := bnd0 h
 refine spec_of (by kernel_rfl) Tryz.func173 rfl rfl ?_
 intro w0 A
 refine T_seq (T_reg ?_)
 refine R_q _ rfl (v_assign (ov rfl)) ?_
 refine R_nil ?_
 refine T_joinG id (t1 fun s2 => ⟨[(0, .str s2)], []⟩) h (fun h => ?_) (fun j h => ?_)
 ·
  refine T_block ?_
  obtain ⟨r1, hl1, ho1⟩ := bndL h
  refine T_loopG _ (t1 fun s3 => ⟨[(0, .str s3), (1, .str cutset)], []⟩) _ hl1 (Ent.sel [] (sd 0 rfl rfl <| sd 1 rfl rfl <| sn) (.nil) rfl rfl) (fun n1 s1 h => ?_)
  obtain ⟨s3, rfl⟩ : ∃ x, x = s1 := ⟨_, rfl⟩
  replace h := t1i h
  refine t1T ?_
  unfold strings_trimLeftUnicode_L1 at h
  refine T_seq ?_
  refine T_seq (T_reg ?_)
  refine R_q _ rfl (v_move (ov rfl)) ?_
  refine R_q _ rfl (v_lenStr (ov rfl) tStr9 rfl) ?_
  refine R_q _ rfl (v_gtr (ov rfl) (ov rfl)) ?_
  refine R_nil ?_
  refine T_keep (kc 0 rfl <| kc 1 rfl <| kc 9 rfl <| kn) rfl ?_
  refine T_if h rfl (fun b9 h => ?_) (fun b9 h => ?_)
  ·
   refine T_skip ?_
   refine T_block ?_
   refine T_keep (kc 0 rfl <| kc 1 rfl <| kn) rfl ?_
   refine T_seq (T_reg ?_)
   refine R_q _ rfl (v_move (ov rfl)) ?_
   obtain ⟨y, h_y, h⟩ := bnd h
   refine R_q _ rfl (v_call (ok_utf8_DecodeRuneInString h_y) (.cons (ov rfl) (.b rfl) <| .nil)) ?_
   refine R_q _ rfl (v_move (ov rfl)) ?_
   refine R_q _ rfl (v_extract (ov rfl) rfl) ?_
   refine R_q _ rfl (v_extract (ov rfl) rfl) ?_
   refine R_q _ rfl (v_assign (ov rfl)) ?_
   refine R_q _ rfl (v_assign (ov rfl)) ?_
   refine R_nil ?_
   refine T_seq ?_
   refine T_keep (kc 0 rfl <| kc 1 rfl <| kc 5 rfl <| kc 6 rfl <| kn) rfl ?_
   refine T_seq (T_reg ?_)
   refine R_q _ rfl (v_move (ov rfl)) ?_
   refine R_q _ rfl (v_move (ov rfl)) ?_
   obtain ⟨y2, h_y2, h⟩ := bnd h
   refine R_q _ rfl (v_call (ok_strings_ContainsRune h_y2) (.cons (ov rfl) (.b rfl) <| .cons (ov rfl) (.b rfl) <| .nil)) ?_
   refine R_q _ rfl (v_not (ov rfl)) ?_
   refine R_nil ?_
   refine T_keep (kc 0 rfl <| kc 1 rfl <| kc 6 rfl <| kc 18 rfl <| kn) rfl ?_
   refine T_if h rfl (fun b18 h => ?_) (fun b18 h => ?_)
   ·
    refine T_exit ?_
    rw [lx h] at ho1
    replace h := ho1
    exact ⟨s3, h, Ent.sel [] (sd 0 rfl rfl <| sn) (.nil) rfl rfl⟩
   ·
    refine T_skip ?_
    refine T_keep (kc 0 rfl <| kc 1 rfl <| kc 6 rfl <| kn) rfl ?_
    refine T_reg ?_
    refine R_q _ rfl (v_move (ov rfl)) ?_
    refine R_q _ rfl (v_move (ov rfl)) ?_
    obtain ⟨s4, h_s4, h⟩ := bnd h
    refine R_q _ rfl (v_sliceStrG (ov rfl) tStr9 (oi (ov rfl)) on h_s4) ?_
    refine R_q _ rfl (v_assign (ov rfl)) ?_
    refine R_nil ?_
    exact ⟨s4, h, Ent.sel [] (sd 0 rfl rfl <| sd 1 rfl rfl <| sn) (.nil) rfl rfl⟩
  ·
   refine T_exit ?_
   rw [lx h] at ho1
   replace h := ho1
   exact ⟨s3, h, Ent.sel [] (sd 0 rfl rfl <| sn) (.nil) rfl rfl⟩
 ·
  obtain ⟨s2, rfl⟩ : ∃ x, x = j := ⟨_, rfl⟩
  replace h := t1i h
  refine t1T ?_
  refine T_seq (T_reg ?_)
  refine R_q _ rfl (v_move (ov rfl)) ?_
  refine R_q _ rfl (v_assign (ov rfl)) ?_
  refine R_nil ?_
  obtain rfl := rt (v := s2) h
  refine T_ret (retq ?_ (.one (.tmp rfl (Dat.view (.b rfl)))))
  rfl

theorem ok_strings_Trim {s : Str} {cutset : Str} {r : Str} (h : strings_Trim s cutset = some r) :
  CSpec Tryz.prog gl0 143 [.str s, .str cutset] (.str r) := by
 unfold strings_Trim at h
 replace h := bnd0 h
 refine spec_of (by kernel_rfl) Tryz.func143 rfl rfl ?_
 intro w0 A
 refine T_seq (T_reg ?_)
 refine R_q _ rfl (v_assign (ov rfl)) ?_
 refine R_nil ?_
 refine T_seq ?_
 refine T_keep (kc 0 rfl <| kc 1 rfl <| kn) rfl ?_
 refine T_seq (T_reg ?_)
 refine R_q _ rfl (v_move (ov rfl)) ?_
 refine R_q _ rfl (v_eqlStr (ov rfl) (ov rfl)) ?_
 refine R_q _ rfl (v_move (ov rfl)) ?_
 refine R_q _ rfl (.guarded ((decide (s = [])) == false) rfl rfl rfl rfl fun h => v_move (ov rfl)) ?_
 refine R_q _ rfl (.guarded ((decide (s = [])) == false) rfl rfl rfl rfl fun h => v_eqlStr (ow rfl h) (ov rfl)) ?_
 refine R_q _ rfl (v_or (ov rfl) (fun hp => ow rfl (gF hp))) ?_
 refine R_nil ?_
 refine T_keep (kc 0 rfl <| kc 1 rfl <| kc 12 rfl <| kn) rfl ?_
 refine T_if h rfl (fun b12 h => ?_) (fun b12 h => ?_)
 ·
  refine T_keep (kc 0 rfl <| kn) rfl ?_
  refine T_seq (T_reg ?_)
  refine R_q _ rfl (v_move (ov rfl)) ?_
  refine R_q _ rfl (v_assign (ov rfl)) ?_
  refine R_nil ?_
  obtain rfl := rt (v := s) h
  refine T_ret (retq ?_ (.one (.tmp rfl (Dat.view (.b rfl)))))
  rfl
 ·
  refine T_skip ?_
  refine T_seq ?_
  refine T_keep (kc 0 rfl <| kc 1 rfl <| kn) rfl ?_
  refine T_seq (T_reg ?_)
  refine R_q _ rfl (v_move (ov rfl)) ?_
  refine R_q _ rfl (v_lenStr (ov rfl) tStr9 rfl) ?_
  refine R_q _ rfl (v_eql (ov rfl) (ov rfl)) ?_
  refine R_q _ rfl (v_move (ov rfl)) ?_
  refine R_q _ rfl (.guarded ((decide ((cutset.length : Int) = 1)) == true) rfl rfl rfl rfl fun h => v_move (ov rfl)) ?_
  obtain ⟨b, h_b, h⟩ := bnd h
  refine R_q _ rfl (.guarded ((decide ((cutset.length : Int) = 1)) == true) rfl rfl rfl rfl fun h => v_idxStr (ow rfl h) (ov rfl) tStr9 (gdT h_b h)) ?_
  refine R_q _ rfl (.guarded ((decide ((cutset.length : Int) = 1)) == true) rfl rfl rfl rfl fun h => v_lss (ow rfl h) (ov rfl)) ?_
  refine R_q _ rfl (v_and (ov rfl) (fun hp => ow rfl (gT hp))) ?_
  refine R_nil ?_
  refine T_keep (kc 0 rfl <| kc 1 rfl <| kc 21 rfl <| kn) rfl ?_
  refine T_if h rfl (fun b21 h => ?_) (fun b21 h => ?_)
  ·
   refine T_keep (kc 0 rfl <| kc 1 rfl <| kn) rfl ?_
   refine T_seq (T_draw (cw := md0) (by kernel_rfl) ?_)
   refine D_q0 0 _ rfl (by kernel_rfl) rfl rfl (v_move (ov rfl)) ?_
   refine D_q0 1 _ rfl (by kernel_rfl) rfl rfl (v_move (ov rfl)) ?_
   obtain ⟨b2, h_b2, h⟩ := bnd h
   refine D_q0 2 _ rfl (by kernel_rfl) rfl rfl (v_idxStr (ov rfl) (ov rfl) tStr9 h_b2) ?_
   obtain ⟨y, h_y, h⟩ := bnd h
   refine D_q0 3 _ rfl (by kernel_rfl) rfl rfl (v_call (ok_strings_trimRightByte h_y) (.cons (ov rfl) (.b rfl) <| .cons (ov rfl) (.b rfl) <| .nil)) ?_
   refine D_q0 4 _ rfl (by kernel_rfl) rfl rfl (v_move (ov rfl)) ?_
   obtain ⟨b3, h_b3, h⟩ := bnd h
   refine D_q0 5 _ rfl (by kernel_rfl) rfl rfl (v_idxStr (ov rfl) (ov rfl) tStr9 h_b3) ?_
   obtain ⟨y2, h_y2, h⟩ := bnd h
   refine D_q0 6 _ rfl (by kernel_rfl) rfl rfl (v_call (ok_strings_trimLeftByte h_y2) (.cons (ov rfl) (.b rfl) <| .cons (ov rfl) (.b rfl) <| .nil)) ?_
   refine D_q0 7 _ rfl (by kernel_rfl) rfl rfl (v_assign (ov rfl)) ?_
   refine D_done (by kernel_rfl) ?_
   obtain rfl := rt (v := y2) h
   refine T_ret (retq ?_ (.one (.tmp rfl (Dat.view (.b rfl)))))
   rfl
  ·
   refine T_skip ?_
   refine T_seq ?_
   refine T_keep (kc 0 rfl <| kc 1 rfl <| kn) rfl ?_
   refine T_seq (T_reg ?_)
   refine R_q _ rfl (v_move (ov rfl)) ?_
   obtain ⟨y3, h_y3, h⟩ := bnd h
   refine R_q _ rfl (v_call (ok_strings_makeASCIISet h_y3) (.cons (ov rfl) (.b rfl) <| .nil)) ?_
   refine R_q _ rfl (v_move (ov rfl)) ?_
   refine R_q _ rfl (v_extract (ov rfl) rfl) ?_
   refine R_q _ rfl (v_extract (ov rfl) rfl) ?_
   refine R_w _ _ rfl (w_alloc (row := (List.map C4 (Vector.replicate 256 false).toList)) 0 rfl tZ194 rfl tZ_194) ?_
   refine R_w _ _ rfl (w_store (ov rfl) (ov rfl) (cells_agg tA194 arL) rfl rfl rfl (Nat.le_of_eq (by simp)) (cell1_all (arC fun _ => rfl)) (arWhole (by simp))) ?_
   refine R_q _ rfl (v_assign (ov rfl)) ?_
   refine R_nil ?_
   refine T_keep (kc 0 rfl <| kc 1 rfl <| kc 5 rfl <| kc 6 rfl <| kn) rfl ?_
   refine T_seq (T_reg ?_)
   refine R_q _ rfl (v_move (ov rfl)) ?_
   refine R_nil ?_
   refine T_keep (kc 0 rfl <| kc 1 rfl <| kc 5 rfl <| kc 34 rfl <| kn) rfl ?_
   refine T_if h rfl (fun b34 h => ?_) (fun b34 h => ?_)
   ·
    refine T_keep (kc 0 rfl <| kc 5 rfl <| kn) rfl ?_
    refine T_seq (T_reg ?_)
    refine R_q _ rfl (v_move (ov rfl)) ?_
    obtain ⟨y4, h_y4, h⟩ := bnd h
    refine R_w _ _ rfl (w_callG [0] (ok_strings_trimRightASCII_w h_y4) (.cons (ov rfl) (.dat rfl) <| .cons (ov rfl) (.ptr _ _ _ rfl) <| .nil) (.cons rfl (ro1 (arL.trans tZ_194.symm) (rld (arD fun _ => rfl))) <| .nil) rfl (.lent 0 (.inl rfl) rfl (ro1 (arL.trans tZ_194.symm) (rld (arD fun _ => rfl))) <| .nil) rfl rfl (.dat rfl)) ?_
    obtain ⟨y5, h_y5, h⟩ := bnd h
    refine R_w _ _ rfl (w_callG [0] (ok_strings_trimLeftASCII_w h_y5) (.cons (ov rfl) (.dat rfl) <| .cons (ov rfl) (.ptr _ _ _ rfl) <| .nil) (.cons rfl (ro1 (arL.trans tZ_194.symm) (rld (arD fun _ => rfl))) <| .nil) rfl (.lent 0 (.inl rfl) rfl (ro1 (arL.trans tZ_194.symm) (rld (arD fun _ => rfl))) <| .nil) rfl rfl (.dat rfl)) ?_
    refine R_q _ rfl (v_assign (ov rfl)) ?_
    refine R_nil ?_
    obtain rfl := rt (v := y5) h
    refine T_ret (retq ?_ (.one (.tmp rfl (Dat.view (.b rfl)))))
    rfl
   ·
    refine T_skip ?_
    refine T_keep (kc 0 rfl <| kc 1 rfl <| kn) rfl ?_
    refine T_seq (T_reg ?_)
    refine R_q _ rfl (v_move (ov rfl)) ?_
    refine R_q _ rfl (v_move (ov rfl)) ?_
    obtain ⟨y6, h_y6, h⟩ := bnd h
    refine R_q _ rfl (v_call (ok_strings_trimRightUnicode h_y6) (.cons (ov rfl) (.b rfl) <| .cons (ov rfl) (.b rfl) <| .nil)) ?_
    refine R_q _ rfl (v_move (ov rfl)) ?_
    obtain ⟨y7, h_y7, h⟩ := bnd h
    refine R_q _ rfl (v_call (ok_strings_trimLeftUnicode h_y7) (.cons (ov rfl) (.b rfl) <| .cons (ov rfl) (.b rfl) <| .nil)) ?_
    refine R_q _ rfl (v_assign (ov rfl)) ?_
    refine R_nil ?_
    obtain rfl := rt (v := y7) h
    refine T_ret (retq ?_ (.one (.tmp rfl (Dat.view (.b rfl)))))
    rfl

theorem ok_panel_isName {s : Str} {r : Bool} (h : panel_isName s = some r) :
  CSpec Tryz.prog gl0 88 [.str s] (.bool r) := by
 unfold panel_isName at h
 replace h := bnd0 h
 refine spec_of (by kernel_rfl) Tryz.func88 rfl rfl ?_
 intro w0 A
 refine T_seq (T_reg ?_)
 refine R_q _ rfl (v_assign (ov rfl)) ?_
 refine R_nil ?_
 refine T_seq (T_reg ?_)
 refine R_q _ rfl (v_move (ov rfl)) ?_
 refine R_q _ rfl (v_lenStr (ov rfl) tStr9 rfl) ?_
 obtain ⟨y, h_y, h⟩ := bnd h
 refine R_q _ rfl (v_call (ok_panel_within h_y) (.cons (ov rfl) (.b rfl) <| .cons (ov rfl) (.b rfl) <| .cons (ov rfl) (.b rfl) <| .nil)) ?_
 refine R_q _ rfl (v_move (ov rfl)) ?_
 refine R_q _ rfl (.guarded (y == true) rfl rfl rfl rfl fun h => v_move (ov rfl)) ?_
 obtain ⟨y2, h_y2, h⟩ := bnd h
 refine R_q _ rfl (.guarded (y == true) rfl rfl rfl rfl fun h => v_call (ok_strings_Trim (gdT h_y2 h)) (.cons (ow rfl h) (.b rfl) <| .cons (ov rfl) (.b rfl) <| .nil)) ?_
 refine R_q _ rfl (.guarded (y == true) rfl rfl rfl rfl fun h => v_eqlStr (ow rfl h) (ov rfl)) ?_
 refine R_q _ rfl (v_and (ov rfl) (fun hp => ow rfl (gT hp))) ?_
 refine R_q _ rfl (v_assign (ov rfl)) ?_
 refine R_nil ?_
 obtain rfl := rt (v := (y && (decide (y2 = [])))) h
 refine T_ret (retq ?_ (.one (.tmp rfl (Dat.view (.b rfl)))))
 rfl

theorem ok_slices_Index_int_int {s : List Int} {v : Int} {r : Int} (h : slices_Index_int_int s v = some r) :
  CSpec Tryz.prog gl0 175 [.sl 3 (List.map R3 s), .int .i64 v] (.int .i64 r) := by
 unfold slices_Index_int_int at h
 replace h := bnd0 h
 refine spec_of (by kernel_rfl) Tryz.func175 rfl rfl ?_
 intro w0 A
 refine T_seq (T_reg ?_)
 refine R_q _ rfl (v_assign (ov rfl)) ?_
 refine R_nil ?_
 refine T_joinG (fun j => (.inr j)) (t0 ⟨[], []⟩) h (fun h => ?_) (fun j h => ?_)
 ·
  refine T_keep (kc 0 rfl <| kc 1 rfl <| kn) rfl ?_
  refine T_seq (T_reg ?_)
  refine R_q _ rfl (v_move (ov rfl)) ?_
  refine R_q _ rfl (v_len (slv_sl (ov rfl) tZ_3) tL127 (len_map _ _)) ?_
  refine R_q _ rfl (v_move (ov rfl)) ?_
  refine R_nil ?_
  refine T_block ?_
  obtain ⟨r1, hl1, ho1⟩ := bndL h
  refine T_loopG _ (t1 fun i => ⟨[(0, .sl 3 (List.map R3 s)), (1, .int .i64 v), (7, .int .i64 (s.length : Int)), (8, .int .i64 i)], []⟩) _ hl1 (Ent.sel [] (sd 0 rfl rfl <| sd 1 rfl rfl <| sd 7 rfl rfl <| sd 8 rfl rfl <| sn) (.nil) rfl rfl) (fun n1 s1 h => ?_)
  obtain ⟨i, rfl⟩ : ∃ x, x = s1 := ⟨_, rfl⟩
  replace h := t1i h
  refine t1T ?_
  unfold slices_Index_int_int_L1 at h
  refine T_seq (T_reg ?_)
  refine R_q _ rfl (v_lss (ov rfl) (ov rfl)) ?_
  refine R_nil ?_
  refine T_seq ?_
  refine T_if h rfl (fun b9 h => ?_) (fun b9 h => ?_)
  ·
   refine T_skip ?_
   refine T_seq ?_
   refine T_block ?_
   refine T_keep (kc 0 rfl <| kc 1 rfl <| kc 7 rfl <| kc 8 rfl <| kn) rfl ?_
   refine T_seq (T_reg ?_)
   refine R_q _ rfl (v_move (ov rfl)) ?_
   refine R_q _ rfl (v_assign (ov rfl)) ?_
   refine R_nil ?_
   refine T_keep (kc 0 rfl <| kc 1 rfl <| kc 5 rfl <| kc 7 rfl <| kc 8 rfl <| kn) rfl ?_
   refine T_seq (T_reg ?_)
   refine R_q _ rfl (v_move (ov rfl)) ?_
   refine R_q _ rfl (v_move (ov rfl)) ?_
   refine R_q _ rfl (v_move (ov rfl)) ?_
   obtain ⟨x, h_x, h⟩ := bnd h
   refine R_q _ rfl (v_ixSG (ov rfl) (ov rfl) tL127 h_x) ?_
   refine R_q _ rfl (v_loadS_r (ov rfl) tS3 rfl) ?_
   refine R_q _ rfl (v_eql (ov rfl) (ov rfl)) ?_
   refine R_nil ?_
   refine T_keep (kc 0 rfl <| kc 1 rfl <| kc 5 rfl <| kc 7 rfl <| kc 8 rfl <| kc 16 rfl <| kn) rfl ?_
   refine T_if h rfl (fun b16 h => ?_) (fun b16 h => ?_)
   ·
    refine T_keep (kc 5 rfl <| kn) rfl ?_
    refine T_seq (T_reg ?_)
    refine R_q _ rfl (v_move (ov rfl)) ?_
    refine R_q _ rfl (v_assign (ov rfl)) ?_
    refine R_nil ?_
    rw [lx h] at ho1
    replace h := ho1
    obtain rfl := rt (v := i) h
    refine T_ret (retq ?_ (.one (.tmp rfl (Dat.view (.b rfl)))))
    rfl
   ·
    refine T_skip ?_
    refine T_keep (kc 0 rfl <| kc 1 rfl <| kc 7 rfl <| kc 8 rfl <| kn) rfl ?_
    refine T_reg ?_
    refine R_q _ rfl (v_add (ov rfl) (ov rfl) rfl) ?_
    refine R_q _ rfl (v_move (ov rfl)) ?_
    refine R_nil ?_
    exact ⟨(i64 (i + 1)), h, Ent.sel [] (sd 0 rfl rfl <| sd 1 rfl rfl <| sd 7 rfl rfl <| sd 8 rfl rfl <| sn) (.nil) rfl rfl⟩
  ·
   refine T_exit ?_
   rw [lx h] at ho1
   replace h := ho1
   exact ⟨(), h, Ent.sel [] (sn) (.nil) rfl rfl⟩
 ·
  replace h := elr h
  cases j
  replace h := t0i h
  refine t0T ?_
  refine T_seq (T_reg ?_)
  refine R_q _ rfl (v_assign (ov rfl)) ?_
  refine R_nil ?_
  obtain rfl := rt (v := (-1)) h
  refine T_ret (retq ?_ (.one (.tmp rfl (Dat.view (.b rfl)))))
  rfl

theorem ok_slices_Contains_int_int {s : List Int} {v : Int} {r : Bool} (h : slices_Contains_int_int s v = some r) :
  CSpec Tryz.prog gl0 145 [.sl 3 (List.map R3 s), .int .i64 v] (.bool r) := by
 unfold slices_Contains_int_int at h
 replace h := bnd0 h
 refine spec_of (by kernel_rfl) Tryz.func145 rfl rfl ?_
 intro w0 A
 refine T_seq (T_reg ?_)
 refine R_q _ rfl (v_assign (ov rfl)) ?_
 refine R_nil ?_
 refine T_seq (T_reg ?_)
 refine R_q _ rfl (v_move (ov rfl)) ?_
 refine R_q _ rfl (v_move (ov rfl)) ?_
 obtain ⟨y, h_y, h⟩ := bnd h
 refine R_q _ rfl (v_call (ok_slices_Index_int_int h_y) (.cons (ov rfl) (.b rfl) <| .cons (ov rfl) (.b rfl) <| .nil)) ?_
 refine R_q _ rfl (v_geq (ov rfl) (ov rfl)) ?_
 refine R_q _ rfl (v_assign (ov rfl)) ?_
 refine R_nil ?_
 obtain rfl := rt (v := (decide (0 ≤ y))) h
 refine T_ret (retq ?_ (.one (.tmp rfl (Dat.view (.b rfl)))))
 rfl

theorem ok_panel_unused_1 {l : List Int} {c0 : api_Instrument} {r : Bool} (h : panel_unused_1 l c0 = some r) :
  CSpec Tryz.prog gl0 144 [.sl 3 (List.map R3 l), .rp [.int .i64 c0.Kind, .str c0.Name, .str c0.Track, .int .i64 c0.Places, .int .i64 c0.Low, .int .i64 c0.High, .int .i64 c0.Steps, .sl 169 (List.map R169 c0.Zones), .int .i64 c0.Op, .int .i64 c0.N, .bool c0.Latch, .int .i64 c0.Size] 0] (.bool r) := by
 unfold panel_unused_1 at h
 replace h := bnd0 h
 refine spec_of (by kernel_rfl) Tryz.func144 rfl rfl ?_
 intro w0 A
 refine T_seq (T_reg ?_)
 refine R_q _ rfl (v_assign (ov rfl)) ?_
 refine R_nil ?_
 refine T_seq (T_reg ?_)
 refine R_q _ rfl (v_move (ov rfl)) ?_
 refine R_q _ rfl (v_fieldR (ov rfl) tF55_0) ?_
 refine R_q _ rfl (v_loadS_r (ov rfl) tS3 rfl) ?_
 obtain ⟨y, h_y, h⟩ := bnd h
 refine R_q _ rfl (v_call (ok_slices_Contains_int_int h_y) (.cons (ov rfl) (.b rfl) <| .cons (ov rfl) (.b rfl) <| .nil)) ?_
 refine R_q _ rfl (v_assign (ov rfl)) ?_
 refine R_nil ?_
 obtain rfl := rt (v := y) h
 refine T_ret (retq ?_ (.one (.tmp rfl (Dat.view (.b rfl)))))
 rfl

theorem ok_panel_unused {i : api_Instrument} {r : Bool} (h : panel_unused i = some r) :
  CSpec Tryz.prog gl0 89 [.agg [.int .i64 i.Kind, .str i.Name, .str i.Track, .int .i64 i.Places, .int .i64 i.Low, .int .i64 i.High, .int .i64 i.Steps, .sl 169 (List.map R169 i.Zones), .int .i64 i.Op, .int .i64 i.N, .bool i.Latch, .int .i64 i.Size]] (.bool r) := by
 unfold panel_unused at h
 replace h := bnd0 h
 refine spec_of (by kernel_rfl) Tryz.func89 rfl rfl ?_
 intro w0 A
 refine T_seq (T_reg ?_)
 refine R_q _ rfl (v_boxD (cva (ov rfl)) rfl tZ_55 rfl) ?_
 refine R_q _ rfl (v_assign (ov rfl)) ?_
 refine R_nil ?_
 refine T_keep (kc 1 rfl <| kn) rfl ?_
 refine T_seq (T_reg ?_)
 refine R_q _ rfl (v_makeFunc (.cons (ov rfl) <| .nil)) ?_
 refine R_q _ rfl (v_assign (ov rfl)) ?_
 refine R_nil ?_
 refine T_keep (kc 1 rfl <| kc 3 rfl <| kn) rfl ?_
 refine T_seq (T_reg ?_)
 refine R_q _ rfl (v_fieldR (ov rfl) tF55_3) ?_
 refine R_q _ rfl (v_loadS_r (ov rfl) tS3 rfl) ?_
 refine R_q _ rfl (v_neq (ov rfl) (ov rfl)) ?_
 refine R_q _ rfl (v_move (ov rfl)) ?_
 refine R_q _ rfl (.guarded ((!decide (i.Places = 0)) == true) rfl rfl rfl rfl fun h => v_move (ov rfl)) ?_
 refine R_q (.when ((!decide (i.Places = 0)) == true) (.sl 3 (List.map R3 ([1, 4, 6] : List Int)))) rfl (.guarded ((!decide (i.Places = 0)) == true) rfl rfl rfl rfl fun h => v_lit tL127 (.cons (cvs (ov rfl) (cell1_b rfl)) rfl (.cons (.b rfl) .nil) <| .cons (cvs (ov rfl) (cell1_b rfl)) rfl (.cons (.b rfl) .nil) <| .cons (cvs (ov rfl) (cell1_b rfl)) rfl (.cons (.b rfl) .nil) <| .nil) rfl rfl) ?_
 obtain ⟨y, h_y, h⟩ := bnd h
 refine R_q _ rfl (.guarded ((!decide (i.Places = 0)) == true) rfl rfl rfl rfl fun h => v_callC (ow rfl h) rfl (ok_panel_unused_1 (gdT h_y h)) (.cons (ow rfl h) (.b rfl) <| .nil)) ?_
 refine R_q _ rfl (.guarded ((!decide (i.Places = 0)) == true) rfl rfl rfl rfl fun h => v_not (ow rfl h)) ?_
 refine R_q _ rfl (v_and (ov rfl) (fun hp => ow rfl (gT hp))) ?_
 refine R_q _ rfl (v_move (ov rfl)) ?_
 refine R_q _ rfl (.guarded (((!decide (i.Places = 0)) && (!y)) == false) rfl rfl rfl rfl fun h => v_fieldR (ov rfl) tF55_4) ?_
 refine R_q _ rfl (.guarded (((!decide (i.Places = 0)) && (!y)) == false) rfl rfl rfl rfl fun h => v_loadS_r (ow rfl h) tS3 rfl) ?_
 refine R_q _ rfl (.guarded (((!decide (i.Places = 0)) && (!y)) == false) rfl rfl rfl rfl fun h => v_neq (ow rfl h) (ov rfl)) ?_
 refine R_q _ rfl (.guarded (((!decide (i.Places = 0)) && (!y)) == false) rfl rfl rfl rfl fun h => v_move (ow rfl h)) ?_
 refine R_q _ rfl (.guarded2 ((((!decide (i.Places = 0)) && (!y)) == false) && ((!decide (i.Low = 0)) == false)) rfl rfl rfl rfl fun h => v_fieldR (ov rfl) tF55_5) ?_
 refine R_q _ rfl (.guarded2 ((((!decide (i.Places = 0)) && (!y)) == false) && ((!decide (i.Low = 0)) == false)) rfl rfl rfl rfl fun h => v_loadS_r (ow rfl h) tS3 rfl) ?_
 refine R_q _ rfl (.guarded2 ((((!decide (i.Places = 0)) && (!y)) == false) && ((!decide (i.Low = 0)) == false)) rfl rfl rfl rfl fun h => v_neq (ow rfl h) (ov rfl)) ?_
 refine R_q _ rfl (.guarded (((!decide (i.Places = 0)) && (!y)) == false) rfl rfl rfl rfl fun h => v_or (ow rfl h) (fun hp => ow rfl (gA h (gF hp)))) ?_
 refine R_q _ rfl (.guarded (((!decide (i.Places = 0)) && (!y)) == false) rfl rfl rfl rfl fun h => v_move (ow rfl h)) ?_
 refine R_q _ rfl (.guarded2 ((((!decide (i.Places = 0)) && (!y)) == false) && (((!decide (i.Low = 0)) || (!decide (i.High = 0))) == false)) rfl rfl rfl rfl fun h => v_fieldR (ov rfl) tF55_6) ?_
 refine R_q _ rfl (.guarded2 ((((!decide (i.Places = 0)) && (!y)) == false) && (((!decide (i.Low = 0)) || (!decide (i.High = 0))) == false)) rfl rfl rfl rfl fun h => v_loadS_r (ow rfl h) tS3 rfl) ?_
 refine R_q _ rfl (.guarded2 ((((!decide (i.Places = 0)) && (!y)) == false) && (((!decide (i.Low = 0)) || (!decide (i.High = 0))) == false)) rfl rfl rfl rfl fun h => v_neq (ow rfl h) (ov rfl)) ?_
 refine R_q _ rfl (.guarded (((!decide (i.Places = 0)) && (!y)) == false) rfl rfl rfl rfl fun h => v_or (ow rfl h) (fun hp => ow rfl (gA h (gF hp)))) ?_
 refine R_q _ rfl (.guarded (((!decide (i.Places = 0)) && (!y)) == false) rfl rfl rfl rfl fun h => v_move (ow rfl h)) ?_
 refine R_q _ rfl (.guarded2 ((((!decide (i.Places = 0)) && (!y)) == false) && ((((!decide (i.Low = 0)) || (!decide (i.High = 0))) || (!decide (i.Steps = 0))) == false)) rfl rfl rfl rfl fun h => v_fieldR (ov rfl) tF55_7) ?_
 refine R_q _ rfl (.guarded2 ((((!decide (i.Places = 0)) && (!y)) == false) && ((((!decide (i.Low = 0)) || (!decide (i.High = 0))) || (!decide (i.Steps = 0))) == false)) rfl rfl rfl rfl fun h => v_loadS_r (ow rfl h) tS53 rfl) ?_
 refine R_q _ rfl (.guarded2 ((((!decide (i.Places = 0)) && (!y)) == false) && ((((!decide (i.Low = 0)) || (!decide (i.High = 0))) || (!decide (i.Steps = 0))) == false)) rfl rfl rfl rfl fun h => v_len (slv_sl (ow rfl h) tZ_169) tL53 (len_map _ _)) ?_
 refine R_q _ rfl (.guarded2 ((((!decide (i.Places = 0)) && (!y)) == false) && ((((!decide (i.Low = 0)) || (!decide (i.High = 0))) || (!decide (i.Steps = 0))) == false)) rfl rfl rfl rfl fun h => v_gtr (ow rfl h) (ov rfl)) ?_
 refine R_q _ rfl (.guarded (((!decide (i.Places = 0)) && (!y)) == false) rfl rfl rfl rfl fun h => v_or (ow rfl h) (fun hp => ow rfl (gA h (gF hp)))) ?_
 refine R_q _ rfl (.guarded (((!decide (i.Places = 0)) && (!y)) == false) rfl rfl rfl rfl fun h => v_move (ow rfl h)) ?_
 refine R_q _ rfl (.guarded2 ((((!decide (i.Places = 0)) && (!y)) == false) && (((((!decide (i.Low = 0)) || (!decide (i.High = 0))) || (!decide (i.Steps = 0))) || (decide (0 < (i.Zones.length : Int)))) == true)) rfl rfl rfl rfl fun h => v_move (ov rfl)) ?_
 refine R_q (.when ((((!decide (i.Places = 0)) && (!y)) == false) && (((((!decide (i.Low = 0)) || (!decide (i.High = 0))) || (!decide (i.Steps = 0))) || (decide (0 < (i.Zones.length : Int)))) == true)) (.sl 3 (List.map R3 ([2] : List Int)))) rfl (.guarded2 ((((!decide (i.Places = 0)) && (!y)) == false) && (((((!decide (i.Low = 0)) || (!decide (i.High = 0))) || (!decide (i.Steps = 0))) || (decide (0 < (i.Zones.length : Int)))) == true)) rfl rfl rfl rfl fun h => v_lit tL127 (.cons (cvs (ov rfl) (cell1_b rfl)) rfl (.cons (.b rfl) .nil) <| .nil) rfl rfl) ?_
 obtain ⟨y2, h_y2, h⟩ := bnd h
 refine R_q _ rfl (.guarded2 ((((!decide (i.Places = 0)) && (!y)) == false) && (((((!decide (i.Low = 0)) || (!decide (i.High = 0))) || (!decide (i.Steps = 0))) || (decide (0 < (i.Zones.length : Int)))) == true)) rfl rfl rfl rfl fun h => v_callC (ow rfl h) rfl (ok_panel_unused_1 (gdT h_y2 h)) (.cons (ow rfl h) (.b rfl) <| .nil)) ?_
 refine R_q _ rfl (.guarded2 ((((!decide (i.Places = 0)) && (!y)) == false) && (((((!decide (i.Low = 0)) || (!decide (i.High = 0))) || (!decide (i.Steps = 0))) || (decide (0 < (i.Zones.length : Int)))) == true)) rfl rfl rfl rfl fun h => v_not (ow rfl h)) ?_
 refine R_q _ rfl (.guarded (((!decide (i.Places = 0)) && (!y)) == false) rfl rfl rfl rfl fun h => v_and (ow rfl h) (fun hp => ow rfl (gA h (gT hp)))) ?_
 refine R_q _ rfl (v_or (ov rfl) (fun hp => ow rfl (gF hp))) ?_
 refine R_q _ rfl (v_move (ov rfl)) ?_
 refine R_q _ rfl (.guarded ((((!decide (i.Places = 0)) && (!y)) || (((((!decide (i.Low = 0)) || (!decide (i.High = 0))) || (!decide (i.Steps = 0))) || (decide (0 < (i.Zones.length : Int)))) && (!y2))) == false) rfl rfl rfl rfl fun h => v_fieldR (ov rfl) tF55_8) ?_
 refine R_q _ rfl (.guarded ((((!decide (i.Places = 0)) && (!y)) || (((((!decide (i.Low = 0)) || (!decide (i.High = 0))) || (!decide (i.Steps = 0))) || (decide (0 < (i.Zones.length : Int)))) && (!y2))) == false) rfl rfl rfl rfl fun h => v_loadS_r (ow rfl h) tS3 rfl) ?_
 refine R_q _ rfl (.guarded ((((!decide (i.Places = 0)) && (!y)) || (((((!decide (i.Low = 0)) || (!decide (i.High = 0))) || (!decide (i.Steps = 0))) || (decide (0 < (i.Zones.length : Int)))) && (!y2))) == false) rfl rfl rfl rfl fun h => v_neq (ow rfl h) (ov rfl)) ?_
 refine R_q _ rfl (.guarded ((((!decide (i.Places = 0)) && (!y)) || (((((!decide (i.Low = 0)) || (!decide (i.High = 0))) || (!decide (i.Steps = 0))) || (decide (0 < (i.Zones.length : Int)))) && (!y2))) == false) rfl rfl rfl rfl fun h => v_move (ow rfl h)) ?_
 refine R_q _ rfl (.guarded2 (((((!decide (i.Places = 0)) && (!y)) || (((((!decide (i.Low = 0)) || (!decide (i.High = 0))) || (!decide (i.Steps = 0))) || (decide (0 < (i.Zones.length : Int)))) && (!y2))) == false) && ((!decide (i.Op = 0)) == false)) rfl rfl rfl rfl fun h => v_fieldR (ov rfl) tF55_9) ?_
 refine R_q _ rfl (.guarded2 (((((!decide (i.Places = 0)) && (!y)) || (((((!decide (i.Low = 0)) || (!decide (i.High = 0))) || (!decide (i.Steps = 0))) || (decide (0 < (i.Zones.length : Int)))) && (!y2))) == false) && ((!decide (i.Op = 0)) == false)) rfl rfl rfl rfl fun h => v_loadS_r (ow rfl h) tS3 rfl) ?_
 refine R_q _ rfl (.guarded2 (((((!decide (i.Places = 0)) && (!y)) || (((((!decide (i.Low = 0)) || (!decide (i.High = 0))) || (!decide (i.Steps = 0))) || (decide (0 < (i.Zones.length : Int)))) && (!y2))) == false) && ((!decide (i.Op = 0)) == false)) rfl rfl rfl rfl fun h => v_neq (ow rfl h) (ov rfl)) ?_
 refine R_q _ rfl (.guarded ((((!decide (i.Places = 0)) && (!y)) || (((((!decide (i.Low = 0)) || (!decide (i.High = 0))) || (!decide (i.Steps = 0))) || (decide (0 < (i.Zones.length : Int)))) && (!y2))) == false) rfl rfl rfl rfl fun h => v_or (ow rfl h) (fun hp => ow rfl (gA h (gF hp)))) ?_
 refine R_q _ rfl (.guarded ((((!decide (i.Places = 0)) && (!y)) || (((((!decide (i.Low = 0)) || (!decide (i.High = 0))) || (!decide (i.Steps = 0))) || (decide (0 < (i.Zones.length : Int)))) && (!y2))) == false) rfl rfl rfl rfl fun h => v_move (ow rfl h)) ?_
 refine R_q _ rfl (.guarded2 (((((!decide (i.Places = 0)) && (!y)) || (((((!decide (i.Low = 0)) || (!decide (i.High = 0))) || (!decide (i.Steps = 0))) || (decide (0 < (i.Zones.length : Int)))) && (!y2))) == false) && (((!decide (i.Op = 0)) || (!decide (i.N = 0))) == true)) rfl rfl rfl rfl fun h => v_move (ov rfl)) ?_
 refine R_q (.when (((((!decide (i.Places = 0)) && (!y)) || (((((!decide (i.Low = 0)) || (!decide (i.High = 0))) || (!decide (i.Steps = 0))) || (decide (0 < (i.Zones.length : Int)))) && (!y2))) == false) && (((!decide (i.Op = 0)) || (!decide (i.N = 0))) == true)) (.sl 3 (List.map R3 ([3, 5] : List Int)))) rfl (.guarded2 (((((!decide (i.Places = 0)) && (!y)) || (((((!decide (i.Low = 0)) || (!decide (i.High = 0))) || (!decide (i.Steps = 0))) || (decide (0 < (i.Zones.length : Int)))) && (!y2))) == false) && (((!decide (i.Op = 0)) || (!decide (i.N = 0))) == true)) rfl rfl rfl rfl fun h => v_lit tL127 (.cons (cvs (ov rfl) (cell1_b rfl)) rfl (.cons (.b rfl) .nil) <| .cons (cvs (ov rfl) (cell1_b rfl)) rfl (.cons (.b rfl) .nil) <| .nil) rfl rfl) ?_
 obtain ⟨y3, h_y3, h⟩ := bnd h
 refine R_q _ rfl (.guarded2 (((((!decide (i.Places = 0)) && (!y)) || (((((!decide (i.Low = 0)) || (!decide (i.High = 0))) || (!decide (i.Steps = 0))) || (decide (0 < (i.Zones.length : Int)))) && (!y2))) == false) && (((!decide (i.Op = 0)) || (!decide (i.N = 0))) == true)) rfl rfl rfl rfl fun h => v_callC (ow rfl h) rfl (ok_panel_unused_1 (gdT h_y3 h)) (.cons (ow rfl h) (.b rfl) <| .nil)) ?_
 refine R_q _ rfl (.guarded2 (((((!decide (i.Places = 0)) && (!y)) || (((((!decide (i.Low = 0)) || (!decide (i.High = 0))) || (!decide (i.Steps = 0))) || (decide (0 < (i.Zones.length : Int)))) && (!y2))) == false) && (((!decide (i.Op = 0)) || (!decide (i.N = 0))) == true)) rfl rfl rfl rfl fun h => v_not (ow rfl h)) ?_
 refine R_q _ rfl (.guarded ((((!decide (i.Places = 0)) && (!y)) || (((((!decide (i.Low = 0)) || (!decide (i.High = 0))) || (!decide (i.Steps = 0))) || (decide (0 < (i.Zones.length : Int)))) && (!y2))) == false) rfl rfl rfl rfl fun h => v_and (ow rfl h) (fun hp => ow rfl (gA h (gT hp)))) ?_
 refine R_q _ rfl (v_or (ov rfl) (fun hp => ow rfl (gF hp))) ?_
 refine R_q _ rfl (v_move (ov rfl)) ?_
 refine R_q _ rfl (.guarded (((((!decide (i.Places = 0)) && (!y)) || (((((!decide (i.Low = 0)) || (!decide (i.High = 0))) || (!decide (i.Steps = 0))) || (decide (0 < (i.Zones.length : Int)))) && (!y2))) || (((!decide (i.Op = 0)) || (!decide (i.N = 0))) && (!y3))) == false) rfl rfl rfl rfl fun h => v_fieldR (ov rfl) tF55_10) ?_
 refine R_q _ rfl (.guarded (((((!decide (i.Places = 0)) && (!y)) || (((((!decide (i.Low = 0)) || (!decide (i.High = 0))) || (!decide (i.Steps = 0))) || (decide (0 < (i.Zones.length : Int)))) && (!y2))) || (((!decide (i.Op = 0)) || (!decide (i.N = 0))) && (!y3))) == false) rfl rfl rfl rfl fun h => v_loadS_r (ow rfl h) tS4 rfl) ?_
 refine R_q _ rfl (.guarded (((((!decide (i.Places = 0)) && (!y)) || (((((!decide (i.Low = 0)) || (!decide (i.High = 0))) || (!decide (i.Steps = 0))) || (decide (0 < (i.Zones.length : Int)))) && (!y2))) || (((!decide (i.Op = 0)) || (!decide (i.N = 0))) && (!y3))) == false) rfl rfl rfl rfl fun h => v_move (ow rfl h)) ?_
 refine R_q _ rfl (.guarded2 ((((((!decide (i.Places = 0)) && (!y)) || (((((!decide (i.Low = 0)) || (!decide (i.High = 0))) || (!decide (i.Steps = 0))) || (decide (0 < (i.Zones.length : Int)))) && (!y2))) || (((!decide (i.Op = 0)) || (!decide (i.N = 0))) && (!y3))) == false) && (i.Latch == true)) rfl rfl rfl rfl fun h => v_move (ov rfl)) ?_
 refine R_q (.when ((((((!decide (i.Places = 0)) && (!y)) || (((((!decide (i.Low = 0)) || (!decide (i.High = 0))) || (!decide (i.Steps = 0))) || (decide (0 < (i.Zones.length : Int)))) && (!y2))) || (((!decide (i.Op = 0)) || (!decide (i.N = 0))) && (!y3))) == false) && (i.Latch == true)) (.sl 3 (List.map R3 ([3] : List Int)))) rfl (.guarded2 ((((((!decide (i.Places = 0)) && (!y)) || (((((!decide (i.Low = 0)) || (!decide (i.High = 0))) || (!decide (i.Steps = 0))) || (decide (0 < (i.Zones.length : Int)))) && (!y2))) || (((!decide (i.Op = 0)) || (!decide (i.N = 0))) && (!y3))) == false) && (i.Latch == true)) rfl rfl rfl rfl fun h => v_lit tL127 (.cons (cvs (ov rfl) (cell1_b rfl)) rfl (.cons (.b rfl) .nil) <| .nil) rfl rfl) ?_
 obtain ⟨y4, h_y4, h⟩ := bnd h
 refine R_q _ rfl (.guarded2 ((((((!decide (i.Places = 0)) && (!y)) || (((((!decide (i.Low = 0)) || (!decide (i.High = 0))) || (!decide (i.Steps = 0))) || (decide (0 < (i.Zones.length : Int)))) && (!y2))) || (((!decide (i.Op = 0)) || (!decide (i.N = 0))) && (!y3))) == false) && (i.Latch == true)) rfl rfl rfl rfl fun h => v_callC (ow rfl h) rfl (ok_panel_unused_1 (gdT h_y4 h)) (.cons (ow rfl h) (.b rfl) <| .nil)) ?_
 refine R_q _ rfl (.guarded2 ((((((!decide (i.Places = 0)) && (!y)) || (((((!decide (i.Low = 0)) || (!decide (i.High = 0))) || (!decide (i.Steps = 0))) || (decide (0 < (i.Zones.length : Int)))) && (!y2))) || (((!decide (i.Op = 0)) || (!decide (i.N = 0))) && (!y3))) == false) && (i.Latch == true)) rfl rfl rfl rfl fun h => v_not (ow rfl h)) ?_
 refine R_q _ rfl (.guarded (((((!decide (i.Places = 0)) && (!y)) || (((((!decide (i.Low = 0)) || (!decide (i.High = 0))) || (!decide (i.Steps = 0))) || (decide (0 < (i.Zones.length : Int)))) && (!y2))) || (((!decide (i.Op = 0)) || (!decide (i.N = 0))) && (!y3))) == false) rfl rfl rfl rfl fun h => v_and (ow rfl h) (fun hp => ow rfl (gA h (gT hp)))) ?_
 refine R_q _ rfl (v_or (ov rfl) (fun hp => ow rfl (gF hp))) ?_
 refine R_q _ rfl (v_move (ov rfl)) ?_
 refine R_q _ rfl (.guarded ((((((!decide (i.Places = 0)) && (!y)) || (((((!decide (i.Low = 0)) || (!decide (i.High = 0))) || (!decide (i.Steps = 0))) || (decide (0 < (i.Zones.length : Int)))) && (!y2))) || (((!decide (i.Op = 0)) || (!decide (i.N = 0))) && (!y3))) || (i.Latch && (!y4))) == false) rfl rfl rfl rfl fun h => v_fieldR (ov rfl) tF55_11) ?_
 refine R_q _ rfl (.guarded ((((((!decide (i.Places = 0)) && (!y)) || (((((!decide (i.Low = 0)) || (!decide (i.High = 0))) || (!decide (i.Steps = 0))) || (decide (0 < (i.Zones.length : Int)))) && (!y2))) || (((!decide (i.Op = 0)) || (!decide (i.N = 0))) && (!y3))) || (i.Latch && (!y4))) == false) rfl rfl rfl rfl fun h => v_loadS_r (ow rfl h) tS3 rfl) ?_
 refine R_q _ rfl (.guarded ((((((!decide (i.Places = 0)) && (!y)) || (((((!decide (i.Low = 0)) || (!decide (i.High = 0))) || (!decide (i.Steps = 0))) || (decide (0 < (i.Zones.length : Int)))) && (!y2))) || (((!decide (i.Op = 0)) || (!decide (i.N = 0))) && (!y3))) || (i.Latch && (!y4))) == false) rfl rfl rfl rfl fun h => v_neq (ow rfl h) (ov rfl)) ?_
 refine R_q _ rfl (.guarded ((((((!decide (i.Places = 0)) && (!y)) || (((((!decide (i.Low = 0)) || (!decide (i.High = 0))) || (!decide (i.Steps = 0))) || (decide (0 < (i.Zones.length : Int)))) && (!y2))) || (((!decide (i.Op = 0)) || (!decide (i.N = 0))) && (!y3))) || (i.Latch && (!y4))) == false) rfl rfl rfl rfl fun h => v_move (ow rfl h)) ?_
 refine R_q _ rfl (.guarded2 (((((((!decide (i.Places = 0)) && (!y)) || (((((!decide (i.Low = 0)) || (!decide (i.High = 0))) || (!decide (i.Steps = 0))) || (decide (0 < (i.Zones.length : Int)))) && (!y2))) || (((!decide (i.Op = 0)) || (!decide (i.N = 0))) && (!y3))) || (i.Latch && (!y4))) == false) && ((!decide (i.Size = 0)) == true)) rfl rfl rfl rfl fun h => v_move (ov rfl)) ?_
 refine R_q (.when (((((((!decide (i.Places = 0)) && (!y)) || (((((!decide (i.Low = 0)) || (!decide (i.High = 0))) || (!decide (i.Steps = 0))) || (decide (0 < (i.Zones.length : Int)))) && (!y2))) || (((!decide (i.Op = 0)) || (!decide (i.N = 0))) && (!y3))) || (i.Latch && (!y4))) == false) && ((!decide (i.Size = 0)) == true)) (.sl 3 (List.map R3 ([6] : List Int)))) rfl (.guarded2 (((((((!decide (i.Places = 0)) && (!y)) || (((((!decide (i.Low = 0)) || (!decide (i.High = 0))) || (!decide (i.Steps = 0))) || (decide (0 < (i.Zones.length : Int)))) && (!y2))) || (((!decide (i.Op = 0)) || (!decide (i.N = 0))) && (!y3))) || (i.Latch && (!y4))) == false) && ((!decide (i.Size = 0)) == true)) rfl rfl rfl rfl fun h => v_lit tL127 (.cons (cvs (ov rfl) (cell1_b rfl)) rfl (.cons (.b rfl) .nil) <| .nil) rfl rfl) ?_
 obtain ⟨y5, h_y5, h⟩ := bnd h
 refine R_q _ rfl (.guarded2 (((((((!decide (i.Places = 0)) && (!y)) || (((((!decide (i.Low = 0)) || (!decide (i.High = 0))) || (!decide (i.Steps = 0))) || (decide (0 < (i.Zones.length : Int)))) && (!y2))) || (((!decide (i.Op = 0)) || (!decide (i.N = 0))) && (!y3))) || (i.Latch && (!y4))) == false) && ((!decide (i.Size = 0)) == true)) rfl rfl rfl rfl fun h => v_callC (ow rfl h) rfl (ok_panel_unused_1 (gdT h_y5 h)) (.cons (ow rfl h) (.b rfl) <| .nil)) ?_
 refine R_q _ rfl (.guarded2 (((((((!decide (i.Places = 0)) && (!y)) || (((((!decide (i.Low = 0)) || (!decide (i.High = 0))) || (!decide (i.Steps = 0))) || (decide (0 < (i.Zones.length : Int)))) && (!y2))) || (((!decide (i.Op = 0)) || (!decide (i.N = 0))) && (!y3))) || (i.Latch && (!y4))) == false) && ((!decide (i.Size = 0)) == true)) rfl rfl rfl rfl fun h => v_not (ow rfl h)) ?_
 refine R_q _ rfl (.guarded ((((((!decide (i.Places = 0)) && (!y)) || (((((!decide (i.Low = 0)) || (!decide (i.High = 0))) || (!decide (i.Steps = 0))) || (decide (0 < (i.Zones.length : Int)))) && (!y2))) || (((!decide (i.Op = 0)) || (!decide (i.N = 0))) && (!y3))) || (i.Latch && (!y4))) == false) rfl rfl rfl rfl fun h => v_and (ow rfl h) (fun hp => ow rfl (gA h (gT hp)))) ?_
 refine R_q _ rfl (v_or (ov rfl) (fun hp => ow rfl (gF hp))) ?_
 refine R_q _ rfl (v_assign (ov rfl)) ?_
 refine R_nil ?_
 obtain rfl := rt (v := ((((((!decide (i.Places = 0)) && (!y)) || (((((!decide (i.Low = 0)) || (!decide (i.High = 0))) || (!decide (i.Steps = 0))) || (decide (0 < (i.Zones.length : Int)))) && (!y2))) || (((!decide (i.Op = 0)) || (!decide (i.N = 0))) && (!y3))) || (i.Latch && (!y4))) || ((!decide (i.Size = 0)) && (!y5)))) h
 refine T_ret (retq ?_ (.one (.tmp rfl (Dat.view (.b rfl)))))
 rfl

theorem ok_panel_number {n : Int} {r : Bool} (h : panel_number n = some r) :
  CSpec Tryz.prog gl0 64 [.int .i64 n] (.bool r) := by
 unfold panel_number at h
 replace h := bnd0 h
 refine spec_of (by kernel_rfl) Tryz.func64 rfl rfl ?_
 intro w0 A
 refine T_seq (T_reg ?_)
 refine R_q _ rfl (v_assign (ov rfl)) ?_
 refine R_nil ?_
 refine T_seq (T_reg ?_)
 refine R_q _ rfl (v_move (ov rfl)) ?_
 obtain ⟨y, h_y, h⟩ := bnd h
 refine R_q _ rfl (v_call (ok_panel_within h_y) (.cons (ov rfl) (.b rfl) <| .cons (ov rfl) (.b rfl) <| .cons (ov rfl) (.b rfl) <| .nil)) ?_
 refine R_q _ rfl (v_assign (ov rfl)) ?_
 refine R_nil ?_
 obtain rfl := rt (v := y) h
 refine T_ret (retq ?_ (.one (.tmp rfl (Dat.view (.b rfl)))))
 rfl

theorem ok_panel_checkDial {i : api_Instrument} {r : Int} (h : panel_checkDial i = some r) :
  CSpec Tryz.prog gl0 90 [.agg [.int .i64 i.Kind, .str i.Name, .str i.Track, .int .i64 i.Places, .int .i64 i.Low, .int .i64 i.High, .int .i64 i.Steps, .sl 169 (List.map R169 i.Zones), .int .i64 i.Op, .int .i64 i.N, .bool i.Latch, .int .i64 i.Size]] (.int .i64 r) := by
 unfold panel_checkDial at h
 replace h := bnd0 h
 refine spec_of (by kernel_rfl) Tryz.func90 rfl rfl ?_
 intro w0 A
 refine T_seq (T_reg ?_)
 refine R_q _ rfl (v_boxD (cva (ov rfl)) rfl tZ_55 rfl) ?_
 refine R_q _ rfl (v_assign (ov rfl)) ?_
 refine R_nil ?_
 refine T_seq ?_
 refine T_block ?_
 refine T_keep (kc 1 rfl <| kn) rfl ?_
 refine T_seq (T_reg ?_)
 refine R_q _ rfl (v_fieldR (ov rfl) tF55_4) ?_
 refine R_q _ rfl (v_loadS_r (ov rfl) tS3 rfl) ?_
 refine R_q _ rfl (v_fieldR (ov rfl) tF55_5) ?_
 refine R_q _ rfl (v_loadS_r (ov rfl) tS3 rfl) ?_
 refine R_q _ rfl (v_geq (ov rfl) (ov rfl)) ?_
 refine R_q _ rfl (v_move (ov rfl)) ?_
 refine R_q _ rfl (.guarded ((decide (i.High ≤ i.Low)) == false) rfl rfl rfl rfl fun h => v_fieldR (ov rfl) tF55_4) ?_
 refine R_q _ rfl (.guarded ((decide (i.High ≤ i.Low)) == false) rfl rfl rfl rfl fun h => v_loadS_r (ow rfl h) tS3 rfl) ?_
 obtain ⟨y, h_y, h⟩ := bnd h
 refine R_q _ rfl (.guarded ((decide (i.High ≤ i.Low)) == false) rfl rfl rfl rfl fun h => v_call (ok_panel_number (gdT h_y h)) (.cons (ow rfl h) (.b rfl) <| .nil)) ?_
 refine R_q _ rfl (.guarded ((decide (i.High ≤ i.Low)) == false) rfl rfl rfl rfl fun h => v_not (ow rfl h)) ?_
 refine R_q _ rfl (v_or (ov rfl) (fun hp => ow rfl (gF hp))) ?_
 refine R_q _ rfl (v_move (ov rfl)) ?_
 refine R_q _ rfl (.guarded (((decide (i.High ≤ i.Low)) || (!y)) == false) rfl rfl rfl rfl fun h => v_fieldR (ov rfl) tF55_5) ?_
 refine R_q _ rfl (.guarded (((decide (i.High ≤ i.Low)) || (!y)) == false) rfl rfl rfl rfl fun h => v_loadS_r (ow rfl h) tS3 rfl) ?_
 obtain ⟨y2, h_y2, h⟩ := bnd h
 refine R_q _ rfl (.guarded (((decide (i.High ≤ i.Low)) || (!y)) == false) rfl rfl rfl rfl fun h => v_call (ok_panel_number (gdT h_y2 h)) (.cons (ow rfl h) (.b rfl) <| .nil)) ?_
 refine R_q _ rfl (.guarded (((decide (i.High ≤ i.Low)) || (!y)) == false) rfl rfl rfl rfl fun h => v_not (ow rfl h)) ?_
 refine R_q _ rfl (v_or (ov rfl) (fun hp => ow rfl (gF hp))) ?_
 refine R_q _ rfl (v_move (ov rfl)) ?_
 refine R_q _ rfl (.guarded ((((decide (i.High ≤ i.Low)) || (!y)) || (!y2)) == false) rfl rfl rfl rfl fun h => v_fieldR (ov rfl) tF55_6) ?_
 refine R_q _ rfl (.guarded ((((decide (i.High ≤ i.Low)) || (!y)) || (!y2)) == false) rfl rfl rfl rfl fun h => v_loadS_r (ow rfl h) tS3 rfl) ?_
 obtain ⟨y3, h_y3, h⟩ := bnd h
 refine R_q _ rfl (.guarded ((((decide (i.High ≤ i.Low)) || (!y)) || (!y2)) == false) rfl rfl rfl rfl fun h => v_call (ok_panel_within (gdT h_y3 h)) (.cons (ow rfl h) (.b rfl) <| .cons (ov rfl) (.b rfl) <| .cons (ov rfl) (.b rfl) <| .nil)) ?_
 refine R_q _ rfl (.guarded ((((decide (i.High ≤ i.Low)) || (!y)) || (!y2)) == false) rfl rfl rfl rfl fun h => v_not (ow rfl h)) ?_
 refine R_q _ rfl (v_or (ov rfl) (fun hp => ow rfl (gF hp))) ?_
 refine R_q _ rfl (v_assign (ov rfl)) ?_
 refine R_nil ?_
 refine T_keep (kc 1 rfl <| kc 5 rfl <| kn) rfl ?_
 refine T_if h rfl (fun b5 h => ?_) (fun b5 h => ?_)
 ·
  refine T_keep (kn) rfl ?_
  refine T_seq (T_reg ?_)
  refine R_q _ rfl (v_assign (ov rfl)) ?_
  refine R_nil ?_
  obtain rfl := rt (v := 9) h
  refine T_ret (retq ?_ (.one (.tmp rfl (Dat.view (.b rfl)))))
  rfl
 ·
  refine T_keep (kc 1 rfl <| kn) rfl ?_
  refine T_seq (T_reg ?_)
  refine R_q _ rfl (v_fieldR (ov rfl) tF55_7) ?_
  refine R_q _ rfl (v_loadS_r (ov rfl) tS53 rfl) ?_
  refine R_q _ rfl (v_len (slv_sl (ov rfl) tZ_169) tL53 (len_map _ _)) ?_
  refine R_q _ rfl (v_gtr (ov rfl) (ov rfl)) ?_
  refine R_q _ rfl (v_assign (ov rfl)) ?_
  refine R_nil ?_
  refine T_keep (kc 1 rfl <| kc 29 rfl <| kn) rfl ?_
  refine T_if h rfl (fun b29 h => ?_) (fun b29 h => ?_)
  ·
   refine T_keep (kn) rfl ?_
   refine T_seq (T_reg ?_)
   refine R_q _ rfl (v_assign (ov rfl)) ?_
   refine R_nil ?_
   obtain rfl := rt (v := 3) h
   refine T_ret (retq ?_ (.one (.tmp rfl (Dat.view (.b rfl)))))
   rfl
  ·
   refine T_skip ?_
   refine T_joinG (fun j => (.inr j)) (t0 ⟨[], []⟩) h (fun h => ?_) (fun j h => ?_)
   ·
    refine T_keep (kc 1 rfl <| kn) rfl ?_
    refine T_seq (T_reg ?_)
    refine R_q _ rfl (v_fieldR (ov rfl) tF55_7) ?_
    refine R_q _ rfl (v_loadS_r (ov rfl) tS53 rfl) ?_
    refine R_q _ rfl (v_len (slv_sl (ov rfl) tZ_169) tL53 (len_map _ _)) ?_
    refine R_q _ rfl (v_move (ov rfl)) ?_
    refine R_nil ?_
    refine T_block ?_
    obtain ⟨r1, hl1, ho1⟩ := bndL h
    refine T_loopG _ (t1 fun i2 => ⟨[(1, .rp [.int .i64 i.Kind, .str i.Name, .str i.Track, .int .i64 i.Places, .int .i64 i.Low, .int .i64 i.High, .int .i64 i.Steps, .sl 169 (List.map R169 i.Zones), .int .i64 i.Op, .int .i64 i.N, .bool i.Latch, .int .i64 i.Size] 0), (35, .sl 169 (List.map R169 i.Zones)), (36, .int .i64 (i.Zones.length : Int)), (37, .int .i64 i2)], []⟩) _ hl1 (Ent.sel [] (sd 1 rfl rfl <| sd 35 rfl rfl <| sd 36 rfl rfl <| sd 37 rfl rfl <| sn) (.nil) rfl rfl) (fun n1 s1 h => ?_)
    obtain ⟨i2, rfl⟩ : ∃ x, x = s1 := ⟨_, rfl⟩
    replace h := t1i h
    refine t1T ?_
    unfold panel_checkDial_L1 at h
    refine T_seq (T_reg ?_)
    refine R_q _ rfl (v_lss (ov rfl) (ov rfl)) ?_
    refine R_nil ?_
    refine T_seq ?_
    refine T_if h rfl (fun b38 h => ?_) (fun b38 h => ?_)
    ·
     refine T_skip ?_
     refine T_seq ?_
     refine T_block ?_
     refine T_keep (kc 1 rfl <| kc 35 rfl <| kc 36 rfl <| kc 37 rfl <| kn) rfl ?_
     refine T_seq (T_reg ?_)
     refine R_q _ rfl (v_move (ov rfl)) ?_
     obtain ⟨x, h_x, h⟩ := bnd h
     refine R_q _ rfl (v_ixSG (ov rfl) (ov rfl) tL53 h_x) ?_
     refine R_q _ rfl (v_loadA_r (ov rfl) tA169 rfl rfl) ?_
     refine R_w _ _ rfl (w_alloc (row := [_, _, _]) 0 rfl tZ169 rfl tZ_169) ?_
     refine R_q _ rfl (v_assign (ov rfl)) ?_
     refine R_w _ _ rfl (w_store (ov rfl) (ov rfl) (cells_agg tA169 rfl) rfl rfl rfl (Nat.le_of_ble_eq_true rfl) (cell1_all rfl) rfl) ?_
     refine R_nil ?_
     refine T_block ?_
     refine T_keep (kc 1 rfl <| kc 3 rfl <| kc 4 rfl <| kc 35 rfl <| kc 36 rfl <| kc 37 rfl <| kn) rfl ?_
     refine T_seq (T_reg ?_)
     refine R_q _ rfl (v_fieldP (ov rfl) rfl rfl tF169_2) ?_
     refine R_q _ rfl (v_loadS (ov rfl) rfl rfl rfl tS9 rfl) ?_
     obtain ⟨y4, h_y4, h⟩ := bnd h
     refine R_q _ rfl (v_call (ok_panel_isName h_y4) (.cons (ov rfl) (.b rfl) <| .nil)) ?_
     refine R_q _ rfl (v_not (ov rfl)) ?_
     refine R_q _ rfl (v_assign (ov rfl)) ?_
     refine R_nil ?_
     refine T_keep (kc 1 rfl <| kc 3 rfl <| kc 4 rfl <| kc 35 rfl <| kc 36 rfl <| kc 37 rfl <| kc 42 rfl <| kn) rfl ?_
     refine T_if h rfl (fun b42 h => ?_) (fun b42 h => ?_)
     ·
      refine T_keep (kn) rfl ?_
      refine T_seq (T_reg ?_)
      refine R_q _ rfl (v_assign (ov rfl)) ?_
      refine R_nil ?_
      rw [lx h] at ho1
      replace h := ho1
      obtain rfl := rt (v := 8) h
      refine T_ret (retq ?_ (.one (.tmp rfl (Dat.view (.b rfl)))))
      rfl
     ·
      refine T_keep (kc 1 rfl <| kc 3 rfl <| kc 4 rfl <| kc 35 rfl <| kc 36 rfl <| kc 37 rfl <| kn) rfl ?_
      refine T_seq (T_reg ?_)
      refine R_q _ rfl (v_fieldP (ov rfl) rfl rfl tF169_0) ?_
      refine R_q _ rfl (v_loadS (ov rfl) rfl rfl rfl tS3 rfl) ?_
      refine R_q _ rfl (v_fieldP (ov rfl) rfl rfl tF169_1) ?_
      refine R_q _ rfl (v_loadS (ov rfl) rfl rfl rfl tS3 rfl) ?_
      refine R_q _ rfl (v_gtr (ov rfl) (ov rfl)) ?_
      refine R_q _ rfl (v_assign (ov rfl)) ?_
      refine R_nil ?_
      refine T_keep (kc 1 rfl <| kc 3 rfl <| kc 4 rfl <| kc 35 rfl <| kc 36 rfl <| kc 37 rfl <| kc 47 rfl <| kn) rfl ?_
      refine T_if h rfl (fun b47 h => ?_) (fun b47 h => ?_)
      ·
       refine T_keep (kn) rfl ?_
       refine T_seq (T_reg ?_)
       refine R_q _ rfl (v_assign (ov rfl)) ?_
       refine R_nil ?_
       rw [lx h] at ho1
       replace h := ho1
       obtain rfl := rt (v := 9) h
       refine T_ret (retq ?_ (.one (.tmp rfl (Dat.view (.b rfl)))))
       rfl
      ·
       refine T_keep (kc 1 rfl <| kc 3 rfl <| kc 4 rfl <| kc 35 rfl <| kc 36 rfl <| kc 37 rfl <| kn) rfl ?_
       refine T_seq (T_draw (cw := md0) (by kernel_rfl) ?_)
       refine D_q0 0 _ rfl (by kernel_rfl) rfl rfl (v_move (ov rfl)) ?_
       refine D_q0 1 _ rfl (by kernel_rfl) rfl rfl (v_gtr (ov rfl) (ov rfl)) ?_
       refine D_q0 2 _ rfl (by kernel_rfl) rfl rfl (v_move (ov rfl)) ?_
       refine D_q0 3 _ rfl (by kernel_rfl) rfl rfl (.guarded ((decide (0 < i2)) == true) rfl rfl rfl rfl fun h => v_fieldP (ov rfl) rfl rfl tF169_0) ?_
       refine D_q0 4 _ rfl (by kernel_rfl) rfl rfl (.guarded ((decide (0 < i2)) == true) rfl rfl rfl rfl fun h => v_loadS (ow rfl h) rfl rfl rfl tS3 rfl) ?_
       refine D_q0 5 _ rfl (by kernel_rfl) rfl rfl (.guarded ((decide (0 < i2)) == true) rfl rfl rfl rfl fun h => v_fieldR (ov rfl) tF55_7) ?_
       refine D_q0 6 _ rfl (by kernel_rfl) rfl rfl (.guarded ((decide (0 < i2)) == true) rfl rfl rfl rfl fun h => v_loadS_r (ow rfl h) tS53 rfl) ?_
       refine D_q0 7 _ rfl (by kernel_rfl) rfl rfl (.guarded ((decide (0 < i2)) == true) rfl rfl rfl rfl fun h => v_move (ov rfl)) ?_
       refine D_q0 8 _ rfl (by kernel_rfl) rfl rfl (.guarded ((decide (0 < i2)) == true) rfl rfl rfl rfl fun h => v_sub (ow rfl h) (ov rfl) rfl) ?_
       obtain ⟨x2, h_x2, h⟩ := bnd h
       refine D_q0 9 _ rfl (by kernel_rfl) rfl rfl (.guarded ((decide (0 < i2)) == true) rfl rfl rfl rfl fun h => v_ixSG (ow rfl h) (ow rfl h) tL53 (gdT h_x2 h)) ?_
       refine D_q0 10 _ rfl (by kernel_rfl) rfl rfl (.guarded ((decide (0 < i2)) == true) rfl rfl rfl rfl fun h => v_fieldR (ow rfl h) tF169_1) ?_
       refine D_q0 11 _ rfl (by kernel_rfl) rfl rfl (.guarded ((decide (0 < i2)) == true) rfl rfl rfl rfl fun h => v_loadS_r (ow rfl h) tS3 rfl) ?_
       refine D_q0 12 _ rfl (by kernel_rfl) rfl rfl (.guarded ((decide (0 < i2)) == true) rfl rfl rfl rfl fun h => v_leq (ow rfl h) (ow rfl h)) ?_
       refine D_q0 13 _ rfl (by kernel_rfl) rfl rfl (v_and (ov rfl) (fun hp => ow rfl (gT hp))) ?_
       refine D_q0 14 _ rfl (by kernel_rfl) rfl rfl (v_assign (ov rfl)) ?_
       refine D_done (by kernel_rfl) ?_
       refine T_keep (kc 1 rfl <| kc 35 rfl <| kc 36 rfl <| kc 37 rfl <| kc 53 rfl <| kn) rfl ?_
       refine T_if h rfl (fun b53 h => ?_) (fun b53 h => ?_)
       ·
        refine T_keep (kn) rfl ?_
        refine T_seq (T_reg ?_)
        refine R_q _ rfl (v_assign (ov rfl)) ?_
        refine R_nil ?_
        rw [lx h] at ho1
        replace h := ho1
        obtain rfl := rt (v := 10) h
        refine T_ret (retq ?_ (.one (.tmp rfl (Dat.view (.b rfl)))))
        rfl
       ·
        refine T_skip ?_
        refine T_keep (kc 1 rfl <| kc 35 rfl <| kc 36 rfl <| kc 37 rfl <| kn) rfl ?_
        refine T_reg ?_
        refine R_q _ rfl (v_add (ov rfl) (ov rfl) rfl) ?_
        refine R_q _ rfl (v_move (ov rfl)) ?_
        refine R_nil ?_
        exact ⟨(i64 (i2 + 1)), h, Ent.sel [] (sd 1 rfl rfl <| sd 35 rfl rfl <| sd 36 rfl rfl <| sd 37 rfl rfl <| sn) (.nil) rfl rfl⟩
    ·
     refine T_exit ?_
     rw [lx h] at ho1
     replace h := ho1
     exact ⟨(), h, Ent.sel [] (sn) (.nil) rfl rfl⟩
   ·
    replace h := elr h
    cases j
    replace h := t0i h
    refine t0T ?_
    refine T_seq (T_reg ?_)
    refine R_q _ rfl (v_assign (ov rfl)) ?_
    refine R_nil ?_
    obtain rfl := rt (v := 0) h
    refine T_ret (retq ?_ (.one (.tmp rfl (Dat.view (.b rfl)))))
    rfl

theorem ok_panel_CheckInstrument {i : api_Instrument} {r : Int} (h : panel_CheckInstrument i = some r) :
  CSpec Tryz.prog gl0 29 [.agg [.int .i64 i.Kind, .str i.Name, .str i.Track, .int .i64 i.Places, .int .i64 i.Low, .int .i64 i.High, .int .i64 i.Steps, .sl 169 (List.map R169 i.Zones), .int .i64 i.Op, .int .i64 i.N, .bool i.Latch, .int .i64 i.Size]] (.int .i64 r) := by
 unfold panel_CheckInstrument at h
 replace h := bnd0 h
 refine spec_of (by kernel_rfl) Tryz.func29 rfl rfl ?_
 intro w0 A
 refine T_seq (T_reg ?_)
 refine R_q _ rfl (v_boxD (cva (ov rfl)) rfl tZ_55 rfl) ?_
 refine R_q _ rfl (v_assign (ov rfl)) ?_
 refine R_nil ?_
 refine T_seq ?_
 refine T_block ?_
 refine T_keep (kc 1 rfl <| kn) rfl ?_
 refine T_seq (T_reg ?_)
 refine R_q _ rfl (v_fieldR (ov rfl) tF55_0) ?_
 refine R_q _ rfl (v_loadS_r (ov rfl) tS3 rfl) ?_
 obtain ⟨y, h_y, h⟩ := bnd h
 refine R_q _ rfl (v_call (ok_panel_within h_y) (.cons (ov rfl) (.b rfl) <| .cons (ov rfl) (.b rfl) <| .cons (ov rfl) (.b rfl) <| .nil)) ?_
 refine R_q _ rfl (v_not (ov rfl)) ?_
 refine R_q _ rfl (v_assign (ov rfl)) ?_
 refine R_nil ?_
 refine T_keep (kc 1 rfl <| kc 3 rfl <| kn) rfl ?_
 refine T_if h rfl (fun b3 h => ?_) (fun b3 h => ?_)
 ·
  refine T_keep (kn) rfl ?_
  refine T_seq (T_reg ?_)
  refine R_q _ rfl (v_assign (ov rfl)) ?_
  refine R_nil ?_
  obtain rfl := rt (v := 7) h
  refine T_ret (retq ?_ (.one (.tmp rfl (Dat.view (.b rfl)))))
  rfl
 ·
  refine T_keep (kc 1 rfl <| kn) rfl ?_
  refine T_seq (T_reg ?_)
  refine R_q _ rfl (v_fieldR (ov rfl) tF55_1) ?_
  refine R_q _ rfl (v_loadS_r (ov rfl) tS9 rfl) ?_
  obtain ⟨y2, h_y2, h⟩ := bnd h
  refine R_q _ rfl (v_call (ok_panel_isName h_y2) (.cons (ov rfl) (.b rfl) <| .nil)) ?_
  refine R_q _ rfl (v_not (ov rfl)) ?_
  refine R_q _ rfl (v_move (ov rfl)) ?_
  refine R_q _ rfl (.guarded ((!y2) == false) rfl rfl rfl rfl fun h => v_fieldR (ov rfl) tF55_2) ?_
  refine R_q _ rfl (.guarded ((!y2) == false) rfl rfl rfl rfl fun h => v_loadS_r (ow rfl h) tS9 rfl) ?_
  refine R_q _ rfl (.guarded ((!y2) == false) rfl rfl rfl rfl fun h => v_lenStr (ow rfl h) tStr9 rfl) ?_
  obtain ⟨y3, h_y3, h⟩ := bnd h
  refine R_q _ rfl (.guarded ((!y2) == false) rfl rfl rfl rfl fun h => v_call (ok_panel_within (gdT h_y3 h)) (.cons (ow rfl h) (.b rfl) <| .cons (ov rfl) (.b rfl) <| .cons (ov rfl) (.b rfl) <| .nil)) ?_
  refine R_q _ rfl (.guarded ((!y2) == false) rfl rfl rfl rfl fun h => v_not (ow rfl h)) ?_
  refine R_q _ rfl (v_or (ov rfl) (fun hp => ow rfl (gF hp))) ?_
  refine R_q _ rfl (v_assign (ov rfl)) ?_
  refine R_nil ?_
  refine T_keep (kc 1 rfl <| kc 8 rfl <| kn) rfl ?_
  refine T_if h rfl (fun b8 h => ?_) (fun b8 h => ?_)
  ·
   refine T_keep (kn) rfl ?_
   refine T_seq (T_reg ?_)
   refine R_q _ rfl (v_assign (ov rfl)) ?_
   refine R_nil ?_
   obtain rfl := rt (v := 8) h
   refine T_ret (retq ?_ (.one (.tmp rfl (Dat.view (.b rfl)))))
   rfl
  ·
   refine T_keep (kc 1 rfl <| kn) rfl ?_
   refine T_seq (T_reg ?_)
   refine R_q _ rfl (v_loadA_r (ov rfl) tA55 rfl rfl) ?_
   obtain ⟨y4, h_y4, h⟩ := bnd h
   refine R_q _ rfl (v_call (ok_panel_unused h_y4) (.cons (ov rfl) (.aggB rfl) <| .nil)) ?_
   refine R_q _ rfl (v_assign (ov rfl)) ?_
   refine R_nil ?_
   refine T_keep (kc 1 rfl <| kc 20 rfl <| kn) rfl ?_
   refine T_if h rfl (fun b20 h => ?_) (fun b20 h => ?_)
   ·
    refine T_keep (kn) rfl ?_
    refine T_seq (T_reg ?_)
    refine R_q _ rfl (v_assign (ov rfl)) ?_
    refine R_nil ?_
    obtain rfl := rt (v := 2) h
    refine T_ret (retq ?_ (.one (.tmp rfl (Dat.view (.b rfl)))))
    rfl
   ·
    refine T_keep (kc 1 rfl <| kn) rfl ?_
    refine T_seq (T_reg ?_)
    refine R_q _ rfl (v_fieldR (ov rfl) tF55_3) ?_
    refine R_q _ rfl (v_loadS_r (ov rfl) tS3 rfl) ?_
    obtain ⟨y5, h_y5, h⟩ := bnd h
    refine R_q _ rfl (v_call (ok_panel_within h_y5) (.cons (ov rfl) (.b rfl) <| .cons (ov rfl) (.b rfl) <| .cons (ov rfl) (.b rfl) <| .nil)) ?_
    refine R_q _ rfl (v_not (ov rfl)) ?_
    refine R_q _ rfl (v_assign (ov rfl)) ?_
    refine R_nil ?_
    refine T_keep (kc 1 rfl <| kc 23 rfl <| kn) rfl ?_
    refine T_if h rfl (fun b23 h => ?_) (fun b23 h => ?_)
    ·
     refine T_keep (kn) rfl ?_
     refine T_seq (T_reg ?_)
     refine R_q _ rfl (v_assign (ov rfl)) ?_
     refine R_nil ?_
     obtain rfl := rt (v := 9) h
     refine T_ret (retq ?_ (.one (.tmp rfl (Dat.view (.b rfl)))))
     rfl
    ·
     refine T_skip ?_
     refine T_seq ?_
     refine T_keep (kc 1 rfl <| kn) rfl ?_
     refine T_seq (T_reg ?_)
     refine R_q _ rfl (v_fieldR (ov rfl) tF55_0) ?_
     refine R_q _ rfl (v_loadS_r (ov rfl) tS3 rfl) ?_
     refine R_nil ?_
     refine T_block ?_
     refine T_keep (kc 1 rfl <| kc 29 rfl <| kn) rfl ?_
     refine T_seq (T_reg ?_)
     refine R_q _ rfl (v_eql (ov rfl) (ov rfl)) ?_
     refine R_q _ rfl (v_assign (ov rfl)) ?_
     refine R_nil ?_
     refine T_keep (kc 1 rfl <| kc 29 rfl <| kc 30 rfl <| kn) rfl ?_
     refine T_if h rfl (fun b30 h => ?_) (fun b30 h => ?_)
     ·
      refine T_keep (kc 1 rfl <| kn) rfl ?_
      refine T_seq (T_reg ?_)
      refine R_q _ rfl (v_loadA_r (ov rfl) tA55 rfl rfl) ?_
      obtain ⟨y6, h_y6, h⟩ := bnd h
      refine R_q _ rfl (v_call (ok_panel_checkDial h_y6) (.cons (ov rfl) (.aggB rfl) <| .nil)) ?_
      refine R_q _ rfl (v_assign (ov rfl)) ?_
      refine R_nil ?_
      obtain rfl := rt (v := y6) h
      refine T_ret (retq ?_ (.one (.tmp rfl (Dat.view (.b rfl)))))
      rfl
     ·
      refine T_joinG id (t1 fun v => ⟨[(1, .rp [.int .i64 i.Kind, .str i.Name, .str i.Track, .int .i64 i.Places, .int .i64 i.Low, .int .i64 i.High, .int .i64 i.Steps, .sl 169 (List.map R169 i.Zones), .int .i64 i.Op, .int .i64 i.N, .bool i.Latch, .int .i64 i.Size] 0), (29, .int .i64 i.Kind), (34, .bool v)], []⟩) h (fun h => ?_) (fun j h => ?_)
      ·
       refine T_keep (kc 1 rfl <| kc 29 rfl <| kn) rfl ?_
       refine T_seq (T_reg ?_)
       refine R_q _ rfl (v_eql (ov rfl) (ov rfl)) ?_
       refine R_q _ rfl (v_assign (ov rfl)) ?_
       refine R_nil ?_
       refine T_keep (kc 1 rfl <| kc 29 rfl <| kc 34 rfl <| kn) rfl ?_
       refine T_if h rfl (fun b34 h => ?_) (fun b34 h => ?_)
       ·
        refine T_skip ?_
        exact ⟨(decide (i.Kind = 3)), h, Ent.sel [] (sd 1 rfl rfl <| sd 29 rfl rfl <| sd 34 rfl rfl <| sn) (.nil) rfl rfl⟩
       ·
        refine T_reg ?_
        refine R_q _ rfl (v_eql (ov rfl) (ov rfl)) ?_
        refine R_q _ rfl (v_assign (ov rfl)) ?_
        refine R_nil ?_
        exact ⟨(decide (i.Kind = 5)), h, Ent.sel [] (sd 1 rfl rfl <| sd 29 rfl rfl <| sd 34 rfl rfl <| sn) (.nil) rfl rfl⟩
      ·
       obtain ⟨v, rfl⟩ : ∃ x, x = j := ⟨_, rfl⟩
       replace h := t1i h
       refine t1T ?_
       refine T_if h rfl (fun b34 h => ?_) (fun b34 h => ?_)
       ·
        refine T_seq ?_
        refine T_keep (kc 1 rfl <| kn) rfl ?_
        refine T_seq (T_reg ?_)
        refine R_q _ rfl (v_fieldR (ov rfl) tF55_8) ?_
        refine R_q _ rfl (v_loadS_r (ov rfl) tS3 rfl) ?_
        obtain ⟨y7, h_y7, h⟩ := bnd h
        refine R_q _ rfl (v_call (ok_panel_within h_y7) (.cons (ov rfl) (.b rfl) <| .cons (ov rfl) (.b rfl) <| .cons (ov rfl) (.b rfl) <| .nil)) ?_
        refine R_q _ rfl (v_not (ov rfl)) ?_
        refine R_nil ?_
        refine T_keep (kc 1 rfl <| kc 40 rfl <| kn) rfl ?_
        refine T_if h rfl (fun b40 h => ?_) (fun b40 h => ?_)
        ·
         refine T_keep (kn) rfl ?_
         refine T_seq (T_reg ?_)
         refine R_q _ rfl (v_assign (ov rfl)) ?_
         refine R_nil ?_
         obtain rfl := rt (v := 7) h
         refine T_ret (retq ?_ (.one (.tmp rfl (Dat.view (.b rfl)))))
         rfl
        ·
         refine T_skip ?_
         refine T_keep (kc 1 rfl <| kn) rfl ?_
         refine T_seq (T_reg ?_)
         refine R_q _ rfl (v_fieldR (ov rfl) tF55_9) ?_
         refine R_q _ rfl (v_loadS_r (ov rfl) tS3 rfl) ?_
         obtain ⟨y8, h_y8, h⟩ := bnd h
         refine R_q _ rfl (v_call (ok_panel_number h_y8) (.cons (ov rfl) (.b rfl) <| .nil)) ?_
         refine R_q _ rfl (v_not (ov rfl)) ?_
         refine R_nil ?_
         refine T_keep (kc 44 rfl <| kn) rfl ?_
         refine T_if h rfl (fun b44 h => ?_) (fun b44 h => ?_)
         ·
          refine T_keep (kn) rfl ?_
          refine T_seq (T_reg ?_)
          refine R_q _ rfl (v_assign (ov rfl)) ?_
          refine R_nil ?_
          obtain rfl := rt (v := 9) h
          refine T_ret (retq ?_ (.one (.tmp rfl (Dat.view (.b rfl)))))
          rfl
         ·
          refine T_skip ?_
          refine T_keep (kn) rfl ?_
          refine T_seq (T_reg ?_)
          refine R_q _ rfl (v_assign (ov rfl)) ?_
          refine R_nil ?_
          obtain rfl := rt (v := 0) h
          refine T_ret (retq ?_ (.one (.tmp rfl (Dat.view (.b rfl)))))
          rfl
       ·
        refine T_keep (kc 1 rfl <| kc 29 rfl <| kn) rfl ?_
        refine T_seq (T_reg ?_)
        refine R_q _ rfl (v_eql (ov rfl) (ov rfl)) ?_
        refine R_q _ rfl (v_assign (ov rfl)) ?_
        refine R_nil ?_
        refine T_keep (kc 1 rfl <| kc 45 rfl <| kn) rfl ?_
        refine T_if h rfl (fun b45 h => ?_) (fun b45 h => ?_)
        ·
         refine T_keep (kc 1 rfl <| kn) rfl ?_
         refine T_seq (T_reg ?_)
         refine R_q _ rfl (v_fieldR (ov rfl) tF55_11) ?_
         refine R_q _ rfl (v_loadS_r (ov rfl) tS3 rfl) ?_
         obtain ⟨y9, h_y9, h⟩ := bnd h
         refine R_q _ rfl (v_call (ok_panel_within h_y9) (.cons (ov rfl) (.b rfl) <| .cons (ov rfl) (.b rfl) <| .cons (ov rfl) (.b rfl) <| .nil)) ?_
         refine R_q _ rfl (v_not (ov rfl)) ?_
         refine R_nil ?_
         refine T_keep (kc 50 rfl <| kn) rfl ?_
         refine T_if h rfl (fun b50 h => ?_) (fun b50 h => ?_)
         ·
          refine T_keep (kn) rfl ?_
          refine T_seq (T_reg ?_)
          refine R_q _ rfl (v_assign (ov rfl)) ?_
          refine R_nil ?_
          obtain rfl := rt (v := 9) h
          refine T_ret (retq ?_ (.one (.tmp rfl (Dat.view (.b rfl)))))
          rfl
         ·
          refine T_skip ?_
          refine T_keep (kn) rfl ?_
          refine T_seq (T_reg ?_)
          refine R_q _ rfl (v_assign (ov rfl)) ?_
          refine R_nil ?_
          obtain rfl := rt (v := 0) h
          refine T_ret (retq ?_ (.one (.tmp rfl (Dat.view (.b rfl)))))
          rfl
        ·
         refine T_skip ?_
         refine T_keep (kn) rfl ?_
         refine T_seq (T_reg ?_)
         refine R_q _ rfl (v_assign (ov rfl)) ?_
         refine R_nil ?_
         obtain rfl := rt (v := 0) h
         refine T_ret (retq ?_ (.one (.tmp rfl (Dat.view (.b rfl)))))
         rfl

theorem ok_slices_IndexFunc_api_Instrument_api_Instrument {s : List api_Instrument} {f : api_Instrument → Option Bool} {r : Int} {f_f : FuncId} {f_c : List AV} (f_d : f_c.all datB = true) (f_h : ∀ (z0 : api_Instrument) z, f z0 = some z → CSpec Tryz.prog gl0 f_f ([.agg [.int .i64 z0.Kind, .str z0.Name, .str z0.Track, .int .i64 z0.Places, .int .i64 z0.Low, .int .i64 z0.High, .int .i64 z0.Steps, .sl 169 (List.map R169 z0.Zones), .int .i64 z0.Op, .int .i64 z0.N, .bool z0.Latch, .int .i64 z0.Size]] ++ f_c) (.bool z)) (h : slices_IndexFunc_api_Instrument_api_Instrument s f = some r) :
  CSpec Tryz.prog gl0 147 [.sl 55 (List.map R55 s), .fn f_f f_c] (.int .i64 r) := by
 unfold slices_IndexFunc_api_Instrument_api_Instrument at h
 replace h := bnd0 h
 refine spec_of (by kernel_rfl) Tryz.func147 rfl rfl ?_
 intro w0 A
 refine T_seq (T_reg ?_)
 refine R_q _ rfl (v_assign (ov rfl)) ?_
 refine R_nil ?_
 refine T_joinG (fun j => (.inr j)) (t0 ⟨[], []⟩) h (fun h => ?_) (fun j h => ?_)
 ·
  refine T_keep (kc 0 rfl <| kc 1 rfl <| kn) rfl ?_
  refine T_seq (T_reg ?_)
  refine R_q _ rfl (v_move (ov rfl)) ?_
  refine R_q _ rfl (v_len (slv_sl (ov rfl) tZ_55) tL39 (len_map _ _)) ?_
  refine R_q _ rfl (v_move (ov rfl)) ?_
  refine R_nil ?_
  refine T_block ?_
  obtain ⟨r1, hl1, ho1⟩ := bndL h
  refine T_loopG _ (t1 fun i => ⟨[(0, .sl 55 (List.map R55 s)), (1, .fn f_f f_c), (7, .int .i64 (s.length : Int)), (8, .int .i64 i)], []⟩) _ hl1 (Ent.sel [] (sd 0 rfl rfl <| sr 1 rfl (rFn (rld f_d)) <| sd 7 rfl rfl <| sd 8 rfl rfl <| sn) (.nil) rfl rfl) (fun n1 s1 h => ?_)
  obtain ⟨i, rfl⟩ : ∃ x, x = s1 := ⟨_, rfl⟩
  replace h := t1i h
  refine t1T ?_
  unfold slices_IndexFunc_api_Instrument_api_Instrument_L1 at h
  refine T_seq (T_reg ?_)
  refine R_q _ rfl (v_lss (ov rfl) (ov rfl)) ?_
  refine R_nil ?_
  refine T_seq ?_
  refine T_if h rfl (fun b9 h => ?_) (fun b9 h => ?_)
  ·
   refine T_skip ?_
   refine T_seq ?_
   refine T_block ?_
   refine T_keep (kc 0 rfl <| kc 1 rfl <| kc 7 rfl <| kc 8 rfl <| kn) rfl ?_
   refine T_seq (T_reg ?_)
   refine R_q _ rfl (v_move (ov rfl)) ?_
   refine R_q _ rfl (v_assign (ov rfl)) ?_
   refine R_nil ?_
   refine T_keep (kc 0 rfl <| kc 1 rfl <| kc 5 rfl <| kc 7 rfl <| kc 8 rfl <| kn) rfl ?_
   refine T_seq (T_reg ?_)
   refine R_q _ rfl (v_move (ov rfl)) ?_
   refine R_q _ rfl (v_move (ov rfl)) ?_
   refine R_q _ rfl (v_move (ov rfl)) ?_
   obtain ⟨x, h_x, h⟩ := bnd h
   refine R_q _ rfl (v_ixSG (ov rfl) (ov rfl) tL39 h_x) ?_
   refine R_q _ rfl (v_loadA_r (ov rfl) tA55 rfl rfl) ?_
   obtain ⟨y, h_y, h⟩ := bnd h
   refine R_q _ rfl (v_callC (ov rfl) f_d (f_h _ _ h_y) (.cons (ov rfl) (.aggB rfl) <| .nil)) ?_
   refine R_nil ?_
   refine T_keep (kc 0 rfl <| kc 1 rfl <| kc 5 rfl <| kc 7 rfl <| kc 8 rfl <| kc 16 rfl <| kn) rfl ?_
   refine T_if h rfl (fun b16 h => ?_) (fun b16 h => ?_)
   ·
    refine T_keep (kc 5 rfl <| kn) rfl ?_
    refine T_seq (T_reg ?_)
    refine R_q _ rfl (v_move (ov rfl)) ?_
    refine R_q _ rfl (v_assign (ov rfl)) ?_
    refine R_nil ?_
    rw [lx h] at ho1
    replace h := ho1
    obtain rfl := rt (v := i) h
    refine T_ret (retq ?_ (.one (.tmp rfl (Dat.view (.b rfl)))))
    rfl
   ·
    refine T_skip ?_
    refine T_keep (kc 0 rfl <| kc 1 rfl <| kc 7 rfl <| kc 8 rfl <| kn) rfl ?_
    refine T_reg ?_
    refine R_q _ rfl (v_add (ov rfl) (ov rfl) rfl) ?_
    refine R_q _ rfl (v_move (ov rfl)) ?_
    refine R_nil ?_
    exact ⟨(i64 (i + 1)), h, Ent.sel [] (sd 0 rfl rfl <| sr 1 rfl (rFn (rld f_d)) <| sd 7 rfl rfl <| sd 8 rfl rfl <| sn) (.nil) rfl rfl⟩
  ·
   refine T_exit ?_
   rw [lx h] at ho1
   replace h := ho1
   exact ⟨(), h, Ent.sel [] (sn) (.nil) rfl rfl⟩
 ·
  replace h := elr h
  cases j
  replace h := t0i h
  refine t0T ?_
  refine T_seq (T_reg ?_)
  refine R_q _ rfl (v_assign (ov rfl)) ?_
  refine R_nil ?_
  obtain rfl := rt (v := (-1)) h
  refine T_ret (retq ?_ (.one (.tmp rfl (Dat.view (.b rfl)))))
  rfl

theorem ok_slices_ContainsFunc_api_Instrument_api_Instrument {s : List api_Instrument} {f : api_Instrument → Option Bool} {r : Bool} {f_f : FuncId} {f_c : List AV} (f_d : f_c.all datB = true) (f_h : ∀ (z0 : api_Instrument) z, f z0 = some z → CSpec Tryz.prog gl0 f_f ([.agg [.int .i64 z0.Kind, .str z0.Name, .str z0.Track, .int .i64 z0.Places, .int .i64 z0.Low, .int .i64 z0.High, .int .i64 z0.Steps, .sl 169 (List.map R169 z0.Zones), .int .i64 z0.Op, .int .i64 z0.N, .bool z0.Latch, .int .i64 z0.Size]] ++ f_c) (.bool z)) (h : slices_ContainsFunc_api_Instrument_api_Instrument s f = some r) :
  CSpec Tryz.prog gl0 94 [.sl 55 (List.map R55 s), .fn f_f f_c] (.bool r) := by
 unfold slices_ContainsFunc_api_Instrument_api_Instrument at h
 replace h := bnd0 h
 refine spec_of (by kernel_rfl) Tryz.func94 rfl rfl ?_
 intro w0 A
 refine T_seq (T_reg ?_)
 refine R_q _ rfl (v_assign (ov rfl)) ?_
 refine R_nil ?_
 refine T_seq (T_reg ?_)
 refine R_q _ rfl (v_move (ov rfl)) ?_
 refine R_q _ rfl (v_move (ov rfl)) ?_
 obtain ⟨y, h_y, h⟩ := bnd h
 refine R_q _ rfl (v_call (ok_slices_IndexFunc_api_Instrument_api_Instrument f_d f_h h_y) (.cons (ov rfl) (.b rfl) <| .cons (ov rfl) (Dat.fnC (.refl fun x hx => .b (List.all_eq_true.1 f_d x hx))) <| .nil)) ?_
 refine R_q _ rfl (v_geq (ov rfl) (ov rfl)) ?_
 refine R_q _ rfl (v_assign (ov rfl)) ?_
 refine R_nil ?_
 obtain rfl := rt (v := (decide (0 ≤ y))) h
 refine T_ret (retq ?_ (.one (.tmp rfl (Dat.view (.b rfl)))))
 rfl

theorem ok_panel_Check_1 {x : api_Instrument} {c0 : api_Instrument} {r : Bool} (h : panel_Check_1 x c0 = some r) :
  CSpec Tryz.prog gl0 95 [.agg [.int .i64 x.Kind, .str x.Name, .str x.Track, .int .i64 x.Places, .int .i64 x.Low, .int .i64 x.High, .int .i64 x.Steps, .sl 169 (List.map R169 x.Zones), .int .i64 x.Op, .int .i64 x.N, .bool x.Latch, .int .i64 x.Size], .rp [.int .i64 c0.Kind, .str c0.Name, .str c0.Track, .int .i64 c0.Places, .int .i64 c0.Low, .int .i64 c0.High, .int .i64 c0.Steps, .sl 169 (List.map R169 c0.Zones), .int .i64 c0.Op, .int .i64 c0.N, .bool c0.Latch, .int .i64 c0.Size] 0] (.bool r) := by
 unfold panel_Check_1 at h
 replace h := bnd0 h
 refine spec_of (by kernel_rfl) Tryz.func95 rfl rfl ?_
 intro w0 A
 refine T_seq (T_reg ?_)
 refine R_q _ rfl (v_boxD (cva (ov rfl)) rfl tZ_55 rfl) ?_
 refine R_q _ rfl (v_assign (ov rfl)) ?_
 refine R_nil ?_
 refine T_keep (kc 1 rfl <| kc 2 rfl <| kc 3 rfl <| kn) rfl ?_
 refine T_seq (T_reg ?_)
 refine R_q _ rfl (v_fieldR (ov rfl) tF55_1) ?_
 refine R_q _ rfl (v_loadS_r (ov rfl) tS9 rfl) ?_
 refine R_q _ rfl (v_fieldR (ov rfl) tF55_1) ?_
 refine R_q _ rfl (v_loadS_r (ov rfl) tS9 rfl) ?_
 refine R_q _ rfl (v_eqlStr (ov rfl) (ov rfl)) ?_
 refine R_q _ rfl (v_assign (ov rfl)) ?_
 refine R_nil ?_
 obtain rfl := rt (v := (decide (x.Name = c0.Name))) h
 refine T_ret (retq ?_ (.one (.tmp rfl (Dat.view (.b rfl)))))
 rfl

theorem ok_panel_Check {p : api_Panel} {r : Int} (h : panel_Check p = some r) :
  CSpec Tryz.prog gl0 33 [.agg [.sl 55 (List.map R55 p.Instruments)]] (.int .i64 r) := by
 unfold panel_Check at h
 replace h := bnd0 h
 refine spec_of (by kernel_rfl) Tryz.func33 rfl rfl ?_
 intro w0 A
 refine T_seq (T_reg ?_)
 refine R_q _ rfl (v_boxD (cva (ov rfl)) rfl tZ_41 rfl) ?_
 refine R_q _ rfl (v_assign (ov rfl)) ?_
 refine R_nil ?_
 refine T_seq ?_
 refine T_keep (kc 1 rfl <| kn) rfl ?_
 refine T_seq (T_reg ?_)
 refine R_q _ rfl (v_fieldR (ov rfl) tF41_0) ?_
 refine R_q _ rfl (v_loadS_r (ov rfl) tS39 rfl) ?_
 refine R_q _ rfl (v_len (slv_sl (ov rfl) tZ_55) tL39 (len_map _ _)) ?_
 refine R_q _ rfl (v_gtr (ov rfl) (ov rfl)) ?_
 refine R_nil ?_
 refine T_keep (kc 1 rfl <| kc 9 rfl <| kn) rfl ?_
 refine T_if h rfl (fun b9 h => ?_) (fun b9 h => ?_)
 ·
  refine T_keep (kn) rfl ?_
  refine T_seq (T_reg ?_)
  refine R_q _ rfl (v_assign (ov rfl)) ?_
  refine R_nil ?_
  obtain rfl := rt (v := 3) h
  refine T_ret (retq ?_ (.one (.tmp rfl (Dat.view (.b rfl)))))
  rfl
 ·
  refine T_skip ?_
  refine T_joinG (fun j => (.inr j)) (t0 ⟨[], []⟩) h (fun h => ?_) (fun j h => ?_)
  ·
   refine T_keep (kc 1 rfl <| kn) rfl ?_
   refine T_seq (T_reg ?_)
   refine R_q _ rfl (v_fieldR (ov rfl) tF41_0) ?_
   refine R_q _ rfl (v_loadS_r (ov rfl) tS39 rfl) ?_
   refine R_q _ rfl (v_len (slv_sl (ov rfl) tZ_55) tL39 (len_map _ _)) ?_
   refine R_q _ rfl (v_move (ov rfl)) ?_
   refine R_nil ?_
   refine T_block ?_
   obtain ⟨r1, hl1, ho1⟩ := bndL h
   refine T_loopG _ (t1 fun i => ⟨[(1, .rp [.sl 55 (List.map R55 p.Instruments)] 0), (11, .sl 55 (List.map R55 p.Instruments)), (12, .int .i64 (p.Instruments.length : Int)), (13, .int .i64 i)], []⟩) _ hl1 (Ent.sel [] (sd 1 rfl rfl <| sd 11 rfl rfl <| sd 12 rfl rfl <| sd 13 rfl rfl <| sn) (.nil) rfl rfl) (fun n1 s1 h => ?_)
   obtain ⟨i, rfl⟩ : ∃ x, x = s1 := ⟨_, rfl⟩
   replace h := t1i h
   refine t1T ?_
   unfold panel_Check_L1 at h
   refine T_seq (T_reg ?_)
   refine R_q _ rfl (v_lss (ov rfl) (ov rfl)) ?_
   refine R_nil ?_
   refine T_seq ?_
   refine T_if h rfl (fun b14 h => ?_) (fun b14 h => ?_)
   ·
    refine T_skip ?_
    refine T_seq ?_
    refine T_block ?_
    refine T_keep (kc 1 rfl <| kc 11 rfl <| kc 12 rfl <| kc 13 rfl <| kn) rfl ?_
    refine T_seq (T_reg ?_)
    refine R_q _ rfl (v_move (ov rfl)) ?_
    obtain ⟨x, h_x, h⟩ := bnd h
    refine R_q _ rfl (v_ixSG (ov rfl) (ov rfl) tL39 h_x) ?_
    refine R_q _ rfl (v_loadA_r (ov rfl) tA55 rfl rfl) ?_
    refine R_w _ _ rfl (w_alloc (row := [_, _, _, _, _, _, _, _, _, _, _, _]) 0 rfl tZ55 rfl tZ_55) ?_
    refine R_q _ rfl (v_assign (ov rfl)) ?_
    refine R_w _ _ rfl (w_store (ov rfl) (ov rfl) (cells_agg tA55 rfl) rfl rfl rfl (Nat.le_of_ble_eq_true rfl) (cell1_all rfl) rfl) ?_
    refine R_nil ?_
    refine T_seq ?_
    refine T_keep (kc 1 rfl <| kc 3 rfl <| kc 4 rfl <| kc 11 rfl <| kc 12 rfl <| kc 13 rfl <| kn) rfl ?_
    refine T_seq (T_reg ?_)
    refine R_q _ rfl (v_loadA (ov rfl) rfl rfl rfl tA55 rfl rfl) ?_
    obtain ⟨y, h_y, h⟩ := bnd h
    refine R_q _ rfl (v_call (ok_panel_CheckInstrument h_y) (.cons (ov rfl) (.aggB rfl) <| .nil)) ?_
    refine R_q _ rfl (v_assign (ov rfl)) ?_
    refine R_nil ?_
    refine T_keep (kc 1 rfl <| kc 3 rfl <| kc 4 rfl <| kc 5 rfl <| kc 11 rfl <| kc 12 rfl <| kc 13 rfl <| kn) rfl ?_
    refine T_seq (T_reg ?_)
    refine R_q _ rfl (v_move (ov rfl)) ?_
    refine R_q _ rfl (v_neq (ov rfl) (ov rfl)) ?_
    refine R_nil ?_
    refine T_keep (kc 1 rfl <| kc 3 rfl <| kc 4 rfl <| kc 5 rfl <| kc 11 rfl <| kc 12 rfl <| kc 13 rfl <| kc 21 rfl <| kn) rfl ?_
    refine T_if h rfl (fun b21 h => ?_) (fun b21 h => ?_)
    ·
     refine T_keep (kc 5 rfl <| kn) rfl ?_
     refine T_seq (T_reg ?_)
     refine R_q _ rfl (v_move (ov rfl)) ?_
     refine R_q _ rfl (v_assign (ov rfl)) ?_
     refine R_nil ?_
     rw [lx h] at ho1
     replace h := ho1
     obtain rfl := rt (v := y) h
     refine T_ret (retq ?_ (.one (.tmp rfl (Dat.view (.b rfl)))))
     rfl
    ·
     refine T_skip ?_
     refine T_keep (kc 1 rfl <| kc 3 rfl <| kc 4 rfl <| kc 11 rfl <| kc 12 rfl <| kc 13 rfl <| kn) rfl ?_
     refine T_seq (T_reg ?_)
     refine R_q _ rfl (v_fieldR (ov rfl) tF41_0) ?_
     refine R_q _ rfl (v_loadS_r (ov rfl) tS39 rfl) ?_
     refine R_q _ rfl (v_move (ov rfl)) ?_
     obtain ⟨l, h_l, h⟩ := bnd h
     refine R_q _ rfl (v_sliceG (ov rfl) tL39 on (oi (ov rfl)) h_l) ?_
     refine R_ent (Ent.sel [none] (sd 1 rfl rfl <| sd 3 rfl rfl <| sr 4 rfl (.frp ⟨rfl, ⟨_, rfl⟩, rfl, rfl⟩) <| sd 11 rfl rfl <| sd 12 rfl rfl <| sd 13 rfl rfl <| sd 23 rfl rfl <| sd 24 rfl rfl <| sd 25 rfl rfl <| sd 26 rfl rfl <| sn) (.row 55 <| .nil) rfl rfl) ?_
     refine R_q _ rfl (v_makeFunc (.cons (ov rfl) <| .nil)) ?_
     obtain ⟨y2, h_y2, h⟩ := bnd h
     refine R_q _ rfl (v_call (ok_slices_ContainsFunc_api_Instrument_api_Instrument rfl (fun z0 _ hz => ok_panel_Check_1 hz) h_y2) (.cons (ov rfl) (.b rfl) <| .cons (ov rfl) (.fnC (.cons (.b rfl) <| .nil)) <| .nil)) ?_
     refine R_nil ?_
     refine T_keep (kc 1 rfl <| kc 11 rfl <| kc 12 rfl <| kc 13 rfl <| kc 28 rfl <| kn) rfl ?_
     refine T_if h rfl (fun b28 h => ?_) (fun b28 h => ?_)
     ·
      refine T_keep (kn) rfl ?_
      refine T_seq (T_reg ?_)
      refine R_q _ rfl (v_assign (ov rfl)) ?_
      refine R_nil ?_
      rw [lx h] at ho1
      replace h := ho1
      obtain rfl := rt (v := 5) h
      refine T_ret (retq ?_ (.one (.tmp rfl (Dat.view (.b rfl)))))
      rfl
     ·
      refine T_skip ?_
      refine T_keep (kc 1 rfl <| kc 11 rfl <| kc 12 rfl <| kc 13 rfl <| kn) rfl ?_
      refine T_reg ?_
      refine R_q _ rfl (v_add (ov rfl) (ov rfl) rfl) ?_
      refine R_q _ rfl (v_move (ov rfl)) ?_
      refine R_nil ?_
      exact ⟨(i64 (i + 1)), h, Ent.sel [] (sd 1 rfl rfl <| sd 11 rfl rfl <| sd 12 rfl rfl <| sd 13 rfl rfl <| sn) (.nil) rfl rfl⟩
   ·
    refine T_exit ?_
    rw [lx h] at ho1
    replace h := ho1
    exact ⟨(), h, Ent.sel [] (sn) (.nil) rfl rfl⟩
  ·
   replace h := elr h
   cases j
   replace h := t0i h
   refine t0T ?_
   refine T_seq (T_reg ?_)
   refine R_q _ rfl (v_assign (ov rfl)) ?_
   refine R_nil ?_
   obtain rfl := rt (v := 0) h
   refine T_ret (retq ?_ (.one (.tmp rfl (Dat.view (.b rfl)))))
   rfl

theorem ok_event_within {n : Int} {low : Int} {high : Int} {r : Bool} (h : event_within n low high = some r) :
  CSpec Tryz.prog gl0 122 [.int .i64 n, .int .i64 low, .int .i64 high] (.bool r) := by
 unfold event_within at h
 replace h := bnd0 h
 refine spec_of (by kernel_rfl) Tryz.func122 rfl rfl ?_
 intro w0 A
 refine T_seq (T_reg ?_)
 refine R_q _ rfl (v_assign (ov rfl)) ?_
 refine R_nil ?_
 refine T_seq (T_reg ?_)
 refine R_q _ rfl (v_move (ov rfl)) ?_
 refine R_q _ rfl (v_move (ov rfl)) ?_
 refine R_q _ rfl (v_geq (ov rfl) (ov rfl)) ?_
 refine R_q _ rfl (v_move (ov rfl)) ?_
 refine R_q _ rfl (.guarded ((decide (low ≤ n)) == true) rfl rfl rfl rfl fun h => v_move (ov rfl)) ?_
 refine R_q _ rfl (.guarded ((decide (low ≤ n)) == true) rfl rfl rfl rfl fun h => v_move (ov rfl)) ?_
 refine R_q _ rfl (.guarded ((decide (low ≤ n)) == true) rfl rfl rfl rfl fun h => v_leq (ow rfl h) (ow rfl h)) ?_
 refine R_q _ rfl (v_and (ov rfl) (fun hp => ow rfl (gT hp))) ?_
 refine R_q _ rfl (v_assign (ov rfl)) ?_
 refine R_nil ?_
 obtain rfl := rt (v := ((decide (low ≤ n)) && (decide (n ≤ high)))) h
 refine T_ret (retq ?_ (.one (.tmp rfl (Dat.view (.b rfl)))))
 rfl

theorem ok_event_isWord {s : Str} {r : Bool} (h : event_isWord s = some r) :
  CSpec Tryz.prog gl0 155 [.str s] (.bool r) := by
 unfold event_isWord at h
 replace h := bnd0 h
 refine spec_of (by kernel_rfl) Tryz.func155 rfl rfl ?_
 intro w0 A
 refine T_seq (T_reg ?_)
 refine R_q _ rfl (v_assign (ov rfl)) ?_
 refine R_nil ?_
 refine T_seq ?_
 refine T_keep (kc 0 rfl <| kn) rfl ?_
 refine T_seq (T_reg ?_)
 refine R_q _ rfl (v_move (ov rfl)) ?_
 refine R_nil ?_
 refine T_block ?_
 refine T_joinG id (t1 fun v => ⟨[(4, .bool v)], []⟩) h (fun h => ?_) (fun j h => ?_)
 ·
  refine T_keep (kc 3 rfl <| kn) rfl ?_
  refine T_seq (T_reg ?_)
  refine R_q _ rfl (v_eqlStr (ov rfl) (ov rfl)) ?_
  refine R_q _ rfl (v_assign (ov rfl)) ?_
  refine R_nil ?_
  refine T_keep (kc 3 rfl <| kc 4 rfl <| kn) rfl ?_
  refine T_if h rfl (fun b4 h => ?_) (fun b4 h => ?_)
  ·
   refine T_skip ?_
   exact ⟨(decide (s = [112, 104, 97, 115, 101])), h, Ent.sel [] (sd 4 rfl rfl <| sn) (.nil) rfl rfl⟩
  ·
   refine T_seq (T_reg ?_)
   refine R_q _ rfl (v_eqlStr (ov rfl) (ov rfl)) ?_
   refine R_q _ rfl (v_assign (ov rfl)) ?_
   refine R_nil ?_
   refine T_keep (kc 3 rfl <| kc 4 rfl <| kn) rfl ?_
   refine T_if h rfl (fun b4 h => ?_) (fun b4 h => ?_)
   ·
    refine T_skip ?_
    exact ⟨(decide (s = [109, 111, 118, 101])), h, Ent.sel [] (sd 4 rfl rfl <| sn) (.nil) rfl rfl⟩
   ·
    refine T_seq (T_reg ?_)
    refine R_q _ rfl (v_eqlStr (ov rfl) (ov rfl)) ?_
    refine R_q _ rfl (v_assign (ov rfl)) ?_
    refine R_nil ?_
    refine T_keep (kc 3 rfl <| kc 4 rfl <| kn) rfl ?_
    refine T_if h rfl (fun b4 h => ?_) (fun b4 h => ?_)
    ·
     refine T_skip ?_
     exact ⟨(decide (s = [114, 117, 108, 101])), h, Ent.sel [] (sd 4 rfl rfl <| sn) (.nil) rfl rfl⟩
    ·
     refine T_seq (T_reg ?_)
     refine R_q _ rfl (v_eqlStr (ov rfl) (ov rfl)) ?_
     refine R_q _ rfl (v_assign (ov rfl)) ?_
     refine R_nil ?_
     refine T_keep (kc 3 rfl <| kc 4 rfl <| kn) rfl ?_
     refine T_if h rfl (fun b4 h => ?_) (fun b4 h => ?_)
     ·
      refine T_skip ?_
      exact ⟨(decide (s = [105, 102])), h, Ent.sel [] (sd 4 rfl rfl <| sn) (.nil) rfl rfl⟩
     ·
      refine T_seq (T_reg ?_)
      refine R_q _ rfl (v_eqlStr (ov rfl) (ov rfl)) ?_
      refine R_q _ rfl (v_assign (ov rfl)) ?_
      refine R_nil ?_
      refine T_keep (kc 3 rfl <| kc 4 rfl <| kn) rfl ?_
      refine T_if h rfl (fun b4 h => ?_) (fun b4 h => ?_)
      ·
       refine T_skip ?_
       exact ⟨(decide (s = [111, 114])), h, Ent.sel [] (sd 4 rfl rfl <| sn) (.nil) rfl rfl⟩
      ·
       refine T_seq (T_reg ?_)
       refine R_q _ rfl (v_eqlStr (ov rfl) (ov rfl)) ?_
       refine R_q _ rfl (v_assign (ov rfl)) ?_
       refine R_nil ?_
       refine T_keep (kc 3 rfl <| kc 4 rfl <| kn) rfl ?_
       refine T_if h rfl (fun b4 h => ?_) (fun b4 h => ?_)
       ·
        refine T_skip ?_
        exact ⟨(decide (s = [97, 110, 100])), h, Ent.sel [] (sd 4 rfl rfl <| sn) (.nil) rfl rfl⟩
       ·
        refine T_seq (T_reg ?_)
        refine R_q _ rfl (v_eqlStr (ov rfl) (ov rfl)) ?_
        refine R_q _ rfl (v_assign (ov rfl)) ?_
        refine R_nil ?_
        refine T_keep (kc 3 rfl <| kc 4 rfl <| kn) rfl ?_
        refine T_if h rfl (fun b4 h => ?_) (fun b4 h => ?_)
        ·
         refine T_skip ?_
         exact ⟨(decide (s = [116, 114, 117, 101])), h, Ent.sel [] (sd 4 rfl rfl <| sn) (.nil) rfl rfl⟩
        ·
         refine T_seq (T_reg ?_)
         refine R_q _ rfl (v_eqlStr (ov rfl) (ov rfl)) ?_
         refine R_q _ rfl (v_assign (ov rfl)) ?_
         refine R_nil ?_
         refine T_keep (kc 3 rfl <| kc 4 rfl <| kn) rfl ?_
         refine T_if h rfl (fun b4 h => ?_) (fun b4 h => ?_)
         ·
          refine T_skip ?_
          exact ⟨(decide (s = [102, 97, 108, 115, 101])), h, Ent.sel [] (sd 4 rfl rfl <| sn) (.nil) rfl rfl⟩
         ·
          refine T_seq (T_reg ?_)
          refine R_q _ rfl (v_eqlStr (ov rfl) (ov rfl)) ?_
          refine R_q _ rfl (v_assign (ov rfl)) ?_
          refine R_nil ?_
          refine T_keep (kc 3 rfl <| kc 4 rfl <| kn) rfl ?_
          refine T_if h rfl (fun b4 h => ?_) (fun b4 h => ?_)
          ·
           refine T_skip ?_
           exact ⟨(decide (s = [115, 116, 101, 97, 100, 121])), h, Ent.sel [] (sd 4 rfl rfl <| sn) (.nil) rfl rfl⟩
          ·
           refine T_seq (T_reg ?_)
           refine R_q _ rfl (v_eqlStr (ov rfl) (ov rfl)) ?_
           refine R_q _ rfl (v_assign (ov rfl)) ?_
           refine R_nil ?_
           refine T_keep (kc 3 rfl <| kc 4 rfl <| kn) rfl ?_
           refine T_if h rfl (fun b4 h => ?_) (fun b4 h => ?_)
           ·
            refine T_skip ?_
            exact ⟨(decide (s = [110, 111, 116])), h, Ent.sel [] (sd 4 rfl rfl <| sn) (.nil) rfl rfl⟩
           ·
            refine T_seq (T_reg ?_)
            refine R_q _ rfl (v_eqlStr (ov rfl) (ov rfl)) ?_
            refine R_q _ rfl (v_assign (ov rfl)) ?_
            refine R_nil ?_
            refine T_keep (kc 3 rfl <| kc 4 rfl <| kn) rfl ?_
            refine T_if h rfl (fun b4 h => ?_) (fun b4 h => ?_)
            ·
             refine T_skip ?_
             exact ⟨(decide (s = [102, 111, 114])), h, Ent.sel [] (sd 4 rfl rfl <| sn) (.nil) rfl rfl⟩
            ·
             refine T_seq (T_reg ?_)
             refine R_q _ rfl (v_eqlStr (ov rfl) (ov rfl)) ?_
             refine R_q _ rfl (v_assign (ov rfl)) ?_
             refine R_nil ?_
             refine T_keep (kc 3 rfl <| kc 4 rfl <| kn) rfl ?_
             refine T_if h rfl (fun b4 h => ?_) (fun b4 h => ?_)
             ·
              refine T_skip ?_
              exact ⟨(decide (s = [119, 105, 116, 104, 105, 110])), h, Ent.sel [] (sd 4 rfl rfl <| sn) (.nil) rfl rfl⟩
             ·
              refine T_seq (T_reg ?_)
              refine R_q _ rfl (v_eqlStr (ov rfl) (ov rfl)) ?_
              refine R_q _ rfl (v_assign (ov rfl)) ?_
              refine R_nil ?_
              refine T_keep (kc 3 rfl <| kc 4 rfl <| kn) rfl ?_
              refine T_if h rfl (fun b4 h => ?_) (fun b4 h => ?_)
              ·
               refine T_skip ?_
               exact ⟨(decide (s = [99, 111, 117, 110, 116])), h, Ent.sel [] (sd 4 rfl rfl <| sn) (.nil) rfl rfl⟩
              ·
               refine T_seq (T_reg ?_)
               refine R_q _ rfl (v_eqlStr (ov rfl) (ov rfl)) ?_
               refine R_q _ rfl (v_assign (ov rfl)) ?_
               refine R_nil ?_
               refine T_keep (kc 3 rfl <| kc 4 rfl <| kn) rfl ?_
               refine T_if h rfl (fun b4 h => ?_) (fun b4 h => ?_)
               ·
                refine T_skip ?_
                exact ⟨(decide (s = [111, 102])), h, Ent.sel [] (sd 4 rfl rfl <| sn) (.nil) rfl rfl⟩
               ·
                refine T_seq (T_reg ?_)
                refine R_q _ rfl (v_eqlStr (ov rfl) (ov rfl)) ?_
                refine R_q _ rfl (v_assign (ov rfl)) ?_
                refine R_nil ?_
                refine T_keep (kc 3 rfl <| kc 4 rfl <| kn) rfl ?_
                refine T_if h rfl (fun b4 h => ?_) (fun b4 h => ?_)
                ·
                 refine T_skip ?_
                 exact ⟨(decide (s = [114, 105, 115, 101, 115])), h, Ent.sel [] (sd 4 rfl rfl <| sn) (.nil) rfl rfl⟩
                ·
                 refine T_reg ?_
                 refine R_q _ rfl (v_eqlStr (ov rfl) (ov rfl)) ?_
                 refine R_q _ rfl (v_assign (ov rfl)) ?_
                 refine R_nil ?_
                 exact ⟨(decide (s = [115, 105, 110, 99, 101])), h, Ent.sel [] (sd 4 rfl rfl <| sn) (.nil) rfl rfl⟩
 ·
  obtain ⟨v, rfl⟩ : ∃ x, x = j := ⟨_, rfl⟩
  replace h := t1i h
  refine t1T ?_
  refine T_if h rfl (fun b4 h => ?_) (fun b4 h => ?_)
  ·
   refine T_keep (kn) rfl ?_
   refine T_seq (T_reg ?_)
   refine R_q _ rfl (v_assign (ov rfl)) ?_
   refine R_nil ?_
   obtain rfl := rt (v := true) h
   refine T_ret (retq ?_ (.one (.tmp rfl (Dat.view (.b rfl)))))
   rfl
  ·
   refine T_skip ?_
   refine T_keep (kn) rfl ?_
   refine T_seq (T_reg ?_)
   refine R_q _ rfl (v_assign (ov rfl)) ?_
   refine R_nil ?_
   obtain rfl := rt (v := false) h
   refine T_ret (retq ?_ (.one (.tmp rfl (Dat.view (.b rfl)))))
   rfl

theorem ok_event_nameByte {c_ : Int} {r : Bool} (h : event_nameByte c_ = some r) :
  CSpec Tryz.prog gl0 156 [.int .u8 c_] (.bool r) := by
 unfold event_nameByte at h
 replace h := bnd0 h
 refine spec_of (by kernel_rfl) Tryz.func156 rfl rfl ?_
 intro w0 A
 refine T_seq (T_reg ?_)
 refine R_q _ rfl (v_assign (ov rfl)) ?_
 refine R_nil ?_
 refine T_seq (T_reg ?_)
 refine R_q _ rfl (v_move (ov rfl)) ?_
 refine R_q _ rfl (v_geq (ov rfl) (ov rfl)) ?_
 refine R_q _ rfl (v_move (ov rfl)) ?_
 refine R_q _ rfl (.guarded ((decide (97 ≤ c_)) == true) rfl rfl rfl rfl fun h => v_move (ov rfl)) ?_
 refine R_q _ rfl (.guarded ((decide (97 ≤ c_)) == true) rfl rfl rfl rfl fun h => v_leq (ow rfl h) (ov rfl)) ?_
 refine R_q _ rfl (v_and (ov rfl) (fun hp => ow rfl (gT hp))) ?_
 refine R_q _ rfl (v_move (ov rfl)) ?_
 refine R_q _ rfl (.guarded (((decide (97 ≤ c_)) && (decide (c_ ≤ 122))) == false) rfl rfl rfl rfl fun h => v_move (ov rfl)) ?_
 refine R_q _ rfl (.guarded (((decide (97 ≤ c_)) && (decide (c_ ≤ 122))) == false) rfl rfl rfl rfl fun h => v_geq (ow rfl h) (ov rfl)) ?_
 refine R_q _ rfl (.guarded (((decide (97 ≤ c_)) && (decide (c_ ≤ 122))) == false) rfl rfl rfl rfl fun h => v_move (ow rfl h)) ?_
 refine R_q _ rfl (.guarded2 ((((decide (97 ≤ c_)) && (decide (c_ ≤ 122))) == false) && ((decide (48 ≤ c_)) == true)) rfl rfl rfl rfl fun h => v_move (ov rfl)) ?_
 refine R_q _ rfl (.guarded2 ((((decide (97 ≤ c_)) && (decide (c_ ≤ 122))) == false) && ((decide (48 ≤ c_)) == true)) rfl rfl rfl rfl fun h => v_leq (ow rfl h) (ov rfl)) ?_
 refine R_q _ rfl (.guarded (((decide (97 ≤ c_)) && (decide (c_ ≤ 122))) == false) rfl rfl rfl rfl fun h => v_and (ow rfl h) (fun hp => ow rfl (gA h (gT hp)))) ?_
 refine R_q _ rfl (v_or (ov rfl) (fun hp => ow rfl (gF hp))) ?_
 refine R_q _ rfl (v_move (ov rfl)) ?_
 refine R_q _ rfl (.guarded ((((decide (97 ≤ c_)) && (decide (c_ ≤ 122))) || ((decide (48 ≤ c_)) && (decide (c_ ≤ 57)))) == false) rfl rfl rfl rfl fun h => v_move (ov rfl)) ?_
 refine R_q _ rfl (.guarded ((((decide (97 ≤ c_)) && (decide (c_ ≤ 122))) || ((decide (48 ≤ c_)) && (decide (c_ ≤ 57)))) == false) rfl rfl rfl rfl fun h => v_eql (ow rfl h) (ov rfl)) ?_
 refine R_q _ rfl (v_or (ov rfl) (fun hp => ow rfl (gF hp))) ?_
 refine R_q _ rfl (v_assign (ov rfl)) ?_
 refine R_nil ?_
 obtain rfl := rt (v := ((((decide (97 ≤ c_)) && (decide (c_ ≤ 122))) || ((decide (48 ≤ c_)) && (decide (c_ ≤ 57)))) || (decide (c_ = 45)))) h
 refine T_ret (retq ?_ (.one (.tmp rfl (Dat.view (.b rfl)))))
 rfl

theorem ok_event_isName {s : Str} {r : Bool} (h : event_isName s = some r) :
  CSpec Tryz.prog gl0 118 [.str s] (.bool r) := by
 unfold event_isName at h
 replace h := bnd0 h
 refine spec_of (by kernel_rfl) Tryz.func118 rfl rfl ?_
 intro w0 A
 refine T_seq (T_reg ?_)
 refine R_q _ rfl (v_assign (ov rfl)) ?_
 refine R_nil ?_
 refine T_seq ?_
 refine T_keep (kc 0 rfl <| kn) rfl ?_
 refine T_seq (T_reg ?_)
 refine R_q _ rfl (v_move (ov rfl)) ?_
 refine R_q _ rfl (v_lenStr (ov rfl) tStr9 rfl) ?_
 obtain ⟨y, h_y, h⟩ := bnd h
 refine R_q _ rfl (v_call (ok_event_within h_y) (.cons (ov rfl) (.b rfl) <| .cons (ov rfl) (.b rfl) <| .cons (ov rfl) (.b rfl) <| .nil)) ?_
 refine R_q _ rfl (v_not (ov rfl)) ?_
 refine R_q _ rfl (v_move (ov rfl)) ?_
 refine R_q _ rfl (.guarded ((!y) == false) rfl rfl rfl rfl fun h => v_move (ov rfl)) ?_
 obtain ⟨b, h_b, h⟩ := bnd h
 refine R_q _ rfl (.guarded ((!y) == false) rfl rfl rfl rfl fun h => v_idxStr (ow rfl h) (ov rfl) tStr9 (gdT h_b h)) ?_
 refine R_q _ rfl (.guarded ((!y) == false) rfl rfl rfl rfl fun h => v_lss (ow rfl h) (ov rfl)) ?_
 refine R_q _ rfl (v_or (ov rfl) (fun hp => ow rfl (gF hp))) ?_
 refine R_q _ rfl (v_move (ov rfl)) ?_
 refine R_q _ rfl (.guarded (((!y) || (decide (b < 97))) == false) rfl rfl rfl rfl fun h => v_move (ov rfl)) ?_
 obtain ⟨b2, h_b2, h⟩ := bnd h
 refine R_q _ rfl (.guarded (((!y) || (decide (b < 97))) == false) rfl rfl rfl rfl fun h => v_idxStr (ow rfl h) (ov rfl) tStr9 (gdT h_b2 h)) ?_
 refine R_q _ rfl (.guarded (((!y) || (decide (b < 97))) == false) rfl rfl rfl rfl fun h => v_gtr (ow rfl h) (ov rfl)) ?_
 refine R_q _ rfl (v_or (ov rfl) (fun hp => ow rfl (gF hp))) ?_
 refine R_q _ rfl (v_move (ov rfl)) ?_
 refine R_q _ rfl (.guarded ((((!y) || (decide (b < 97))) || (decide (122 < b2))) == false) rfl rfl rfl rfl fun h => v_move (ov rfl)) ?_
 obtain ⟨y2, h_y2, h⟩ := bnd h
 refine R_q _ rfl (.guarded ((((!y) || (decide (b < 97))) || (decide (122 < b2))) == false) rfl rfl rfl rfl fun h => v_call (ok_event_isWord (gdT h_y2 h)) (.cons (ow rfl h) (.b rfl) <| .nil)) ?_
 refine R_q _ rfl (v_or (ov rfl) (fun hp => ow rfl (gF hp))) ?_
 refine R_nil ?_
 refine T_keep (kc 0 rfl <| kc 21 rfl <| kn) rfl ?_
 refine T_if h rfl (fun b21 h => ?_) (fun b21 h => ?_)
 ·
  refine T_keep (kn) rfl ?_
  refine T_seq (T_reg ?_)
  refine R_q _ rfl (v_assign (ov rfl)) ?_
  refine R_nil ?_
  obtain rfl := rt (v := false) h
  refine T_ret (retq ?_ (.one (.tmp rfl (Dat.view (.b rfl)))))
  rfl
 ·
  refine T_skip ?_
  refine T_joinG (fun j => (.inr j)) (t0 ⟨[], []⟩) h (fun h => ?_) (fun j h => ?_)
  ·
   refine T_keep (kc 0 rfl <| kn) rfl ?_
   refine T_seq (T_reg ?_)
   refine R_q _ rfl (v_move (ov rfl)) ?_
   refine R_q _ rfl (v_lenStr (ov rfl) tStr9 rfl) ?_
   refine R_q _ rfl (v_move (ov rfl)) ?_
   refine R_nil ?_
   refine T_block ?_
   obtain ⟨r1, hl1, ho1⟩ := bndL h
   refine T_loopG _ (t1 fun i => ⟨[(0, .str s), (23, .int .i64 (s.length : Int)), (24, .int .i64 i)], []⟩) _ hl1 (Ent.sel [] (sd 0 rfl rfl <| sd 23 rfl rfl <| sd 24 rfl rfl <| sn) (.nil) rfl rfl) (fun n1 s1 h => ?_)
   obtain ⟨i, rfl⟩ : ∃ x, x = s1 := ⟨_, rfl⟩
   replace h := t1i h
   refine t1T ?_
   unfold event_isName_L1 at h
   refine T_seq (T_reg ?_)
   refine R_q _ rfl (v_lss (ov rfl) (ov rfl)) ?_
   refine R_nil ?_
   refine T_seq ?_
   refine T_if h rfl (fun b25 h => ?_) (fun b25 h => ?_)
   ·
    refine T_skip ?_
    refine T_seq ?_
    refine T_block ?_
    refine T_keep (kc 0 rfl <| kc 23 rfl <| kc 24 rfl <| kn) rfl ?_
    refine T_seq (T_reg ?_)
    refine R_q _ rfl (v_move (ov rfl)) ?_
    refine R_q _ rfl (v_assign (ov rfl)) ?_
    refine R_nil ?_
    refine T_keep (kc 0 rfl <| kc 3 rfl <| kc 23 rfl <| kc 24 rfl <| kn) rfl ?_
    refine T_seq (T_reg ?_)
    refine R_q _ rfl (v_move (ov rfl)) ?_
    refine R_q _ rfl (v_move (ov rfl)) ?_
    obtain ⟨b3, h_b3, h⟩ := bnd h
    refine R_q _ rfl (v_idxStr (ov rfl) (ov rfl) tStr9 h_b3) ?_
    obtain ⟨y3, h_y3, h⟩ := bnd h
    refine R_q _ rfl (v_call (ok_event_nameByte h_y3) (.cons (ov rfl) (.b rfl) <| .nil)) ?_
    refine R_q _ rfl (v_not (ov rfl)) ?_
    refine R_nil ?_
    refine T_keep (kc 0 rfl <| kc 23 rfl <| kc 24 rfl <| kc 31 rfl <| kn) rfl ?_
    refine T_if h rfl (fun b31 h => ?_) (fun b31 h => ?_)
    ·
     refine T_keep (kn) rfl ?_
     refine T_seq (T_reg ?_)
     refine R_q _ rfl (v_assign (ov rfl)) ?_
     refine R_nil ?_
     rw [lx h] at ho1
     replace h := ho1
     obtain rfl := rt (v := false) h
     refine T_ret (retq ?_ (.one (.tmp rfl (Dat.view (.b rfl)))))
     rfl
    ·
     refine T_skip ?_
     refine T_keep (kc 0 rfl <| kc 23 rfl <| kc 24 rfl <| kn) rfl ?_
     refine T_reg ?_
     refine R_q _ rfl (v_add (ov rfl) (ov rfl) rfl) ?_
     refine R_q _ rfl (v_move (ov rfl)) ?_
     refine R_nil ?_
     exact ⟨(i64 (i + 1)), h, Ent.sel [] (sd 0 rfl rfl <| sd 23 rfl rfl <| sd 24 rfl rfl <| sn) (.nil) rfl rfl⟩
   ·
    refine T_exit ?_
    rw [lx h] at ho1
    replace h := ho1
    exact ⟨(), h, Ent.sel [] (sn) (.nil) rfl rfl⟩
  ·
   replace h := elr h
   cases j
   replace h := t0i h
   refine t0T ?_
   refine T_seq (T_reg ?_)
   refine R_q _ rfl (v_assign (ov rfl)) ?_
   refine R_nil ?_
   obtain rfl := rt (v := true) h
   refine T_ret (retq ?_ (.one (.tmp rfl (Dat.view (.b rfl)))))
   rfl

theorem ok_slices_IndexFunc_api_Track_api_Track {s : List api_Track} {f : api_Track → Option Bool} {r : Int} {f_f : FuncId} {f_c : List AV} (f_d : f_c.all datB = true) (f_h : ∀ (z0 : api_Track) z, f z0 = some z → CSpec Tryz.prog gl0 f_f ([.agg [.str z0.Name, .int .i64 z0.Series.Den, .sl 28 (List.map R28 z0.Series.Samples), .int .i64 z0.Long]] ++ f_c) (.bool z)) (h : slices_IndexFunc_api_Track_api_Track s f = some r) :
  CSpec Tryz.prog gl0 148 [.sl 26 (List.map R26 s), .fn f_f f_c] (.int .i64 r) := by
 unfold slices_IndexFunc_api_Track_api_Track at h
 replace h := bnd0 h
 refine spec_of (by kernel_rfl) Tryz.func148 rfl rfl ?_
 intro w0 A
 refine T_seq (T_reg ?_)
 refine R_q _ rfl (v_assign (ov rfl)) ?_
 refine R_nil ?_
 refine T_joinG (fun j => (.inr j)) (t0 ⟨[], []⟩) h (fun h => ?_) (fun j h => ?_)
 ·
  refine T_keep (kc 0 rfl <| kc 1 rfl <| kn) rfl ?_
  refine T_seq (T_reg ?_)
  refine R_q _ rfl (v_move (ov rfl)) ?_
  refine R_q _ rfl (v_len (slv_sl (ov rfl) tZ_26) tL42 (len_map _ _)) ?_
  refine R_q _ rfl (v_move (ov rfl)) ?_
  refine R_nil ?_
  refine T_block ?_
  obtain ⟨r1, hl1, ho1⟩ := bndL h
  refine T_loopG _ (t1 fun i => ⟨[(0, .sl 26 (List.map R26 s)), (1, .fn f_f f_c), (7, .int .i64 (s.length : Int)), (8, .int .i64 i)], []⟩) _ hl1 (Ent.sel [] (sd 0 rfl rfl <| sr 1 rfl (rFn (rld f_d)) <| sd 7 rfl rfl <| sd 8 rfl rfl <| sn) (.nil) rfl rfl) (fun n1 s1 h => ?_)
  obtain ⟨i, rfl⟩ : ∃ x, x = s1 := ⟨_, rfl⟩
  replace h := t1i h
  refine t1T ?_
  unfold slices_IndexFunc_api_Track_api_Track_L1 at h
  refine T_seq (T_reg ?_)
  refine R_q _ rfl (v_lss (ov rfl) (ov rfl)) ?_
  refine R_nil ?_
  refine T_seq ?_
  refine T_if h rfl (fun b9 h => ?_) (fun b9 h => ?_)
  ·
   refine T_skip ?_
   refine T_seq ?_
   refine T_block ?_
   refine T_keep (kc 0 rfl <| kc 1 rfl <| kc 7 rfl <| kc 8 rfl <| kn) rfl ?_
   refine T_seq (T_reg ?_)
   refine R_q _ rfl (v_move (ov rfl)) ?_
   refine R_q _ rfl (v_assign (ov rfl)) ?_
   refine R_nil ?_
   refine T_keep (kc 0 rfl <| kc 1 rfl <| kc 5 rfl <| kc 7 rfl <| kc 8 rfl <| kn) rfl ?_
   refine T_seq (T_reg ?_)
   refine R_q _ rfl (v_move (ov rfl)) ?_
   refine R_q _ rfl (v_move (ov rfl)) ?_
   refine R_q _ rfl (v_move (ov rfl)) ?_
   obtain ⟨x, h_x, h⟩ := bnd h
   refine R_q _ rfl (v_ixSG (ov rfl) (ov rfl) tL42 h_x) ?_
   refine R_q _ rfl (v_loadA_r (ov rfl) tA26 rfl rfl) ?_
   obtain ⟨y, h_y, h⟩ := bnd h
   refine R_q _ rfl (v_callC (ov rfl) f_d (f_h _ _ h_y) (.cons (ov rfl) (.aggB rfl) <| .nil)) ?_
   refine R_nil ?_
   refine T_keep (kc 0 rfl <| kc 1 rfl <| kc 5 rfl <| kc 7 rfl <| kc 8 rfl <| kc 16 rfl <| kn) rfl ?_
   refine T_if h rfl (fun b16 h => ?_) (fun b16 h => ?_)
   ·
    refine T_keep (kc 5 rfl <| kn) rfl ?_
    refine T_seq (T_reg ?_)
    refine R_q _ rfl (v_move (ov rfl)) ?_
    refine R_q _ rfl (v_assign (ov rfl)) ?_
    refine R_nil ?_
    rw [lx h] at ho1
    replace h := ho1
    obtain rfl := rt (v := i) h
    refine T_ret (retq ?_ (.one (.tmp rfl (Dat.view (.b rfl)))))
    rfl
   ·
    refine T_skip ?_
    refine T_keep (kc 0 rfl <| kc 1 rfl <| kc 7 rfl <| kc 8 rfl <| kn) rfl ?_
    refine T_reg ?_
    refine R_q _ rfl (v_add (ov rfl) (ov rfl) rfl) ?_
    refine R_q _ rfl (v_move (ov rfl)) ?_
    refine R_nil ?_
    exact ⟨(i64 (i + 1)), h, Ent.sel [] (sd 0 rfl rfl <| sr 1 rfl (rFn (rld f_d)) <| sd 7 rfl rfl <| sd 8 rfl rfl <| sn) (.nil) rfl rfl⟩
  ·
   refine T_exit ?_
   rw [lx h] at ho1
   replace h := ho1
   exact ⟨(), h, Ent.sel [] (sn) (.nil) rfl rfl⟩
 ·
  replace h := elr h
  cases j
  replace h := t0i h
  refine t0T ?_
  refine T_seq (T_reg ?_)
  refine R_q _ rfl (v_assign (ov rfl)) ?_
  refine R_nil ?_
  obtain rfl := rt (v := (-1)) h
  refine T_ret (retq ?_ (.one (.tmp rfl (Dat.view (.b rfl)))))
  rfl

theorem ok_slices_ContainsFunc_api_Track_api_Track {s : List api_Track} {f : api_Track → Option Bool} {r : Bool} {f_f : FuncId} {f_c : List AV} (f_d : f_c.all datB = true) (f_h : ∀ (z0 : api_Track) z, f z0 = some z → CSpec Tryz.prog gl0 f_f ([.agg [.str z0.Name, .int .i64 z0.Series.Den, .sl 28 (List.map R28 z0.Series.Samples), .int .i64 z0.Long]] ++ f_c) (.bool z)) (h : slices_ContainsFunc_api_Track_api_Track s f = some r) :
  CSpec Tryz.prog gl0 119 [.sl 26 (List.map R26 s), .fn f_f f_c] (.bool r) := by
 unfold slices_ContainsFunc_api_Track_api_Track at h
 replace h := bnd0 h
 refine spec_of (by kernel_rfl) Tryz.func119 rfl rfl ?_
 intro w0 A
 refine T_seq (T_reg ?_)
 refine R_q _ rfl (v_assign (ov rfl)) ?_
 refine R_nil ?_
 refine T_seq (T_reg ?_)
 refine R_q _ rfl (v_move (ov rfl)) ?_
 refine R_q _ rfl (v_move (ov rfl)) ?_
 obtain ⟨y, h_y, h⟩ := bnd h
 refine R_q _ rfl (v_call (ok_slices_IndexFunc_api_Track_api_Track f_d f_h h_y) (.cons (ov rfl) (.b rfl) <| .cons (ov rfl) (Dat.fnC (.refl fun x hx => .b (List.all_eq_true.1 f_d x hx))) <| .nil)) ?_
 refine R_q _ rfl (v_geq (ov rfl) (ov rfl)) ?_
 refine R_q _ rfl (v_assign (ov rfl)) ?_
 refine R_nil ?_
 obtain rfl := rt (v := (decide (0 ≤ y))) h
 refine T_ret (retq ?_ (.one (.tmp rfl (Dat.view (.b rfl)))))
 rfl

theorem ok_event_CheckTracks_1 {x : api_Track} {c0 : api_Track} {r : Bool} (h : event_CheckTracks_1 x c0 = some r) :
  CSpec Tryz.prog gl0 120 [.agg [.str x.Name, .int .i64 x.Series.Den, .sl 28 (List.map R28 x.Series.Samples), .int .i64 x.Long], .rp [.str c0.Name, .int .i64 c0.Series.Den, .sl 28 (List.map R28 c0.Series.Samples), .int .i64 c0.Long] 0] (.bool r) := by
 unfold event_CheckTracks_1 at h
 replace h := bnd0 h
 refine spec_of (by kernel_rfl) Tryz.func120 rfl rfl ?_
 intro w0 A
 refine T_seq (T_reg ?_)
 refine R_q _ rfl (v_boxD (cva (ov rfl)) rfl tZ_26 rfl) ?_
 refine R_q _ rfl (v_assign (ov rfl)) ?_
 refine R_nil ?_
 refine T_keep (kc 1 rfl <| kc 2 rfl <| kc 3 rfl <| kn) rfl ?_
 refine T_seq (T_reg ?_)
 refine R_q _ rfl (v_fieldR (ov rfl) tF26_0) ?_
 refine R_q _ rfl (v_loadS_r (ov rfl) tS9 rfl) ?_
 refine R_q _ rfl (v_fieldR (ov rfl) tF26_0) ?_
 refine R_q _ rfl (v_loadS_r (ov rfl) tS9 rfl) ?_
 refine R_q _ rfl (v_eqlStr (ov rfl) (ov rfl)) ?_
 refine R_q _ rfl (v_assign (ov rfl)) ?_
 refine R_nil ?_
 obtain rfl := rt (v := (decide (x.Name = c0.Name))) h
 refine T_ret (retq ?_ (.one (.tmp rfl (Dat.view (.b rfl)))))
 rfl

theorem ok_series_within {n : Int} {low : Int} {high : Int} {r : Bool} (h : series_within n low high = some r) :
  CSpec Tryz.prog gl0 180 [.int .i64 n, .int .i64 low, .int .i64 high] (.bool r) := by
 unfold series_within at h
 replace h := bnd0 h
 refine spec_of (by kernel_rfl) Tryz.func180 rfl rfl ?_
 intro w0 A
 refine T_seq (T_reg ?_)
 refine R_q _ rfl (v_assign (ov rfl)) ?_
 refine R_nil ?_
 refine T_seq (T_reg ?_)
 refine R_q _ rfl (v_move (ov rfl)) ?_
 refine R_q _ rfl (v_move (ov rfl)) ?_
 refine R_q _ rfl (v_geq (ov rfl) (ov rfl)) ?_
 refine R_q _ rfl (v_move (ov rfl)) ?_
 refine R_q _ rfl (.guarded ((decide (low ≤ n)) == true) rfl rfl rfl rfl fun h => v_move (ov rfl)) ?_
 refine R_q _ rfl (.guarded ((decide (low ≤ n)) == true) rfl rfl rfl rfl fun h => v_move (ov rfl)) ?_
 refine R_q _ rfl (.guarded ((decide (low ≤ n)) == true) rfl rfl rfl rfl fun h => v_leq (ow rfl h) (ow rfl h)) ?_
 refine R_q _ rfl (v_and (ov rfl) (fun hp => ow rfl (gT hp))) ?_
 refine R_q _ rfl (v_assign (ov rfl)) ?_
 refine R_nil ?_
 obtain rfl := rt (v := ((decide (low ≤ n)) && (decide (n ≤ high)))) h
 refine T_ret (retq ?_ (.one (.tmp rfl (Dat.view (.b rfl)))))
 rfl

theorem ok_series_check {s : api_Series} {r : Int × Int} (h : series_check s = some r) :
  CSpec Tryz.prog gl0 157 [.agg [.int .i64 s.Den, .sl 28 (List.map R28 s.Samples)]] (.tuple [.int .i64 r.1, .int .i64 r.2]) := by
 unfold series_check at h
 replace h := bnd0 h
 refine spec_of (by kernel_rfl) Tryz.func157 rfl rfl ?_
 intro w0 A
 refine T_seq (T_reg ?_)
 refine R_q _ rfl (v_boxD (cva (ov rfl)) rfl tZ_24 rfl) ?_
 refine R_q _ rfl (v_assign (ov rfl)) ?_
 refine R_q _ rfl (v_assign (ov rfl)) ?_
 refine R_nil ?_
 refine T_seq ?_
 refine T_keep (kc 1 rfl <| kn) rfl ?_
 refine T_seq (T_reg ?_)
 refine R_q _ rfl (v_fieldR (ov rfl) tF24_0) ?_
 refine R_q _ rfl (v_loadS_r (ov rfl) tS3 rfl) ?_
 obtain ⟨y, h_y, h⟩ := bnd h
 refine R_q _ rfl (v_call (ok_series_within h_y) (.cons (ov rfl) (.b rfl) <| .cons (ov rfl) (.b rfl) <| .cons (ov rfl) (.b rfl) <| .nil)) ?_
 refine R_q _ rfl (v_not (ov rfl)) ?_
 refine R_nil ?_
 refine T_keep (kc 1 rfl <| kc 9 rfl <| kn) rfl ?_
 refine T_if h rfl (fun b9 h => ?_) (fun b9 h => ?_)
 ·
  refine T_keep (kn) rfl ?_
  refine T_seq (T_reg ?_)
  refine R_q _ rfl (v_assign (ov rfl)) ?_
  refine R_q _ rfl (v_assign (ov rfl)) ?_
  refine R_nil ?_
  obtain rfl := rt (v := ((-1), 9)) h
  refine T_ret (retq ?_ (.two (.tmp rfl (Dat.view (.b rfl))) (.tmp rfl (Dat.view (.b rfl)))))
  rfl
 ·
  refine T_skip ?_
  refine T_seq ?_
  refine T_keep (kc 1 rfl <| kn) rfl ?_
  refine T_seq (T_reg ?_)
  refine R_q _ rfl (v_fieldR (ov rfl) tF24_1) ?_
  refine R_q _ rfl (v_loadS_r (ov rfl) tS22 rfl) ?_
  refine R_q _ rfl (v_len (slv_sl (ov rfl) tZ_28) tL22 (len_map _ _)) ?_
  refine R_q _ rfl (v_gtr (ov rfl) (ov rfl)) ?_
  refine R_nil ?_
  refine T_keep (kc 1 rfl <| kc 13 rfl <| kn) rfl ?_
  refine T_if h rfl (fun b13 h => ?_) (fun b13 h => ?_)
  ·
   refine T_keep (kn) rfl ?_
   refine T_seq (T_reg ?_)
   refine R_q _ rfl (v_assign (ov rfl)) ?_
   refine R_q _ rfl (v_assign (ov rfl)) ?_
   refine R_nil ?_
   obtain rfl := rt (v := ((-1), 3)) h
   refine T_ret (retq ?_ (.two (.tmp rfl (Dat.view (.b rfl))) (.tmp rfl (Dat.view (.b rfl)))))
   rfl
  ·
   refine T_skip ?_
   refine T_joinG (fun j => (.inr j)) (t0 ⟨[], []⟩) h (fun h => ?_) (fun j h => ?_)
   ·
    refine T_keep (kc 1 rfl <| kn) rfl ?_
    refine T_seq (T_reg ?_)
    refine R_q _ rfl (v_fieldR (ov rfl) tF24_1) ?_
    refine R_q _ rfl (v_loadS_r (ov rfl) tS22 rfl) ?_
    refine R_q _ rfl (v_len (slv_sl (ov rfl) tZ_28) tL22 (len_map _ _)) ?_
    refine R_q _ rfl (v_move (ov rfl)) ?_
    refine R_nil ?_
    refine T_block ?_
    obtain ⟨r1, hl1, ho1⟩ := bndL h
    refine T_loopG _ (t1 fun i => ⟨[(1, .rp [.int .i64 s.Den, .sl 28 (List.map R28 s.Samples)] 0), (15, .sl 28 (List.map R28 s.Samples)), (16, .int .i64 (s.Samples.length : Int)), (17, .int .i64 i)], []⟩) _ hl1 (Ent.sel [] (sd 1 rfl rfl <| sd 15 rfl rfl <| sd 16 rfl rfl <| sd 17 rfl rfl <| sn) (.nil) rfl rfl) (fun n1 s1 h => ?_)
    obtain ⟨i, rfl⟩ : ∃ x, x = s1 := ⟨_, rfl⟩
    replace h := t1i h
    refine t1T ?_
    unfold series_check_L1 at h
    refine T_seq (T_reg ?_)
    refine R_q _ rfl (v_lss (ov rfl) (ov rfl)) ?_
    refine R_nil ?_
    refine T_seq ?_
    refine T_if h rfl (fun b18 h => ?_) (fun b18 h => ?_)
    ·
     refine T_skip ?_
     refine T_seq ?_
     refine T_block ?_
     refine T_keep (kc 1 rfl <| kc 15 rfl <| kc 16 rfl <| kc 17 rfl <| kn) rfl ?_
     refine T_seq (T_reg ?_)
     refine R_q _ rfl (v_move (ov rfl)) ?_
     obtain ⟨x, h_x, h⟩ := bnd h
     refine R_q _ rfl (v_ixSG (ov rfl) (ov rfl) tL22 h_x) ?_
     refine R_q _ rfl (v_loadA_r (ov rfl) tA28 rfl rfl) ?_
     refine R_w _ _ rfl (w_alloc (row := [_, _, _]) 0 rfl tZ28 rfl tZ_28) ?_
     refine R_q _ rfl (v_assign (ov rfl)) ?_
     refine R_w _ _ rfl (w_store (ov rfl) (ov rfl) (cells_agg tA28 rfl) rfl rfl rfl (Nat.le_of_ble_eq_true rfl) (cell1_all rfl) rfl) ?_
     refine R_nil ?_
     refine T_block ?_
     refine T_keep (kc 1 rfl <| kc 4 rfl <| kc 5 rfl <| kc 15 rfl <| kc 16 rfl <| kc 17 rfl <| kn) rfl ?_
     refine T_seq (T_reg ?_)
     refine R_q _ rfl (v_fieldP (ov rfl) rfl rfl tF28_0) ?_
     refine R_q _ rfl (v_loadS (ov rfl) rfl rfl rfl tS3 rfl) ?_
     obtain ⟨y2, h_y2, h⟩ := bnd h
     refine R_q _ rfl (v_call (ok_series_within h_y2) (.cons (ov rfl) (.b rfl) <| .cons (ov rfl) (.b rfl) <| .cons (ov rfl) (.b rfl) <| .nil)) ?_
     refine R_q _ rfl (v_not (ov rfl)) ?_
     refine R_q _ rfl (v_move (ov rfl)) ?_
     refine R_q _ rfl (.guarded ((!y2) == false) rfl rfl rfl rfl fun h => v_fieldP (ov rfl) rfl rfl tF28_1) ?_
     refine R_q _ rfl (.guarded ((!y2) == false) rfl rfl rfl rfl fun h => v_loadS (ow rfl h) rfl rfl rfl tS3 rfl) ?_
     obtain ⟨y3, h_y3, h⟩ := bnd h
     refine R_q _ rfl (.guarded ((!y2) == false) rfl rfl rfl rfl fun h => v_call (ok_series_within (gdT h_y3 h)) (.cons (ow rfl h) (.b rfl) <| .cons (ov rfl) (.b rfl) <| .cons (ov rfl) (.b rfl) <| .nil)) ?_
     refine R_q _ rfl (.guarded ((!y2) == false) rfl rfl rfl rfl fun h => v_not (ow rfl h)) ?_
     refine R_q _ rfl (v_or (ov rfl) (fun hp => ow rfl (gF hp))) ?_
     refine R_q _ rfl (v_move (ov rfl)) ?_
     refine R_q _ rfl (.guarded (((!y2) || (!y3)) == false) rfl rfl rfl rfl fun h => v_fieldP (ov rfl) rfl rfl tF28_2) ?_
     refine R_q _ rfl (.guarded (((!y2) || (!y3)) == false) rfl rfl rfl rfl fun h => v_loadS (ow rfl h) rfl rfl rfl tS3 rfl) ?_
     obtain ⟨y4, h_y4, h⟩ := bnd h
     refine R_q _ rfl (.guarded (((!y2) || (!y3)) == false) rfl rfl rfl rfl fun h => v_call (ok_series_within (gdT h_y4 h)) (.cons (ow rfl h) (.b rfl) <| .cons (ov rfl) (.b rfl) <| .cons (ov rfl) (.b rfl) <| .nil)) ?_
     refine R_q _ rfl (.guarded (((!y2) || (!y3)) == false) rfl rfl rfl rfl fun h => v_not (ow rfl h)) ?_
     refine R_q _ rfl (v_or (ov rfl) (fun hp => ow rfl (gF hp))) ?_
     refine R_q _ rfl (v_assign (ov rfl)) ?_
     refine R_nil ?_
     refine T_keep (kc 1 rfl <| kc 4 rfl <| kc 5 rfl <| kc 15 rfl <| kc 16 rfl <| kc 17 rfl <| kc 22 rfl <| kn) rfl ?_
     refine T_if h rfl (fun b22 h => ?_) (fun b22 h => ?_)
     ·
      refine T_keep (kc 4 rfl <| kn) rfl ?_
      refine T_seq (T_reg ?_)
      refine R_q _ rfl (v_move (ov rfl)) ?_
      refine R_q _ rfl (v_assign (ov rfl)) ?_
      refine R_q _ rfl (v_assign (ov rfl)) ?_
      refine R_nil ?_
      rw [lx h] at ho1
      replace h := ho1
      obtain rfl := rt (v := (i, 9)) h
      refine T_ret (retq ?_ (.two (.tmp rfl (Dat.view (.b rfl))) (.tmp rfl (Dat.view (.b rfl)))))
      rfl
     ·
      refine T_keep (kc 1 rfl <| kc 4 rfl <| kc 5 rfl <| kc 15 rfl <| kc 16 rfl <| kc 17 rfl <| kn) rfl ?_
      refine T_seq (T_reg ?_)
      refine R_q _ rfl (v_fieldP (ov rfl) rfl rfl tF28_1) ?_
      refine R_q _ rfl (v_loadS (ov rfl) rfl rfl rfl tS3 rfl) ?_
      refine R_q _ rfl (v_neq (ov rfl) (ov rfl)) ?_
      refine R_q _ rfl (v_move (ov rfl)) ?_
      refine R_q _ rfl (.guarded ((!decide (x.N = 0)) == true) rfl rfl rfl rfl fun h => v_fieldP (ov rfl) rfl rfl tF28_2) ?_
      refine R_q _ rfl (.guarded ((!decide (x.N = 0)) == true) rfl rfl rfl rfl fun h => v_loadS (ow rfl h) rfl rfl rfl tS3 rfl) ?_
      refine R_q _ rfl (.guarded ((!decide (x.N = 0)) == true) rfl rfl rfl rfl fun h => v_leq (ow rfl h) (ov rfl)) ?_
      refine R_q _ rfl (v_and (ov rfl) (fun hp => ow rfl (gT hp))) ?_
      refine R_q _ rfl (v_assign (ov rfl)) ?_
      refine R_nil ?_
      refine T_keep (kc 1 rfl <| kc 4 rfl <| kc 5 rfl <| kc 15 rfl <| kc 16 rfl <| kc 17 rfl <| kc 40 rfl <| kn) rfl ?_
      refine T_if h rfl (fun b40 h => ?_) (fun b40 h => ?_)
      ·
       refine T_keep (kc 4 rfl <| kn) rfl ?_
       refine T_seq (T_reg ?_)
       refine R_q _ rfl (v_move (ov rfl)) ?_
       refine R_q _ rfl (v_assign (ov rfl)) ?_
       refine R_q _ rfl (v_assign (ov rfl)) ?_
       refine R_nil ?_
       rw [lx h] at ho1
       replace h := ho1
       obtain rfl := rt (v := (i, 2)) h
       refine T_ret (retq ?_ (.two (.tmp rfl (Dat.view (.b rfl))) (.tmp rfl (Dat.view (.b rfl)))))
       rfl
      ·
       refine T_keep (kc 1 rfl <| kc 4 rfl <| kc 5 rfl <| kc 15 rfl <| kc 16 rfl <| kc 17 rfl <| kn) rfl ?_
       refine T_seq (T_draw (cw := md0) (by kernel_rfl) ?_)
       refine D_q0 0 _ rfl (by kernel_rfl) rfl rfl (v_move (ov rfl)) ?_
       refine D_q0 1 _ rfl (by kernel_rfl) rfl rfl (v_gtr (ov rfl) (ov rfl)) ?_
       refine D_q0 2 _ rfl (by kernel_rfl) rfl rfl (v_move (ov rfl)) ?_
       refine D_q0 3 _ rfl (by kernel_rfl) rfl rfl (.guarded ((decide (0 < i)) == true) rfl rfl rfl rfl fun h => v_fieldP (ov rfl) rfl rfl tF28_0) ?_
       refine D_q0 4 _ rfl (by kernel_rfl) rfl rfl (.guarded ((decide (0 < i)) == true) rfl rfl rfl rfl fun h => v_loadS (ow rfl h) rfl rfl rfl tS3 rfl) ?_
       refine D_q0 5 _ rfl (by kernel_rfl) rfl rfl (.guarded ((decide (0 < i)) == true) rfl rfl rfl rfl fun h => v_fieldR (ov rfl) tF24_1) ?_
       refine D_q0 6 _ rfl (by kernel_rfl) rfl rfl (.guarded ((decide (0 < i)) == true) rfl rfl rfl rfl fun h => v_loadS_r (ow rfl h) tS22 rfl) ?_
       refine D_q0 7 _ rfl (by kernel_rfl) rfl rfl (.guarded ((decide (0 < i)) == true) rfl rfl rfl rfl fun h => v_move (ov rfl)) ?_
       refine D_q0 8 _ rfl (by kernel_rfl) rfl rfl (.guarded ((decide (0 < i)) == true) rfl rfl rfl rfl fun h => v_sub (ow rfl h) (ov rfl) rfl) ?_
       obtain ⟨x2, h_x2, h⟩ := bnd h
       refine D_q0 9 _ rfl (by kernel_rfl) rfl rfl (.guarded ((decide (0 < i)) == true) rfl rfl rfl rfl fun h => v_ixSG (ow rfl h) (ow rfl h) tL22 (gdT h_x2 h)) ?_
       refine D_q0 10 _ rfl (by kernel_rfl) rfl rfl (.guarded ((decide (0 < i)) == true) rfl rfl rfl rfl fun h => v_fieldR (ow rfl h) tF28_0) ?_
       refine D_q0 11 _ rfl (by kernel_rfl) rfl rfl (.guarded ((decide (0 < i)) == true) rfl rfl rfl rfl fun h => v_loadS_r (ow rfl h) tS3 rfl) ?_
       refine D_q0 12 _ rfl (by kernel_rfl) rfl rfl (.guarded ((decide (0 < i)) == true) rfl rfl rfl rfl fun h => v_leq (ow rfl h) (ow rfl h)) ?_
       refine D_q0 13 _ rfl (by kernel_rfl) rfl rfl (v_and (ov rfl) (fun hp => ow rfl (gT hp))) ?_
       refine D_q0 14 _ rfl (by kernel_rfl) rfl rfl (v_assign (ov rfl)) ?_
       refine D_done (by kernel_rfl) ?_
       refine T_keep (kc 1 rfl <| kc 4 rfl <| kc 15 rfl <| kc 16 rfl <| kc 17 rfl <| kc 50 rfl <| kn) rfl ?_
       refine T_if h rfl (fun b50 h => ?_) (fun b50 h => ?_)
       ·
        refine T_keep (kc 4 rfl <| kn) rfl ?_
        refine T_seq (T_reg ?_)
        refine R_q _ rfl (v_move (ov rfl)) ?_
        refine R_q _ rfl (v_assign (ov rfl)) ?_
        refine R_q _ rfl (v_assign (ov rfl)) ?_
        refine R_nil ?_
        rw [lx h] at ho1
        replace h := ho1
        obtain rfl := rt (v := (i, 10)) h
        refine T_ret (retq ?_ (.two (.tmp rfl (Dat.view (.b rfl))) (.tmp rfl (Dat.view (.b rfl)))))
        rfl
       ·
        refine T_skip ?_
        refine T_keep (kc 1 rfl <| kc 15 rfl <| kc 16 rfl <| kc 17 rfl <| kn) rfl ?_
        refine T_reg ?_
        refine R_q _ rfl (v_add (ov rfl) (ov rfl) rfl) ?_
        refine R_q _ rfl (v_move (ov rfl)) ?_
        refine R_nil ?_
        exact ⟨(i64 (i + 1)), h, Ent.sel [] (sd 1 rfl rfl <| sd 15 rfl rfl <| sd 16 rfl rfl <| sd 17 rfl rfl <| sn) (.nil) rfl rfl⟩
    ·
     refine T_exit ?_
     rw [lx h] at ho1
     replace h := ho1
     exact ⟨(), h, Ent.sel [] (sn) (.nil) rfl rfl⟩
   ·
    replace h := elr h
    cases j
    replace h := t0i h
    refine t0T ?_
    refine T_seq (T_reg ?_)
    refine R_q _ rfl (v_assign (ov rfl)) ?_
    refine R_q _ rfl (v_assign (ov rfl)) ?_
    refine R_nil ?_
    obtain rfl := rt (v := ((-1), 0)) h
    refine T_ret (retq ?_ (.two (.tmp rfl (Dat.view (.b rfl))) (.tmp rfl (Dat.view (.b rfl)))))
    rfl

theorem ok_series_Check {s : api_Series} {r : Int} (h : series_Check s = some r) :
  CSpec Tryz.prog gl0 121 [.agg [.int .i64 s.Den, .sl 28 (List.map R28 s.Samples)]] (.int .i64 r) := by
 unfold series_Check at h
 replace h := bnd0 h
 refine spec_of (by kernel_rfl) Tryz.func121 rfl rfl ?_
 intro w0 A
 refine T_seq (T_reg ?_)
 refine R_q _ rfl (v_boxD (cva (ov rfl)) rfl tZ_24 rfl) ?_
 refine R_q _ rfl (v_assign (ov rfl)) ?_
 refine R_nil ?_
 refine T_keep (kc 1 rfl <| kn) rfl ?_
 refine T_seq (T_reg ?_)
 refine R_q _ rfl (v_loadA_r (ov rfl) tA24 rfl rfl) ?_
 obtain ⟨y, h_y, h⟩ := bnd h
 refine R_q _ rfl (v_call (ok_series_check h_y) (.cons (ov rfl) (.aggB rfl) <| .nil)) ?_
 refine R_q _ rfl (v_move (ov rfl)) ?_
 refine R_q _ rfl (v_extract (ov rfl) rfl) ?_
 refine R_q _ rfl (v_extract (ov rfl) rfl) ?_
 refine R_q _ rfl (v_assign (ov rfl)) ?_
 refine R_q _ rfl (v_assign (ov rfl)) ?_
 refine R_nil ?_
 refine T_keep (kc 4 rfl <| kn) rfl ?_
 refine T_seq (T_reg ?_)
 refine R_q _ rfl (v_move (ov rfl)) ?_
 refine R_q _ rfl (v_assign (ov rfl)) ?_
 refine R_nil ?_
 obtain rfl := rt (v := y.2) h
 refine T_ret (retq ?_ (.one (.tmp rfl (Dat.view (.b rfl)))))
 rfl

theorem ok_event_CheckTracks {l : List api_Track} {r : Int} (h : event_CheckTracks l = some r) :
  CSpec Tryz.prog gl0 58 [.sl 26 (List.map R26 l)] (.int .i64 r) := by
 unfold event_CheckTracks at h
 replace h := bnd0 h
 refine spec_of (by kernel_rfl) Tryz.func58 rfl rfl ?_
 intro w0 A
 refine T_seq (T_reg ?_)
 refine R_q _ rfl (v_assign (ov rfl)) ?_
 refine R_nil ?_
 refine T_seq ?_
 refine T_keep (kc 0 rfl <| kn) rfl ?_
 refine T_seq (T_reg ?_)
 refine R_q _ rfl (v_move (ov rfl)) ?_
 refine R_q _ rfl (v_len (slv_sl (ov rfl) tZ_26) tL42 (len_map _ _)) ?_
 refine R_q _ rfl (v_gtr (ov rfl) (ov rfl)) ?_
 refine R_nil ?_
 refine T_keep (kc 0 rfl <| kc 8 rfl <| kn) rfl ?_
 refine T_if h rfl (fun b8 h => ?_) (fun b8 h => ?_)
 ·
  refine T_keep (kn) rfl ?_
  refine T_seq (T_reg ?_)
  refine R_q _ rfl (v_assign (ov rfl)) ?_
  refine R_nil ?_
  obtain rfl := rt (v := 3) h
  refine T_ret (retq ?_ (.one (.tmp rfl (Dat.view (.b rfl)))))
  rfl
 ·
  refine T_skip ?_
  refine T_joinG (fun j => (.inr j)) (t0 ⟨[], []⟩) h (fun h => ?_) (fun j h => ?_)
  ·
   refine T_keep (kc 0 rfl <| kn) rfl ?_
   refine T_seq (T_reg ?_)
   refine R_q _ rfl (v_move (ov rfl)) ?_
   refine R_q _ rfl (v_len (slv_sl (ov rfl) tZ_26) tL42 (len_map _ _)) ?_
   refine R_q _ rfl (v_move (ov rfl)) ?_
   refine R_nil ?_
   refine T_block ?_
   obtain ⟨r1, hl1, ho1⟩ := bndL h
   refine T_loopG _ (t1 fun i => ⟨[(0, .sl 26 (List.map R26 l)), (9, .sl 26 (List.map R26 l)), (10, .int .i64 (l.length : Int)), (11, .int .i64 i)], []⟩) _ hl1 (Ent.sel [] (sd 0 rfl rfl <| sd 9 rfl rfl <| sd 10 rfl rfl <| sd 11 rfl rfl <| sn) (.nil) rfl rfl) (fun n1 s1 h => ?_)
   obtain ⟨i, rfl⟩ : ∃ x, x = s1 := ⟨_, rfl⟩
   replace h := t1i h
   refine t1T ?_
   unfold event_CheckTracks_L1 at h
   refine T_seq (T_reg ?_)
   refine R_q _ rfl (v_lss (ov rfl) (ov rfl)) ?_
   refine R_nil ?_
   refine T_seq ?_
   refine T_if h rfl (fun b12 h => ?_) (fun b12 h => ?_)
   ·
    refine T_skip ?_
    refine T_seq ?_
    refine T_block ?_
    refine T_keep (kc 0 rfl <| kc 9 rfl <| kc 10 rfl <| kc 11 rfl <| kn) rfl ?_
    refine T_seq (T_reg ?_)
    refine R_q _ rfl (v_move (ov rfl)) ?_
    obtain ⟨x, h_x, h⟩ := bnd h
    refine R_q _ rfl (v_ixSG (ov rfl) (ov rfl) tL42 h_x) ?_
    refine R_q _ rfl (v_loadA_r (ov rfl) tA26 rfl rfl) ?_
    refine R_w _ _ rfl (w_alloc (row := [_, _, _, _]) 0 rfl tZ26 rfl tZ_26) ?_
    refine R_q _ rfl (v_assign (ov rfl)) ?_
    refine R_w _ _ rfl (w_store (ov rfl) (ov rfl) (cells_agg tA26 rfl) rfl rfl rfl (Nat.le_of_ble_eq_true rfl) (cell1_all rfl) rfl) ?_
    refine R_nil ?_
    refine T_seq ?_
    refine T_keep (kc 0 rfl <| kc 3 rfl <| kc 4 rfl <| kc 9 rfl <| kc 10 rfl <| kc 11 rfl <| kn) rfl ?_
    refine T_seq (T_reg ?_)
    refine R_q _ rfl (v_fieldP (ov rfl) rfl rfl tF26_0) ?_
    refine R_q _ rfl (v_loadS (ov rfl) rfl rfl rfl tS9 rfl) ?_
    obtain ⟨y, h_y, h⟩ := bnd h
    refine R_q _ rfl (v_call (ok_event_isName h_y) (.cons (ov rfl) (.b rfl) <| .nil)) ?_
    refine R_q _ rfl (v_not (ov rfl)) ?_
    refine R_nil ?_
    refine T_keep (kc 0 rfl <| kc 3 rfl <| kc 4 rfl <| kc 9 rfl <| kc 10 rfl <| kc 11 rfl <| kc 19 rfl <| kn) rfl ?_
    refine T_if h rfl (fun b19 h => ?_) (fun b19 h => ?_)
    ·
     refine T_keep (kn) rfl ?_
     refine T_seq (T_reg ?_)
     refine R_q _ rfl (v_assign (ov rfl)) ?_
     refine R_nil ?_
     rw [lx h] at ho1
     replace h := ho1
     obtain rfl := rt (v := 8) h
     refine T_ret (retq ?_ (.one (.tmp rfl (Dat.view (.b rfl)))))
     rfl
    ·
     refine T_skip ?_
     refine T_seq ?_
     refine T_keep (kc 0 rfl <| kc 3 rfl <| kc 4 rfl <| kc 9 rfl <| kc 10 rfl <| kc 11 rfl <| kn) rfl ?_
     refine T_seq (T_reg ?_)
     refine R_q _ rfl (v_move (ov rfl)) ?_
     refine R_q _ rfl (v_move (ov rfl)) ?_
     obtain ⟨l2, h_l2, h⟩ := bnd h
     refine R_q _ rfl (v_sliceG (ov rfl) tL42 on (oi (ov rfl)) h_l2) ?_
     refine R_ent (Ent.sel [none] (sd 0 rfl rfl <| sd 3 rfl rfl <| sr 4 rfl (.frp ⟨rfl, ⟨_, rfl⟩, rfl, rfl⟩) <| sd 9 rfl rfl <| sd 10 rfl rfl <| sd 11 rfl rfl <| sd 20 rfl rfl <| sd 21 rfl rfl <| sd 22 rfl rfl <| sn) (.row 26 <| .nil) rfl rfl) ?_
     refine R_q _ rfl (v_makeFunc (.cons (ov rfl) <| .nil)) ?_
     obtain ⟨y2, h_y2, h⟩ := bnd h
     refine R_q _ rfl (v_call (ok_slices_ContainsFunc_api_Track_api_Track rfl (fun z0 _ hz => ok_event_CheckTracks_1 hz) h_y2) (.cons (ov rfl) (.b rfl) <| .cons (ov rfl) (.fnC (.cons (.b rfl) <| .nil)) <| .nil)) ?_
     refine R_nil ?_
     refine T_keep (kc 0 rfl <| kc 4 rfl <| kc 9 rfl <| kc 10 rfl <| kc 11 rfl <| kc 24 rfl <| kn) rfl ?_
     refine T_if h rfl (fun b24 h => ?_) (fun b24 h => ?_)
     ·
      refine T_keep (kn) rfl ?_
      refine T_seq (T_reg ?_)
      refine R_q _ rfl (v_assign (ov rfl)) ?_
      refine R_nil ?_
      rw [lx h] at ho1
      replace h := ho1
      obtain rfl := rt (v := 5) h
      refine T_ret (retq ?_ (.one (.tmp rfl (Dat.view (.b rfl)))))
      rfl
     ·
      refine T_skip ?_
      refine T_seq ?_
      refine T_keep (kc 0 rfl <| kc 4 rfl <| kc 9 rfl <| kc 10 rfl <| kc 11 rfl <| kn) rfl ?_
      refine T_seq (T_reg ?_)
      refine R_q _ rfl (v_fieldR (ov rfl) tF26_1) ?_
      refine R_q _ rfl (v_loadA_r (ov rfl) tA24 rfl rfl) ?_
      obtain ⟨y3, h_y3, h⟩ := bnd h
      refine R_q _ rfl (v_call (ok_series_Check h_y3) (.cons (ov rfl) (.aggB rfl) <| .nil)) ?_
      refine R_q _ rfl (v_assign (ov rfl)) ?_
      refine R_nil ?_
      refine T_keep (kc 0 rfl <| kc 4 rfl <| kc 5 rfl <| kc 9 rfl <| kc 10 rfl <| kc 11 rfl <| kn) rfl ?_
      refine T_seq (T_reg ?_)
      refine R_q _ rfl (v_move (ov rfl)) ?_
      refine R_q _ rfl (v_neq (ov rfl) (ov rfl)) ?_
      refine R_nil ?_
      refine T_keep (kc 0 rfl <| kc 4 rfl <| kc 5 rfl <| kc 9 rfl <| kc 10 rfl <| kc 11 rfl <| kc 29 rfl <| kn) rfl ?_
      refine T_if h rfl (fun b29 h => ?_) (fun b29 h => ?_)
      ·
       refine T_keep (kc 5 rfl <| kn) rfl ?_
       refine T_seq (T_reg ?_)
       refine R_q _ rfl (v_move (ov rfl)) ?_
       refine R_q _ rfl (v_assign (ov rfl)) ?_
       refine R_nil ?_
       rw [lx h] at ho1
       replace h := ho1
       obtain rfl := rt (v := y3) h
       refine T_ret (retq ?_ (.one (.tmp rfl (Dat.view (.b rfl)))))
       rfl
      ·
       refine T_skip ?_
       refine T_keep (kc 0 rfl <| kc 4 rfl <| kc 9 rfl <| kc 10 rfl <| kc 11 rfl <| kn) rfl ?_
       refine T_seq (T_reg ?_)
       refine R_q _ rfl (v_fieldR (ov rfl) tF26_2) ?_
       refine R_q _ rfl (v_loadS_r (ov rfl) tS3 rfl) ?_
       obtain ⟨y4, h_y4, h⟩ := bnd h
       refine R_q _ rfl (v_call (ok_event_within h_y4) (.cons (ov rfl) (.b rfl) <| .cons (ov rfl) (.b rfl) <| .cons (ov rfl) (.b rfl) <| .nil)) ?_
       refine R_q _ rfl (v_not (ov rfl)) ?_
       refine R_nil ?_
       refine T_keep (kc 0 rfl <| kc 9 rfl <| kc 10 rfl <| kc 11 rfl <| kc 34 rfl <| kn) rfl ?_
       refine T_if h rfl (fun b34 h => ?_) (fun b34 h => ?_)
       ·
        refine T_keep (kn) rfl ?_
        refine T_seq (T_reg ?_)
        refine R_q _ rfl (v_assign (ov rfl)) ?_
        refine R_nil ?_
        rw [lx h] at ho1
        replace h := ho1
        obtain rfl := rt (v := 9) h
        refine T_ret (retq ?_ (.one (.tmp rfl (Dat.view (.b rfl)))))
        rfl
       ·
        refine T_skip ?_
        refine T_keep (kc 0 rfl <| kc 9 rfl <| kc 10 rfl <| kc 11 rfl <| kn) rfl ?_
        refine T_reg ?_
        refine R_q _ rfl (v_add (ov rfl) (ov rfl) rfl) ?_
        refine R_q _ rfl (v_move (ov rfl)) ?_
        refine R_nil ?_
        exact ⟨(i64 (i + 1)), h, Ent.sel [] (sd 0 rfl rfl <| sd 9 rfl rfl <| sd 10 rfl rfl <| sd 11 rfl rfl <| sn) (.nil) rfl rfl⟩
   ·
    refine T_exit ?_
    rw [lx h] at ho1
    replace h := ho1
    exact ⟨(), h, Ent.sel [] (sn) (.nil) rfl rfl⟩
  ·
   replace h := elr h
   cases j
   replace h := t0i h
   refine t0T ?_
   refine T_seq (T_reg ?_)
   refine R_q _ rfl (v_assign (ov rfl)) ?_
   refine R_nil ?_
   obtain rfl := rt (v := 0) h
   refine T_ret (retq ?_ (.one (.tmp rfl (Dat.view (.b rfl)))))
   rfl

theorem ok_panel_trackOf_1 {t : api_Track} {c0 : api_Instrument} {r : Bool} (h : panel_trackOf_1 t c0 = some r) :
  CSpec Tryz.prog gl0 149 [.agg [.str t.Name, .int .i64 t.Series.Den, .sl 28 (List.map R28 t.Series.Samples), .int .i64 t.Long], .rp [.int .i64 c0.Kind, .str c0.Name, .str c0.Track, .int .i64 c0.Places, .int .i64 c0.Low, .int .i64 c0.High, .int .i64 c0.Steps, .sl 169 (List.map R169 c0.Zones), .int .i64 c0.Op, .int .i64 c0.N, .bool c0.Latch, .int .i64 c0.Size] 0] (.bool r) := by
 unfold panel_trackOf_1 at h
 replace h := bnd0 h
 refine spec_of (by kernel_rfl) Tryz.func149 rfl rfl ?_
 intro w0 A
 refine T_seq (T_reg ?_)
 refine R_q _ rfl (v_boxD (cva (ov rfl)) rfl tZ_26 rfl) ?_
 refine R_q _ rfl (v_assign (ov rfl)) ?_
 refine R_nil ?_
 refine T_keep (kc 1 rfl <| kc 2 rfl <| kc 3 rfl <| kn) rfl ?_
 refine T_seq (T_reg ?_)
 refine R_q _ rfl (v_fieldR (ov rfl) tF26_0) ?_
 refine R_q _ rfl (v_loadS_r (ov rfl) tS9 rfl) ?_
 refine R_q _ rfl (v_fieldR (ov rfl) tF55_2) ?_
 refine R_q _ rfl (v_loadS_r (ov rfl) tS9 rfl) ?_
 refine R_q _ rfl (v_eqlStr (ov rfl) (ov rfl)) ?_
 refine R_q _ rfl (v_assign (ov rfl)) ?_
 refine R_nil ?_
 obtain rfl := rt (v := (decide (t.Name = c0.Track))) h
 refine T_ret (retq ?_ (.one (.tmp rfl (Dat.view (.b rfl)))))
 rfl

theorem ok_panel_trackOf {l : List api_Track} {i : api_Instrument} {r : Int} (h : panel_trackOf l i = some r) :
  CSpec Tryz.prog gl0 98 [.sl 26 (List.map R26 l), .agg [.int .i64 i.Kind, .str i.Name, .str i.Track, .int .i64 i.Places, .int .i64 i.Low, .int .i64 i.High, .int .i64 i.Steps, .sl 169 (List.map R169 i.Zones), .int .i64 i.Op, .int .i64 i.N, .bool i.Latch, .int .i64 i.Size]] (.int .i64 r) := by
 unfold panel_trackOf at h
 replace h := bnd0 h
 refine spec_of (by kernel_rfl) Tryz.func98 rfl rfl ?_
 intro w0 A
 refine T_seq (T_reg ?_)
 refine R_q _ rfl (v_boxD (cva (ov rfl)) rfl tZ_55 rfl) ?_
 refine R_q _ rfl (v_assign (ov rfl)) ?_
 refine R_nil ?_
 refine T_keep (kc 0 rfl <| kc 3 rfl <| kc 4 rfl <| kn) rfl ?_
 refine T_seq (T_reg ?_)
 refine R_q _ rfl (v_move (ov rfl)) ?_
 refine R_q _ rfl (v_makeFunc (.cons (ov rfl) <| .nil)) ?_
 obtain ⟨y, h_y, h⟩ := bnd h
 refine R_q _ rfl (v_call (ok_slices_IndexFunc_api_Track_api_Track rfl (fun z0 _ hz => ok_panel_trackOf_1 hz) h_y) (.cons (ov rfl) (.b rfl) <| .cons (ov rfl) (.fnC (.cons (.b rfl) <| .nil)) <| .nil)) ?_
 refine R_q _ rfl (v_assign (ov rfl)) ?_
 refine R_nil ?_
 obtain rfl := rt (v := y) h
 refine T_ret (retq ?_ (.one (.tmp rfl (Dat.view (.b rfl)))))
 rfl

theorem ok_panel_checkBoth_1 {i : api_Instrument} {c0 : List api_Track} {r : Bool} (h : panel_checkBoth_1 i c0 = some r) :
  CSpec Tryz.prog gl0 129 [.agg [.int .i64 i.Kind, .str i.Name, .str i.Track, .int .i64 i.Places, .int .i64 i.Low, .int .i64 i.High, .int .i64 i.Steps, .sl 169 (List.map R169 i.Zones), .int .i64 i.Op, .int .i64 i.N, .bool i.Latch, .int .i64 i.Size], .rp [.sl 26 (List.map R26 c0)] 0] (.bool r) := by
 unfold panel_checkBoth_1 at h
 replace h := bnd0 h
 refine spec_of (by kernel_rfl) Tryz.func129 rfl rfl ?_
 intro w0 A
 refine T_seq (T_reg ?_)
 refine R_q _ rfl (v_boxD (cva (ov rfl)) rfl tZ_55 rfl) ?_
 refine R_q _ rfl (v_assign (ov rfl)) ?_
 refine R_nil ?_
 refine T_keep (kc 1 rfl <| kc 2 rfl <| kc 3 rfl <| kn) rfl ?_
 refine T_seq (T_reg ?_)
 refine R_q _ rfl (v_loadS_r (ov rfl) tS42 rfl) ?_
 refine R_q _ rfl (v_loadA_r (ov rfl) tA55 rfl rfl) ?_
 obtain ⟨y, h_y, h⟩ := bnd h
 refine R_q _ rfl (v_call (ok_panel_trackOf h_y) (.cons (ov rfl) (.b rfl) <| .cons (ov rfl) (.aggB rfl) <| .nil)) ?_
 refine R_q _ rfl (v_lss (ov rfl) (ov rfl)) ?_
 refine R_q _ rfl (v_assign (ov rfl)) ?_
 refine R_nil ?_
 obtain rfl := rt (v := (decide (y < 0))) h
 refine T_ret (retq ?_ (.one (.tmp rfl (Dat.view (.b rfl)))))
 rfl

theorem ok_panel_checkBoth {p : api_Panel} {l : List api_Track} {r : Int} (h : panel_checkBoth p l = some r) :
  CSpec Tryz.prog gl0 69 [.agg [.sl 55 (List.map R55 p.Instruments)], .sl 26 (List.map R26 l)] (.int .i64 r) := by
 unfold panel_checkBoth at h
 replace h := bnd0 h
 refine spec_of (by kernel_rfl) Tryz.func69 rfl rfl ?_
 intro w0 A
 refine T_seq (T_reg ?_)
 refine R_q _ rfl (v_boxD (cva (ov rfl)) rfl tZ_41 rfl) ?_
 refine R_q _ rfl (v_boxD (cvs (ov rfl) (cell1_b rfl)) rfl tZ_42 rfl) ?_
 refine R_q _ rfl (v_assign (ov rfl)) ?_
 refine R_nil ?_
 refine T_seq ?_
 refine T_keep (kc 2 rfl <| kc 3 rfl <| kn) rfl ?_
 refine T_seq (T_reg ?_)
 refine R_q _ rfl (v_loadA_r (ov rfl) tA41 rfl rfl) ?_
 obtain ⟨y, h_y, h⟩ := bnd h
 refine R_q _ rfl (v_call (ok_panel_Check h_y) (.cons (ov rfl) (.aggB rfl) <| .nil)) ?_
 refine R_q _ rfl (v_assign (ov rfl)) ?_
 refine R_nil ?_
 refine T_keep (kc 2 rfl <| kc 3 rfl <| kc 5 rfl <| kn) rfl ?_
 refine T_seq (T_reg ?_)
 refine R_q _ rfl (v_move (ov rfl)) ?_
 refine R_q _ rfl (v_neq (ov rfl) (ov rfl)) ?_
 refine R_nil ?_
 refine T_keep (kc 2 rfl <| kc 3 rfl <| kc 5 rfl <| kc 10 rfl <| kn) rfl ?_
 refine T_if h rfl (fun b10 h => ?_) (fun b10 h => ?_)
 ·
  refine T_keep (kc 5 rfl <| kn) rfl ?_
  refine T_seq (T_reg ?_)
  refine R_q _ rfl (v_move (ov rfl)) ?_
  refine R_q _ rfl (v_assign (ov rfl)) ?_
  refine R_nil ?_
  obtain rfl := rt (v := y) h
  refine T_ret (retq ?_ (.one (.tmp rfl (Dat.view (.b rfl)))))
  rfl
 ·
  refine T_skip ?_
  refine T_seq ?_
  refine T_keep (kc 2 rfl <| kc 3 rfl <| kn) rfl ?_
  refine T_seq (T_reg ?_)
  refine R_q _ rfl (v_loadS_r (ov rfl) tS42 rfl) ?_
  obtain ⟨y2, h_y2, h⟩ := bnd h
  refine R_q _ rfl (v_call (ok_event_CheckTracks h_y2) (.cons (ov rfl) (.b rfl) <| .nil)) ?_
  refine R_q _ rfl (v_assign (ov rfl)) ?_
  refine R_nil ?_
  refine T_keep (kc 2 rfl <| kc 3 rfl <| kc 6 rfl <| kn) rfl ?_
  refine T_seq (T_reg ?_)
  refine R_q _ rfl (v_move (ov rfl)) ?_
  refine R_q _ rfl (v_neq (ov rfl) (ov rfl)) ?_
  refine R_nil ?_
  refine T_keep (kc 2 rfl <| kc 3 rfl <| kc 6 rfl <| kc 15 rfl <| kn) rfl ?_
  refine T_if h rfl (fun b15 h => ?_) (fun b15 h => ?_)
  ·
   refine T_keep (kc 6 rfl <| kn) rfl ?_
   refine T_seq (T_reg ?_)
   refine R_q _ rfl (v_move (ov rfl)) ?_
   refine R_q _ rfl (v_assign (ov rfl)) ?_
   refine R_nil ?_
   obtain rfl := rt (v := y2) h
   refine T_ret (retq ?_ (.one (.tmp rfl (Dat.view (.b rfl)))))
   rfl
  ·
   refine T_skip ?_
   refine T_seq ?_
   refine T_keep (kc 2 rfl <| kc 3 rfl <| kn) rfl ?_
   refine T_seq (T_reg ?_)
   refine R_q _ rfl (v_fieldR (ov rfl) tF41_0) ?_
   refine R_q _ rfl (v_loadS_r (ov rfl) tS39 rfl) ?_
   refine R_q _ rfl (v_makeFunc (.cons (ov rfl) <| .nil)) ?_
   obtain ⟨y3, h_y3, h⟩ := bnd h
   refine R_q _ rfl (v_call (ok_slices_ContainsFunc_api_Instrument_api_Instrument rfl (fun z0 _ hz => ok_panel_checkBoth_1 hz) h_y3) (.cons (ov rfl) (.b rfl) <| .cons (ov rfl) (.fnC (.cons (.b rfl) <| .nil)) <| .nil)) ?_
   refine R_nil ?_
   refine T_keep (kc 20 rfl <| kn) rfl ?_
   refine T_if h rfl (fun b20 h => ?_) (fun b20 h => ?_)
   ·
    refine T_keep (kn) rfl ?_
    refine T_seq (T_reg ?_)
    refine R_q _ rfl (v_assign (ov rfl)) ?_
    refine R_nil ?_
    obtain rfl := rt (v := 4) h
    refine T_ret (retq ?_ (.one (.tmp rfl (Dat.view (.b rfl)))))
    rfl
   ·
    refine T_skip ?_
    refine T_keep (kn) rfl ?_
    refine T_seq (T_reg ?_)
    refine R_q _ rfl (v_assign (ov rfl)) ?_
    refine R_nil ?_
    obtain rfl := rt (v := 0) h
    refine T_ret (retq ?_ (.one (.tmp rfl (Dat.view (.b rfl)))))
    rfl

theorem ok_panel_first {p : api_Panel} {r : api_PanelState} (h : panel_first p = some r) :
  CSpec Tryz.prog gl0 70 [.agg [.sl 55 (List.map R55 p.Instruments)]] (.agg [.int .i64 r.Frame, .sl 129 (List.map R129 r.Memos)]) := by
 unfold panel_first at h
 replace h := bnd0 h
 refine spec_of (by kernel_rfl) Tryz.func70 rfl rfl ?_
 intro w0 A
 refine T_seq (T_reg ?_)
 refine R_q _ rfl (v_boxD (cva (ov rfl)) rfl tZ_41 rfl) ?_
 refine R_w _ _ rfl (w_alloc (row := [_, _]) 0 rfl tZ65 rfl tZ_65) ?_
 refine R_nil ?_
 refine T_keep (kc 1 rfl <| kc 2 rfl <| kn) rfl ?_
 refine T_seq (T_reg ?_)
 refine R_q _ rfl (v_fieldR (ov rfl) tF41_0) ?_
 refine R_q _ rfl (v_loadS_r (ov rfl) tS39 rfl) ?_
 refine R_q _ rfl (v_len (slv_sl (ov rfl) tZ_55) tL39 (len_map _ _)) ?_
 obtain ⟨l, h_l, h⟩ := bnd h
 refine R_w _ _ rfl (w_makeG [none, none, none, none, some 3] (r := 1) (f := R129) (z0 := (api_Memo.mk false false 0 0 [])) rfl (ov rfl) (ov rfl) tL63 rfl tZ129 rfl rfl h_l) ?_
 refine R_q _ rfl (v_build (ys := [_, _]) tPL65 tHA65 tZ65 (.cons (cvs (ov rfl) (cell1_b rfl)) <| .cons (cvs (ov rfl) (cell1_b rfl)) <| .nil) rfl) ?_
 refine R_w _ _ rfl (w_store (ov rfl) (ov rfl) (cells_agg tA65 rfl) rfl rfl rfl (Nat.le_of_ble_eq_true rfl) (cell1_all rfl) rfl) ?_
 refine R_nil ?_
 obtain rfl := rt (v := (api_PanelState.mk (-1) l)) h
 refine T_ret (retq ?_ (.one (.agg rfl rfl rfl rfl tA65 rfl rfl (.cons (Dat.view (.b rfl)) <| .cons (View.ownM rfl rfl D129) <| .nil))))
 rfl

theorem ok_slices_BinarySearchFunc_api_Sample_api_Sample_int {x : List api_Sample} {target : Int} {cmp : api_Sample → Int → Option Int} {r : Int × Bool} {cmp_f : FuncId} {cmp_c : List AV} (cmp_d : cmp_c.all datB = true) (cmp_h : ∀ (z0 : api_Sample) (z1 : Int) z, cmp z0 z1 = some z → CSpec Tryz.prog gl0 cmp_f ([.agg [.int .i64 z0.At, .int .i64 z0.N, .int .i64 z0.Mark], .int .i64 z1] ++ cmp_c) (.int .i64 z)) (h : slices_BinarySearchFunc_api_Sample_api_Sample_int x target cmp = some r) :
  CSpec Tryz.prog gl0 195 [.sl 28 (List.map R28 x), .int .i64 target, .fn cmp_f cmp_c] (.tuple [.int .i64 r.1, .bool r.2]) := by
 unfold slices_BinarySearchFunc_api_Sample_api_Sample_int at h
 replace h := bnd0 h
 refine spec_of (by kernel_rfl) Tryz.func195 rfl rfl ?_
 intro w0 A
 refine T_seq (T_reg ?_)
 refine R_q _ rfl (v_assign (ov rfl)) ?_
 refine R_q _ rfl (v_assign (ov rfl)) ?_
 refine R_nil ?_
 refine T_keep (kc 0 rfl <| kc 1 rfl <| kc 2 rfl <| kn) rfl ?_
 refine T_seq (T_reg ?_)
 refine R_q _ rfl (v_move (ov rfl)) ?_
 refine R_q _ rfl (v_len (slv_sl (ov rfl) tZ_28) tL22 (len_map _ _)) ?_
 refine R_q _ rfl (v_assign (ov rfl)) ?_
 refine R_nil ?_
 refine T_keep (kc 0 rfl <| kc 1 rfl <| kc 2 rfl <| kc 8 rfl <| kn) rfl ?_
 refine T_seq (T_reg ?_)
 refine R_q _ rfl (v_move (ov rfl)) ?_
 refine R_q _ rfl (v_assign (ov rfl)) ?_
 refine R_q _ rfl (v_assign (ov rfl)) ?_
 refine R_nil ?_
 refine T_joinG id (t1 fun i => ⟨[(0, .sl 28 (List.map R28 x)), (1, .int .i64 target), (2, .fn cmp_f cmp_c), (8, .int .i64 (x.length : Int)), (9, .int .i64 i)], []⟩) h (fun h => ?_) (fun j h => ?_)
 ·
  refine T_block ?_
  obtain ⟨r1, hl1, ho1⟩ := bndL h
  refine T_loopG _ (t2 fun i2 j => ⟨[(0, .sl 28 (List.map R28 x)), (1, .int .i64 target), (2, .fn cmp_f cmp_c), (8, .int .i64 (x.length : Int)), (9, .int .i64 i2), (10, .int .i64 j)], []⟩) _ hl1 (Ent.sel [] (sd 0 rfl rfl <| sd 1 rfl rfl <| sr 2 rfl (rFn (rld cmp_d)) <| sd 8 rfl rfl <| sd 9 rfl rfl <| sd 10 rfl rfl <| sn) (.nil) rfl rfl) (fun n1 s1 h => ?_)
  obtain ⟨i2, j⟩ := s1
  replace h := t2i h
  refine t2T ?_
  unfold slices_BinarySearchFunc_api_Sample_api_Sample_int_L1 at h
  refine T_seq ?_
  refine T_seq (T_reg ?_)
  refine R_q _ rfl (v_move (ov rfl)) ?_
  refine R_q _ rfl (v_move (ov rfl)) ?_
  refine R_q _ rfl (v_lss (ov rfl) (ov rfl)) ?_
  refine R_nil ?_
  refine T_keep (kc 0 rfl <| kc 1 rfl <| kc 2 rfl <| kc 8 rfl <| kc 9 rfl <| kc 10 rfl <| kc 17 rfl <| kn) rfl ?_
  refine T_if h rfl (fun b17 h => ?_) (fun b17 h => ?_)
  ·
   refine T_skip ?_
   refine T_block ?_
   refine T_keep (kc 0 rfl <| kc 1 rfl <| kc 2 rfl <| kc 8 rfl <| kc 9 rfl <| kc 10 rfl <| kn) rfl ?_
   refine T_seq (T_reg ?_)
   refine R_q _ rfl (v_move (ov rfl)) ?_
   refine R_q _ rfl (v_move (ov rfl)) ?_
   refine R_q _ rfl (v_add (ov rfl) (ov rfl) rfl) ?_
   refine R_q _ rfl (v_conv (ov rfl) tI3 tI189 rfl) ?_
   obtain ⟨q, h_q, h⟩ := bnd h
   refine R_q _ rfl (v_shrG (ov rfl) (ov rfl) h_q) ?_
   refine R_q _ rfl (v_conv (ov rfl) tI189 tI3 rfl) ?_
   refine R_q _ rfl (v_assign (ov rfl)) ?_
   refine R_nil ?_
   refine T_keep (kc 0 rfl <| kc 1 rfl <| kc 2 rfl <| kc 8 rfl <| kc 9 rfl <| kc 10 rfl <| kc 11 rfl <| kn) rfl ?_
   refine T_seq (T_reg ?_)
   refine R_q _ rfl (v_move (ov rfl)) ?_
   refine R_q _ rfl (v_move (ov rfl)) ?_
   refine R_q _ rfl (v_move (ov rfl)) ?_
   obtain ⟨x2, h_x2, h⟩ := bnd h
   refine R_q _ rfl (v_ixSG (ov rfl) (ov rfl) tL22 h_x2) ?_
   refine R_q _ rfl (v_loadA_r (ov rfl) tA28 rfl rfl) ?_
   refine R_q _ rfl (v_move (ov rfl)) ?_
   obtain ⟨y, h_y, h⟩ := bnd h
   refine R_q _ rfl (v_callC (ov rfl) cmp_d (cmp_h _ _ _ h_y) (.cons (ov rfl) (.aggB rfl) <| .cons (ov rfl) (.b rfl) <| .nil)) ?_
   refine R_q _ rfl (v_lss (ov rfl) (ov rfl)) ?_
   refine R_nil ?_
   refine T_keep (kc 0 rfl <| kc 1 rfl <| kc 2 rfl <| kc 8 rfl <| kc 9 rfl <| kc 10 rfl <| kc 11 rfl <| kc 31 rfl <| kn) rfl ?_
   refine T_if h rfl (fun b31 h => ?_) (fun b31 h => ?_)
   ·
    refine T_keep (kc 0 rfl <| kc 1 rfl <| kc 2 rfl <| kc 8 rfl <| kc 9 rfl <| kc 10 rfl <| kc 11 rfl <| kn) rfl ?_
    refine T_reg ?_
    refine R_q _ rfl (v_move (ov rfl)) ?_
    refine R_q _ rfl (v_add (ov rfl) (ov rfl) rfl) ?_
    refine R_q _ rfl (v_assign (ov rfl)) ?_
    refine R_nil ?_
    exact ⟨((i64 ((i64 q) + 1)), j), h, Ent.sel [] (sd 0 rfl rfl <| sd 1 rfl rfl <| sr 2 rfl (rFn (rld cmp_d)) <| sd 8 rfl rfl <| sd 9 rfl rfl <| sd 10 rfl rfl <| sn) (.nil) rfl rfl⟩
   ·
    refine T_keep (kc 0 rfl <| kc 1 rfl <| kc 2 rfl <| kc 8 rfl <| kc 9 rfl <| kc 10 rfl <| kc 11 rfl <| kn) rfl ?_
    refine T_reg ?_
    refine R_q _ rfl (v_move (ov rfl)) ?_
    refine R_q _ rfl (v_assign (ov rfl)) ?_
    refine R_nil ?_
    exact ⟨(i2, (i64 q)), h, Ent.sel [] (sd 0 rfl rfl <| sd 1 rfl rfl <| sr 2 rfl (rFn (rld cmp_d)) <| sd 8 rfl rfl <| sd 9 rfl rfl <| sd 10 rfl rfl <| sn) (.nil) rfl rfl⟩
  ·
   refine T_exit ?_
   rw [lx h] at ho1
   replace h := ho1
   exact ⟨i2, h, Ent.sel [] (sd 0 rfl rfl <| sd 1 rfl rfl <| sr 2 rfl (rFn (rld cmp_d)) <| sd 8 rfl rfl <| sd 9 rfl rfl <| sn) (.nil) rfl rfl⟩
 ·
  obtain ⟨i, rfl⟩ : ∃ x, x = j := ⟨_, rfl⟩
  replace h := t1i h
  refine t1T ?_
  refine T_seq (T_reg ?_)
  refine R_q _ rfl (v_move (ov rfl)) ?_
  refine R_q _ rfl (v_move (ov rfl)) ?_
  refine R_q _ rfl (v_move (ov rfl)) ?_
  refine R_q _ rfl (v_lss (ov rfl) (ov rfl)) ?_
  refine R_q _ rfl (v_move (ov rfl)) ?_
  refine R_q _ rfl (.guarded ((decide (i < (x.length : Int))) == true) rfl rfl rfl rfl fun h => v_move (ov rfl)) ?_
  refine R_q _ rfl (.guarded ((decide (i < (x.length : Int))) == true) rfl rfl rfl rfl fun h => v_move (ov rfl)) ?_
  refine R_q _ rfl (.guarded ((decide (i < (x.length : Int))) == true) rfl rfl rfl rfl fun h => v_move (ov rfl)) ?_
  obtain ⟨x3, h_x3, h⟩ := bnd h
  refine R_q _ rfl (.guarded ((decide (i < (x.length : Int))) == true) rfl rfl rfl rfl fun h => v_ixSG (ow rfl h) (ow rfl h) tL22 (gdT h_x3 h)) ?_
  refine R_q _ rfl (.guarded ((decide (i < (x.length : Int))) == true) rfl rfl rfl rfl fun h => v_loadA_r (ow rfl h) tA28 rfl rfl) ?_
  refine R_q _ rfl (.guarded ((decide (i < (x.length : Int))) == true) rfl rfl rfl rfl fun h => v_move (ov rfl)) ?_
  obtain ⟨y2, h_y2, h⟩ := bnd h
  refine R_q _ rfl (.guarded ((decide (i < (x.length : Int))) == true) rfl rfl rfl rfl fun h => v_callC (ow rfl h) cmp_d (cmp_h _ _ _ (gdT h_y2 h)) (.cons (ow rfl h) (.aggB rfl) <| .cons (ow rfl h) (.b rfl) <| .nil)) ?_
  refine R_q _ rfl (.guarded ((decide (i < (x.length : Int))) == true) rfl rfl rfl rfl fun h => v_eql (ow rfl h) (ov rfl)) ?_
  refine R_q _ rfl (v_and (ov rfl) (fun hp => ow rfl (gT hp))) ?_
  refine R_q _ rfl (v_assign (ov rfl)) ?_
  refine R_q _ rfl (v_assign (ov rfl)) ?_
  refine R_nil ?_
  obtain rfl := rt (v := (i, ((decide (i < (x.length : Int))) && (decide (y2 = 0))))) h
  refine T_ret (retq ?_ (.two (.tmp rfl (Dat.view (.b rfl))) (.tmp rfl (Dat.view (.b rfl)))))
  rfl

theorem ok_series_latest_1 {x : api_Sample} {at_ : Int} {r : Int} (h : series_latest_1 x at_ = some r) :
  CSpec Tryz.prog gl0 196 [.agg [.int .i64 x.At, .int .i64 x.N, .int .i64 x.Mark], .int .i64 at_] (.int .i64 r) := by
 unfold series_latest_1 at h
 replace h := bnd0 h
 refine spec_of (by kernel_rfl) Tryz.func196 rfl rfl ?_
 intro w0 A
 refine T_seq (T_reg ?_)
 refine R_q _ rfl (v_boxD (cva (ov rfl)) rfl tZ_28 rfl) ?_
 refine R_q _ rfl (v_assign (ov rfl)) ?_
 refine R_nil ?_
 refine T_keep (kc 1 rfl <| kc 2 rfl <| kc 4 rfl <| kn) rfl ?_
 refine T_seq (T_reg ?_)
 refine R_q _ rfl (v_fieldR (ov rfl) tF28_0) ?_
 refine R_q _ rfl (v_loadS_r (ov rfl) tS3 rfl) ?_
 refine R_q _ rfl (v_move (ov rfl)) ?_
 refine R_q _ rfl (v_sub (ov rfl) (ov rfl) rfl) ?_
 refine R_q _ rfl (v_assign (ov rfl)) ?_
 refine R_nil ?_
 obtain rfl := rt (v := (i64 (x.At - at_))) h
 refine T_ret (retq ?_ (.one (.tmp rfl (Dat.view (.b rfl)))))
 rfl

theorem ok_series_latest {s : api_Series} {at_ : Int} {r : Int} (h : series_latest s at_ = some r) :
  CSpec Tryz.prog gl0 181 [.agg [.int .i64 s.Den, .sl 28 (List.map R28 s.Samples)], .int .i64 at_] (.int .i64 r) := by
 unfold series_latest at h
 replace h := bnd0 h
 refine spec_of (by kernel_rfl) Tryz.func181 rfl rfl ?_
 intro w0 A
 refine T_seq (T_reg ?_)
 refine R_q _ rfl (v_boxD (cva (ov rfl)) rfl tZ_24 rfl) ?_
 refine R_q _ rfl (v_assign (ov rfl)) ?_
 refine R_nil ?_
 refine T_keep (kc 1 rfl <| kc 2 rfl <| kn) rfl ?_
 refine T_seq (T_reg ?_)
 refine R_q _ rfl (v_fieldR (ov rfl) tF24_1) ?_
 refine R_q _ rfl (v_loadS_r (ov rfl) tS22 rfl) ?_
 refine R_q _ rfl (v_move (ov rfl)) ?_
 obtain ⟨y, h_y, h⟩ := bnd h
 refine R_q _ rfl (v_call (ok_slices_BinarySearchFunc_api_Sample_api_Sample_int rfl (fun z0 z1 _ hz => ok_series_latest_1 hz) h_y) (.cons (ov rfl) (.b rfl) <| .cons (ov rfl) (.b rfl) <| .cons (ov rfl) (.fn) <| .nil)) ?_
 refine R_q _ rfl (v_move (ov rfl)) ?_
 refine R_q _ rfl (v_extract (ov rfl) rfl) ?_
 refine R_q _ rfl (v_extract (ov rfl) rfl) ?_
 refine R_q _ rfl (v_assign (ov rfl)) ?_
 refine R_q _ rfl (v_assign (ov rfl)) ?_
 refine R_nil ?_
 refine T_seq ?_
 refine T_keep (kc 5 rfl <| kc 6 rfl <| kn) rfl ?_
 refine T_seq (T_reg ?_)
 refine R_q _ rfl (v_move (ov rfl)) ?_
 refine R_nil ?_
 refine T_keep (kc 5 rfl <| kc 14 rfl <| kn) rfl ?_
 refine T_if h rfl (fun b14 h => ?_) (fun b14 h => ?_)
 ·
  refine T_keep (kc 5 rfl <| kn) rfl ?_
  refine T_seq (T_reg ?_)
  refine R_q _ rfl (v_move (ov rfl)) ?_
  refine R_q _ rfl (v_assign (ov rfl)) ?_
  refine R_nil ?_
  obtain rfl := rt (v := y.1) h
  refine T_ret (retq ?_ (.one (.tmp rfl (Dat.view (.b rfl)))))
  rfl
 ·
  refine T_skip ?_
  refine T_keep (kc 5 rfl <| kn) rfl ?_
  refine T_seq (T_reg ?_)
  refine R_q _ rfl (v_move (ov rfl)) ?_
  refine R_q _ rfl (v_sub (ov rfl) (ov rfl) rfl) ?_
  refine R_q _ rfl (v_assign (ov rfl)) ?_
  refine R_nil ?_
  obtain rfl := rt (v := (i64 (y.1 - 1))) h
  refine T_ret (retq ?_ (.one (.tmp rfl (Dat.view (.b rfl)))))
  rfl

theorem ok_series_solid {x : api_Sample} {r : Bool} (h : series_solid x = some r) :
  CSpec Tryz.prog gl0 182 [.agg [.int .i64 x.At, .int .i64 x.N, .int .i64 x.Mark]] (.bool r) := by
 unfold series_solid at h
 replace h := bnd0 h
 refine spec_of (by kernel_rfl) Tryz.func182 rfl rfl ?_
 intro w0 A
 refine T_seq (T_reg ?_)
 refine R_q _ rfl (v_boxD (cva (ov rfl)) rfl tZ_28 rfl) ?_
 refine R_q _ rfl (v_assign (ov rfl)) ?_
 refine R_nil ?_
 refine T_keep (kc 1 rfl <| kc 2 rfl <| kn) rfl ?_
 refine T_seq (T_reg ?_)
 refine R_q _ rfl (v_fieldR (ov rfl) tF28_2) ?_
 refine R_q _ rfl (v_loadS_r (ov rfl) tS3 rfl) ?_
 refine R_q _ rfl (v_geq (ov rfl) (ov rfl)) ?_
 refine R_q _ rfl (v_assign (ov rfl)) ?_
 refine R_nil ?_
 obtain rfl := rt (v := (decide (3 ≤ x.Mark))) h
 refine T_ret (retq ?_ (.one (.tmp rfl (Dat.view (.b rfl)))))
 rfl

theorem ok_series_hold {s : api_Series} {at_ : Int} {long : Int} {r : api_Sample × Bool} (h : series_hold s at_ long = some r) :
  CSpec Tryz.prog gl0 158 [.agg [.int .i64 s.Den, .sl 28 (List.map R28 s.Samples)], .int .i64 at_, .int .i64 long] (.tuple [.agg [.int .i64 r.1.At, .int .i64 r.1.N, .int .i64 r.1.Mark], .bool r.2]) := by
 unfold series_hold at h
 replace h := bnd0 h
 refine spec_of (by kernel_rfl) Tryz.func158 rfl rfl ?_
 intro w0 A
 refine T_seq (T_reg ?_)
 refine R_q _ rfl (v_boxD (cva (ov rfl)) rfl tZ_24 rfl) ?_
 refine R_w _ _ rfl (w_alloc (row := [_, _, _]) 0 rfl tZ28 rfl tZ_28) ?_
 refine R_q _ rfl (v_assign (ov rfl)) ?_
 refine R_nil ?_
 refine T_keep (kc 1 rfl <| kc 2 rfl <| kc 3 rfl <| kc 6 rfl <| kn) rfl ?_
 refine T_seq (T_reg ?_)
 refine R_q _ rfl (v_loadA_r (ov rfl) tA24 rfl rfl) ?_
 refine R_q _ rfl (v_move (ov rfl)) ?_
 obtain ⟨y, h_y, h⟩ := bnd h
 refine R_q _ rfl (v_call (ok_series_latest h_y) (.cons (ov rfl) (.aggB rfl) <| .cons (ov rfl) (.b rfl) <| .nil)) ?_
 refine R_q _ rfl (v_assign (ov rfl)) ?_
 refine R_nil ?_
 refine T_seq ?_
 refine T_keep (kc 1 rfl <| kc 2 rfl <| kc 3 rfl <| kc 6 rfl <| kc 8 rfl <| kn) rfl ?_
 refine T_seq (T_reg ?_)
 refine R_q _ rfl (v_move (ov rfl)) ?_
 refine R_q _ rfl (v_lss (ov rfl) (ov rfl)) ?_
 refine R_q _ rfl (v_move (ov rfl)) ?_
 refine R_q _ rfl (.guarded ((decide (y < 0)) == false) rfl rfl rfl rfl fun h => v_fieldR (ov rfl) tF24_1) ?_
 refine R_q _ rfl (.guarded ((decide (y < 0)) == false) rfl rfl rfl rfl fun h => v_loadS_r (ow rfl h) tS22 rfl) ?_
 refine R_q _ rfl (.guarded ((decide (y < 0)) == false) rfl rfl rfl rfl fun h => v_move (ov rfl)) ?_
 obtain ⟨x, h_x, h⟩ := bnd h
 refine R_q _ rfl (.guarded ((decide (y < 0)) == false) rfl rfl rfl rfl fun h => v_ixSG (ow rfl h) (ow rfl h) tL22 (gdT h_x h)) ?_
 refine R_q _ rfl (.guarded ((decide (y < 0)) == false) rfl rfl rfl rfl fun h => v_loadA_r (ow rfl h) tA28 rfl rfl) ?_
 obtain ⟨y2, h_y2, h⟩ := bnd h
 refine R_q _ rfl (.guarded ((decide (y < 0)) == false) rfl rfl rfl rfl fun h => v_call (ok_series_solid (gdT h_y2 h)) (.cons (ow rfl h) (.aggB rfl) <| .nil)) ?_
 refine R_q _ rfl (.guarded ((decide (y < 0)) == false) rfl rfl rfl rfl fun h => v_not (ow rfl h)) ?_
 refine R_q _ rfl (v_or (ov rfl) (fun hp => ow rfl (gF hp))) ?_
 refine R_q _ rfl (v_move (ov rfl)) ?_
 refine R_q _ rfl (.guarded (((decide (y < 0)) || (!y2)) == false) rfl rfl rfl rfl fun h => v_move (ov rfl)) ?_
 refine R_q _ rfl (.guarded (((decide (y < 0)) || (!y2)) == false) rfl rfl rfl rfl fun h => v_fieldR (ov rfl) tF24_1) ?_
 refine R_q _ rfl (.guarded (((decide (y < 0)) || (!y2)) == false) rfl rfl rfl rfl fun h => v_loadS_r (ow rfl h) tS22 rfl) ?_
 refine R_q _ rfl (.guarded (((decide (y < 0)) || (!y2)) == false) rfl rfl rfl rfl fun h => v_move (ov rfl)) ?_
 obtain ⟨x2, h_x2, h⟩ := bnd h
 refine R_q _ rfl (.guarded (((decide (y < 0)) || (!y2)) == false) rfl rfl rfl rfl fun h => v_ixSG (ow rfl h) (ow rfl h) tL22 (gdT h_x2 h)) ?_
 refine R_q _ rfl (.guarded (((decide (y < 0)) || (!y2)) == false) rfl rfl rfl rfl fun h => v_fieldR (ow rfl h) tF28_0) ?_
 refine R_q _ rfl (.guarded (((decide (y < 0)) || (!y2)) == false) rfl rfl rfl rfl fun h => v_loadS_r (ow rfl h) tS3 rfl) ?_
 refine R_q _ rfl (.guarded (((decide (y < 0)) || (!y2)) == false) rfl rfl rfl rfl fun h => v_sub (ow rfl h) (ow rfl h) rfl) ?_
 refine R_q _ rfl (.guarded (((decide (y < 0)) || (!y2)) == false) rfl rfl rfl rfl fun h => v_move (ov rfl)) ?_
 refine R_q _ rfl (.guarded (((decide (y < 0)) || (!y2)) == false) rfl rfl rfl rfl fun h => v_gtr (ow rfl h) (ow rfl h)) ?_
 refine R_q _ rfl (v_or (ov rfl) (fun hp => ow rfl (gF hp))) ?_
 refine R_nil ?_
 refine T_keep (kc 3 rfl <| kc 6 rfl <| kc 8 rfl <| kc 34 rfl <| kn) rfl ?_
 refine T_if h rfl (fun b34 h => ?_) (fun b34 h => ?_)
 ·
  refine T_keep (kc 6 rfl <| kn) rfl ?_
  refine T_seq (T_reg ?_)
  refine R_q _ rfl (v_build (ys := [_, _, _]) tPL28 tHA28 tZ28 (.nil) rfl) ?_
  refine R_w _ _ rfl (w_store (ov rfl) (ov rfl) (cells_agg tA28 rfl) rfl rfl rfl (Nat.le_of_ble_eq_true rfl) (cell1_all rfl) rfl) ?_
  refine R_q _ rfl (v_assign (ov rfl)) ?_
  refine R_nil ?_
  obtain rfl := rt (v := ((api_Sample.mk 0 0 0), false)) h
  refine T_ret (retq ?_ (.two (.agg rfl rfl rfl rfl tA28 rfl rfl (pwB rfl)) (.tmp rfl (Dat.view (.b rfl)))))
  rfl
 ·
  refine T_skip ?_
  refine T_keep (kc 3 rfl <| kc 6 rfl <| kc 8 rfl <| kn) rfl ?_
  refine T_seq (T_reg ?_)
  refine R_q _ rfl (v_fieldR (ov rfl) tF24_1) ?_
  refine R_q _ rfl (v_loadS_r (ov rfl) tS22 rfl) ?_
  refine R_q _ rfl (v_move (ov rfl)) ?_
  obtain ⟨x3, h_x3, h⟩ := bnd h
  refine R_q _ rfl (v_ixSG (ov rfl) (ov rfl) tL22 h_x3) ?_
  refine R_q _ rfl (v_loadA_r (ov rfl) tA28 rfl rfl) ?_
  refine R_w _ _ rfl (w_store (ov rfl) (ov rfl) (cells_agg tA28 rfl) rfl rfl rfl (Nat.le_of_ble_eq_true rfl) (cell1_all rfl) rfl) ?_
  refine R_q _ rfl (v_assign (ov rfl)) ?_
  refine R_nil ?_
  obtain rfl := rt (v := (x3, true)) h
  refine T_ret (retq ?_ (.two (.agg rfl rfl rfl rfl tA28 rfl rfl (pwB rfl)) (.tmp rfl (Dat.view (.b rfl)))))
  rfl

theorem ok_series_Held {s : api_Series} {at_ : Int} {long : Int} {r : api_Sample × Bool} (h : series_Held s at_ long = some r) :
  CSpec Tryz.prog gl0 123 [.agg [.int .i64 s.Den, .sl 28 (List.map R28 s.Samples)], .int .i64 at_, .int .i64 long] (.tuple [.agg [.int .i64 r.1.At, .int .i64 r.1.N, .int .i64 r.1.Mark], .bool r.2]) := by
 unfold series_Held at h
 replace h := bnd0 h
 refine spec_of (by kernel_rfl) Tryz.func123 rfl rfl ?_
 intro w0 A
 refine T_seq (T_reg ?_)
 refine R_q _ rfl (v_boxD (cva (ov rfl)) rfl tZ_24 rfl) ?_
 refine R_w _ _ rfl (w_alloc (row := [_, _, _]) 0 rfl tZ28 rfl tZ_28) ?_
 refine R_q _ rfl (v_assign (ov rfl)) ?_
 refine R_nil ?_
 refine T_keep (kc 1 rfl <| kc 2 rfl <| kc 3 rfl <| kc 6 rfl <| kc 7 rfl <| kn) rfl ?_
 refine T_seq (T_reg ?_)
 refine R_q _ rfl (v_loadA_r (ov rfl) tA24 rfl rfl) ?_
 refine R_q _ rfl (v_move (ov rfl)) ?_
 refine R_q _ rfl (v_move (ov rfl)) ?_
 obtain ⟨y, h_y, h⟩ := bnd h
 refine R_q _ rfl (v_call (ok_series_hold h_y) (.cons (ov rfl) (.aggB rfl) <| .cons (ov rfl) (.b rfl) <| .cons (ov rfl) (.b rfl) <| .nil)) ?_
 refine R_q _ rfl (v_extract (ov rfl) rfl) ?_
 refine R_q _ rfl (v_extract (ov rfl) rfl) ?_
 refine R_w _ _ rfl (w_store (ov rfl) (ov rfl) (cells_agg tA28 rfl) rfl rfl rfl (Nat.le_of_ble_eq_true rfl) (cell1_all rfl) rfl) ?_
 refine R_q _ rfl (v_assign (ov rfl)) ?_
 refine R_nil ?_
 obtain rfl := rt (v := (y.1, y.2)) h
 refine T_ret (retq ?_ (.two (.agg rfl rfl rfl rfl tA28 rfl rfl (pwB rfl)) (.tmp rfl (Dat.view (.b rfl)))))
 rfl

theorem ok_panel_value {t : api_Track} {frame : Int} {r : api_Sample × Bool} (h : panel_value t frame = some r) :
  CSpec Tryz.prog gl0 60 [.agg [.str t.Name, .int .i64 t.Series.Den, .sl 28 (List.map R28 t.Series.Samples), .int .i64 t.Long], .int .i64 frame] (.tuple [.agg [.int .i64 r.1.At, .int .i64 r.1.N, .int .i64 r.1.Mark], .bool r.2]) := by
 unfold panel_value at h
 replace h := bnd0 h
 refine spec_of (by kernel_rfl) Tryz.func60 rfl rfl ?_
 intro w0 A
 refine T_seq (T_reg ?_)
 refine R_q _ rfl (v_boxD (cva (ov rfl)) rfl tZ_26 rfl) ?_
 refine R_w _ _ rfl (w_alloc (row := [_, _, _]) 0 rfl tZ28 rfl tZ_28) ?_
 refine R_q _ rfl (v_assign (ov rfl)) ?_
 refine R_nil ?_
 refine T_keep (kc 1 rfl <| kc 2 rfl <| kc 4 rfl <| kc 5 rfl <| kn) rfl ?_
 refine T_seq (T_reg ?_)
 refine R_q _ rfl (v_fieldR (ov rfl) tF26_1) ?_
 refine R_q _ rfl (v_loadA_r (ov rfl) tA24 rfl rfl) ?_
 refine R_q _ rfl (v_move (ov rfl)) ?_
 refine R_q _ rfl (v_mul (ov rfl) (ov rfl) rfl) ?_
 refine R_q _ rfl (v_add (ov rfl) (ov rfl) rfl) ?_
 refine R_q _ rfl (v_sub (ov rfl) (ov rfl) rfl) ?_
 refine R_q _ rfl (v_fieldR (ov rfl) tF26_2) ?_
 refine R_q _ rfl (v_loadS_r (ov rfl) tS3 rfl) ?_
 obtain ⟨y, h_y, h⟩ := bnd h
 refine R_q _ rfl (v_call (ok_series_Held h_y) (.cons (ov rfl) (.aggB rfl) <| .cons (ov rfl) (.b rfl) <| .cons (ov rfl) (.b rfl) <| .nil)) ?_
 refine R_q _ rfl (v_extract (ov rfl) rfl) ?_
 refine R_q _ rfl (v_extract (ov rfl) rfl) ?_
 refine R_w _ _ rfl (w_store (ov rfl) (ov rfl) (cells_agg tA28 rfl) rfl rfl rfl (Nat.le_of_ble_eq_true rfl) (cell1_all rfl) rfl) ?_
 refine R_q _ rfl (v_assign (ov rfl)) ?_
 refine R_nil ?_
 obtain rfl := rt (v := (y.1, y.2)) h
 refine T_ret (retq ?_ (.two (.agg rfl rfl rfl rfl tA28 rfl rfl (pwB rfl)) (.tmp rfl (Dat.view (.b rfl)))))
 rfl

theorem ok_clone3 {xs r : List Int} (h : clone xs = some r) :
  CSpec Tryz.prog gl0 130 [.sl 3 (List.map R3 xs)] (.sl 3 (List.map R3 r)) := by
 have h2 : app [] xs = some r := h
 refine spec_of (by kernel_rfl) Tryz.func130 rfl rfl ?_
 intro w0 A
 refine T_seq (T_reg ?_)
 refine R_q _ rfl (v_assign (ov rfl)) ?_
 refine R_nil ?_
 refine T_seq (T_seq (T_reg ?_))
 refine R_q _ rfl (v_move (ov rfl)) ?_
 refine R_eqnil (ov rfl) tIsl127 rfl (fun b hb => ?_)
 refine R_nil ?_
 refine T_cond rfl (fun hb2 => ?_) (fun hb2 => ?_)
 ·
  obtain rfl : xs = [] := by simpa using hb hb2
  obtain rfl : r = [] := by simpa [app] using h2.symm
  refine T_seq (T_reg ?_)
  refine R_q _ rfl (v_assign (ov rfl)) ?_
  refine R_nil ?_
  refine T_ret (retq rfl (.one (.tmp rfl (View.nils _))))
 ·
  refine T_skip ?_
  refine T_seq (T_reg ?_)
  refine R_w _ _ rfl (w_litG (r := 0) (xs := []) (f := R3) rfl tL127 .nil rfl rfl rfl) ?_
  refine R_q _ rfl (v_move (ov rfl)) ?_
  refine R_w _ _ rfl (w_appendZ (ov rfl) (slv_sl (ov rfl) tZ_3) tL127 rfl rfl (fun _ => cell1_all rfl) rfl h2) ?_
  refine R_q _ rfl (v_assign (ov rfl)) ?_
  refine R_nil ?_
  refine T_ret (retq rfl (.one (.tmp rfl (View.ownM rfl rfl D3))))

theorem ok_panel_holds {op : Int} {a : Int} {b : Int} {r : Bool} (h : panel_holds op a b = some r) :
  CSpec Tryz.prog gl0 67 [.int .i64 op, .int .i64 a, .int .i64 b] (.bool r) := by
 unfold panel_holds at h
 replace h := bnd0 h
 refine spec_of (by kernel_rfl) Tryz.func67 rfl rfl ?_
 intro w0 A
 refine T_seq (T_reg ?_)
 refine R_q _ rfl (v_assign (ov rfl)) ?_
 refine R_nil ?_
 refine T_seq ?_
 refine T_keep (kc 0 rfl <| kc 1 rfl <| kc 2 rfl <| kn) rfl ?_
 refine T_seq (T_reg ?_)
 refine R_q _ rfl (v_move (ov rfl)) ?_
 refine R_nil ?_
 refine T_block ?_
 refine T_keep (kc 1 rfl <| kc 2 rfl <| kc 7 rfl <| kn) rfl ?_
 refine T_seq (T_reg ?_)
 refine R_q _ rfl (v_eql (ov rfl) (ov rfl)) ?_
 refine R_q _ rfl (v_assign (ov rfl)) ?_
 refine R_nil ?_
 refine T_keep (kc 1 rfl <| kc 2 rfl <| kc 7 rfl <| kc 8 rfl <| kn) rfl ?_
 refine T_if h rfl (fun b8 h => ?_) (fun b8 h => ?_)
 ·
  refine T_keep (kc 1 rfl <| kc 2 rfl <| kn) rfl ?_
  refine T_seq (T_reg ?_)
  refine R_q _ rfl (v_move (ov rfl)) ?_
  refine R_q _ rfl (v_move (ov rfl)) ?_
  refine R_q _ rfl (v_lss (ov rfl) (ov rfl)) ?_
  refine R_q _ rfl (v_assign (ov rfl)) ?_
  refine R_nil ?_
  obtain rfl := rt (v := (decide (a < b))) h
  refine T_ret (retq ?_ (.one (.tmp rfl (Dat.view (.b rfl)))))
  rfl
 ·
  refine T_keep (kc 1 rfl <| kc 2 rfl <| kc 7 rfl <| kn) rfl ?_
  refine T_seq (T_reg ?_)
  refine R_q _ rfl (v_eql (ov rfl) (ov rfl)) ?_
  refine R_q _ rfl (v_assign (ov rfl)) ?_
  refine R_nil ?_
  refine T_keep (kc 1 rfl <| kc 2 rfl <| kc 7 rfl <| kc 13 rfl <| kn) rfl ?_
  refine T_if h rfl (fun b13 h => ?_) (fun b13 h => ?_)
  ·
   refine T_keep (kc 1 rfl <| kc 2 rfl <| kn) rfl ?_
   refine T_seq (T_reg ?_)
   refine R_q _ rfl (v_move (ov rfl)) ?_
   refine R_q _ rfl (v_move (ov rfl)) ?_
   refine R_q _ rfl (v_leq (ov rfl) (ov rfl)) ?_
   refine R_q _ rfl (v_assign (ov rfl)) ?_
   refine R_nil ?_
   obtain rfl := rt (v := (decide (a ≤ b))) h
   refine T_ret (retq ?_ (.one (.tmp rfl (Dat.view (.b rfl)))))
   rfl
  ·
   refine T_keep (kc 1 rfl <| kc 2 rfl <| kc 7 rfl <| kn) rfl ?_
   refine T_seq (T_reg ?_)
   refine R_q _ rfl (v_eql (ov rfl) (ov rfl)) ?_
   refine R_q _ rfl (v_assign (ov rfl)) ?_
   refine R_nil ?_
   refine T_keep (kc 1 rfl <| kc 2 rfl <| kc 7 rfl <| kc 18 rfl <| kn) rfl ?_
   refine T_if h rfl (fun b18 h => ?_) (fun b18 h => ?_)
   ·
    refine T_keep (kc 1 rfl <| kc 2 rfl <| kn) rfl ?_
    refine T_seq (T_reg ?_)
    refine R_q _ rfl (v_move (ov rfl)) ?_
    refine R_q _ rfl (v_move (ov rfl)) ?_
    refine R_q _ rfl (v_eql (ov rfl) (ov rfl)) ?_
    refine R_q _ rfl (v_assign (ov rfl)) ?_
    refine R_nil ?_
    obtain rfl := rt (v := (decide (a = b))) h
    refine T_ret (retq ?_ (.one (.tmp rfl (Dat.view (.b rfl)))))
    rfl
   ·
    refine T_keep (kc 1 rfl <| kc 2 rfl <| kc 7 rfl <| kn) rfl ?_
    refine T_seq (T_reg ?_)
    refine R_q _ rfl (v_eql (ov rfl) (ov rfl)) ?_
    refine R_q _ rfl (v_assign (ov rfl)) ?_
    refine R_nil ?_
    refine T_keep (kc 1 rfl <| kc 2 rfl <| kc 7 rfl <| kc 23 rfl <| kn) rfl ?_
    refine T_if h rfl (fun b23 h => ?_) (fun b23 h => ?_)
    ·
     refine T_keep (kc 1 rfl <| kc 2 rfl <| kn) rfl ?_
     refine T_seq (T_reg ?_)
     refine R_q _ rfl (v_move (ov rfl)) ?_
     refine R_q _ rfl (v_move (ov rfl)) ?_
     refine R_q _ rfl (v_neq (ov rfl) (ov rfl)) ?_
     refine R_q _ rfl (v_assign (ov rfl)) ?_
     refine R_nil ?_
     obtain rfl := rt (v := (!decide (a = b))) h
     refine T_ret (retq ?_ (.one (.tmp rfl (Dat.view (.b rfl)))))
     rfl
    ·
     refine T_keep (kc 1 rfl <| kc 2 rfl <| kc 7 rfl <| kn) rfl ?_
     refine T_seq (T_reg ?_)
     refine R_q _ rfl (v_eql (ov rfl) (ov rfl)) ?_
     refine R_q _ rfl (v_assign (ov rfl)) ?_
     refine R_nil ?_
     refine T_keep (kc 1 rfl <| kc 2 rfl <| kc 28 rfl <| kn) rfl ?_
     refine T_if h rfl (fun b28 h => ?_) (fun b28 h => ?_)
     ·
      refine T_keep (kc 1 rfl <| kc 2 rfl <| kn) rfl ?_
      refine T_seq (T_reg ?_)
      refine R_q _ rfl (v_move (ov rfl)) ?_
      refine R_q _ rfl (v_move (ov rfl)) ?_
      refine R_q _ rfl (v_geq (ov rfl) (ov rfl)) ?_
      refine R_q _ rfl (v_assign (ov rfl)) ?_
      refine R_nil ?_
      obtain rfl := rt (v := (decide (b ≤ a))) h
      refine T_ret (retq ?_ (.one (.tmp rfl (Dat.view (.b rfl)))))
      rfl
     ·
      refine T_skip ?_
      refine T_keep (kc 1 rfl <| kc 2 rfl <| kn) rfl ?_
      refine T_seq (T_reg ?_)
      refine R_q _ rfl (v_move (ov rfl)) ?_
      refine R_q _ rfl (v_move (ov rfl)) ?_
      refine R_q _ rfl (v_gtr (ov rfl) (ov rfl)) ?_
      refine R_q _ rfl (v_assign (ov rfl)) ?_
      refine R_nil ?_
      obtain rfl := rt (v := (decide (b < a))) h
      refine T_ret (retq ?_ (.one (.tmp rfl (Dat.view (.b rfl)))))
      rfl

theorem ok_clone3_o {xs r : List Int} (h : clone xs = some r) :
  GSpec Tryz.prog gl0 130 [.sl 3 (List.map R3 xs)] [] (.own 0 r.length) [some ⟨3, List.map R3 r⟩] := by
 have h2 : app [] xs = some r := h
 refine gspec_of (by kernel_rfl) Tryz.func130 rfl rfl ?_
 intro w0 A W φ0
 refine T_seq (T_reg ?_)
 refine R_q _ rfl (v_assign (ov rfl)) ?_
 refine R_nil ?_
 refine T_seq (T_seq (T_reg ?_))
 refine R_q _ rfl (v_move (ov rfl)) ?_
 refine R_eqnil (ov rfl) tIsl127 rfl (fun b hb => ?_)
 refine R_nil ?_
 refine T_cond rfl (fun hb2 => ?_) (fun hb2 => ?_)
 ·
  obtain rfl : xs = [] := by simpa using hb hb2
  obtain rfl : r = [] := by simpa [app] using h2.symm
  refine T_seq (T_reg ?_)
  refine R_q _ rfl (v_assign (ov rfl)) ?_
  refine R_nil ?_
  refine T_ret ?_
  exact retg [none] rfl (.cons (.tmp rfl) .nil) (.row 3 .nil) rfl rfl (.row rfl)
 ·
  refine T_skip ?_
  refine T_seq (T_reg ?_)
  refine R_w _ _ rfl (w_litG (r := 0) (xs := []) (f := R3) rfl tL127 .nil rfl rfl rfl) ?_
  refine R_q _ rfl (v_move (ov rfl)) ?_
  refine R_w _ _ rfl (w_appendZ (ov rfl) (slv_sl (ov rfl) tZ_3) tL127 rfl rfl (fun _ => cell1_all rfl) rfl h2) ?_
  refine R_q _ rfl (v_assign (ov rfl)) ?_
  refine R_nil ?_
  refine T_ret ?_
  exact retg [some 0] rfl (.cons (.tmp rfl) .nil) (.cons rfl (roM D3) .nil) rfl rfl (.own _ rfl)

theorem ok_panel_shifted {tape : List Int} {size : Int} {n : Int} {r : (List Int)} (h : panel_shifted tape size n = some r) :
  CSpec Tryz.prog gl0 164 [.sl 3 (List.map R3 tape), .int .i64 size, .int .i64 n] (.sl 3 (List.map R3 r)) := by
 unfold panel_shifted at h
 replace h := bnd0 h
 refine spec_of (by kernel_rfl) Tryz.func164 rfl rfl ?_
 intro w0 A
 refine T_seq (T_reg ?_)
 refine R_q _ rfl (v_assign (ov rfl)) ?_
 refine R_nil ?_
 refine T_keep (kc 0 rfl <| kc 1 rfl <| kc 2 rfl <| kn) rfl ?_
 refine T_seq (T_reg ?_)
 refine R_q _ rfl (v_move (ov rfl)) ?_
 obtain ⟨y, h_y, h⟩ := bnd h
 refine R_w _ _ rfl (w_callG [] (ok_clone3_o h_y) (.cons (ov rfl) (.dat rfl) <| .nil) (.nil) rfl (.lent 0 (.inr ⟨Nat.le_of_ble_eq_true rfl, rfl⟩) rfl (roM D3) <| .nil) rfl rfl (.own _ (.inr ⟨Nat.le_of_ble_eq_true rfl, rfl⟩))) ?_
 refine R_q _ rfl (v_move (ov rfl)) ?_
 refine R_q (.sl 3 (List.map R3 ([n] : List Int))) rfl (v_lit tL127 (.cons (cvs (ov rfl) (cell1_b rfl)) rfl (.cons (.b rfl) .nil) <| .nil) rfl rfl) ?_
 obtain ⟨l, h_l, h⟩ := bnd h
 refine R_w _ _ rfl (w_appendG (ov rfl) (slv_sl (ov rfl) tZ_3) tL127 rfl rfl rfl (fun _ => cell1_all rfl) rfl h_l) ?_
 refine R_q _ rfl (v_assign (ov rfl)) ?_
 refine R_nil ?_
 refine T_seq ?_
 refine T_keep (kc 1 rfl <| kc 7 rfl <| kn) rfl ?_
 refine T_seq (T_reg ?_)
 refine R_q _ rfl (v_move (ov rfl)) ?_
 refine R_q _ rfl (v_lenO (ov rfl) rfl rfl tL127) ?_
 refine R_q _ rfl (v_move (ov rfl)) ?_
 refine R_q _ rfl (v_leq (ov rfl) (ov rfl)) ?_
 refine R_nil ?_
 refine T_keep (kc 7 rfl <| kc 18 rfl <| kn) rfl ?_
 refine T_if h rfl (fun b18 h => ?_) (fun b18 h => ?_)
 ·
  refine T_keep (kc 7 rfl <| kn) rfl ?_
  refine T_seq (T_reg ?_)
  refine R_q _ rfl (v_move (ov rfl)) ?_
  refine R_q _ rfl (v_assign (ov rfl)) ?_
  refine R_nil ?_
  obtain rfl := rt (v := l) h
  refine T_ret (retq ?_ (.one (.tmp rfl (View.ownM rfl rfl D3))))
  rfl
 ·
  refine T_skip ?_
  refine T_joinG id (t1 fun out => ⟨[(7, .own 0 out.length)], [some ⟨3, List.map R3 out⟩]⟩) h (fun h => ?_) (fun j h => ?_)
  ·
   refine T_keep (kc 7 rfl <| kn) rfl ?_
   refine T_seq (T_reg ?_)
   refine R_q _ rfl (v_assign (ov rfl)) ?_
   refine R_nil ?_
   refine T_block ?_
   obtain ⟨r1, hl1, ho1⟩ := bndL h
   refine T_loopG _ (t2 fun out2 i => ⟨[(7, .own 0 out2.length), (8, .int .i64 i)], [some ⟨3, List.map R3 out2⟩]⟩) _ hl1 (Ent.sel [some 0] (sr 7 rfl (.own _ rfl) <| sd 8 rfl rfl <| sn) (.cons rfl (roM D3) <| .nil) rfl rfl) (fun n1 s1 h => ?_)
   obtain ⟨out2, i⟩ := s1
   replace h := t2i h
   refine t2T ?_
   unfold panel_shifted_L1 at h
   refine T_seq ?_
   refine T_seq (T_reg ?_)
   refine R_q _ rfl (v_move (ov rfl)) ?_
   refine R_q _ rfl (v_add (ov rfl) (ov rfl) rfl) ?_
   refine R_q _ rfl (v_move (ov rfl)) ?_
   refine R_q _ rfl (v_lenO (ov rfl) rfl rfl tL127) ?_
   refine R_q _ rfl (v_leq (ov rfl) (ov rfl)) ?_
   refine R_nil ?_
   refine T_keep (kc 7 rfl <| kc 8 rfl <| kc 24 rfl <| kn) rfl ?_
   refine T_if h rfl (fun b24 h => ?_) (fun b24 h => ?_)
   ·
    refine T_skip ?_
    refine T_seq ?_
    refine T_block ?_
    refine T_keep (kc 7 rfl <| kc 8 rfl <| kn) rfl ?_
    refine T_seq (T_reg ?_)
    refine R_q _ rfl (v_move (ov rfl)) ?_
    refine R_q _ rfl (v_move (ov rfl)) ?_
    refine R_q _ rfl (v_move (ov rfl)) ?_
    refine R_q _ rfl (v_add (ov rfl) (ov rfl) rfl) ?_
    obtain ⟨u, h_u, h⟩ := bnd h
    refine R_q _ rfl (v_slP (ov rfl) rfl rfl tL127 (oi (ov rfl)) (oi (ov rfl)) h_u) ?_
    obtain ⟨u2, h_u2, h⟩ := bnd h
    refine R_q _ rfl (v_sapP (ov rfl) tR253 rfl (List.length_map ..) tZ_3 rfl h_u2) ?_
    refine R_q _ rfl (v_assign (ov rfl)) ?_
    refine R_nil ?_
    refine T_keep (kc 7 rfl <| kc 8 rfl <| kc 9 rfl <| kn) rfl ?_
    refine T_draw (cw := md0) (by kernel_rfl) ?_
    refine D_q0 0 _ rfl (by kernel_rfl) rfl rfl (v_move (ov rfl)) ?_
    refine D_q0 1 _ rfl (by kernel_rfl) rfl rfl (v_move (ov rfl)) ?_
    refine D_q0 2 _ rfl (by kernel_rfl) rfl rfl (v_nilCheckP (ov rfl) rfl (List.length_map ..)) ?_
    obtain ⟨u3, h_u3, h⟩ := bnd h
    obtain ⟨x, h_x, h⟩ := bnd h
    refine D_q0 3 _ rfl (by kernel_rfl) rfl rfl (v_ixP (ov rfl) (ov rfl) tR253 rfl rfl tZ_3 (slp_some h_u).1 h_u3 h_x) ?_
    refine D_q0 4 _ rfl (by kernel_rfl) rfl rfl (v_loadSR (ov rfl) rfl rfl h_x tS3 rfl) ?_
    refine D_q0 5 _ rfl (by kernel_rfl) rfl rfl (v_nilCheckP (ov rfl) rfl (List.length_map ..)) ?_
    obtain ⟨u4, h_u4, h⟩ := bnd h
    obtain ⟨x2, h_x2, h⟩ := bnd h
    refine D_q0 6 _ rfl (by kernel_rfl) rfl rfl (v_ixP (ov rfl) (ov rfl) tR253 rfl rfl tZ_3 (slp_some h_u).1 h_u4 h_x2) ?_
    refine D_one 7 _ _ rfl (by kernel_rfl) rfl rfl (fun h => by cases h) (fun h => by cases h) (w_storeR (u' := x) (ov rfl) (ov rfl) (cells_scal tS3) rfl rfl h_x2 rfl (cell1_all rfl) rfl) ?_
    refine D_done (by kernel_rfl) ?_
    refine T_keep (kc 7 rfl <| kc 8 rfl <| kn) rfl ?_
    refine T_reg ?_
    refine R_q _ rfl (v_move (ov rfl)) ?_
    refine R_q _ rfl (v_add (ov rfl) (ov rfl) rfl) ?_
    refine R_q _ rfl (v_assign (ov rfl)) ?_
    refine R_nil ?_
    exact ⟨((out2.set (i + 0).toNat x), (i64 (i + 1))), h, Ent.sel [some 0] (sr 7 rfl (ownE (Eq.symm ((List.length_set ..).trans rfl)) rfl) <| sd 8 rfl rfl <| sn) (.cons rfl (roM D3) <| .nil) rfl rfl⟩
   ·
    refine T_exit ?_
    rw [lx h] at ho1
    replace h := ho1
    exact ⟨out2, h, Ent.sel [some 0] (sr 7 rfl (.own _ rfl) <| sn) (.cons rfl (roM D3) <| .nil) rfl rfl⟩
  ·
   obtain ⟨out, rfl⟩ : ∃ x, x = j := ⟨_, rfl⟩
   replace h := t1i h
   refine t1T ?_
   refine T_seq (T_reg ?_)
   refine R_q _ rfl (v_move (ov rfl)) ?_
   refine R_q _ rfl (v_move (ov rfl)) ?_
   refine R_q _ rfl (v_lenO (ov rfl) rfl rfl tL127) ?_
   refine R_q _ rfl (v_sub (ov rfl) (ov rfl) rfl) ?_
   obtain ⟨l2, h_l2, h⟩ := bnd h
   refine R_ent (Ent.sel [none] (sr 7 rfl (frzM rfl rfl rfl D3) <| sr 40 rfl (frzM rfl rfl rfl D3) <| sr 41 rfl (frzM rfl rfl rfl D3) <| sd 42 rfl rfl <| sd 43 rfl rfl <| sn) (.row 3 <| .nil) rfl rfl) ?_
   refine R_q _ rfl (v_sliceG (ov rfl) tL127 on (oi (ov rfl)) h_l2) ?_
   refine R_q _ rfl (v_assign (ov rfl)) ?_
   refine R_nil ?_
   obtain rfl := rt (v := l2) h
   refine T_ret (retq ?_ (.one (.tmp rfl (Dat.view (.b rfl)))))
   rfl

theorem ok_panel_advancedMemo {i : api_Instrument} {m : api_Memo} {n : Int} {known : Bool} {r : api_Memo} (h : panel_advancedMemo i m n known = some r) :
  CSpec Tryz.prog gl0 131 [.agg [.int .i64 i.Kind, .str i.Name, .str i.Track, .int .i64 i.Places, .int .i64 i.Low, .int .i64 i.High, .int .i64 i.Steps, .sl 169 (List.map R169 i.Zones), .int .i64 i.Op, .int .i64 i.N, .bool i.Latch, .int .i64 i.Size], .agg [.bool m.Lit, .bool m.Some, .int .i64 m.N, .int .i64 m.Count, .sl 3 (List.map R3 m.Tape)], .int .i64 n, .bool known] (.agg [.bool r.Lit, .bool r.Some, .int .i64 r.N, .int .i64 r.Count, .sl 3 (List.map R3 r.Tape)]) := by
 unfold panel_advancedMemo at h
 replace h := bnd0 h
 refine spec_of (by kernel_rfl) Tryz.func131 rfl rfl ?_
 intro w0 A
 refine T_seq (T_reg ?_)
 refine R_q _ rfl (v_boxD (cva (ov rfl)) rfl tZ_55 rfl) ?_
 refine R_w _ _ rfl (w_box 0 rfl (ov rfl) tA129 rfl) ?_
 refine R_w _ _ rfl (w_alloc (row := [_, _, _, _, _]) 1 rfl tZ129 rfl tZ_129) ?_
 refine R_nil ?_
 refine T_keep (kc 2 rfl <| kc 3 rfl <| kc 4 rfl <| kc 5 rfl <| kc 8 rfl <| kn) rfl ?_
 refine T_seq (T_reg ?_)
 refine R_q _ rfl (v_move (ov rfl)) ?_
 refine R_q _ rfl (v_move (ov rfl)) ?_
 refine R_q _ rfl (.guarded (known == true) rfl rfl rfl rfl fun h => v_fieldR (ov rfl) tF55_0) ?_
 refine R_q _ rfl (.guarded (known == true) rfl rfl rfl rfl fun h => v_loadS_r (ow rfl h) tS3 rfl) ?_
 refine R_q _ rfl (.guarded (known == true) rfl rfl rfl rfl fun h => v_eql (ow rfl h) (ov rfl)) ?_
 refine R_q _ rfl (.guarded (known == true) rfl rfl rfl rfl fun h => v_move (ow rfl h)) ?_
 refine R_q _ rfl (.guarded2 ((known == true) && ((decide (i.Kind = 3)) == false)) rfl rfl rfl rfl fun h => v_fieldR (ov rfl) tF55_0) ?_
 refine R_q _ rfl (.guarded2 ((known == true) && ((decide (i.Kind = 3)) == false)) rfl rfl rfl rfl fun h => v_loadS_r (ow rfl h) tS3 rfl) ?_
 refine R_q _ rfl (.guarded2 ((known == true) && ((decide (i.Kind = 3)) == false)) rfl rfl rfl rfl fun h => v_eql (ow rfl h) (ov rfl)) ?_
 refine R_q _ rfl (.guarded (known == true) rfl rfl rfl rfl fun h => v_or (ow rfl h) (fun hp => ow rfl (gA h (gF hp)))) ?_
 refine R_q _ rfl (v_and (ov rfl) (fun hp => ow rfl (gT hp))) ?_
 refine R_q _ rfl (v_move (ov rfl)) ?_
 refine R_q _ rfl (.guarded ((known && ((decide (i.Kind = 3)) || (decide (i.Kind = 5)))) == true) rfl rfl rfl rfl fun h => v_fieldR (ov rfl) tF55_8) ?_
 refine R_q _ rfl (.guarded ((known && ((decide (i.Kind = 3)) || (decide (i.Kind = 5)))) == true) rfl rfl rfl rfl fun h => v_loadS_r (ow rfl h) tS3 rfl) ?_
 refine R_q _ rfl (.guarded ((known && ((decide (i.Kind = 3)) || (decide (i.Kind = 5)))) == true) rfl rfl rfl rfl fun h => v_move (ov rfl)) ?_
 refine R_q _ rfl (.guarded ((known && ((decide (i.Kind = 3)) || (decide (i.Kind = 5)))) == true) rfl rfl rfl rfl fun h => v_fieldR (ov rfl) tF55_9) ?_
 refine R_q _ rfl (.guarded ((known && ((decide (i.Kind = 3)) || (decide (i.Kind = 5)))) == true) rfl rfl rfl rfl fun h => v_loadS_r (ow rfl h) tS3 rfl) ?_
 obtain ⟨y, h_y, h⟩ := bnd h
 refine R_q _ rfl (.guarded ((known && ((decide (i.Kind = 3)) || (decide (i.Kind = 5)))) == true) rfl rfl rfl rfl fun h => v_call (ok_panel_holds (gdT h_y h)) (.cons (ow rfl h) (.b rfl) <| .cons (ow rfl h) (.b rfl) <| .cons (ow rfl h) (.b rfl) <| .nil)) ?_
 refine R_q _ rfl (v_and (ov rfl) (fun hp => ow rfl (gT hp))) ?_
 refine R_q _ rfl (v_assign (ov rfl)) ?_
 refine R_nil ?_
 refine T_joinG id (t1 fun m2 => ⟨[(5, .ptr 0 1 0 0), (8, .ptr 1 1 0 0)], [some ⟨129, [[.bool m2.Lit, .bool m2.Some, .int .i64 m2.N, .int .i64 m2.Count, .sl 3 (List.map R3 m2.Tape)]]⟩, some ⟨129, [[.bool false, .bool false, .int .i64 0, .int .i64 0, .nils]]⟩]⟩) h (fun h => ?_) (fun j h => ?_)
 ·
  refine T_block ?_
  refine T_keep (kc 2 rfl <| kc 3 rfl <| kc 4 rfl <| kc 5 rfl <| kc 8 rfl <| kc 9 rfl <| kn) rfl ?_
  refine T_seq (T_reg ?_)
  refine R_q _ rfl (v_fieldR (ov rfl) tF55_0) ?_
  refine R_q _ rfl (v_loadS_r (ov rfl) tS3 rfl) ?_
  refine R_q _ rfl (v_eql (ov rfl) (ov rfl)) ?_
  refine R_q _ rfl (v_assign (ov rfl)) ?_
  refine R_nil ?_
  refine T_keep (kc 2 rfl <| kc 3 rfl <| kc 4 rfl <| kc 5 rfl <| kc 8 rfl <| kc 9 rfl <| kc 29 rfl <| kn) rfl ?_
  refine T_if h rfl (fun b29 h => ?_) (fun b29 h => ?_)
  ·
   refine T_keep (kc 4 rfl <| kc 5 rfl <| kc 8 rfl <| kc 9 rfl <| kn) rfl ?_
   refine T_reg ?_
   refine R_q _ rfl (v_move (ov rfl)) ?_
   refine R_q _ rfl (v_move (ov rfl)) ?_
   refine R_q _ rfl (.guarded (((known && ((decide (i.Kind = 3)) || (decide (i.Kind = 5)))) && y) == false) rfl rfl rfl rfl fun h => v_fieldR (ov rfl) tF55_10) ?_
   refine R_q _ rfl (.guarded (((known && ((decide (i.Kind = 3)) || (decide (i.Kind = 5)))) && y) == false) rfl rfl rfl rfl fun h => v_loadS_r (ow rfl h) tS4 rfl) ?_
   refine R_q _ rfl (.guarded (((known && ((decide (i.Kind = 3)) || (decide (i.Kind = 5)))) && y) == false) rfl rfl rfl rfl fun h => v_move (ow rfl h)) ?_
   refine R_q _ rfl (.guarded2 ((((known && ((decide (i.Kind = 3)) || (decide (i.Kind = 5)))) && y) == false) && (i.Latch == true)) rfl rfl rfl rfl fun h => v_fieldP (ov rfl) rfl rfl tF129_0) ?_
   refine R_q _ rfl (.guarded2 ((((known && ((decide (i.Kind = 3)) || (decide (i.Kind = 5)))) && y) == false) && (i.Latch == true)) rfl rfl rfl rfl fun h => v_loadS (ow rfl h) rfl rfl rfl tS4 rfl) ?_
   refine R_q _ rfl (.guarded (((known && ((decide (i.Kind = 3)) || (decide (i.Kind = 5)))) && y) == false) rfl rfl rfl rfl fun h => v_and (ow rfl h) (fun hp => ow rfl (gA h (gT hp)))) ?_
   refine R_q _ rfl (v_or (ov rfl) (fun hp => ow rfl (gF hp))) ?_
   refine R_q _ rfl (v_fieldP (ov rfl) rfl rfl tF129_0) ?_
   refine R_w _ _ rfl (w_store (ov rfl) (ov rfl) (cells_scal tS4) rfl rfl rfl (Nat.le_of_ble_eq_true rfl) (cell1_all rfl) rfl) ?_
   refine R_nil ?_
   exact ⟨(api_Memo.mk (((known && ((decide (i.Kind = 3)) || (decide (i.Kind = 5)))) && y) || (i.Latch && m.Lit)) m.Some m.N m.Count m.Tape), h, Ent.sel [some 0, some 1] (sr 5 rfl (.ptr _ _ _ rfl) <| sr 8 rfl (.ptr _ _ _ rfl) <| sn) (.cons rfl (ro1 (by exact tZ_129.symm) (rld rfl)) <| .cons rfl (ro1 (by exact tZ_129.symm) (rld rfl)) <| .nil) rfl rfl⟩
  ·
   refine T_keep (kc 2 rfl <| kc 3 rfl <| kc 4 rfl <| kc 5 rfl <| kc 8 rfl <| kc 9 rfl <| kn) rfl ?_
   refine T_seq (T_reg ?_)
   refine R_q _ rfl (v_fieldR (ov rfl) tF55_0) ?_
   refine R_q _ rfl (v_loadS_r (ov rfl) tS3 rfl) ?_
   refine R_q _ rfl (v_eql (ov rfl) (ov rfl)) ?_
   refine R_q _ rfl (v_assign (ov rfl)) ?_
   refine R_nil ?_
   refine T_keep (kc 2 rfl <| kc 3 rfl <| kc 4 rfl <| kc 5 rfl <| kc 8 rfl <| kc 9 rfl <| kc 43 rfl <| kn) rfl ?_
   refine T_if h rfl (fun b43 h => ?_) (fun b43 h => ?_)
   ·
    refine T_seq ?_
    refine T_keep (kc 5 rfl <| kc 8 rfl <| kc 9 rfl <| kn) rfl ?_
    refine T_seq (T_reg ?_)
    refine R_q _ rfl (v_move (ov rfl)) ?_
    refine R_q _ rfl (v_move (ov rfl)) ?_
    refine R_q _ rfl (.guarded (((known && ((decide (i.Kind = 3)) || (decide (i.Kind = 5)))) && y) == true) rfl rfl rfl rfl fun h => v_fieldP (ov rfl) rfl rfl tF129_0) ?_
    refine R_q _ rfl (.guarded (((known && ((decide (i.Kind = 3)) || (decide (i.Kind = 5)))) && y) == true) rfl rfl rfl rfl fun h => v_loadS (ow rfl h) rfl rfl rfl tS4 rfl) ?_
    refine R_q _ rfl (.guarded (((known && ((decide (i.Kind = 3)) || (decide (i.Kind = 5)))) && y) == true) rfl rfl rfl rfl fun h => v_not (ow rfl h)) ?_
    refine R_q _ rfl (v_and (ov rfl) (fun hp => ow rfl (gT hp))) ?_
    refine R_nil ?_
    refine T_keep (kc 5 rfl <| kc 8 rfl <| kc 9 rfl <| kc 52 rfl <| kn) rfl ?_
    refine T_if h rfl (fun b52 h => ?_) (fun b52 h => ?_)
    ·
     refine T_keep (kc 5 rfl <| kc 8 rfl <| kc 9 rfl <| kn) rfl ?_
     refine T_reg ?_
     refine R_q _ rfl (v_fieldP (ov rfl) rfl rfl tF129_3) ?_
     refine R_q _ rfl (v_loadS (ov rfl) rfl rfl rfl tS3 rfl) ?_
     refine R_q _ rfl (v_add (ov rfl) (ov rfl) rfl) ?_
     refine R_q _ rfl (v_fieldP (ov rfl) rfl rfl tF129_3) ?_
     refine R_w _ _ rfl (w_store (ov rfl) (ov rfl) (cells_scal tS3) rfl rfl rfl (Nat.le_of_ble_eq_true rfl) (cell1_all rfl) rfl) ?_
     refine R_nil ?_
     refine T_keep (kc 5 rfl <| kc 8 rfl <| kc 9 rfl <| kn) rfl ?_
     refine T_reg ?_
     refine R_q _ rfl (v_move (ov rfl)) ?_
     refine R_q _ rfl (v_fieldP (ov rfl) rfl rfl tF129_0) ?_
     refine R_w _ _ rfl (w_store (ov rfl) (ov rfl) (cells_scal tS4) rfl rfl rfl (Nat.le_of_ble_eq_true rfl) (cell1_all rfl) rfl) ?_
     refine R_nil ?_
     exact ⟨(api_Memo.mk ((known && ((decide (i.Kind = 3)) || (decide (i.Kind = 5)))) && y) m.Some m.N (i64 (m.Count + 1)) m.Tape), h, Ent.sel [some 0, some 1] (sr 5 rfl (.ptr _ _ _ rfl) <| sr 8 rfl (.ptr _ _ _ rfl) <| sn) (.cons rfl (ro1 (by exact tZ_129.symm) (rld rfl)) <| .cons rfl (ro1 (by exact tZ_129.symm) (rld rfl)) <| .nil) rfl rfl⟩
    ·
     refine T_skip ?_
     refine T_keep (kc 5 rfl <| kc 8 rfl <| kc 9 rfl <| kn) rfl ?_
     refine T_reg ?_
     refine R_q _ rfl (v_move (ov rfl)) ?_
     refine R_q _ rfl (v_fieldP (ov rfl) rfl rfl tF129_0) ?_
     refine R_w _ _ rfl (w_store (ov rfl) (ov rfl) (cells_scal tS4) rfl rfl rfl (Nat.le_of_ble_eq_true rfl) (cell1_all rfl) rfl) ?_
     refine R_nil ?_
     exact ⟨(api_Memo.mk ((known && ((decide (i.Kind = 3)) || (decide (i.Kind = 5)))) && y) m.Some m.N m.Count m.Tape), h, Ent.sel [some 0, some 1] (sr 5 rfl (.ptr _ _ _ rfl) <| sr 8 rfl (.ptr _ _ _ rfl) <| sn) (.cons rfl (ro1 (by exact tZ_129.symm) (rld rfl)) <| .cons rfl (ro1 (by exact tZ_129.symm) (rld rfl)) <| .nil) rfl rfl⟩
   ·
    refine T_keep (kc 2 rfl <| kc 3 rfl <| kc 4 rfl <| kc 5 rfl <| kc 8 rfl <| kn) rfl ?_
    refine T_seq (T_reg ?_)
    refine R_q _ rfl (v_fieldR (ov rfl) tF55_0) ?_
    refine R_q _ rfl (v_loadS_r (ov rfl) tS3 rfl) ?_
    refine R_q _ rfl (v_eql (ov rfl) (ov rfl)) ?_
    refine R_q _ rfl (v_move (ov rfl)) ?_
    refine R_q _ rfl (.guarded ((decide (i.Kind = 4)) == true) rfl rfl rfl rfl fun h => v_move (ov rfl)) ?_
    refine R_q _ rfl (v_and (ov rfl) (fun hp => ow rfl (gT hp))) ?_
    refine R_q _ rfl (v_assign (ov rfl)) ?_
    refine R_nil ?_
    refine T_keep (kc 2 rfl <| kc 3 rfl <| kc 4 rfl <| kc 5 rfl <| kc 8 rfl <| kc 59 rfl <| kn) rfl ?_
    refine T_if h rfl (fun b59 h => ?_) (fun b59 h => ?_)
    ·
     refine T_joinG id (t1 fun n2 => ⟨[(2, .int .i64 n2), (5, .ptr 0 1 0 0), (8, .ptr 1 1 0 0)], [some ⟨129, [[.bool m.Lit, .bool m.Some, .int .i64 m.N, .int .i64 m.Count, .sl 3 (List.map R3 m.Tape)]]⟩, some ⟨129, [[.bool false, .bool false, .int .i64 0, .int .i64 0, .nils]]⟩]⟩) h (fun h => ?_) (fun j h => ?_)
     ·
      refine T_keep (kc 2 rfl <| kc 5 rfl <| kc 8 rfl <| kn) rfl ?_
      refine T_seq (T_reg ?_)
      refine R_q _ rfl (v_fieldP (ov rfl) rfl rfl tF129_1) ?_
      refine R_q _ rfl (v_loadS (ov rfl) rfl rfl rfl tS4 rfl) ?_
      refine R_nil ?_
      refine T_keep (kc 2 rfl <| kc 5 rfl <| kc 8 rfl <| kc 67 rfl <| kn) rfl ?_
      refine T_if h rfl (fun b67 h => ?_) (fun b67 h => ?_)
      ·
       refine T_keep (kc 2 rfl <| kc 5 rfl <| kc 8 rfl <| kn) rfl ?_
       refine T_reg ?_
       refine R_q _ rfl (v_move (ov rfl)) ?_
       refine R_q _ rfl (v_fieldP (ov rfl) rfl rfl tF129_2) ?_
       refine R_q _ rfl (v_loadS (ov rfl) rfl rfl rfl tS3 rfl) ?_
       refine R_q _ rfl (v_max (ov rfl) (ov rfl) rfl) ?_
       refine R_q _ rfl (v_assign (ov rfl)) ?_
       refine R_nil ?_
       exact ⟨(max n m.N), h, Ent.sel [some 0, some 1] (sd 2 rfl rfl <| sr 5 rfl (.ptr _ _ _ rfl) <| sr 8 rfl (.ptr _ _ _ rfl) <| sn) (.cons rfl (ro1 (by exact tZ_129.symm) (rld rfl)) <| .cons rfl (ro1 (by exact tZ_129.symm) (rld rfl)) <| .nil) rfl rfl⟩
      ·
       refine T_skip ?_
       exact ⟨n, h, Ent.sel [some 0, some 1] (sd 2 rfl rfl <| sr 5 rfl (.ptr _ _ _ rfl) <| sr 8 rfl (.ptr _ _ _ rfl) <| sn) (.cons rfl (ro1 (by exact tZ_129.symm) (rld rfl)) <| .cons rfl (ro1 (by exact tZ_129.symm) (rld rfl)) <| .nil) rfl rfl⟩
     ·
      obtain ⟨n2, rfl⟩ : ∃ x, x = j := ⟨_, rfl⟩
      replace h := t1i h
      refine t1T ?_
      refine T_reg ?_
      refine R_q _ rfl (v_move (ov rfl)) ?_
      refine R_q _ rfl (v_fieldP (ov rfl) rfl rfl tF129_2) ?_
      refine R_w _ _ rfl (w_store (ov rfl) (ov rfl) (cells_scal tS3) rfl rfl rfl (Nat.le_of_ble_eq_true rfl) (cell1_all rfl) rfl) ?_
      refine R_q _ rfl (v_fieldP (ov rfl) rfl rfl tF129_1) ?_
      refine R_w _ _ rfl (w_store (ov rfl) (ov rfl) (cells_scal tS4) rfl rfl rfl (Nat.le_of_ble_eq_true rfl) (cell1_all rfl) rfl) ?_
      refine R_nil ?_
      exact ⟨(api_Memo.mk m.Lit true n2 m.Count m.Tape), h, Ent.sel [some 0, some 1] (sr 5 rfl (.ptr _ _ _ rfl) <| sr 8 rfl (.ptr _ _ _ rfl) <| sn) (.cons rfl (ro1 (by exact tZ_129.symm) (rld rfl)) <| .cons rfl (ro1 (by exact tZ_129.symm) (rld rfl)) <| .nil) rfl rfl⟩
    ·
     refine T_keep (kc 2 rfl <| kc 3 rfl <| kc 4 rfl <| kc 5 rfl <| kc 8 rfl <| kn) rfl ?_
     refine T_seq (T_reg ?_)
     refine R_q _ rfl (v_fieldR (ov rfl) tF55_0) ?_
     refine R_q _ rfl (v_loadS_r (ov rfl) tS3 rfl) ?_
     refine R_q _ rfl (v_eql (ov rfl) (ov rfl)) ?_
     refine R_q _ rfl (v_move (ov rfl)) ?_
     refine R_q _ rfl (.guarded ((decide (i.Kind = 6)) == true) rfl rfl rfl rfl fun h => v_move (ov rfl)) ?_
     refine R_q _ rfl (v_and (ov rfl) (fun hp => ow rfl (gT hp))) ?_
     refine R_q _ rfl (v_assign (ov rfl)) ?_
     refine R_nil ?_
     refine T_keep (kc 2 rfl <| kc 4 rfl <| kc 5 rfl <| kc 8 rfl <| kc 75 rfl <| kn) rfl ?_
     refine T_if h rfl (fun b75 h => ?_) (fun b75 h => ?_)
     ·
      refine T_keep (kc 2 rfl <| kc 4 rfl <| kc 5 rfl <| kc 8 rfl <| kn) rfl ?_
      refine T_reg ?_
      refine R_q _ rfl (v_fieldP (ov rfl) rfl rfl tF129_4) ?_
      refine R_q _ rfl (v_loadS (ov rfl) rfl rfl rfl tS127 rfl) ?_
      refine R_q _ rfl (v_fieldR (ov rfl) tF55_11) ?_
      refine R_q _ rfl (v_loadS_r (ov rfl) tS3 rfl) ?_
      refine R_q _ rfl (v_move (ov rfl)) ?_
      obtain ⟨y2, h_y2, h⟩ := bnd h
      refine R_q _ rfl (v_call (ok_panel_shifted h_y2) (.cons (ov rfl) (.b rfl) <| .cons (ov rfl) (.b rfl) <| .cons (ov rfl) (.b rfl) <| .nil)) ?_
      refine R_q _ rfl (v_fieldP (ov rfl) rfl rfl tF129_4) ?_
      refine R_w _ _ rfl (w_store (ov rfl) (ov rfl) (cells_scal tS127) rfl rfl rfl (Nat.le_of_ble_eq_true rfl) (cell1_all rfl) rfl) ?_
      refine R_nil ?_
      exact ⟨(api_Memo.mk m.Lit m.Some m.N m.Count y2), h, Ent.sel [some 0, some 1] (sr 5 rfl (.ptr _ _ _ rfl) <| sr 8 rfl (.ptr _ _ _ rfl) <| sn) (.cons rfl (ro1 (by exact tZ_129.symm) (rld rfl)) <| .cons rfl (ro1 (by exact tZ_129.symm) (rld rfl)) <| .nil) rfl rfl⟩
     ·
      refine T_skip ?_
      exact ⟨m, h, Ent.sel [some 0, some 1] (sr 5 rfl (.ptr _ _ _ rfl) <| sr 8 rfl (.ptr _ _ _ rfl) <| sn) (.cons rfl (ro1 (by exact tZ_129.symm) (rld rfl)) <| .cons rfl (ro1 (by exact tZ_129.symm) (rld rfl)) <| .nil) rfl rfl⟩
 ·
  obtain ⟨m2, rfl⟩ : ∃ x, x = j := ⟨_, rfl⟩
  replace h := t1i h
  refine t1T ?_
  refine T_seq (T_reg ?_)
  refine R_q _ rfl (v_loadA (ov rfl) rfl rfl rfl tA129 rfl rfl) ?_
  refine R_w _ _ rfl (w_store (ov rfl) (ov rfl) (cells_agg tA129 rfl) rfl rfl rfl (Nat.le_of_ble_eq_true rfl) (cell1_all rfl) rfl) ?_
  refine R_nil ?_
  obtain rfl := rt (v := m2) h
  refine T_ret (retq ?_ (.one (.agg rfl rfl rfl rfl tA129 rfl rfl (pwB rfl))))
  rfl
end Go.Proofs.YtafmdjdjabifjaaGreatDoor
