/- A text of the proof: a verified executor of the program form, or the contracts of the functions that the law reaches. -/
import Derived.Test.YtieneanhpdhfiaaDoorVS
import Derived.Test.YtieneanhpdhfiaaDoorShT
import Derived.Test.YtieneanhpdhfiaaDoorProg
import Derived.Test.YtieneanhpdhfiaaDoorLayS
set_option linter.all false
namespace Go.Proofs.YtieneanhpdhfiaaDoor
open Go Go.Vx
set_option maxRecDepth 10000
set_option maxHeartbeats 1000000
set_option linter.unusedVariables false
variable {Gx : GX}
theorem tZ_44 : Tryd.prog.cellsOf 44 = 3 := by kernel_rfl
instance : SzD Tryd.prog 44 3 := ⟨tZ_44⟩
theorem tZ_24 : Tryd.prog.cellsOf 24 = 2 := by kernel_rfl
instance : SzD Tryd.prog 24 2 := ⟨tZ_24⟩
theorem Qm : tAgg Tryd.prog 24 2 = true := by kernel_rfl
theorem JZ : tFld Tryd.prog 24 0 0 = true := by kernel_rfl
theorem tS3 : tScal Tryd.prog 3 = true := by kernel_rfl
theorem Z6 : tFld Tryd.prog 24 1 1 = true := by kernel_rfl
theorem XU : tScal Tryd.prog 22 = true := by kernel_rfl
theorem Xh : tSl Tryd.prog 22 44 3 24 = true := by kernel_rfl
theorem ZL : tAgg Tryd.prog 44 3 = true := by kernel_rfl
theorem XD : Q8 Tryd.prog 44 = some [.int .i64 0, .int .i64 0, .int .i64 0] := by kernel_rfl
theorem XP : tFld Tryd.prog 44 0 0 = true := by kernel_rfl
theorem XM : tFld Tryd.prog 44 1 1 = true := by kernel_rfl
theorem Xc : tFld Tryd.prog 44 2 2 = true := by kernel_rfl
theorem ZgH : Q8 Tryd.prog 37 = some [.pointer none, .slice none 0 0] := by kernel_rfl
theorem tZ_37 : Tryd.prog.cellsOf 37 = 2 := by kernel_rfl
instance : SzD Tryd.prog 37 2 := ⟨tZ_37⟩
theorem tZ_5 : Tryd.prog.cellsOf 5 = 1 := by kernel_rfl
instance : SzD Tryd.prog 5 1 := ⟨tZ_5⟩
theorem Zw : tStr Tryd.prog 9 = true := by kernel_rfl
theorem XQ : tSl Tryd.prog 35 5 1 1 = true := by kernel_rfl
theorem Zdl : tArr Tryd.prog 45 5 9 1 = true := by kernel_rfl
theorem tS9 : tScal Tryd.prog 9 = true := by kernel_rfl
theorem ZgA : Q8 Tryd.prog 45 = some [.string ⟨#[]⟩, .string ⟨#[]⟩, .string ⟨#[]⟩, .string ⟨#[]⟩, .string ⟨#[]⟩] := by kernel_rfl
theorem tZ_45 : Tryd.prog.cellsOf 45 = 5 := by kernel_rfl
instance : SzD Tryd.prog 45 5 := ⟨tZ_45⟩
theorem ZfK : tAgg Tryd.prog 45 5 = true := by kernel_rfl
theorem Zgo : tU8 Tryd.prog 5 = true := by kernel_rfl
theorem JN : Q8 Tryd.prog 24 = some [.int .i64 0, .slice none 0 0] := by kernel_rfl
theorem Zae : JB Tryd.prog 24 = some [(0, 1), (1, 1)] := by kernel_rfl
theorem Zax : Zbk Tryd.prog 24 = true := by kernel_rfl
theorem Zgv : tIfc Tryd.prog 39 = true := by kernel_rfl
theorem tZ_9 : Tryd.prog.cellsOf 9 = 1 := by kernel_rfl
instance : SzD Tryd.prog 9 1 := ⟨tZ_9⟩
theorem Xt : tSl Tryd.prog 58 9 1 16 = true := by kernel_rfl
theorem Jl : JB Tryd.prog 44 = some [(0, 1), (1, 1), (2, 1)] := by kernel_rfl
theorem Jq : Zbk Tryd.prog 44 = true := by kernel_rfl
theorem tI5 : tInt Tryd.prog 5 .u8 = true := by kernel_rfl
theorem tI3 : tInt Tryd.prog 3 .i64 = true := by kernel_rfl
theorem Zgu : JB Tryd.prog 65 = some [(0, 1)] := by kernel_rfl
theorem Zgt : Zbk Tryd.prog 65 = true := by kernel_rfl
theorem ZgG : Q8 Tryd.prog 65 = some [.slice none 0 0] := by kernel_rfl
theorem ZgP : tAgg Tryd.prog 65 1 = true := by kernel_rfl
theorem tZ_65 : Tryd.prog.cellsOf 65 = 1 := by kernel_rfl
instance : SzD Tryd.prog 65 1 := ⟨tZ_65⟩
theorem Zbc : tFld Tryd.prog 65 0 0 = true := by kernel_rfl
theorem Zed : tScal Tryd.prog 35 = true := by kernel_rfl
theorem tI2 : tInt Tryd.prog 2 .i64 = true := by kernel_rfl
theorem Zgq : tInt Tryd.prog 93 .u64 = true := by kernel_rfl
theorem ZgL : Q8 Tryd.prog 92 = some [.int .u8 0, .int .u8 0, .int .u8 0, .int .u8 0, .int .u8 0, .int .u8 0, .int .u8 0, .int .u8 0, .int .u8 0, .int .u8 0, .int .u8 0, .int .u8 0, .int .u8 0, .int .u8 0, .int .u8 0, .int .u8 0, .int .u8 0, .int .u8 0, .int .u8 0, .int .u8 0, .int .u8 0, .int .u8 0, .int .u8 0, .int .u8 0] := by kernel_rfl
theorem tZ_92 : Tryd.prog.cellsOf 92 = 24 := by kernel_rfl
instance : SzD Tryd.prog 92 24 := ⟨tZ_92⟩
theorem Zgj : tArr Tryd.prog 92 24 5 1 = true := by kernel_rfl
theorem Zft : tSl Tryd.prog 89 3 1 8 = true := by kernel_rfl
theorem tZ_3 : Tryd.prog.cellsOf 3 = 1 := by kernel_rfl
instance : SzD Tryd.prog 3 1 := ⟨tZ_3⟩
theorem ZfH : tInt Tryd.prog 100 .u64 = true := by kernel_rfl
theorem Zgz : Zb9 Tryd.prog 44 [.i .i64, .i .i64, .i .i64] = true := by kernel_rfl
def gl0 (Gx : GX) : Gl := ⟨5, [(0, (gv_series_markWords.toList.map fun z => Value.string ⟨z.toArray⟩).toArray), (1, Gx.ml), (2, (Go.Lib.pow10Tab.map fun z => Value.int .u64 z).toArray), (3, Gx.es), (4, Gx.er)]⟩
def R44 (x : api_Sample) : List AV := [.int .i64 x.At, .int .i64 x.N, .int .i64 x.Mark]
def R5 (x : Int) : List AV := [.int .u8 x]
def C9 (x : Str) : AV := .str x
theorem D5 (x : Int) : (R5 x).length = Tryd.prog.cellsOf 5 ∧ (R5 x).all datB = true := ⟨tZ_5.symm, rfl⟩
instance : RowD Tryd.prog 5 R5 := ⟨D5⟩
def R9 (x : Str) : List AV := [.str x]
theorem D44 (x : api_Sample) : (R44 x).length = Tryd.prog.cellsOf 44 ∧ (R44 x).all datB = true := ⟨tZ_44.symm, rfl⟩
instance : RowD Tryd.prog 44 R44 := ⟨D44⟩
theorem D9 (x : Str) : (R9 x).length = Tryd.prog.cellsOf 9 ∧ (R9 x).all datB = true := ⟨tZ_9.symm, rfl⟩
instance : RowD Tryd.prog 9 R9 := ⟨D9⟩
def C5 (x : Int) : AV := .int .u8 x
def R3 (x : Int) : List AV := [.int .i64 x]
theorem Z0 {n : Int} {low : Int} {high : Int} {r : Bool} (h : ZO n low high = some r) :
 CSpec Tryd.prog (gl0 Gx) 39 [.int .i64 n, .int .i64 low, .int .i64 high] (.bool r) := by
 unfold ZO at h
 replace h := Qa h
 refine So Tryd.func39 Y fun w0 A=>Tr<|Ra Y<|Za<|Tr<|Rm Y<|Rm Y<|R2 Zbs Y<|Rm Y<|Rq Y (.guarded ((decide (low ≤ n)) == true) Y Y Y Y fun h => Zk<|ov Y)<|Rq Y (.guarded ((decide (low ≤ n)) == true) Y Y Y Y fun h => Zk<|ov Y)<|Rq Y (.guarded ((decide (low ≤ n)) == true) Y Y Y Y fun h => Zb1 (ow Y h)<|ow Y h)<|Rq Y (Xa (ov Y) fun hp=>ow Y<|gT hp)<|Ra Y<|Za<|?_
 obtain rfl := rt h
 exact Zl (Zt Y (.one<|rb Y))
theorem Jm {s : api_Series} {r : Int × Int} (h : QJ s = some r) :
 CSpec Tryd.prog (gl0 Gx) 20 [.agg [.int .i64 s.Den, .sl 44 (List.map R44 s.Samples)]] (.tuple [.int .i64 r.1, .int .i64 r.2]) := by
 unfold QJ at h
 replace h := Qa h
 refine So Tryd.func20 Y fun w0 A=>Tr<|Rq Y (QB (cva<|ov Y) Y tZ_24 Y)<|Ra Y<|Ra Y<|Za<|Zq<|K1 1 Y<|Tr<|Rq Y (Zm (ov Y) JZ)<|Rq Y (Zb (ov Y) tS3 Y)<|bE h fun y h_y h=>Rq Y (Zg (Z0 h_y)<|.cons (ov Y) (.b Y)<|.cons (ov Y) (.b Y)<|.cons (ov Y) (.b Y) .nil)<|R1 XW Y<|Za<|K2 1 9 Y<|If h Y (fun h=>?_) fun h=>?_
 ·
  refine K0<|Tr<|Ra Y<|Ra Y<|Za<|?_
  obtain rfl := rt h
  exact Zl (Zt Y (.two (rb Y)<|rb Y))
 ·
  refine Zi<|Zq<|K1 1 Y<|Tr<|Rq Y (Zm (ov Y) Z6)<|Rq Y (Zb (ov Y) XU Y)<|Rl tZ_44 Xh Y<|R2 Jx Y<|Za<|K2 1 13 Y<|If h Y (fun h=>?_) fun h=>?_
  ·
   refine K0<|Tr<|Ra Y<|Ra Y<|Za<|?_
   obtain rfl := rt h
   exact Zl (Zt Y (.two (rb Y)<|rb Y))
  ·
   refine Zi<|J0 (fun j => (.inr j)) ⟨[], []⟩ h (fun h=>?_) fun h=>?_
   ·
    refine K1 1 Y<|Tr<|Rq Y (Zm (ov Y) Z6)<|Rq Y (Zb (ov Y) XU Y)<|Rl tZ_44 Xh Y<|Rm Y<|Za<|Zv<|?_
    obtain ⟨r1, hl1, ho1⟩ := Zai h
    refine L1 (fun i=>⟨[(1, .rp [.int .i64 s.Den, .sl 44 (List.map R44 s.Samples)] 0), (15, .sl 44 (List.map R44 s.Samples)), (16, .int .i64 (s.Samples.length : Int)), (17, .int .i64 i)], []⟩) hl1 (ES []) fun n1 i h=>?_
    unfold Qt at h
    refine Tr<|R2 Qn Y<|Za<|Zq<|If h Y (fun h=>?_) fun h=>?_
    ·
     refine Zi<|Zq<|Zv<|K4 1 15 16 17 Y<|Tr<|Rm Y<|bE h fun x h_x h=>Rq Y (ZV (ov Y) (ov Y) Xh h_x)<|Rq Y (Zu (ov Y) ZL Y Y)<|Rx Y (ZN (row := [_, _, _]) 0 Y XD Y tZ_44)<|Ra Y<|Rx Y (Zo (ov Y) (ov Y) (Zj ZL Y) Y Y Y (Nat.le_of_ble_eq_true Y) (Zd Y) Y)<|Za<|Zv<|K6 1 4 5 15 16 17 Y<|Tr<|Rq Y (Zs (ov Y) Y Y XP)<|Rq Y (ZM (ov Y) Y Y Y tS3 Y)<|bE h fun y2 h_y2 h=>Rq Y (Zg (Z0 h_y2)<|.cons (ov Y) (.b Y)<|.cons (ov Y) (.b Y)<|.cons (ov Y) (.b Y) .nil)<|R1 XW Y<|Rm Y<|Rq Y (.guarded ((!y2) == false) Y Y Y Y fun h => Zs (ov Y) Y Y XM)<|Rq Y (.guarded ((!y2) == false) Y Y Y Y fun h => ZM (ow Y h) Y Y Y tS3 Y)<|bE h fun y3 h_y3 h=>Rq Y (.guarded ((!y2) == false) Y Y Y Y fun h => Zg (Z0<|gdT h_y3 h)<|.cons (ow Y h) (.b Y)<|.cons (ov Y) (.b Y)<|.cons (ov Y) (.b Y) .nil)<|Rq Y (.guarded ((!y2) == false) Y Y Y Y fun h => XW<|ow Y h)<|Rq Y (X3 (ov Y) fun hp=>ow Y<|gF hp)<|Rm Y<|Rq Y (.guarded (((!y2) || (!y3)) == false) Y Y Y Y fun h => Zs (ov Y) Y Y Xc)<|Rq Y (.guarded (((!y2) || (!y3)) == false) Y Y Y Y fun h => ZM (ow Y h) Y Y Y tS3 Y)<|bE h fun y4 h_y4 h=>Rq Y (.guarded (((!y2) || (!y3)) == false) Y Y Y Y fun h => Zg (Z0<|gdT h_y4 h)<|.cons (ow Y h) (.b Y)<|.cons (ov Y) (.b Y)<|.cons (ov Y) (.b Y) .nil)<|Rq Y (.guarded (((!y2) || (!y3)) == false) Y Y Y Y fun h => XW<|ow Y h)<|Rq Y (X3 (ov Y) fun hp=>ow Y<|gF hp)<|Ra Y<|Za<|K7 1 4 5 15 16 17 22 Y<|If h Y (fun h=>?_) fun h=>?_
     ·
      refine K1 4 Y<|Tr<|Rm Y<|Ra Y<|Ra Y<|Za<|?_
      replace h := lx h ▸ ho1
      obtain rfl := rt h
      exact Zl (Zt Y (.two (rb Y)<|rb Y))
     ·
      refine K6 1 4 5 15 16 17 Y<|Tr<|Rq Y (Zs (ov Y) Y Y XM)<|Rq Y (ZM (ov Y) Y Y Y tS3 Y)<|R2 X6 Y<|Rm Y<|Rq Y (.guarded ((!decide (x.N = 0)) == true) Y Y Y Y fun h => Zs (ov Y) Y Y Xc)<|Rq Y (.guarded ((!decide (x.N = 0)) == true) Y Y Y Y fun h => ZM (ow Y h) Y Y Y tS3 Y)<|Rq Y (.guarded ((!decide (x.N = 0)) == true) Y Y Y Y fun h => Zb1 (ow Y h)<|ov Y)<|Rq Y (Xa (ov Y) fun hp=>ow Y<|gT hp)<|Ra Y<|Za<|K7 1 4 5 15 16 17 40 Y<|If h Y (fun h=>?_) fun h=>?_
      ·
       refine K1 4 Y<|Tr<|Rm Y<|Ra Y<|Ra Y<|Za<|?_
       replace h := lx h ▸ ho1
       obtain rfl := rt h
       exact Zl (Zt Y (.two (rb Y)<|rb Y))
      ·
       refine K6 1 4 5 15 16 17 Y<|Td md0<|D1 0 Zk Y<|D2 1 Jx Y<|D1 2 Zk Y<|Dq 3 Y (.guarded ((decide (0 < i)) == true) Y Y Y Y fun h => Zs (ov Y) Y Y XP)<|Dq 4 Y (.guarded ((decide (0 < i)) == true) Y Y Y Y fun h => ZM (ow Y h) Y Y Y tS3 Y)<|Dq 5 Y (.guarded ((decide (0 < i)) == true) Y Y Y Y fun h => Zm (ov Y) Z6)<|Dq 6 Y (.guarded ((decide (0 < i)) == true) Y Y Y Y fun h => Zb (ow Y h) XU Y)<|Dq 7 Y (.guarded ((decide (0 < i)) == true) Y Y Y Y fun h => Zk<|ov Y)<|Dq 8 Y (.guarded ((decide (0 < i)) == true) Y Y Y Y fun h => ZdH (ow Y h) (ov Y) Y)<|bE h fun x2 h_x2 h=>Dq 9 Y (.guarded ((decide (0 < i)) == true) Y Y Y Y fun h => ZV (ow Y h) (ow Y h) Xh<|gdT h_x2 h)<|Dq 10 Y (.guarded ((decide (0 < i)) == true) Y Y Y Y fun h => Zm (ow Y h) XP)<|Dq 11 Y (.guarded ((decide (0 < i)) == true) Y Y Y Y fun h => Zb (ow Y h) tS3 Y)<|Dq 12 Y (.guarded ((decide (0 < i)) == true) Y Y Y Y fun h => Zb1 (ow Y h)<|ow Y h)<|Dq 13 Y (Xa (ov Y) fun hp=>ow Y<|gT hp)<|D1 14 Zbr Y<|Dd<|K6 1 4 15 16 17 50 Y<|If h Y (fun h=>?_) fun h=>?_
       ·
        refine K1 4 Y<|Tr<|Rm Y<|Ra Y<|Ra Y<|Za<|?_
        replace h := lx h ▸ ho1
        obtain rfl := rt h
        exact Zl (Zt Y (.two (rb Y)<|rb Y))
       ·
        exact Zi<|K4 1 15 16 17 Y<|Zx<|R2 Xv Y<|Rm Y<|Za<|⟨_, h, ES []⟩
    ·
     refine QV<|?_
     replace h := lx h ▸ ho1
     exact ⟨(), h, ES []⟩
   ·
    replace h := elr h
    replace h := t0i h
    refine Tr<|Ra Y<|Ra Y<|Za<|?_
    obtain rfl := rt h
    exact Zl (Zt Y (.two (rb Y)<|rb Y))
theorem Jo {s : api_Series} {r : Int} (h : QL s = some r) :
 CSpec Tryd.prog (gl0 Gx) 10 [.agg [.int .i64 s.Den, .sl 44 (List.map R44 s.Samples)]] (.int .i64 r) := by
 unfold QL at h
 replace h := Qa h
 refine So Tryd.func10 Y fun w0 A=>Tr<|Rq Y (QB (cva<|ov Y) Y tZ_24 Y)<|Ra Y<|Za<|K1 1 Y<|Tr<|Rq Y (Zu (ov Y) Qm Y Y)<|bE h fun y h_y h=>Rq Y (Zg (Jm h_y)<|.cons (ov Y) (.aggB Y) .nil)<|Rm Y<|Rq Y (Zc (ov Y) Y)<|Rq Y (Zc (ov Y) Y)<|Ra Y<|Ra Y<|Za<|K1 4 Y<|Tr<|Rm Y<|Ra Y<|Za<|?_
 obtain rfl := rt h
 exact Zl (Zt Y (.one<|rb Y))
theorem QE {z : Int} {r : Str} (h : itoa z = some r) : CSpec Tryd.prog (gl0 Gx) 12 [.int .i64 z] (.str r) :=
  ZeU (g := 2) (by kernel_rfl) (by kernel_rfl) (by simp [gl0]) (fun _ h1 h2 _ ht => Any.strconv_Itoa Tryd.laysM171 _ h1 h2 _ ht) h
theorem ZZ : Zdu Tryd.prog 11 37 35 9 35 := Zfp Tryd.lays166 Tryd.Builder_Extra_166
theorem Qi : ∃ i, Tryd.prog.info? 5 = some i ∧ i.zero = some (.int .u8 0) ∧ i.size = 1 ∧ i.bytes = 1 := ZfM Tryd.Builder_Extra_166
theorem Zfa : Zgr Tryd.prog 13 37 5 := fun B b l w h hw => Any.Builder_String_any Tryd.lays169 Tryd.Builder_Extra_169 B b l w h hw
theorem Za3 {s : api_Series} {r : Str × Int} (h : Q9 s = some r) :
 CSpec Tryd.prog (gl0 Gx) 4 [.agg [.int .i64 s.Den, .sl 44 (List.map R44 s.Samples)]] (.tuple [.str r.1, .int .i64 r.2]) := by
 unfold Q9 at h
 replace h := Qa h
 refine So Tryd.func4 Y fun w0 A=>Tr<|Rq Y (QB (cva<|ov Y) Y tZ_24 Y)<|Ra Y<|Ra Y<|Za<|Zq<|K1 1 Y<|Tr<|Rq Y (Zu (ov Y) Qm Y Y)<|bE h fun y h_y h=>Rq Y (Zg (Jo h_y)<|.cons (ov Y) (.aggB Y) .nil)<|Ra Y<|Za<|K2 1 4 Y<|Tr<|Rm Y<|R2 X6 Y<|Za<|K3 1 4 11 Y<|If h Y (fun h=>?_) fun h=>?_
 ·
  refine K1 4 Y<|Tr<|Rm Y<|Ra Y<|Ra Y<|Za<|?_
  obtain rfl := rt h
  exact Zl (Zt Y (.two (rb Y)<|rb Y))
 ·
  refine Zi<|K1 1 Y<|Tr<|Rx Y (ZeN (r := 0) Y ZgH tZ_37)<|ZeA (Ent.sel [some 0, none] (sd 1 Y Y<|sr 5 Y (.ptr (r' := 0) _ _ _ Y) sn) (.cons Y (ro1 (by exact tZ_37.symm)<|rlc (.bptr (r' := 0) _ Y)<|rlc (.row (r' := 1) Y) rln)<|.row 5 .nil) Y Y)<|Za<|Tr<|Rq Y (Zm (ov Y) JZ)<|Rq Y (Zb (ov Y) tS3 Y)<|bE h fun y2 h_y2 h=>Rq Y (Zg (QE h_y2)<|.cons (ov Y) (.b Y) .nil)<|bE h fun s2 h_s2 h=>Rq Y (Qq (ov Y) (ov Y) h_s2)<|bE h fun s3 h_s3 h=>Rq Y (Qq (ov Y) (ov Y) h_s3)<|bE h fun l h_l h=>Rx Y (Ql (R := R5) ZZ (by kernel_rfl) (ov Y) (ov Y) Zw XQ Qi Y Y Y (fun _=>Y) Y Y h_l)<|Za<|I1 (fun buf=>⟨[(5, .ptr 0 1 0 0)], [some ⟨37, [[.bptr 0 1, .own 1 buf.length]]⟩, some ⟨5, List.map R5 buf⟩]⟩) h (fun h=>?_) fun buf h=>?_
  ·
   refine K2 1 5 Y<|Tr<|Rq Y (Zm (ov Y) Z6)<|Rq Y (Zb (ov Y) XU Y)<|Rl tZ_44 Xh Y<|Rm Y<|Za<|Zv<|?_
   obtain ⟨r1, hl1, ho1⟩ := Zai h
   refine L2 (fun buf2 i=>⟨[(5, .ptr 0 1 0 0), (20, .sl 44 (List.map R44 s.Samples)), (21, .int .i64 (s.Samples.length : Int)), (22, .int .i64 i)], [some ⟨37, [[.bptr 0 1, .own 1 buf2.length]]⟩, some ⟨5, List.map R5 buf2⟩]⟩) hl1 (ES [some 0, some 1] (hhp := .cons Y (ro1 (by exact tZ_37.symm)<|rlc (.bptr _ Y)<|rlc (.own _ Y) rln)<|.cons Y (roM D5) .nil)) fun n1 buf2 i h=>?_
   unfold Z7 at h
   refine Tr<|R2 Qn Y<|Za<|Zq<|If h Y (fun h=>?_) fun h=>?_
   ·
    refine Zi<|I1 (fun buf3=>⟨[(5, .ptr 0 1 0 0), (20, .sl 44 (List.map R44 s.Samples)), (21, .int .i64 (s.Samples.length : Int)), (22, .int .i64 i)], [some ⟨37, [[.bptr 0 1, .own 1 buf3.length]]⟩, some ⟨5, List.map R5 buf3⟩]⟩) h (fun h=>?_) fun buf3 h=>?_
    ·
     refine Zv<|K4 5 20 21 22 Y<|Tr<|bE h fun x h_x h=>Rq Y (ZV (ov Y) (ov Y) Xh h_x)<|Rq Y (Zu (ov Y) ZL Y Y)<|Rx Y (ZN (row := [_, _, _]) 2 Y XD Y tZ_44)<|Rx Y (Zo (ov Y) (ov Y) (Zj ZL Y) Y Y Y (Nat.le_of_ble_eq_true Y) (Zd Y) Y)<|Za<|K5 5 7 20 21 22 Y<|Td ⟨true, false, [], [28, 32, 33], []⟩<|Dq 0 Y (Zs (ov Y) Y Y XP)<|Dq 1 Y (ZM (ov Y) Y Y Y tS3 Y)<|bE h fun y3 h_y3 h=>Dw 4 2 Y (Zs (ov Y) Y Y Xc) (Zc9<|Zg (QE h_y3)<|.cons (ov Y) (.b Y) .nil) ?_ ?_
     ·
      refine Dw 5 2 Y (ZM (ov Y) Y Y Y tS3 Y) (Zc9<|Zg (QE h_y3)<|.cons (ov Y) (.b Y) .nil) ?_ ?_
      ·
       refine bE h fun x2 h_x2 h=>ZeQ 6 _ Y (by kernel_rfl) Y Y (fun hp'=>Zdk (ogS (v := gv_series_markWords) (f := C9) (by simp [gl0]) fun _=>Y) (ov Y) Zdl h_x2)<|ZeQ 7 _ Y (by kernel_rfl) Y Y (fun hp'=>Zb (ov Y) tS9<|Zdq<|Zek (o := 0) (o' := (x.Mark.toNat * 1)) (ZaJ arL)<|Zez h_x2)<|Do 2 Y (Zc9<|Zg (QE h_y3)<|.cons (ov Y) (.b Y) .nil)<|bE h fun s4 h_s4 h=>Dq 3 Y (Qq (ov Y) (ov Y) h_s4)<|bE h fun s5 h_s5 h=>Dq 8 Y (Qq (ov Y) (ov Y) h_s5)<|bE h fun l2 h_l2 h=>Do 9 Y (Ql (R := R5) ZZ (by kernel_rfl) (ov Y) (ov Y) Zw XQ Qi Y Y Y (fun _=>Y) Y Y h_l2)<|Dd<|Zq<|K5 5 7 20 21 22 Y<|Tr<|Rq Y (Zs (ov Y) Y Y Xc)<|Rq Y (ZM (ov Y) Y Y Y tS3 Y)<|R2 Zbs Y<|Za<|K6 5 7 20 21 22 38 Y<|If h Y (fun h=>?_) fun h=>?_
       ·
        exact K5 5 7 20 21 22 Y<|Zx<|Rq Y (Zs (ov Y) Y Y XM)<|Rq Y (ZM (ov Y) Y Y Y tS3 Y)<|bE h fun y4 h_y4 h=>Rq Y (Zg (QE h_y4)<|.cons (ov Y) (.b Y) .nil)<|bE h fun s6 h_s6 h=>Rq Y (Qq (ov Y) (ov Y) h_s6)<|bE h fun l3 h_l3 h=>Rx Y (Ql (R := R5) ZZ (by kernel_rfl) (ov Y) (ov Y) Zw XQ Qi Y Y Y (fun _=>Y) Y Y h_l3)<|Za<|K4 5 20 21 22 Y<|Zx<|bE h fun l4 h_l4 h=>Rx Y (Ql (R := R5) ZZ (by kernel_rfl) (ov Y) (ov Y) Zw XQ Qi Y Y Y (fun _=>Y) Y Y h_l4)<|Za<|⟨_, h, ES [some 0, some 1] (hhp := .cons Y (ro1 (by exact tZ_37.symm)<|rlc (.bptr _ Y)<|rlc (.own _ Y) rln)<|.cons Y (roM D5) .nil)⟩
       ·
        exact Zi<|K4 5 20 21 22 Y<|Zx<|bE h fun l5 h_l5 h=>Rx Y (Ql (R := R5) ZZ (by kernel_rfl) (ov Y) (ov Y) Zw XQ Qi Y Y Y (fun _=>Y) Y Y h_l5)<|Za<|⟨_, h, ES [some 0, some 1] (hhp := .cons Y (ro1 (by exact tZ_37.symm)<|rlc (.bptr _ Y)<|rlc (.own _ Y) rln)<|.cons Y (roM D5) .nil)⟩
      ·
       refine Dq 5 Y (ZM (ov Y) Y Y Y tS3 Y)<|bE h fun x2 h_x2 h=>Dq 6 Y (Zdk (ogS (v := gv_series_markWords) (f := C9) (by simp [gl0]) fun _=>Y) (ov Y) Zdl h_x2)<|bE h fun s4 h_s4 h=>Dq 3 Y (Qq (ov Y) (ov Y) h_s4)<|Dq 7 Y (Zb (ov Y) tS9<|Zdq<|Zek (o := 0) (o' := (x.Mark.toNat * 1)) (ZaJ arL)<|Zez h_x2)<|bE h fun s5 h_s5 h=>Dq 8 Y (Qq (ov Y) (ov Y) h_s5)<|bE h fun l2 h_l2 h=>Do 9 Y (Ql (R := R5) ZZ (by kernel_rfl) (ov Y) (ov Y) Zw XQ Qi Y Y Y (fun _=>Y) Y Y h_l2)<|Dd<|Zq<|K5 5 7 20 21 22 Y<|Tr<|Rq Y (Zs (ov Y) Y Y Xc)<|Rq Y (ZM (ov Y) Y Y Y tS3 Y)<|R2 Zbs Y<|Za<|K6 5 7 20 21 22 38 Y<|If h Y (fun h=>?_) fun h=>?_
       ·
        exact K5 5 7 20 21 22 Y<|Zx<|Rq Y (Zs (ov Y) Y Y XM)<|Rq Y (ZM (ov Y) Y Y Y tS3 Y)<|bE h fun y4 h_y4 h=>Rq Y (Zg (QE h_y4)<|.cons (ov Y) (.b Y) .nil)<|bE h fun s6 h_s6 h=>Rq Y (Qq (ov Y) (ov Y) h_s6)<|bE h fun l3 h_l3 h=>Rx Y (Ql (R := R5) ZZ (by kernel_rfl) (ov Y) (ov Y) Zw XQ Qi Y Y Y (fun _=>Y) Y Y h_l3)<|Za<|K4 5 20 21 22 Y<|Zx<|bE h fun l4 h_l4 h=>Rx Y (Ql (R := R5) ZZ (by kernel_rfl) (ov Y) (ov Y) Zw XQ Qi Y Y Y (fun _=>Y) Y Y h_l4)<|Za<|⟨_, h, ES [some 0, some 1] (hhp := .cons Y (ro1 (by exact tZ_37.symm)<|rlc (.bptr _ Y)<|rlc (.own _ Y) rln)<|.cons Y (roM D5) .nil)⟩
       ·
        exact Zi<|K4 5 20 21 22 Y<|Zx<|bE h fun l5 h_l5 h=>Rx Y (Ql (R := R5) ZZ (by kernel_rfl) (ov Y) (ov Y) Zw XQ Qi Y Y Y (fun _=>Y) Y Y h_l5)<|Za<|⟨_, h, ES [some 0, some 1] (hhp := .cons Y (ro1 (by exact tZ_37.symm)<|rlc (.bptr _ Y)<|rlc (.own _ Y) rln)<|.cons Y (roM D5) .nil)⟩
     ·
      refine Dq 4 Y (Zs (ov Y) Y Y Xc)<|Dq 5 Y (ZM (ov Y) Y Y Y tS3 Y)<|bE h fun x2 h_x2 h=>Dq 6 Y (Zdk (ogS (v := gv_series_markWords) (f := C9) (by simp [gl0]) fun _=>Y) (ov Y) Zdl h_x2)<|bE h fun s4 h_s4 h=>Dq 3 Y (Qq (ov Y) (ov Y) h_s4)<|Dq 7 Y (Zb (ov Y) tS9<|Zdq<|Zek (o := 0) (o' := (x.Mark.toNat * 1)) (ZaJ arL)<|Zez h_x2)<|bE h fun s5 h_s5 h=>Dq 8 Y (Qq (ov Y) (ov Y) h_s5)<|bE h fun l2 h_l2 h=>Do 9 Y (Ql (R := R5) ZZ (by kernel_rfl) (ov Y) (ov Y) Zw XQ Qi Y Y Y (fun _=>Y) Y Y h_l2)<|Dd<|Zq<|K5 5 7 20 21 22 Y<|Tr<|Rq Y (Zs (ov Y) Y Y Xc)<|Rq Y (ZM (ov Y) Y Y Y tS3 Y)<|R2 Zbs Y<|Za<|K6 5 7 20 21 22 38 Y<|If h Y (fun h=>?_) fun h=>?_
      ·
       exact K5 5 7 20 21 22 Y<|Zx<|Rq Y (Zs (ov Y) Y Y XM)<|Rq Y (ZM (ov Y) Y Y Y tS3 Y)<|bE h fun y4 h_y4 h=>Rq Y (Zg (QE h_y4)<|.cons (ov Y) (.b Y) .nil)<|bE h fun s6 h_s6 h=>Rq Y (Qq (ov Y) (ov Y) h_s6)<|bE h fun l3 h_l3 h=>Rx Y (Ql (R := R5) ZZ (by kernel_rfl) (ov Y) (ov Y) Zw XQ Qi Y Y Y (fun _=>Y) Y Y h_l3)<|Za<|K4 5 20 21 22 Y<|Zx<|bE h fun l4 h_l4 h=>Rx Y (Ql (R := R5) ZZ (by kernel_rfl) (ov Y) (ov Y) Zw XQ Qi Y Y Y (fun _=>Y) Y Y h_l4)<|Za<|⟨_, h, ES [some 0, some 1] (hhp := .cons Y (ro1 (by exact tZ_37.symm)<|rlc (.bptr _ Y)<|rlc (.own _ Y) rln)<|.cons Y (roM D5) .nil)⟩
      ·
       exact Zi<|K4 5 20 21 22 Y<|Zx<|bE h fun l5 h_l5 h=>Rx Y (Ql (R := R5) ZZ (by kernel_rfl) (ov Y) (ov Y) Zw XQ Qi Y Y Y (fun _=>Y) Y Y h_l5)<|Za<|⟨_, h, ES [some 0, some 1] (hhp := .cons Y (ro1 (by exact tZ_37.symm)<|rlc (.bptr _ Y)<|rlc (.own _ Y) rln)<|.cons Y (roM D5) .nil)⟩
    ·
     exact Zx<|R2 Xv Y<|Rm Y<|Za<|⟨_, h, ES [some 0, some 1] (hhp := .cons Y (ro1 (by exact tZ_37.symm)<|rlc (.bptr _ Y)<|rlc (.own _ Y) rln)<|.cons Y (roM D5) .nil)⟩
   ·
    refine QV<|?_
    replace h := lx h ▸ ho1
    exact ⟨_, h, ES [some 0, some 1] (hhp := .cons Y (ro1 (by exact tZ_37.symm)<|rlc (.bptr _ Y)<|rlc (.own _ Y) rln)<|.cons Y (roM D5) .nil)⟩
  ·
   refine Tr<|bE h fun z h_z h=>Zf4 (Rw := R5) Zfa (by kernel_rfl) (ov Y) Y Y Y (fun _=>Y) tZ_5 Y Y Y Y h_z [] Y<|Ra Y<|Ra Y<|Za<|?_
   obtain rfl := rt h
   exact Zl (Zt Y (.two (rb Y)<|rb Y))
theorem QT {n : Int} {low : Int} {high : Int} {r : Bool} (h : Qc n low high = some r) :
 CSpec Tryd.prog (gl0 Gx) 40 [.int .i64 n, .int .i64 low, .int .i64 high] (.bool r) := by
 unfold Qc at h
 replace h := Qa h
 refine So Tryd.func40 Y fun w0 A=>Tr<|Ra Y<|Za<|Tr<|Rm Y<|Rm Y<|R2 Qn Y<|Rm Y<|Rq Y (.guarded ((decide (n < low)) == false) Y Y Y Y fun h => Zk<|ov Y)<|Rq Y (.guarded ((decide (n < low)) == false) Y Y Y Y fun h => Zk<|ov Y)<|Rq Y (.guarded ((decide (n < low)) == false) Y Y Y Y fun h => Jx (ow Y h)<|ow Y h)<|Rq Y (X3 (ov Y) fun hp=>ow Y<|gF hp)<|Ra Y<|Za<|?_
 obtain rfl := rt h
 exact Zl (Zt Y (.one<|rb Y))
theorem Xf {mark : Int} {r : Bool} (h : ZX mark = some r) :
 CSpec Tryd.prog (gl0 Gx) 33 [.int .i64 mark] (.bool r) := by
 unfold ZX at h
 replace h := Qa h
 refine So Tryd.func33 Y fun w0 A=>Tr<|Ra Y<|Za<|Tr<|Rm Y<|R2 Zbs Y<|Ra Y<|Za<|?_
 obtain rfl := rt h
 exact Zl (Zt Y (.one<|rb Y))
theorem JO {s : api_Sample} {r : Int} (h : Qk s = some r) :
 CSpec Tryd.prog (gl0 Gx) 41 [.agg [.int .i64 s.At, .int .i64 s.N, .int .i64 s.Mark]] (.int .i64 r) := by
 unfold Qk at h
 replace h := Qa h
 refine So Tryd.func41 Y fun w0 A=>Tr<|Rq Y (QB (cva<|ov Y) Y tZ_44 Y)<|Ra Y<|Za<|Zq<|K1 1 Y<|Tr<|Rq Y (Zm (ov Y) XP)<|Rq Y (Zb (ov Y) tS3 Y)<|bE h fun y h_y h=>Rq Y (Zg (QT h_y)<|.cons (ov Y) (.b Y)<|.cons (ov Y) (.b Y)<|.cons (ov Y) (.b Y) .nil)<|Rm Y<|Rq Y (.guarded (y == false) Y Y Y Y fun h => Zm (ov Y) XM)<|Rq Y (.guarded (y == false) Y Y Y Y fun h => Zb (ow Y h) tS3 Y)<|bE h fun y2 h_y2 h=>Rq Y (.guarded (y == false) Y Y Y Y fun h => Zg (QT<|gdT h_y2 h)<|.cons (ow Y h) (.b Y)<|.cons (ov Y) (.b Y)<|.cons (ov Y) (.b Y) .nil)<|Rq Y (X3 (ov Y) fun hp=>ow Y<|gF hp)<|Rm Y<|Rq Y (.guarded ((y || y2) == false) Y Y Y Y fun h => Zm (ov Y) Xc)<|Rq Y (.guarded ((y || y2) == false) Y Y Y Y fun h => Zb (ow Y h) tS3 Y)<|bE h fun y3 h_y3 h=>Rq Y (.guarded ((y || y2) == false) Y Y Y Y fun h => Zg (QT<|gdT h_y3 h)<|.cons (ow Y h) (.b Y)<|.cons (ov Y) (.b Y)<|.cons (ov Y) (.b Y) .nil)<|Rq Y (X3 (ov Y) fun hp=>ow Y<|gF hp)<|Za<|K2 1 15 Y<|If h Y (fun h=>?_) fun h=>?_
 ·
  refine K0<|Tr<|Ra Y<|Za<|?_
  obtain rfl := rt h
  exact Zl (Zt Y (.one<|rb Y))
 ·
  refine Zi<|Zq<|K1 1 Y<|Tr<|Rq Y (Zm (ov Y) XM)<|Rq Y (Zb (ov Y) tS3 Y)<|R2 X6 Y<|Rm Y<|Rq Y (.guarded ((!decide (s.N = 0)) == true) Y Y Y Y fun h => Zm (ov Y) Xc)<|Rq Y (.guarded ((!decide (s.N = 0)) == true) Y Y Y Y fun h => Zb (ow Y h) tS3 Y)<|bE h fun y4 h_y4 h=>Rq Y (.guarded ((!decide (s.N = 0)) == true) Y Y Y Y fun h => Zg (Xf<|gdT h_y4 h)<|.cons (ow Y h) (.b Y) .nil)<|Rq Y (.guarded ((!decide (s.N = 0)) == true) Y Y Y Y fun h => XW<|ow Y h)<|Rq Y (Xa (ov Y) fun hp=>ow Y<|gT hp)<|Za<|K1 24 Y<|If h Y (fun h=>?_) fun h=>?_
  ·
   refine K0<|Tr<|Ra Y<|Za<|?_
   obtain rfl := rt h
   exact Zl (Zt Y (.one<|rb Y))
  ·
   refine Zi<|K0<|Tr<|Ra Y<|Za<|?_
   obtain rfl := rt h
   exact Zl (Zt Y (.one<|rb Y))
theorem JX {s : api_Series} {r : Int × Int} (h : Xd s = some r) :
 CSpec Tryd.prog (gl0 Gx) 25 [.agg [.int .i64 s.Den, .sl 44 (List.map R44 s.Samples)]] (.tuple [.int .i64 r.1, .int .i64 r.2]) := by
 unfold Xd at h
 replace h := Qa h
 refine So Tryd.func25 Y fun w0 A=>Tr<|Rq Y (QB (cva<|ov Y) Y tZ_24 Y)<|Ra Y<|Ra Y<|Za<|Zq<|K1 1 Y<|Tr<|Rq Y (Zm (ov Y) JZ)<|Rq Y (Zb (ov Y) tS3 Y)<|bE h fun y h_y h=>Rq Y (Zg (QT h_y)<|.cons (ov Y) (.b Y)<|.cons (ov Y) (.b Y)<|.cons (ov Y) (.b Y) .nil)<|Za<|K2 1 8 Y<|If h Y (fun h=>?_) fun h=>?_
 ·
  refine K0<|Tr<|Ra Y<|Ra Y<|Za<|?_
  obtain rfl := rt h
  exact Zl (Zt Y (.two (rb Y)<|rb Y))
 ·
  refine Zi<|Zq<|K1 1 Y<|Tr<|Rq Y (Zm (ov Y) Z6)<|Rq Y (Zb (ov Y) XU Y)<|Rl tZ_44 Xh Y<|R2 Jx Y<|Za<|K2 1 12 Y<|If h Y (fun h=>?_) fun h=>?_
  ·
   refine K0<|Tr<|Ra Y<|Ra Y<|Za<|?_
   obtain rfl := rt h
   exact Zl (Zt Y (.two (rb Y)<|rb Y))
  ·
   refine Zi<|J0 (fun j => (.inr j)) ⟨[], []⟩ h (fun h=>?_) fun h=>?_
   ·
    refine K1 1 Y<|Tr<|Ra Y<|Za<|Zv<|?_
    obtain ⟨r1, hl1, ho1⟩ := Zai h
    refine L1 (fun i=>⟨[(1, .rp [.int .i64 s.Den, .sl 44 (List.map R44 s.Samples)] 0), (4, .int .i64 i)], []⟩) hl1 (ES []) fun n1 i h=>?_
    unfold QR at h
    refine Zq<|Tr<|Rm Y<|Rq Y (Zm (ov Y) Z6)<|Rq Y (Zb (ov Y) XU Y)<|Rl tZ_44 Xh Y<|R2 Qn Y<|Za<|K3 1 4 17 Y<|If h Y (fun h=>?_) fun h=>?_
    ·
     refine Zi<|Zq<|Zv<|Zq<|K2 1 4 Y<|Tr<|Rq Y (Zm (ov Y) Z6)<|Rq Y (Zb (ov Y) XU Y)<|Rm Y<|bE h fun x h_x h=>Rq Y (ZV (ov Y) (ov Y) Xh h_x)<|Rq Y (Zu (ov Y) ZL Y Y)<|bE h fun y2 h_y2 h=>Rq Y (Zg (JO h_y2)<|.cons (ov Y) (.aggB Y) .nil)<|Ra Y<|Za<|K3 1 4 5 Y<|Tr<|Rm Y<|R2 X6 Y<|Za<|K4 1 4 5 27 Y<|If h Y (fun h=>?_) fun h=>?_
     ·
      refine K2 4 5 Y<|Tr<|Rm Y<|Rm Y<|Ra Y<|Ra Y<|Za<|?_
      replace h := lx h ▸ ho1
      obtain rfl := rt h
      exact Zl (Zt Y (.two (rb Y)<|rb Y))
     ·
      refine Zi<|K2 1 4 Y<|Td md0<|D1 0 Zk Y<|D2 1 Jx Y<|D1 2 Zk Y<|Dq 3 Y (.guarded ((decide (0 < i)) == true) Y Y Y Y fun h => Zm (ov Y) Z6)<|Dq 4 Y (.guarded ((decide (0 < i)) == true) Y Y Y Y fun h => Zb (ow Y h) XU Y)<|Dq 5 Y (.guarded ((decide (0 < i)) == true) Y Y Y Y fun h => Zk<|ov Y)<|bE h fun x2 h_x2 h=>Dq 6 Y (.guarded ((decide (0 < i)) == true) Y Y Y Y fun h => ZV (ow Y h) (ow Y h) Xh<|gdT h_x2 h)<|Dq 7 Y (.guarded ((decide (0 < i)) == true) Y Y Y Y fun h => Zm (ow Y h) XP)<|Dq 8 Y (.guarded ((decide (0 < i)) == true) Y Y Y Y fun h => Zb (ow Y h) tS3 Y)<|Dq 9 Y (.guarded ((decide (0 < i)) == true) Y Y Y Y fun h => Zm (ov Y) Z6)<|Dq 10 Y (.guarded ((decide (0 < i)) == true) Y Y Y Y fun h => Zb (ow Y h) XU Y)<|Dq 11 Y (.guarded ((decide (0 < i)) == true) Y Y Y Y fun h => Zk<|ov Y)<|Dq 12 Y (.guarded ((decide (0 < i)) == true) Y Y Y Y fun h => ZdH (ow Y h) (ov Y) Y)<|bE h fun x3 h_x3 h=>Dq 13 Y (.guarded ((decide (0 < i)) == true) Y Y Y Y fun h => ZV (ow Y h) (ow Y h) Xh<|gdT h_x3 h)<|Dq 14 Y (.guarded ((decide (0 < i)) == true) Y Y Y Y fun h => Zm (ow Y h) XP)<|Dq 15 Y (.guarded ((decide (0 < i)) == true) Y Y Y Y fun h => Zb (ow Y h) tS3 Y)<|Dq 16 Y (.guarded ((decide (0 < i)) == true) Y Y Y Y fun h => Zb1 (ow Y h)<|ow Y h)<|Dq 17 Y (Xa (ov Y) fun hp=>ow Y<|gT hp)<|Dd<|K3 1 4 47 Y<|If h Y (fun h=>?_) fun h=>?_
      ·
       refine K1 4 Y<|Tr<|Rm Y<|Ra Y<|Ra Y<|Za<|?_
       replace h := lx h ▸ ho1
       obtain rfl := rt h
       exact Zl (Zt Y (.two (rb Y)<|rb Y))
      ·
       exact Zi<|K2 1 4 Y<|Zx<|Rm Y<|R2 Xv Y<|Ra Y<|Za<|⟨_, h, ES []⟩
    ·
     refine QV<|?_
     replace h := lx h ▸ ho1
     exact ⟨(), h, ES []⟩
   ·
    replace h := elr h
    replace h := t0i h
    refine Tr<|Ra Y<|Ra Y<|Za<|?_
    obtain rfl := rt h
    exact Zl (Zt Y (.two (rb Y)<|rb Y))
theorem ZbG {s : api_Series} {r : Int} (h : XH s = some r) :
 CSpec Tryd.prog (gl0 Gx) 14 [.agg [.int .i64 s.Den, .sl 44 (List.map R44 s.Samples)]] (.int .i64 r) := by
 unfold XH at h
 replace h := Qa h
 refine So Tryd.func14 Y fun w0 A=>Tr<|Rq Y (QB (cva<|ov Y) Y tZ_24 Y)<|Ra Y<|Za<|K1 1 Y<|Tr<|Rq Y (Zu (ov Y) Qm Y Y)<|bE h fun y h_y h=>Rq Y (Zg (JX h_y)<|.cons (ov Y) (.aggB Y) .nil)<|Rm Y<|Rq Y (Zc (ov Y) Y)<|Rq Y (Zc (ov Y) Y)<|Ra Y<|Ra Y<|Za<|K1 4 Y<|Tr<|Rm Y<|Ra Y<|Za<|?_
 obtain rfl := rt h
 exact Zl (Zt Y (.one<|rb Y))
theorem JS  {r : (Vector Str 5)} (h : QZ  = some r) :
 CSpec Tryd.prog (gl0 Gx) 32 [] (.agg (List.map C9 r.toList)) := by
 unfold QZ at h
 replace h := Qa h
 refine So Tryd.func32 Y fun w0 A=>Tr<|Rx Y (ZN (row := (List.map C9 (Vector.replicate 5 []).toList)) 0 Y ZgA Y tZ_45)<|Za<|Tr<|R_q (.agg<|List.map C9 (#v[[108, 111, 115, 116], [119, 114, 111, 110, 103], [100, 111, 117, 98, 116, 102, 117, 108], [109, 101, 110, 100, 101, 100], [103, 111, 111, 100]] : Vector Str 5).toList) Y (ZeC (ys := [_, _, _, _, _]) Zdl ZgA (.cons (cvs (ov Y)<|ZE Y)<|.cons (cvs (ov Y)<|ZE Y)<|.cons (cvs (ov Y)<|ZE Y)<|.cons (cvs (ov Y)<|ZE Y)<|.cons (cvs (ov Y)<|ZE Y) .nil) Y)<|Rx Y (Zo (ov Y) (ov Y) (Zj ZfK arL) Y Y Y (Zf2 (ZaJ arL) arL) (Zd<|arC fun _ => Y)<|Zfb<|Eq.trans arL<|Eq.symm arL)<|Za<|?_
 obtain rfl := rt h
 exact Zl (Zt Y (.one<|.agg Y Y Y Y ZfK (ZeZ<|ZaJ arL) arL (pwB<|arD fun _ => Y) (hns := (nsM fun _ => Y))))
theorem Zcj {x : api_Sample} {r : Str} (h : X9 x = some r) :
 CSpec Tryd.prog (gl0 Gx) 15 [.agg [.int .i64 x.At, .int .i64 x.N, .int .i64 x.Mark]] (.str r) := by
 unfold X9 at h
 replace h := Qa h
 refine So Tryd.func15 Y fun w0 A=>Tr<|Rq Y (QB (cva<|ov Y) Y tZ_44 Y)<|Ra Y<|Za<|K1 1 Y<|Td md0<|Dq 0 Y (Zm (ov Y) XP)<|Dq 1 Y (Zb (ov Y) tS3 Y)<|bE h fun y h_y h=>Dq 2 Y (Zg (QE h_y)<|.cons (ov Y) (.b Y) .nil)<|bE h fun s h_s h=>Dq 3 Y (Qq (ov Y) (ov Y) h_s)<|bE h fun y2 h_y2 h=>Dq 4 Y (Zg (JS h_y2) .nil)<|Dq 5 Y (Zm (ov Y) Xc)<|Dq 6 Y (Zb (ov Y) tS3 Y)<|bE h fun x2 h_x2 h=>Dq 7 Y (ZaA (ov Y) (ov Y) Zdl tS9 h_x2)<|bE h fun s2 h_s2 h=>Dq 8 Y (Qq (ov Y) (ov Y) h_s2)<|D1 9 Zbr Y<|Dd<|Zq<|K2 1 3 Y<|Tr<|Rq Y (Zm (ov Y) Xc)<|Rq Y (Zb (ov Y) tS3 Y)<|bE h fun y3 h_y3 h=>Rq Y (Zg (Xf h_y3)<|.cons (ov Y) (.b Y) .nil)<|Za<|K3 1 3 15 Y<|If h Y (fun h=>?_) fun h=>?_
 ·
  refine K2 1 3 Y<|Zx<|Rm Y<|Rq Y (Zm (ov Y) XM)<|Rq Y (Zb (ov Y) tS3 Y)<|bE h fun y4 h_y4 h=>Rq Y (Zg (QE h_y4)<|.cons (ov Y) (.b Y) .nil)<|bE h fun s3 h_s3 h=>Rq Y (Qq (ov Y) (ov Y) h_s3)<|bE h fun s4 h_s4 h=>Rq Y (Qq (ov Y) (ov Y) h_s4)<|Ra Y<|Za<|K1 3 Y<|Tr<|Rm Y<|bE h fun s5 h_s5 h=>Rq Y (Qq (ov Y) (ov Y) h_s5)<|Ra Y<|Za<|?_
  obtain rfl := rt h
  exact Zl (Zt Y (.one<|rb Y))
 ·
  refine Zi<|K1 3 Y<|Tr<|Rm Y<|bE h fun s6 h_s6 h=>Rq Y (Qq (ov Y) (ov Y) h_s6)<|Ra Y<|Za<|?_
  obtain rfl := rt h
  exact Zl (Zt Y (.one<|rb Y))
theorem ZbM {s : api_Series} {r : Str × Int} (h : XT s = some r) :
 CSpec Tryd.prog (gl0 Gx) 5 [.agg [.int .i64 s.Den, .sl 44 (List.map R44 s.Samples)]] (.tuple [.str r.1, .int .i64 r.2]) := by
 unfold XT at h
 replace h := Qa h
 refine So Tryd.func5 Y fun w0 A=>Tr<|Rq Y (QB (cva<|ov Y) Y tZ_24 Y)<|Ra Y<|Ra Y<|Za<|Zq<|K1 1 Y<|Tr<|Rq Y (Zu (ov Y) Qm Y Y)<|bE h fun y h_y h=>Rq Y (Zg (ZbG h_y)<|.cons (ov Y) (.aggB Y) .nil)<|Ra Y<|Za<|K2 1 4 Y<|Tr<|Rm Y<|R2 X6 Y<|Za<|K3 1 4 10 Y<|If h Y (fun h=>?_) fun h=>?_
 ·
  refine K1 4 Y<|Tr<|Rm Y<|Ra Y<|Ra Y<|Za<|?_
  obtain rfl := rt h
  exact Zl (Zt Y (.two (rb Y)<|rb Y))
 ·
  refine Zi<|K1 1 Y<|Tr<|Ra Y<|Za<|Tr<|Rm Y<|Rq Y (Zm (ov Y) JZ)<|Rq Y (Zb (ov Y) tS3 Y)<|bE h fun y2 h_y2 h=>Rq Y (Zg (QE h_y2)<|.cons (ov Y) (.b Y) .nil)<|bE h fun s2 h_s2 h=>Rq Y (Qq (ov Y) (ov Y) h_s2)<|bE h fun s3 h_s3 h=>Rq Y (Qq (ov Y) (ov Y) h_s3)<|bE h fun l h_l h=>ZeA (Ent.row 12 5 Y)<|Rx Y (XC (f := R5) (xs := []) (ov Y) (ov Y) Zw XQ Y Y (fun _=>Y) Y h_l)<|Ra Y<|Za<|I1 (fun out=>⟨[(5, .own 0 out.length)], [some ⟨5, List.map R5 out⟩]⟩) h (fun h=>?_) fun out h=>?_
  ·
   refine K2 1 5 Y<|Tr<|Ra Y<|Za<|Zv<|?_
   obtain ⟨r1, hl1, ho1⟩ := Zai h
   refine L2 (fun out2 i=>⟨[(1, .rp [.int .i64 s.Den, .sl 44 (List.map R44 s.Samples)] 0), (5, .own 0 out2.length), (6, .int .i64 i)], [some ⟨5, List.map R5 out2⟩]⟩) hl1 (ES [some 0]) fun n1 out2 i h=>?_
   unfold QN at h
   refine Zq<|Tr<|Rm Y<|Rq Y (Zm (ov Y) Z6)<|Rq Y (Zb (ov Y) XU Y)<|Rl tZ_44 Xh Y<|R2 Qn Y<|Za<|K4 1 5 6 23 Y<|If h Y (fun h=>?_) fun h=>?_
   ·
    exact Zi<|Zq<|Zv<|K3 1 5 6 Y<|Zx<|Rm Y<|Rq Y (Zm (ov Y) Z6)<|Rq Y (Zb (ov Y) XU Y)<|Rm Y<|bE h fun x h_x h=>Rq Y (ZV (ov Y) (ov Y) Xh h_x)<|Rq Y (Zu (ov Y) ZL Y Y)<|bE h fun y3 h_y3 h=>Rq Y (Zg (Zcj h_y3)<|.cons (ov Y) (.aggB Y) .nil)<|bE h fun l2 h_l2 h=>Rx Y (XC (f := R5) (ov Y) (ov Y) Zw XQ Y Y (fun _=>Y) Y h_l2)<|Ra Y<|Za<|K3 1 5 6 Y<|Zx<|Rm Y<|R2 Xv Y<|Ra Y<|Za<|⟨_, h, ES [some 0]⟩
   ·
    refine QV<|?_
    replace h := lx h ▸ ho1
    exact ⟨_, h, ES [some 0]⟩
  ·
   refine Tr<|Rm Y<|Rq Y (ZdR (f := R5) (ZdD (o := ⟨5, List.map R5 out⟩) (ov Y) Y (List.length_map ..) tZ_5) (fun _=>Y) XQ Zw Zgo)<|Ra Y<|Ra Y<|Za<|?_
   obtain rfl := rt h
   exact Zl (Zt Y (.two (rb Y)<|rb Y))
theorem Zfk {s sep : Str} {r : Str × Str × Bool} (h : Zd4 s sep = some r) : CSpec Tryd.prog (gl0 Gx) 16 [.str s, .str sep] (.tuple [.str r.1, .str r.2.1, .bool r.2.2]) :=
  Zfc (g := 1) (by kernel_rfl) Gx.hml (by simp [gl0]) (fun s sep m w h1 h2 => Any.strings_Cut Tryd.lays145 s sep m w h1 h2) h
theorem Z5 {s : Str} {prefix_ : Str} {r : Bool} (h : Zp s prefix_ = some r) :
 CSpec Tryd.prog (gl0 Gx) 48 [.str s, .str prefix_] (.bool r) := by
 unfold Zp at h
 replace h := Qa h
 refine So Tryd.func48 Y fun w0 A=>Tr<|Ra Y<|Za<|Tr<|Rm Y<|Rq Y (Z4 (ov Y) Zw Y)<|Rm Y<|Rq Y (Z4 (ov Y) Zw Y)<|R2 Zbs Y<|Rm Y<|Rq Y (.guarded ((decide ((prefix_.length : Int) ≤ (s.length : Int))) == true) Y Y Y Y fun h => Zk<|ov Y)<|Rq Y (.guarded ((decide ((prefix_.length : Int) ≤ (s.length : Int))) == true) Y Y Y Y fun h => Zk<|ov Y)<|Rq Y (.guarded ((decide ((prefix_.length : Int) ≤ (s.length : Int))) == true) Y Y Y Y fun h => Z4 (ow Y h) Zw Y)<|bE h fun s2 h_s2 h=>Rq Y (.guarded ((decide ((prefix_.length : Int) ≤ (s.length : Int))) == true) Y Y Y Y fun h => Qf (ow Y h) Zw on (oi<|ow Y h)<|gdT h_s2 h)<|Rq Y (.guarded ((decide ((prefix_.length : Int) ≤ (s.length : Int))) == true) Y Y Y Y fun h => Zk<|ov Y)<|Rq Y (.guarded ((decide ((prefix_.length : Int) ≤ (s.length : Int))) == true) Y Y Y Y fun h => Jw (ow Y h)<|ow Y h)<|Rq Y (Xa (ov Y) fun hp=>ow Y<|gT hp)<|Ra Y<|Za<|?_
 obtain rfl := rt h
 exact Zl (Zt Y (.one<|rb Y))
theorem Q4 {s : Str} {prefix_ : Str} {r : Str × Bool} (h : ZA s prefix_ = some r) :
 CSpec Tryd.prog (gl0 Gx) 35 [.str s, .str prefix_] (.tuple [.str r.1, .bool r.2]) := by
 unfold ZA at h
 replace h := Qa h
 refine So Tryd.func35 Y fun w0 A=>Tr<|Ra Y<|Ra Y<|Za<|Zq<|K2 0 1 Y<|Tr<|Rm Y<|Rm Y<|bE h fun y h_y h=>Rq Y (Zg (Z5 h_y)<|.cons (ov Y) (.b Y)<|.cons (ov Y) (.b Y) .nil)<|R1 XW Y<|Za<|K3 0 1 9 Y<|If h Y (fun h=>?_) fun h=>?_
 ·
  refine K1 0 Y<|Tr<|Rm Y<|Ra Y<|Ra Y<|Za<|?_
  obtain rfl := rt h
  exact Zl (Zt Y (.two (rb Y)<|rb Y))
 ·
  refine Zi<|K2 0 1 Y<|Tr<|Rm Y<|Rm Y<|Rq Y (Z4 (ov Y) Zw Y)<|bE h fun s2 h_s2 h=>Rq Y (Qf (ov Y) Zw (oi<|ov Y) on h_s2)<|Ra Y<|Ra Y<|Za<|?_
  obtain rfl := rt h
  exact Zl (Zt Y (.two (rb Y)<|rb Y))
theorem Jz {s : Str} {prefix_ : Str} {r : Str × Bool} (h : ZD s prefix_ = some r) :
 CSpec Tryd.prog (gl0 Gx) 17 [.str s, .str prefix_] (.tuple [.str r.1, .bool r.2]) := by
 unfold ZD at h
 replace h := Qa h
 refine So Tryd.func17 Y fun w0 A=>Tr<|Ra Y<|Ra Y<|Za<|Tr<|Rm Y<|Rm Y<|bE h fun y h_y h=>Rq Y (Zg (Q4 h_y)<|.cons (ov Y) (.b Y)<|.cons (ov Y) (.b Y) .nil)<|Rq Y (Zc (ov Y) Y)<|Rq Y (Zc (ov Y) Y)<|Ra Y<|Ra Y<|Za<|?_
 obtain rfl := rt h
 exact Zl (Zt Y (.two (rb Y)<|rb Y))
theorem ZeF {s : Str} {r : Int × Bool} (h : ZcC s = some r) : CSpec Tryd.prog (gl0 Gx) 36 [.str s] (.tuple [.int .i64 r.1, .ifc r.2]) :=
  Ze3 (gs := 3) (gr := 4) (by kernel_rfl) Gx.hes Gx.her (by simp [gl0]) (by simp [gl0]) (fun s h1 v h2 w => Any.strconv_Atoi_ok Tryd.laysC172 s h1 v h2 w) (fun s h1 h2 ev w h3 h4 => Any.strconv_Atoi_syntax Tryd.laysC172 s h1 h2 ev w h3 h4) (fun s h1 h2 ev w h3 h4 => Any.strconv_Atoi_range Tryd.laysC172 s h1 h2 ev w h3 h4) h
theorem QW {s : Str} {prefix_ : Str} {r : Str} (h : Zy s prefix_ = some r) :
 CSpec Tryd.prog (gl0 Gx) 51 [.str s, .str prefix_] (.str r) := by
 unfold Zy at h
 replace h := Qa h
 refine So Tryd.func51 Y fun w0 A=>Tr<|Ra Y<|Za<|Zq<|K2 0 1 Y<|Tr<|Rm Y<|Rm Y<|bE h fun y h_y h=>Rq Y (Zg (Z5 h_y)<|.cons (ov Y) (.b Y)<|.cons (ov Y) (.b Y) .nil)<|Za<|K3 0 1 7 Y<|If h Y (fun h=>?_) fun h=>?_
 ·
  refine K2 0 1 Y<|Tr<|Rm Y<|Rm Y<|Rq Y (Z4 (ov Y) Zw Y)<|bE h fun s2 h_s2 h=>Rq Y (Qf (ov Y) Zw (oi<|ov Y) on h_s2)<|Ra Y<|Za<|?_
  obtain rfl := rt h
  exact Zl (Zt Y (.one<|rb Y))
 ·
  refine Zi<|K1 0 Y<|Tr<|Rm Y<|Ra Y<|Za<|?_
  obtain rfl := rt h
  exact Zl (Zt Y (.one<|rb Y))
theorem Jr {s : Str} {prefix_ : Str} {r : Str} (h : Z3 s prefix_ = some r) :
 CSpec Tryd.prog (gl0 Gx) 37 [.str s, .str prefix_] (.str r) := by
 unfold Z3 at h
 replace h := Qa h
 refine So Tryd.func37 Y fun w0 A=>Tr<|Ra Y<|Za<|Tr<|Rm Y<|Rm Y<|bE h fun y h_y h=>Rq Y (Zg (QW h_y)<|.cons (ov Y) (.b Y)<|.cons (ov Y) (.b Y) .nil)<|Ra Y<|Za<|?_
 obtain rfl := rt h
 exact Zl (Zt Y (.one<|rb Y))
theorem QA {s : Str} {r : Int × Bool} (h : Zr s = some r) :
 CSpec Tryd.prog (gl0 Gx) 18 [.str s] (.tuple [.int .i64 r.1, .bool r.2]) := by
 unfold Zr at h
 replace h := Qa h
 refine So Tryd.func18 Y fun w0 A=>Tr<|Ra Y<|Ra Y<|Za<|K1 0 Y<|Tr<|Rm Y<|bE h fun y h_y h=>Rq Y (Zg (ZeF h_y)<|.cons (ov Y) (.b Y) .nil)<|Rm Y<|Rq Y (Zc (ov Y) Y)<|Rq Y (Zc (ov Y) Y)<|Ra Y<|Ra Y<|Za<|K3 0 4 5 Y<|Tr<|Rm Y<|Rm Y<|Rq Y (ZfS Zgv<|ov Y)<|Rm Y<|Rq Y (.guarded ((!y.2) == true) Y Y Y Y fun h => Zk<|ov Y)<|bE h fun y2 h_y2 h=>Rq Y (.guarded ((!y.2) == true) Y Y Y Y fun h => Zg (Jr<|gdT h_y2 h)<|.cons (ow Y h) (.b Y)<|.cons (ov Y) (.b Y) .nil)<|Rq Y (.guarded ((!y.2) == true) Y Y Y Y fun h => Z4 (ow Y h) Zw Y)<|Rq Y (.guarded ((!y.2) == true) Y Y Y Y fun h => Zb1 (ow Y h)<|ov Y)<|Rq Y (Xa (ov Y) fun hp=>ow Y<|gT hp)<|Rm Y<|Rq Y (.guarded (((!y.2) && (decide ((y2.length : Int) ≤ 18))) == true) Y Y Y Y fun h => Zk<|ov Y)<|bE h fun y3 h_y3 h=>Rq Y (.guarded (((!y.2) && (decide ((y2.length : Int) ≤ 18))) == true) Y Y Y Y fun h => Zg (QE<|gdT h_y3 h)<|.cons (ow Y h) (.b Y) .nil)<|Rq Y (.guarded (((!y.2) && (decide ((y2.length : Int) ≤ 18))) == true) Y Y Y Y fun h => Zk<|ov Y)<|Rq Y (.guarded (((!y.2) && (decide ((y2.length : Int) ≤ 18))) == true) Y Y Y Y fun h => Jw (ow Y h)<|ow Y h)<|Rq Y (Xa (ov Y) fun hp=>ow Y<|gT hp)<|Ra Y<|Ra Y<|Za<|?_
 obtain rfl := rt h
 exact Zl (Zt Y (.two (rb Y)<|rb Y))
theorem Zd0 {s sep : Str} {r : List Str} (h : ZaE s sep = some r) : CSpec Tryd.prog (gl0 Gx) 38 [.str s, .str sep] (.sl 9 (r.map R9)) :=
  ZdU (g := 1) (by kernel_rfl) (by kernel_rfl) Gx.hml (by simp [gl0]) (fun s sep m w h1 h2 h3 => Any.strings_Split { Tryd.laysM146 with } Tryd.laysM146.i9 s sep m w h1 h2 h3) h
theorem Jt {line : Str} {r : api_Sample × Bool} (h : ZC line = some r) :
 CSpec Tryd.prog (gl0 Gx) 19 [.str line] (.tuple [.agg [.int .i64 r.1.At, .int .i64 r.1.N, .int .i64 r.1.Mark], .bool r.2]) := by
 unfold ZC at h
 replace h := Qa h
 refine So Tryd.func19 Y fun w0 A=>Tr<|Rx Y (ZN (row := [_, _, _]) 0 Y XD Y tZ_44)<|Ra Y<|Za<|K2 0 2 Y<|Tr<|Rm Y<|bE h fun y h_y h=>Rq Y (Zg (Zd0 h_y)<|.cons (ov Y) (.b Y)<|.cons (ov Y) (.b Y) .nil)<|Ra Y<|Za<|K2 2 4 Y<|Tr<|Rm Y<|bE h fun x h_x h=>Rq Y (ZV (ov Y) (ov Y) Xt h_x)<|Rq Y (Zb (ov Y) tS9 Y)<|bE h fun y2 h_y2 h=>Rq Y (Zg (QA h_y2)<|.cons (ov Y) (.b Y) .nil)<|Rm Y<|Rq Y (Zc (ov Y) Y)<|Rq Y (Zc (ov Y) Y)<|Ra Y<|Ra Y<|Za<|Zq<|K4 2 4 5 6 Y<|Tr<|Rm Y<|R1 XW Y<|Rm Y<|Rq Y (.guarded ((!y2.2) == false) Y Y Y Y fun h => Zk<|ov Y)<|Rq Y (.guarded ((!y2.2) == false) Y Y Y Y fun h => Zeb (XZ (ow Y h) tZ_9) Xt<|Zcr _ _)<|Rq Y (.guarded ((!y2.2) == false) Y Y Y Y fun h => Qn (ow Y h)<|ov Y)<|Rq Y (X3 (ov Y) fun hp=>ow Y<|gF hp)<|Za<|K4 2 4 5 25 Y<|If h Y (fun h=>?_) fun h=>?_
 ·
  refine K1 2 Y<|Tr<|Rq Y (ZK (ys := [_, _, _]) Jl Jq XD .nil Y)<|Rx Y (Zo (ov Y) (ov Y) (Zj ZL Y) Y Y Y (Nat.le_of_ble_eq_true Y) (Zd Y) Y)<|Ra Y<|Za<|?_
  obtain rfl := rt h
  exact Zl (Zt Y (.two (.agg Y Y Y Y ZL Y Y<|pwB Y)<|rb Y))
 ·
  refine Zi<|J0 (fun j => (.inr j)) ⟨[(2, .ptr 0 1 0 0)], [some ⟨44, [[.int .i64 0, .int .i64 0, .int .i64 0]]⟩]⟩ h (fun h=>?_) fun h=>?_
  ·
   refine K3 2 4 5 Y<|Tr<|Rq Y (Zu (ogS (v := gv_series_markWords) (f := C9) (by simp [gl0]) fun _=>Y) ZfK (ZeZ<|ZaJ arL) arL)<|Rm Y<|Za<|Zv<|?_
   obtain ⟨r1, hl1, ho1⟩ := Zai h
   refine L1 (fun i=>⟨[(2, .ptr 0 1 0 0), (4, .sl 9 (List.map R9 y)), (5, .int .i64 y2.1), (27, .agg (List.map C9 gv_series_markWords.toList)), (28, .int .i64 i)], [some ⟨44, [[.int .i64 0, .int .i64 0, .int .i64 0]]⟩]⟩) hl1 (ES [some 0]) fun n1 i h=>?_
   unfold ZH at h
   refine Tr<|R2 Qn Y<|Za<|Zq<|If h Y (fun h=>?_) fun h=>?_
   ·
    refine Zi<|Zq<|Zv<|K5 2 4 5 27 28 Y<|Tr<|Rm Y<|bE h fun x2 h_x2 h=>Rq Y (ZaA (ov Y) (ov Y) Zdl tS9 h_x2)<|Ra Y<|Ra Y<|Za<|Zq<|K7 2 4 5 7 8 27 28 Y<|Tr<|Rm Y<|Rm Y<|bE h fun x3 h_x3 h=>Rq Y (ZV (ov Y) (ov Y) Xt h_x3)<|Rq Y (Zb (ov Y) tS9 Y)<|R2 Jb Y<|Za<|K7 2 4 5 7 27 28 36 Y<|If h Y (fun h=>?_) fun h=>?_
    ·
     exact QV<|K5 2 4 5 27 28 Y<|Zx<|R2 Xv Y<|Rm Y<|Za<|⟨_, h, ES [some 0]⟩
    ·
     refine Zi<|K4 2 4 5 7 Y<|Tr<|Rm Y<|Rm Y<|Rq Y (ZK (ys := [_, _, _]) Jl Jq XD (.cons (cvs (ov Y)<|ZE Y)<|.cons (cvs (ov Y)<|ZE Y) .nil) Y)<|Rx Y (ZN (row := [_, _, _]) 1 Y XD Y tZ_44)<|Rx Y (Zo (ov Y) (ov Y) (Zj ZL Y) Y Y Y (Nat.le_of_ble_eq_true Y) (Zd Y) Y)<|Za<|Zq<|K4 2 4 7 9 Y<|Tr<|Rm Y<|R2 Qn Y<|Za<|K4 2 4 9 41 Y<|If h Y (fun h=>?_) fun h=>?_
     ·
      refine K3 2 4 9 Y<|Tr<|Rq Y (Qe (ov Y) Y Y Y ZL Y Y)<|Rm Y<|Rl tZ_9 Xt Y<|R2 Xw Y<|Rx Y (Zo (ov Y) (ov Y) (Zj ZL Y) Y Y Y (Nat.le_of_ble_eq_true Y) (Zd Y) Y)<|Ra Y<|Za<|?_
      replace h := lx h ▸ ho1
      obtain rfl := rt h
      exact Zl (Zt Y (.two (.agg Y Y Y Y ZL Y Y<|pwB Y)<|rb Y))
     ·
      refine Zi<|Zq<|K3 2 4 9 Y<|Tr<|Rm Y<|Rl tZ_9 Xt Y<|R2 X6 Y<|Za<|K4 2 4 9 48 Y<|If h Y (fun h=>?_) fun h=>?_
      ·
       refine K2 2 9 Y<|Tr<|Rq Y (Qe (ov Y) Y Y Y ZL Y Y)<|Rx Y (Zo (ov Y) (ov Y) (Zj ZL Y) Y Y Y (Nat.le_of_ble_eq_true Y) (Zd Y) Y)<|Ra Y<|Za<|?_
       replace h := lx h ▸ ho1
       obtain rfl := rt h
       exact Zl (Zt Y (.two (.agg Y Y Y Y ZL Y Y<|pwB Y)<|rb Y))
      ·
       refine Zi<|K3 2 4 9 Y<|Tr<|Rm Y<|bE h fun x4 h_x4 h=>Rq Y (ZV (ov Y) (ov Y) Xt h_x4)<|Rq Y (Zb (ov Y) tS9 Y)<|bE h fun y3 h_y3 h=>Rq Y (Zg (QA h_y3)<|.cons (ov Y) (.b Y) .nil)<|Rm Y<|Rq Y (Zc (ov Y) Y)<|Rq Y (Zc (ov Y) Y)<|Rq Y (Zs (ov Y) Y Y XM)<|Rx Y (Zo (ov Y) (ov Y) (QC tS3) Y Y Y (Nat.le_of_ble_eq_true Y) (Zd Y) Y)<|Ra Y<|Za<|K3 2 6 9 Y<|Tr<|Rq Y (Qe (ov Y) Y Y Y ZL Y Y)<|Rm Y<|Rx Y (Zo (ov Y) (ov Y) (Zj ZL Y) Y Y Y (Nat.le_of_ble_eq_true Y) (Zd Y) Y)<|Ra Y<|Za<|?_
       replace h := lx h ▸ ho1
       obtain rfl := rt h
       exact Zl (Zt Y (.two (.agg Y Y Y Y ZL Y Y<|pwB Y)<|rb Y))
   ·
    refine QV<|?_
    replace h := lx h ▸ ho1
    exact ⟨(), h, ES [some 0]⟩
  ·
   replace h := elr h
   replace h := t0i h
   refine Tr<|Rq Y (ZK (ys := [_, _, _]) Jl Jq XD .nil Y)<|Rx Y (Zo (ov Y) (ov Y) (Zj ZL Y) Y Y Y (Nat.le_of_ble_eq_true Y) (Zd Y) Y)<|Ra Y<|Za<|?_
   obtain rfl := rt h
   exact Zl (Zt Y (.two (.agg Y Y Y Y ZL Y Y<|pwB Y)<|rb Y))
theorem Jp {text : Str} {r : api_Series × Int × Int} (h : Z9 text = some r) :
 CSpec Tryd.prog (gl0 Gx) 6 [.str text] (.tuple [.agg [.int .i64 r.1.Den, .sl 44 (List.map R44 r.1.Samples)], .int .i64 r.2.1, .int .i64 r.2.2]) := by
 unfold Z9 at h
 replace h := Qa h
 refine So Tryd.func6 Y fun w0 A=>Tr<|Rx Y (ZN (row := [_, _]) 0 Y JN Y tZ_24)<|Ra Y<|Ra Y<|Za<|Zq<|K2 0 2 Y<|Tr<|Rm Y<|Rq Y (Z4 (ov Y) Zw Y)<|R2 Jx Y<|Za<|K3 0 2 21 Y<|If h Y (fun h=>?_) fun h=>?_
 ·
  refine K1 2 Y<|Tr<|Rq Y (ZK (ys := [_, _]) Zae Zax JN .nil Y)<|Rx Y (Zo (ov Y) (ov Y) (Zj Qm Y) Y Y Y (Nat.le_of_ble_eq_true Y) (Zd Y) Y)<|Ra Y<|Ra Y<|Za<|?_
  obtain rfl := rt h
  exact Zl (Zt Y (.three (.agg Y Y Y Y Qm Y Y<|.cons (Dat.view<|.b Y)<|.cons (View.nils 44) .nil) (rb Y)<|rb Y))
 ·
  refine Zi<|K2 0 2 Y<|Tr<|Rx Y (ZN (row := [_, _]) 1 Y JN Y tZ_24)<|Za<|J2 (fun j => (.inr j)) (fun Den Samples=>⟨[(2, .ptr 0 1 0 0), (5, .ptr 1 1 0 0)], [some ⟨24, [[.int .i64 0, .nils]]⟩, some ⟨24, [[.int .i64 Den, .own 2 Samples.length]]⟩, some ⟨44, List.map R44 Samples⟩]⟩) h (fun h=>?_) fun Den Samples h=>?_
  ·
   refine Tr<|Ra Y<|Za<|Zv<|?_
   obtain ⟨r1, hl1, ho1⟩ := Zai h
   refine L4 (fun text2 Den2 Samples2 i=>⟨[(0, .str text2), (2, .ptr 0 1 0 0), (5, .ptr 1 1 0 0), (6, .int .i64 i)], [some ⟨24, [[.int .i64 0, .nils]]⟩, some ⟨24, [[.int .i64 Den2, .own 2 Samples2.length]]⟩, some ⟨44, List.map R44 Samples2⟩]⟩) hl1 (ES [some 0, some 1, none]) fun n1 text2 Den2 Samples2 i h=>?_
   unfold ZQ at h
   refine Zq<|Tr<|Rm Y<|R2 Jb Y<|Rm Y<|Rq Y (.guarded ((!decide (text2 = [])) == false) Y Y Y Y fun h => Zk<|ov Y)<|Rq Y (.guarded ((!decide (text2 = [])) == false) Y Y Y Y fun h => Xw (ow Y h)<|ov Y)<|Rq Y (X3 (ov Y) fun hp=>ow Y<|gF hp)<|Za<|K5 0 2 5 6 28 Y<|If h Y (fun h=>?_) fun h=>?_
   ·
    refine Zi<|Zq<|Zv<|K4 0 2 5 6 Y<|Tr<|Rm Y<|bE h fun y h_y h=>Rq Y (Zg (Zfk h_y)<|.cons (ov Y) (.b Y)<|.cons (ov Y) (.b Y) .nil)<|Rm Y<|Rq Y (Zc (ov Y) Y)<|Rq Y (Zc (ov Y) Y)<|Rq Y (Zc (ov Y) Y)<|Ra Y<|Ra Y<|Ra Y<|Za<|K6 2 5 6 7 8 9 Y<|Tr<|Rm Y<|Ra Y<|Za<|I3 (fun Den3 Samples3 ok=>⟨[(2, .ptr 0 1 0 0), (5, .ptr 1 1 0 0), (6, .int .i64 i), (8, .str y.2.1), (10, .bool ok)], [some ⟨24, [[.int .i64 0, .nils]]⟩, some ⟨24, [[.int .i64 Den3, .own 2 Samples3.length]]⟩, some ⟨44, List.map R44 Samples3⟩]⟩) h (fun h=>?_) fun Den3 Samples3 ok h=>?_
    ·
     refine K6 2 5 6 7 8 10 Y<|Tr<|Rm Y<|R2 Xw Y<|Za<|K7 2 5 6 7 8 10 39 Y<|If h Y (fun h=>?_) fun h=>?_
     ·
      exact K6 2 5 6 7 8 10 Y<|Tr<|Rm Y<|bE h fun y2 h_y2 h=>Rq Y (Zg (Jz h_y2)<|.cons (ov Y) (.b Y)<|.cons (ov Y) (.b Y) .nil)<|Rm Y<|Rq Y (Zc (ov Y) Y)<|Rq Y (Zc (ov Y) Y)<|Ra Y<|Ra Y<|Za<|K7 2 5 6 8 10 11 12 Y<|Tr<|Rm Y<|bE h fun y3 h_y3 h=>Rq Y (Zg (QA h_y3)<|.cons (ov Y) (.b Y) .nil)<|Rm Y<|Rq Y (Zc (ov Y) Y)<|Rq Y (Zc (ov Y) Y)<|Ra Y<|Ra Y<|Za<|K8 2 5 6 8 10 12 13 14 Y<|Zx<|Rm Y<|Rm Y<|Rm Y<|Rq Y (.guarded (y.2.2 == true) Y Y Y Y fun h => Zk<|ov Y)<|Rq Y (Xa (ov Y) fun hp=>ow Y<|gT hp)<|Rm Y<|Rq Y (.guarded ((y.2.2 && y2.2) == true) Y Y Y Y fun h => Zk<|ov Y)<|Rq Y (Xa (ov Y) fun hp=>ow Y<|gT hp)<|Rq Y (Zs (ov Y) Y Y JZ)<|Rx Y (Zo (ov Y) (ov Y) (QC tS3) Y Y Y (Nat.le_of_ble_eq_true Y) (Zd Y) Y)<|Ra Y<|Za<|⟨_, h, ES [some 0, some 1, some 2]⟩
     ·
      exact K6 2 5 6 7 8 10 Y<|Tr<|Rm Y<|bE h fun y4 h_y4 h=>Rq Y (Zg (Jt h_y4)<|.cons (ov Y) (.b Y) .nil)<|Rm Y<|Rq Y (Zc (ov Y) Y)<|Rq Y (Zc (ov Y) Y)<|Rx Y (ZN (row := [_, _, _]) 3 Y XD Y tZ_44)<|Rx Y (Zo (ov Y) (ov Y) (Zj ZL Y) Y Y Y (Nat.le_of_ble_eq_true Y) (Zd Y) Y)<|Ra Y<|Za<|K7 2 5 6 8 10 15 16 Y<|Zx<|Rq Y (Zs (ov Y) Y Y Z6)<|Rq Y (ZM (ov Y) Y Y Y XU Y)<|Rq Y (Qe (ov Y) Y Y Y ZL Y Y)<|R_q (.sl 44<|List.map R44 ([y4.1] : List api_Sample)) Y (Zap Xh (.cons (cva<|ov Y) Y (pwD Y) .nil) Y Y)<|bE h fun l h_l h=>Rx Y (Q1 (ov Y) (XZ (ov Y) tZ_44) Xh Y Y Y (fun _=>Zd Y) Y h_l)<|Rm Y<|Rm Y<|Rq Y (.guarded (y.2.2 == true) Y Y Y Y fun h => Zk<|ov Y)<|Rq Y (Xa (ov Y) fun hp=>ow Y<|gT hp)<|Rq Y (Zs (ov Y) Y Y Z6)<|Rx Y (Zo (ov Y) (ov Y) (QC XU) Y Y Y (Nat.le_of_ble_eq_true Y) (Zd Y) Y)<|Ra Y<|Za<|⟨_, h, ES [some 0, some 1, some 2]⟩
    ·
     refine Zq<|Tr<|Rm Y<|R1 XW Y<|Za<|K5 2 5 6 8 75 Y<|If h Y (fun h=>?_) fun h=>?_
     ·
      refine K2 2 6 Y<|Tr<|Rq Y (ZK (ys := [_, _]) Zae Zax JN .nil Y)<|Rm Y<|Rx Y (Zo (ov Y) (ov Y) (Zj Qm Y) Y Y Y (Nat.le_of_ble_eq_true Y) (Zd Y) Y)<|Ra Y<|Ra Y<|Za<|?_
      replace h := lx h ▸ ho1
      obtain rfl := rt h
      exact Zl (Zt Y (.three (.agg Y Y Y Y Qm Y Y<|.cons (Dat.view<|.b Y)<|.cons (View.nils 44) .nil) (rb Y)<|rb Y))
     ·
      exact Zi<|K4 2 5 6 8 Y<|Zx<|Rm Y<|Ra Y<|Za<|K4 0 2 5 6 Y<|Zx<|Rm Y<|R2 Xv Y<|Ra Y<|Za<|⟨_, h, ES [some 0, some 1, some 2]⟩
   ·
    refine QV<|?_
    replace h := lx h ▸ ho1
    exact ⟨_, h, ES [some 0, some 1, some 2]⟩
  ·
   replace h := elr h
   replace h := t2i h
   refine Zq<|Tr<|Rq Y (Qe (ov Y) Y Y Y Qm Y Y)<|bE h fun y5 h_y5 h=>Rq Y (Zdw (Jm h_y5) (.tuple<|by simp only [List.mem_cons, List.not_mem_nil, or_false, forall_eq_or_imp, forall_eq]; exact ⟨.int, .int⟩)<|.cons (ov Y) (View.aggL<|.cons (Dat.view<|.b Y)<|.cons (View.ownM Y Y D44) .nil) .nil)<|Rm Y<|Rq Y (Zc (ov Y) Y)<|Rq Y (Zc (ov Y) Y)<|Ra Y<|Ra Y<|Za<|K4 2 5 17 18 Y<|Tr<|Rm Y<|R2 X6 Y<|Za<|K5 2 5 17 18 85 Y<|If h Y (fun h=>?_) fun h=>?_
   ·
    refine K3 2 17 18 Y<|Tr<|Rq Y (ZK (ys := [_, _]) Zae Zax JN .nil Y)<|Rm Y<|R2 Xv Y<|Rm Y<|Rx Y (Zo (ov Y) (ov Y) (Zj Qm Y) Y Y Y (Nat.le_of_ble_eq_true Y) (Zd Y) Y)<|Ra Y<|Ra Y<|Za<|?_
    obtain rfl := rt h
    exact Zl (Zt Y (.three (.agg Y Y Y Y Qm Y Y<|.cons (Dat.view<|.b Y)<|.cons (View.nils 44) .nil) (rb Y)<|rb Y))
   ·
    refine Zi<|K2 2 5 Y<|Tr<|Rq Y (Qe (ov Y) Y Y Y Qm Y Y)<|Rx Y (Zo (ov Y) (ov Y) (Zj Qm Y) Y Y Y (Nat.le_of_ble_eq_true Y) (Zd Y) Y)<|Ra Y<|Ra Y<|Za<|?_
    obtain rfl := rt h
    exact Zl (Zt Y (.three (.agg Y Y Y Y Qm Y Y<|.cons (Dat.view<|.b Y)<|.cons (View.ownM Y Y D44) .nil) (rb Y)<|rb Y))
theorem ZbN {s : Str} {r : (List Str) × Bool} (h : XS s = some r) :
 CSpec Tryd.prog (gl0 Gx) 21 [.str s] (.tuple [.sl 9 (List.map R9 r.1), .bool r.2]) := by
 unfold XS at h
 replace h := Qa h
 refine So Tryd.func21 Y fun w0 A=>Tr<|Ra Y<|Ra Y<|Za<|K1 0 Y<|Tr<|Ra Y<|Za<|Tr<|Ra Y<|Za<|I2 (fun out from_=>⟨[(0, .str s), (4, .own 0 out.length), (5, .int .i64 from_)], [some ⟨9, List.map R9 out⟩]⟩) h (fun h=>?_) fun out from_ h=>?_
 ·
  refine Tr<|Ra Y<|Za<|Zv<|?_
  obtain ⟨r1, hl1, ho1⟩ := Zai h
  refine L3 (fun out2 from_2 i=>⟨[(0, .str s), (4, .own 0 out2.length), (5, .int .i64 from_2), (6, .int .i64 i)], [some ⟨9, List.map R9 out2⟩]⟩) hl1 (ES [none]) fun n1 out2 from_2 i h=>?_
  unfold Xk at h
  refine Zq<|Tr<|Rm Y<|Rm Y<|Rq Y (Z4 (ov Y) Zw Y)<|R2 Qn Y<|Za<|K5 0 4 5 6 10 Y<|If h Y (fun h=>?_) fun h=>?_
  ·
   refine Zi<|Zq<|Zv<|K4 0 4 5 6 Y<|Tr<|Rm Y<|Rm Y<|bE h fun b h_b h=>Rq Y (XF (ov Y) (ov Y) Zw h_b)<|R2 Xw Y<|Za<|K5 0 4 5 6 16 Y<|If h Y (fun h=>?_) fun h=>?_
   ·
    exact K4 0 4 5 6 Y<|Tr<|Rm Y<|Rm Y<|Rm Y<|Rm Y<|bE h fun s2 h_s2 h=>Rq Y (Qf (ov Y) Zw (oi<|ov Y) (oi<|ov Y) h_s2)<|R_q (.sl 9<|List.map R9 ([s2] : List Str)) Y (Zap Xt (.cons (cvs (ov Y)<|ZE Y) Y (.cons (.b Y) .nil) .nil) Y Y)<|bE h fun l h_l h=>Rx Y (Q1 (ov Y) (XZ (ov Y) tZ_9) Xt Y Y Y (fun _=>Zd Y) Y h_l)<|Ra Y<|Za<|K4 0 4 5 6 Y<|Zx<|Rm Y<|R2 Xv Y<|Ra Y<|Za<|K4 0 4 5 6 Y<|Zx<|Rm Y<|R2 Xv Y<|Ra Y<|Za<|⟨_, h, ES [some 0]⟩
   ·
    exact Zi<|K4 0 4 5 6 Y<|Zx<|Rm Y<|R2 Xv Y<|Ra Y<|Za<|⟨_, h, ES [some 0]⟩
  ·
   refine QV<|?_
   replace h := lx h ▸ ho1
   exact ⟨_, h, ES [some 0]⟩
 ·
  refine Zq<|Tr<|Rm Y<|Rm Y<|Rq Y (Z4 (ov Y) Zw Y)<|R2 Qn Y<|Za<|K4 0 4 5 29 Y<|If h Y (fun h=>?_) fun h=>?_
  ·
   refine K3 0 4 5 Y<|Tr<|Rm Y<|Rm Y<|Rm Y<|bE h fun s3 h_s3 h=>Rq Y (Qf (ov Y) Zw (oi<|ov Y) on h_s3)<|R_q (.sl 9<|List.map R9 ([s3] : List Str)) Y (Zap Xt (.cons (cvs (ov Y)<|ZE Y) Y (.cons (.b Y) .nil) .nil) Y Y)<|bE h fun l2 h_l2 h=>Rx Y (Q1 (ov Y) (XZ (ov Y) tZ_9) Xt Y Y Y (fun _=>Zd Y) Y h_l2)<|Ra Y<|Ra Y<|Za<|?_
   obtain rfl := rt h
   exact Zl (Zt Y (.two (.tmp Y<|View.ownM Y Y D9)<|rb Y))
  ·
   refine Zi<|K1 4 Y<|Tr<|Rm Y<|Ra Y<|Ra Y<|Za<|?_
   obtain rfl := rt h
   exact Zl (Zt Y (.two (.tmp Y<|View.ownM Y Y D9)<|rb Y))
theorem JU {s : Str} {r : (List Str)} (h : QY s = some r) :
 CSpec Tryd.prog (gl0 Gx) 22 [.str s] (.sl 9 (List.map R9 r)) := by
 unfold QY at h
 replace h := Qa h
 refine So Tryd.func22 Y fun w0 A=>Tr<|Ra Y<|Za<|K1 0 Y<|Tr<|Ra Y<|Za<|Tr<|Ra Y<|Za<|I1 (fun out=>⟨[(3, .own 0 out.length)], [some ⟨9, List.map R9 out⟩]⟩) h (fun h=>?_) fun out h=>?_
 ·
  refine Tr<|Ra Y<|Za<|Zv<|?_
  obtain ⟨r1, hl1, ho1⟩ := Zai h
  refine L3 (fun out2 from_ i=>⟨[(0, .str s), (3, .own 0 out2.length), (4, .int .i64 from_), (5, .int .i64 i)], [some ⟨9, List.map R9 out2⟩]⟩) hl1 (ES [none]) fun n1 out2 from_ i h=>?_
  unfold Xj at h
  refine Zq<|Tr<|Rm Y<|Rm Y<|Rq Y (Z4 (ov Y) Zw Y)<|R2 Zb1 Y<|Za<|K5 0 3 4 5 9 Y<|If h Y (fun h=>?_) fun h=>?_
  ·
   refine Zi<|Zq<|Zv<|K4 0 3 4 5 Y<|Tr<|Rm Y<|Rm Y<|Rq Y (Z4 (ov Y) Zw Y)<|R2 Xw Y<|Rm Y<|Rq Y (.guarded ((decide (i = (s.length : Int))) == false) Y Y Y Y fun h => Zk<|ov Y)<|Rq Y (.guarded ((decide (i = (s.length : Int))) == false) Y Y Y Y fun h => Zk<|ov Y)<|bE h fun b h_b h=>Rq Y (.guarded ((decide (i = (s.length : Int))) == false) Y Y Y Y fun h => XF (ow Y h) (ow Y h) Zw<|gdT h_b h)<|Rq Y (.guarded ((decide (i = (s.length : Int))) == false) Y Y Y Y fun h => Xw (ow Y h)<|ov Y)<|Rq Y (X3 (ov Y) fun hp=>ow Y<|gF hp)<|Za<|K5 0 3 4 5 21 Y<|If h Y (fun h=>?_) fun h=>?_
   ·
    exact K4 0 3 4 5 Y<|Tr<|Rm Y<|Rm Y<|Rm Y<|Rm Y<|bE h fun s2 h_s2 h=>Rq Y (Qf (ov Y) Zw (oi<|ov Y) (oi<|ov Y) h_s2)<|R_q (.sl 9<|List.map R9 ([s2] : List Str)) Y (Zap Xt (.cons (cvs (ov Y)<|ZE Y) Y (.cons (.b Y) .nil) .nil) Y Y)<|bE h fun l h_l h=>Rx Y (Q1 (ov Y) (XZ (ov Y) tZ_9) Xt Y Y Y (fun _=>Zd Y) Y h_l)<|Ra Y<|Za<|K4 0 3 4 5 Y<|Zx<|Rm Y<|R2 Xv Y<|Ra Y<|Za<|K4 0 3 4 5 Y<|Zx<|Rm Y<|R2 Xv Y<|Ra Y<|Za<|⟨_, h, ES [some 0]⟩
   ·
    exact Zi<|K4 0 3 4 5 Y<|Zx<|Rm Y<|R2 Xv Y<|Ra Y<|Za<|⟨_, h, ES [some 0]⟩
  ·
   refine QV<|?_
   replace h := lx h ▸ ho1
   exact ⟨_, h, ES [some 0]⟩
 ·
  refine Tr<|Rm Y<|Ra Y<|Za<|?_
  obtain rfl := rt h
  exact Zl (Zt Y (.one<|.tmp Y<|View.ownM Y Y D9))
end Go.Proofs.YtieneanhpdhfiaaDoor
