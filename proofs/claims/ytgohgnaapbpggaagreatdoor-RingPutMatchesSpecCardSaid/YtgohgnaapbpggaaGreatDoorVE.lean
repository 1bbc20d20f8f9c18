/- A text of the proof: a verified executor of the program form, or the contracts of the functions that the law reaches. -/
import Derived.Test.YtgohgnaapbpggaaGreatDoorVD
set_option linter.all false
namespace Go.Vx
open Go Go.RowKit


abbrev i64 (z : Int) : Int := IntKind.i64.wrap z
abbrev i8 (z : Int) : Int := IntKind.i8.wrap z
abbrev u64 (z : Int) : Int := IntKind.u64.wrap z
abbrev u16 (z : Int) : Int := IntKind.u16.wrap z
abbrev u8 (z : Int) : Int := IntKind.u8.wrap z
def quo (k : IntKind) (a b : Int) : Option Int := if b = 0 then none else some (k.wrap (a.tdiv b))
def rem (a b : Int) : Option Int := if b = 0 then none else some (a.tmod b)
def Q6 (k : IntKind) (a b : Int) : Int := k.wrap ((BitVec.ofInt k.bits a &&& BitVec.ofInt k.bits b).toNat : Int)
def bor (k : IntKind) (a b : Int) : Int := k.wrap ((BitVec.ofInt k.bits a ||| BitVec.ofInt k.bits b).toNat : Int)
def ZeH (k : IntKind) (a b : Int) : Int := k.wrap ((BitVec.ofInt k.bits a ^^^ BitVec.ofInt k.bits b).toNat : Int)
def shl (k : IntKind) (a n : Int) : Option Int := if n < 0 then none else some (k.wrap (a * 2 ^ min n.toNat k.bits))
def shr (k : IntKind) (a n : Int) : Option Int := if n < 0 then none else some (a.fdiv (2 ^ min n.toNat k.bits))
def Zkb (s : Str) (i : Int) : Option Int := if 0 ≤ i then (s[i.toNat]?).map fun b => (b.toNat : Int) else none
def slc {α : Type} (xs : List α) (a b : Int) : Option (List α) := if 0 ≤ a ∧ a ≤ b ∧ b ≤ xs.length then some ((xs.take b.toNat).drop a.toNat) else none
def apz {α : Type} (s : Nat) (xs ys : List α) : Option (List α) := if xs.length + ys.length ≤ 140737488355328 / s then some (xs ++ ys) else none
abbrev app {α : Type} (xs ys : List α) : Option (List α) := apz 32768 xs ys
theorem ZhY {s b n : Nat} (h : n ≤ 140737488355328 / s) (hb : b ≤ s) : n * b ≤ 140737488355328 := Nat.le_trans (Nat.mul_le_mul h hb) (Nat.div_mul_le_self ..)
theorem ZhR {s n : Nat} (h : n ≤ 140737488355328 / s) : n < 2 ^ 63 := Nat.lt_of_le_of_lt (Nat.le_trans h (Nat.div_le_self ..)) (by decide)
def mk {α : Type} (n : Int) (z : α) : Option (List α) := if 0 ≤ n ∧ n ≤ 4294967296 then some (List.replicate n.toNat z) else none

section ops
variable {c : Ctx} {ops : Array Oper} {st : St} {dst : Option Tmp} {ty : TypeId} {pos : String} {after : Array Edge}

section arith
variable {x y : Operand} {k yk : IntKind} {m n z : Int} {t u : TypeId}
theorem ZdU (h : Opv c st x (.int k m)) (h' : Opv c st y (.int k n)) (hz : quo k m n = some z) : SVal c ops st ⟨dst, .binOp .quo t x y u, ty, pos, after, none⟩ (.int k z) := by
  unfold quo at hz
  split at hz
  · cases hz
  · rename_i h0; cases hz; exact Zmf h h' h0 rfl
theorem Zaq (h : Opv c st x (.int k m)) (h' : Opv c st y (.int k n)) (hz : rem m n = some z) : SVal c ops st ⟨dst, .binOp .rem t x y u, ty, pos, after, none⟩ (.int k z) := by
  unfold rem at hz
  split at hz
  · cases hz
  · rename_i h0; cases hz; exact Zmo h h' h0 rfl
theorem Jn (h : Opv c st x (.int k m)) (h' : Opv c st y (.int k n)) : SVal c ops st ⟨dst, .binOp .and t x y u, ty, pos, after, none⟩ (.int k (Q6 k m n)) :=
  Zdh h h' (by simp [binOp, Op.intBits, Q6, pure]) (by simp) (by simp)
theorem Zeo (h : Opv c st x (.int k m)) (h' : Opv c st y (.int k n)) : SVal c ops st ⟨dst, .binOp .or t x y u, ty, pos, after, none⟩ (.int k (bor k m n)) :=
  Zdh h h' (by simp [binOp, Op.intBits, bor, pure]) (by simp) (by simp)
theorem ZiM (h : Opv c st x (.int k m)) (h' : Opv c st y (.int k n)) : SVal c ops st ⟨dst, .binOp .xor t x y u, ty, pos, after, none⟩ (.int k (ZeH k m n)) :=
  Zdh h h' (by simp [binOp, Op.intBits, ZeH, pure]) (by simp) (by simp)
theorem Zj4 {op : BinOp} (h : Opv c st x (.int k m)) (h' : Opv c st y (.int yk n)) (ho : op = .shl ∨ op = .shr)
    (hz : (Op.shift op k m yk n : Sem Value) = .pure (.int k z)) : SVal c ops st ⟨dst, .binOp op t x y u, ty, pos, after, none⟩ (.int k z) :=
  .pure rfl fun φ a w hc => by
    refine ⟨.int k z, ?_, Zp (.int _ _)⟩
    have e := h.int hc
    have e' := h'.int hc
    rcases ho with rfl | rfl
    · simp only [execOp, e, e', binOp, hz]; rfl
    · simp only [execOp, e, e', binOp, hz]; rfl
theorem ZdZ (h : Opv c st x (.int k m)) (h' : Opv c st y (.int yk n)) (hz : shl k m n = some z) : SVal c ops st ⟨dst, .binOp .shl t x y u, ty, pos, after, none⟩ (.int k z) := by
  unfold shl at hz
  split at hz
  · cases hz
  · rename_i h0; cases hz; exact Zj4 h h' (.inl rfl) (by simp [Op.shift, h0, pure])
theorem Zao (h : Opv c st x (.int k m)) (h' : Opv c st y (.int yk n)) (hz : shr k m n = some z) : SVal c ops st ⟨dst, .binOp .shr t x y u, ty, pos, after, none⟩ (.int k z) := by
  unfold shr at hz
  split at hz
  · cases hz
  · rename_i h0; cases hz; exact Zj4 h h' (.inr rfl) (by simp [Op.shift, h0, pure])
theorem Zj2 (h : Opv c st x (.int k m)) : SVal c ops st ⟨dst, .unOp .xor t x, ty, pos, after, none⟩ (.int k (ZeH k (if k.signed then -1 else k.max) m)) :=
  .pure rfl fun φ a w hc => by
    refine ⟨_, ?_, Zp (.int _ _)⟩
    simp [execOp, h.int hc, Op.unary, Op.intBits, ZeH, pure, bind, Sem.bind]
end arith

section str
variable {x y : Operand} {s s' r : Str} {t u : TypeId}
theorem Zmk {op : BinOp} {v : Value} {av : AV} (h : Opv c st x (.str s)) (h' : Opv c st y (.str s')) (hne : op ≠ .shl ∧ op ≠ .shr) (hv : (Op.stringOp op ⟨s.toArray⟩ ⟨s'.toArray⟩ : Sem Value) = .pure v)
    (hr : ∀ w M, RelD c.P w M av v) : SVal c ops st ⟨dst, .binOp op t x y u, ty, pos, after, none⟩ av :=
  .pure rfl fun φ a w hc => by
    refine ⟨v, ?_, Zp (hr _ _)⟩
    have e := h.str hc
    have e' := h'.str hc
    simp only [execOp, e, e']
    have : binOp op t (.string ⟨s.toArray⟩) (.string ⟨s'.toArray⟩) = .pure v := by
      rw [← hv]; cases op <;> first | rfl | exact absurd rfl hne.1 | exact absurd rfl hne.2
    cases op <;> simp only [this] <;> rfl
theorem ZkQ (s : Str) : (ByteArray.mk s.toArray).toList = s := by
  have key : ∀ (n i : Nat) (r : List UInt8), s.length - i = n → ByteArray.toList.loop (ByteArray.mk s.toArray) i r = r.reverse ++ s.drop i := by
    intro n
    induction n with
    | zero =>
      intro i r h
      unfold ByteArray.toList.loop
      have : ¬ i < (ByteArray.mk s.toArray).size := by simp [ByteArray.size]; omega
      rw [if_neg this, List.drop_eq_nil_of_le (by omega)]; simp
    | succ n ih =>
      intro i r h
      unfold ByteArray.toList.loop
      have : i < (ByteArray.mk s.toArray).size := by simp [ByteArray.size]; omega
      rw [if_pos this, ih (i + 1) _ (by omega)]
      have hlt : i < s.length := by omega
      rw [List.drop_eq_getElem_cons hlt]
      simp [ByteArray.get!, hlt]
  have := key s.length 0 [] (by simp)
  simpa [ByteArray.toList] using this
theorem ZmA (s s' : Str) : (s == s') = decide (s = s') := by rw [Bool.eq_iff_iff]; simp
theorem Zkz (h : Opv c st x (.str s)) (h' : Opv c st y (.str s')) : SVal c ops st ⟨dst, .binOp .eql t x y u, ty, pos, after, none⟩ (.bool (decide (s = s'))) :=
  Zmk h h' (by simp) (v := .bool (decide (s = s'))) (by simp only [Op.stringOp, ZkQ, ZmA]; rfl) fun _ _ => .bool _
theorem ZiS {k : IntKind} {i z : Int} (h : Opv c st x (.str s)) (hy : Opv c st y (.int k i)) (ht : tStr c.P t = true) (hz : Zkb s i = some z) : SVal c ops st ⟨dst, .index t x y, ty, pos, after, none⟩ (.int .u8 z) :=
  .pure rfl fun φ a w hc => by
    refine ⟨.int .u8 z, ?_, Zp (.int _ _)⟩
    unfold Zkb at hz
    split at hz
    · rename_i h0
      obtain ⟨b, hb, rfl⟩ := Option.map_eq_some_iff.1 hz
      have hlt := (List.getElem?_eq_some_iff.1 hb).1
      have e : (ByteArray.mk s.toArray)[i.toNat]? = some b := by
        have e1 : (ByteArray.mk s.toArray)[i.toNat]? = s[i.toNat]? := by
          rw [List.getElem?_eq_getElem hlt, getElem?_pos (ByteArray.mk s.toArray) i.toNat (by simpa [ByteArray.size] using hlt)]
          rfl
        rw [e1, hb]
      have hr : (Instr.index t (.string ⟨s.toArray⟩) (.int k i)).run c.P w = .ok (.int .u8 (b.toNat : Int)) w := by
        unfold Instr.index
        simp [asIntOf, run_underlying (tStr.spec ht), h0, e]
      show ((do pure (Next.value (← Instr.index t (a.eval x) (a.eval y))) : Sem Next)).run c.P w = _
      rw [h.str hc, hy.int hc, Sem.run_bind, hr]
      rfl
    · cases hz
end str

theorem Zdu {t n : Nat} {l : List AV} {x : Operand} (h : CellV c st x l) (hl : l.length = n) (hs : c.P.cellsOf t = n) (hd : l.all datB = true) : SVal c ops st ⟨dst, .box t x, ty, pos, after, none⟩ (.rp l 0) := by
  subst hl
  refine .run rfl fun φ a w hc => ?_
  obtain ⟨h1, h2⟩ := h φ a w hc
  have hBl : Below w.heap.size w (w.alloc (.cells (a.eval x).cells t)) := (Below.refl _ _).alloc (Nat.le_refl _) _
  refine ⟨.pointer (some ⟨w.heap.size, 0, none⟩), w.alloc (.cells (a.eval x).cells t), ?_, hBl, Zp ?_⟩
  · simp only [execOp, Instr.box, newVar, newRow]
    rfl
  · have hnew : (w.alloc (.cells (a.eval x).cells t)).heap[w.heap.size]? = some (.cells (a.eval x).cells t (0, 0)) := heap_alloc_new w _
    have hnM : ¬ Mut c.A φ st.hp w.heap.size := fun hmm => by have := Zfz hc _ hmm; omega
    refine .rp l w.heap.size 0 0 (fun j => (a.eval x).cells.getD j undef) (by simp) hnM (fun j hj => ?_) (fun j hj => ?_)
    · rw [Zw hnew, Nat.zero_add]
      simp [show j < (a.eval x).cells.size by omega]
    · have hdj : datB (l.getD j .any) = true := by
        have : l.getD j .any = l[j] := by simp [List.getD_eq_getElem?_getD, hj]
        rw [this]; exact List.all_eq_true.1 hd _ (List.getElem_mem _)
      exact (Dat.b (c := c) (st := st) hdj φ a w hc _ (h2 j hj)).mono hBl.size (fun b hb _ => hBl.block b hb) (fun _ _ hm => hm)

def ZfV (c : Ctx) (st : St) (d : Int) : Option Operand → Int → Prop
  | none, z => z = d
  | some x, z => ∃ k, Opv c st x (.int k z)
theorem oi {x : Operand} {k : IntKind} {z d : Int} (h : Opv c st x (.int k z)) : ZfV c st d (some x) z := ⟨k, h⟩
theorem on {d : Int} : ZfV c st d none d := rfl

theorem ZgU {P : Program} {w : World} {k : IntKind} {z : Int} {y : Nat} {code : BoundsCode} (h0 : 0 ≤ z) (h1 : z ≤ y) : (Instr.sliceBound (.int k z) y code).run P w = .ok z.toNat w := by
  simp [Instr.sliceBound, asIntOf, h0, h1]

theorem ZcZ {φ : Phi} {a : Act} {w : World} (hc : Conc c φ st a w) {lo hi : Option Operand} {len cap : Nat} {isS : Bool} {p q : Int} (hl : ZfV c st 0 lo p) (hh : ZfV c st len hi q) (h0 : 0 ≤ p) (h1 : p ≤ q) (h2 : q ≤ cap) (hlc : len ≤ cap) :
    (Instr.sliceBounds isS len cap (lo.map a.eval) (hi.map a.eval) none).run c.P w = .ok (p.toNat, q.toNat, cap) w := by
  have b1 : ∀ {x : Operand} {k : IntKind} {z : Int} {y : Nat} {code : BoundsCode}, Opv c st x (.int k z) → 0 ≤ z → z ≤ y → (Instr.sliceBound (a.eval x) y code).run c.P w = .ok z.toNat w :=
    fun h h0 h1 => by rw [h.int hc]; exact ZgU h0 h1
  cases hi with
  | none =>
    have e : q = len := hh
    subst e
    cases lo with
    | none =>
      have e : p = 0 := hl
      subst e
      simp [Instr.sliceBounds]
    | some x =>
      obtain ⟨k, hx⟩ := hl
      have := fun code => b1 (code := code) (y := len) hx h0 h1
      simp [Instr.sliceBounds, this]
  | some y =>
    obtain ⟨k', hy⟩ := hh
    have hy' := fun code => b1 (code := code) hy (by omega) h2
    cases lo with
    | none =>
      have e : p = 0 := hl
      subst e
      simp [Instr.sliceBounds, hy']
    | some x =>
      obtain ⟨k, hx⟩ := hl
      have := fun code => b1 (code := code) (y := q.toNat) hx h0 (by omega)
      simp [Instr.sliceBounds, hy', this]

theorem ZdH {α : Type} {f : α → List AV} {t e n by_ : Nat} {x : Operand} {lo hi : Option Operand} {xs ys : List α} {p q : Int} (h : Opv c st x (.sl e (xs.map f))) (ht : tSl c.P t e n by_ = true)
    (hl : ZfV c st 0 lo p) (hh : ZfV c st (xs.length : Int) hi q) (hz : slc xs p q = some ys) : SVal c ops st ⟨dst, .slice t x lo hi none, ty, pos, after, none⟩ (.sl e (ys.map f)) :=
  .pure rfl fun φ a w hc => by
    unfold slc at hz
    split at hz
    · rename_i hb
      cases hz
      obtain ⟨h0, h1, h2⟩ := hb
      obtain ⟨hu, inf, z, hi', hs, hby, hn0, hz, hzs, hcs⟩ := tSl.spec ht
      have hr := Ze3 (h φ a w hc)
      generalize hx : a.eval x = ax at hr
      have hsz : (sizeOf e).run c.P w = .ok n w := by simp [sizeOf, typeInfo, hi', hs]
      have run : ∀ (ad : Option Addr) (cap : Nat), xs.length ≤ cap → (execOp a.eval ⟨dst, .slice t x lo hi none, ty, pos, after, none⟩).run c.P w = .ok (.value (.slice (if cap = p.toNat then ad else ad.map (·.add (p.toNat * n))) (q.toNat - p.toNat) (cap - p.toNat))) w ∨ ax ≠ .slice ad xs.length cap := by
        intro ad cap hcap
        by_cases hax : ax = .slice ad xs.length cap
        · left
          have := ZcZ hc (isS := true) hl hh h0 h1 (by omega) hcap
          show ((do pure (Next.value (← Instr.sliceAt t (a.eval x) (lo.map a.eval) (hi.map a.eval) none)) : Sem Next)).run c.P w = _
          rw [hx, hax, Sem.run_bind]
          have e : (Instr.sliceAt t (.slice ad xs.length cap) (lo.map a.eval) (hi.map a.eval) none).run c.P w = .ok (.slice (if cap = p.toNat then ad else ad.map (·.add (p.toNat * n))) (q.toNat - p.toNat) (cap - p.toNat)) w := by
            unfold Instr.sliceAt
            rw [Sem.run_bind, run_underlying hu]
            simp only [Result.andThen_ok]
            unfold Instr.slice
            rw [Sem.run_bind, run_underlying hu]
            simp only [Result.andThen_ok]
            rw [Sem.run_bind, this]
            simp only [Result.andThen_ok]
            rw [Sem.run_bind, hsz]
            rfl
          rw [e]
          rfl
        · exact .inr hax
      have hlen : ((xs.take q.toNat).drop p.toNat).length = q.toNat - p.toNat := by simp; omega
      generalize hL : xs.map f = L at hr
      cases hr with
      | sl0 _ ad cp =>
        have hx0 : xs = [] := by simpa using hL
        subst hx0
        rcases run ad cp (Nat.zero_le _) with h3 | h3
        · refine ⟨_, h3, Zp ?_⟩
          simp only [List.length_nil] at h2
          have : q.toNat - p.toNat = 0 := by omega
          rw [this]
          simp only [List.take_nil, List.drop_nil, List.map_nil]
          exact .sl0 _ _ _
        · exact absurd rfl h3
      | sl _ _ b off cp us g0 g1 g2 g2' g3 g4 g5 =>
        subst hL
        simp only [List.length_map] at g2' run
        rcases run (some ⟨b, off, none⟩) cp g2' with h3 | h3
        · refine ⟨_, h3, Zp ?_⟩
          by_cases hpq : q.toNat - p.toNat = 0
          · have : (xs.take q.toNat).drop p.toNat = [] := List.eq_nil_of_length_eq_zero (by omega)
            rw [this, hpq]
            exact .sl0 _ _ _
          · have hne : ¬ cp = p.toNat := by omega
            rw [if_neg hne]
            have had : (some (⟨b, off, none⟩ : Addr)).map (·.add (p.toNat * n)) = some ⟨b, off + p.toNat * n, none⟩ := by
              simp only [Option.map_some, Addr.add]
              split
              · rename_i h9; rw [h9]; rfl
              · rfl
            rw [had]
            have hget : ∀ i, i < q.toNat - p.toNat → ((xs.take q.toNat).drop p.toNat)[i]? = xs[p.toNat + i]? := fun i hi => by
              rw [List.getElem?_drop, List.getElem?_take, if_pos (by omega)]
            have hcell : ∀ i j, i < q.toNat - p.toNat → cellAt (((xs.take q.toNat).drop p.toNat).map f) i j = cellAt (xs.map f) (p.toNat + i) j := fun i j hi => by
              unfold cellAt
              simp only [List.getD_eq_getElem?_getD, List.getElem?_map, hget i hi]
            have hL2 : (((xs.take q.toNat).drop p.toNat).map f).length = q.toNat - p.toNat := by rw [List.length_map]; exact hlen
            have := RelD.sl (P := c.P) (w := w) (M := Mut c.A φ st.hp) e (((xs.take q.toNat).drop p.toNat).map f) b (off + p.toNat * n) (cp - p.toNat) (fun i j => us (p.toNat + i) j) g0 g1
              (by rw [hL2]; rw [List.length_map] at g2; omega) (by rw [hL2]; omega) (fun row hr => by
                obtain ⟨z', hz', rfl⟩ := List.mem_map.1 hr
                exact g3 _ (List.mem_map_of_mem (List.mem_of_mem_take (List.mem_of_mem_drop hz'))))
              (fun i j hi hj => by
                rw [hL2] at hi
                rw [← g4 (p.toNat + i) j (by simp; omega) hj]
                congr 2
                rw [hcs, Nat.add_mul]; omega)
              (fun i j hi hj => by
                rw [hL2] at hi
                rw [hcell i j hi]
                exact g5 (p.toNat + i) j (by simp; omega) hj)
            rw [hL2] at this
            exact this
        · exact (h3 rfl).elim
    · cases hz
end ops
end Go.Vx
namespace Go.Vx
open Go Go.RowKit
section ops
variable {c : Ctx} {ops : Array Oper} {st : St} {dst : Option Tmp} {ty : TypeId} {pos : String} {after : Array Edge}

theorem Zd2 {α : Type} {f : α → List AV} {y : Operand} {t e sz by_ r n : Nat} {xs : List α} (h : Opv c st y (.own r n)) (ho : nth st.hp r = some ⟨e, xs.map f⟩) (hn : xs.length = n) (ht : tSl c.P t e sz by_ = true) :
    SVal c ops st ⟨dst, .call { callee := .builtin .len, args := #[y], argTypes := #[t] }, ty, pos, after, none⟩ (.int .i64 (xs.length : Int)) :=
  .pure rfl fun φ a w hc => by
    have hO := hc.hok.obj r _ ho
    have hx := Xl (h φ a w hc) (by rw [hO.len]; simpa using hn)
    obtain ⟨hu, _⟩ := tSl.spec ht
    refine ⟨.int .i64 (xs.length : Int), ?_, Zp (.int _ _)⟩
    simp [execOp, resolve, invoke, builtin, hx, Builtin.len_, run_underlying hu, goInt, hn]

theorem ZY {α : Type} {f : α → List AV} {x y : Operand} {t e sz by_ r n : Nat} {k : IntKind} {z : Int} {xs : List α} {u : α} (h : Opv c st x (.own r n)) (hy : Opv c st y (.int k z)) (ht : tSl c.P t e sz by_ = true)
    (ho : nth st.hp r = some ⟨e, xs.map f⟩) (hn : xs.length = n) (hx : idx xs z = some u) : SVal c ops st ⟨dst, .indexAddr t x y, ty, pos, after, none⟩ (.ptr r n z.toNat 0) := by
  obtain ⟨h1, h2⟩ := Zx hx
  obtain ⟨_, _, _, _, _, _, _, _, _, hcs⟩ := tSl.spec ht
  exact ZlC h hy ht ho (by simpa using hn) hcs h1 (by have := (List.getElem?_eq_some_iff.1 h2).1; omega)

theorem Qo {α : Type} {f : α → List AV} {x y : Operand} {t e n by_ : Nat} {k : IntKind} {z : Int} {xs : List α} {u : α} (h : Opv c st x (.sl e (xs.map f))) (hy : Opv c st y (.int k z)) (ht : tSl c.P t e n by_ = true)
    (hx : idx xs z = some u) : SVal c ops st ⟨dst, .indexAddr t x y, ty, pos, after, none⟩ (.rp (f u) 0) := by
  obtain ⟨h1, h2⟩ := Zx hx
  exact Zmc h hy ht h1 (ZiD h2)

theorem Xg {α : Type} {f : α → List AV} {x y : Operand} {t e sz by_ r n s : Nat} {xs ys zs : List α} (h : Opv c st x (.own r n)) (hy : SlV c st y sz (ys.map f)) (ht : tSl c.P t e sz by_ = true)
    (ho : nth st.hp r = some ⟨e, xs.map f⟩) (hn : xs.length = n) (hpos : Nat.blt 0 ys.length = true) (h1 : ∀ u, ∀ v ∈ f u, ZdN c st v) (hby : Nat.ble by_ s = true) (hz : apz s xs ys = some zs) :
    WVal c ops st ⟨dst, .call { callee := .builtin .append, args := #[x, y], argTypes := #[t, t] }, ty, pos, after, none⟩ (.own r zs.length) (Qd st.hp r (some ⟨e, zs.map f⟩)) := by
  unfold apz at hz
  split at hz
  · rename_i hle
    cases hz
    have hby := Nat.le_of_ble_eq_true hby
    have hle2 : n + ys.length ≤ 140737488355328 / s := hn ▸ hle
    have hmul : (n + ys.length) * by_ ≤ 140737488355328 := ZhY hle2 hby
    have := Zjj (c := c) (ops := ops) (dst := dst) (ty := ty) (pos := pos) (after := after) (m := ys.length) h hy ht ho (by simpa using hn) rfl (by simp) (by simpa using hpos) (fun row hr u hu => by
      obtain ⟨a, _, rfl⟩ := List.mem_map.1 hr
      exact h1 a u hu) hmul (ZhR hle2)
    rw [← hn, ← List.length_append] at this
    simpa [List.map_append] using this
  · cases hz

theorem Qu {α : Type} {f : α → List AV} {x y : Operand} {t e r n : Nat} {z : Int} {xs : List α} {u u' : α} {v : AV} {l : List AV} {j : Nat} (h : Opv c st x (.ptr r n z.toNat j)) (hy : Opv c st y v) (ht : Zhp c.P t v l)
    (ho : nth st.hp r = some ⟨e, xs.map f⟩) (hn : xs.length = n) (hx : idx xs z = some u) (hlen : Nat.ble (j + l.length) (f u).length = true) (h1 : ∀ q ∈ l, ZdN c st q)
    (hrow' : (f u).take j ++ (l ++ (f u).drop (j + l.length)) = f u') :
    WVal c ops st ⟨none, .store t x y, ty, pos, after, none⟩ .any (Qd st.hp r (some ⟨e, (xs.set z.toNat u').map f⟩)) := by
  have := Zm (c := c) (ops := ops) (ty := ty) (pos := pos) (after := after) h hy ht ho (by simpa using hn) (ZiD (Zx hx).2) (Nat.le_of_ble_eq_true hlen) h1 hrow'
  simpa [List.map_set] using this

theorem ZU {α : Type} {f : α → List AV} {x : Operand} {r n j t e : Nat} {z : Int} {xs : List α} {u : α} {v : AV} (h : Opv c st x (.ptr r n z.toNat j)) (ho : nth st.hp r = some ⟨e, xs.map f⟩) (hn : xs.length = n) (hx : idx xs z = some u)
    (ht : tScal c.P t = true) (hv : (f u)[j]? = some v) (hns : noSub v = true := by rfl) : SVal c ops st ⟨dst, .load t x, ty, pos, after, none⟩ v :=
  Zt h ho (by simpa using hn) (ZiD (Zx hx).2) ht hv hns
theorem ZcN {α : Type} {fr : α → List AV} {x : Operand} {r n i j s f off e : Nat} {xs : List α} (h : Opv c st x (.ptr r n i j)) (ho : nth st.hp r = some ⟨e, xs.map fr⟩) (hn : xs.length = n) (ht : tFld c.P s f off = true) :
    SVal c ops st ⟨dst, .fieldAddr s x f, ty, pos, after, none⟩ (.ptr r n i (j + off)) := Zl h ho (by simpa using hn) ht

theorem ZgV {α : Type} {f : α → List AV} {t e sz by_ n r : Nat} {ps : List (Nat × Operand)} {xs : List α} (hr : st.hp.length = r) (ht : tSl c.P t e sz by_ = true) (hp : Elems c st sz ps 0 (xs.map f)) (hn : ps.length = n) (hx : xs.length = n) (hbig : Nat.ble (n * sz) (2 ^ 24) = true) :
    WVal c ops st ⟨dst, .buildSlice t n ps.toArray, ty, pos, after, none⟩ (.own r xs.length) (st.hp ++ [some ⟨e, xs.map f⟩]) := by
  rw [hx]; exact Zmn hr ht hp hn hbig
end ops

theorem Dat.nils {c : Ctx} {st : St} (e : TypeId) : Dat c st .nils (.sl e []) := fun φ a w hc v hv => by
  have := hv φ (fun _ _ => rfl)
  cases this with | data h => cases h; exact .sl0 e none 0
theorem View.ownM {c : Ctx} {st : St} {α : Type} {f : α → List AV} {r n : Nat} {e : TypeId} {xs : List α} (ho : nth st.hp r = some ⟨e, xs.map f⟩) (hn : xs.length = n) (h : ∀ x, (f x).length = c.P.cellsOf e ∧ (f x).all datB = true) : View c st (.own r n) (.sl e (xs.map f)) :=
  View.ownB (o := ⟨e, xs.map f⟩) ho (by simpa using hn) fun row hr => by obtain ⟨x, _, rfl⟩ := List.mem_map.1 hr; exact h x
theorem Zmh {α : Type} {f : α → List AV} {s : List (Option Nat)} {hp : List (Option Own)} {r n e sz : Nat} {xs : List α} (h1 : s.contains (some r) = false) (h2 : nth hp r = some ⟨e, xs.map f⟩) (hn : xs.length = n) (hd : ∀ x, (f x).length = sz ∧ (f x).all datB = true) :
    RenR (Zgc s hp) (.own r n) (.sl e (xs.map f)) :=
  .frz ⟨h1, h2, by simpa using hn, fun row hr => by obtain ⟨x, _, rfl⟩ := List.mem_map.1 hr; exact (hd x).2⟩
theorem View.nils {c : Ctx} {st : St} (e : TypeId) : View c st .nils (.sl e []) := (Dat.nils e).view
end Go.Vx

namespace Go.Vx
open Go Go.RowKit
theorem Zk0 {β γ : Type} {k : β → Option γ} {r : γ} (h : (none : Option β).bind k = some r) : False := by cases h
theorem Zcu {q : Rw} {r r' n n' : Nat} (hn : n = n') (h : q.R r r') : RenR q (.own r n) (.own r' n') := by subst hn; exact .own n h
theorem Zft {c : Ctx} {st : St} {rs : Array ResultVar} {res : AV} {os' : List (Option Own)} (s : List (Option Nat)) {rs' : List ResultVar} {ds : List AV} (h1 : rs = rs'.toArray) (h2 : RetWs c st rs' ds) (h3 : SelHp c.P (Zgc s st.hp) st.hp s os')
    (h4 : dupL s os' = true) (h5 : Zgn 0 c.n0 s = true) (h6 : RenR (Zgc s st.hp) (Zj3 ds) res) : Zld c rs res os' .normal st := ⟨s, rs', ds, h1, h2, h3, h4, h5, h6⟩
theorem Zlc {c : Ctx} {x y : Code} {st : St} {K : Exit → St → Prop} (h1 : T c y st K) : T c (.cond (.const (.bool false)) x y) st K :=
  fun φ a w hc => wp_cond_split (t := false) rfl (fun h => by cases h) (fun _ => h1 φ a w hc)

section ops
variable {c : Ctx} {ops : Array Oper} {st : St} {dst : Option Tmp} {ty : TypeId} {pos : String} {after : Array Edge}

theorem Zu {x : Operand} {r n i j : Nat} {o : Own} (h : Opv c st x (.ptr r n i j)) (ho : nth st.hp r = some o) (hn : o.es.length = n) : SVal c ops st ⟨dst, .nilCheck x, ty, pos, after, none⟩ (.ptr r n i j) :=
  .pure rfl fun φ a w hc => by
    have hO := hc.hok.obj r o ho
    obtain ⟨b, hb, hx⟩ := Jv (h φ a w hc) (by rw [hO.len, hn])
    exact ⟨a.eval x, by simp only [execOp, hx]; rfl, h φ a w hc⟩
theorem ZC {x : Operand} {cells : List AV} {o : Nat} (h : Opv c st x (.rp cells o)) : SVal c ops st ⟨dst, .nilCheck x, ty, pos, after, none⟩ (.rp cells o) :=
  .pure rfl fun φ a w hc => by
    have hr := Ze2 (h φ a w hc)
    refine ⟨a.eval x, ?_, h φ a w hc⟩
    generalize hx : a.eval x = ax at hr
    cases hr with
    | rp _ b base _ us _ _ _ _ => simp only [execOp, hx]; rfl

theorem ZiO {e u : TypeId} {t : Nat} {x : Operand} {rest : List Oper} {l : List (List AV)} {K : Exit → St → Prop} (h : Opv c st x (.sl e l)) (ht : (match c.P.underlying t with | some (.slice _) => true | _ => false) = true) (hd : dstLt dst c.nt = true)
    (k : ∀ b, (b = true → l = []) → R c ops rest (st.puto dst (.bool b)) K) : R c ops (⟨dst, .binOp .eql t x (.const (.slice none 0 0)) u, ty, pos, after, none⟩ :: rest) st K := by
  intro φ a w hc
  have hu : ∃ e', c.P.underlying t = some (.slice e') := by
    split at ht
    · rename_i e' hu; exact ⟨e', hu⟩
    · cases ht
  obtain ⟨e', hu⟩ := hu
  have hr := Ze3 (h φ a w hc)
  generalize hx : a.eval x = ax at hr
  have key : ∀ (ad : Option Addr) n cp, ax = .slice ad n cp → (execOp a.eval ⟨dst, .binOp .eql t x (.const (.slice none 0 0)) u, ty, pos, after, none⟩).run c.P w = .ok (.value (.bool ad.isNone)) w := by
    intro ad n cp hax
    subst hax
    show ((do pure (Next.value (← (do eqGuard .eql t x (.const (.slice none 0 0)) (a.eval x) (.slice none 0 0); binOp .eql t (a.eval x) (.slice none 0 0) : Sem Value))) : Sem Next)).run c.P w = _
    rw [hx]
    have he : (Op.equal t (.slice ad n cp) (.slice none 0 0)).run c.P w = .ok ad.isNone w := by
      unfold Op.equal Op.maxDepth
      show (Op.equalIn (9999 + 1) t _ _).run c.P w = _
      generalize 9999 = d
      cases ad with
      | none => unfold Op.equalIn; rw [Sem.run_bind, run_underlying hu]; rfl
      | some b => unfold Op.equalIn; rw [Sem.run_bind, run_underlying hu]; rfl
    have hb : (binOp .eql t (.slice ad n cp) (.slice none 0 0)).run c.P w = .ok (.bool ad.isNone) w := by
      show ((do pure (Value.bool (← Op.equal t (.slice ad n cp) (.slice none 0 0))) : Sem Value)).run c.P w = _
      rw [Sem.run_bind, he]; rfl
    rw [Sem.run_bind]
    show (((do eqGuard .eql t x (.const (.slice none 0 0)) (.slice ad n cp) (.slice none 0 0); binOp .eql t (.slice ad n cp) (.slice none 0 0) : Sem Value)).run c.P w).andThen _ = _
    rw [Sem.run_bind]
    have hg : (eqGuard .eql t x (.const (.slice none 0 0)) (.slice ad n cp) (.slice none 0 0)).run c.P w = .ok () w := rfl
    rw [hg]
    simp only [Result.andThen_ok]
    rw [hb]
    rfl
  have go : ∀ ad n cp, ax = .slice ad n cp → (ad.isNone = true → l = []) → wpList c.P ops (Zke c K) (⟨dst, .binOp .eql t x (.const (.slice none 0 0)) u, ty, pos, after, none⟩ :: rest) a w := by
    intro ad n cp hax hb
    unfold wpList
    rw [if_pos (JN rfl)]
    left
    unfold Oper.wp
    rw [key ad n cp hax]
    exact k _ hb φ _ _ (hc.puto hd (Zp (.bool _)))
  cases hr with
  | sl0 _ ad cp => exact go ad 0 cp rfl fun _ => rfl
  | sl _ _ b off cp us => exact go (some ⟨b, off, none⟩) _ cp rfl fun h => by cases h

theorem Zfs {α : Type} {f : α → List AV} {x y : Operand} {t e sz by_ r n : Nat} {xs : List α} (h : Opv c st x (.own r n)) (hy : SlV c st y sz []) (ht : tSl c.P t e sz by_ = true)
    (ho : nth st.hp r = some ⟨e, xs.map f⟩) (hn : xs.length = n) :
    WVal c ops st ⟨dst, .call { callee := .builtin .append, args := #[x, y], argTypes := #[t, t] }, ty, pos, after, none⟩ (.own r n) st.hp := by
  refine .run rfl fun φ a w hc => ?_
  obtain ⟨hu, inf, z, hi, hs, hby, hn0, hz, hzs, hcs⟩ := tSl.spec ht
  have hO := hc.hok.obj r _ ho
  have hx := Xl (h φ a w hc) (by rw [hO.len]; simpa using hn)
  obtain ⟨base, cap, hyv, _, _, _⟩ := hy φ a w hc
  have hroom : n ≤ (φ r).cap := by have := hO.room; simpa [hn] using this
  refine ⟨_, w, φ, ?_, hc.hok, fun _ _ h => h, h φ a w hc⟩
  simp only [List.length_nil] at hyv
  have hfc : (Builtin.firstCells inf.size 0 (.slice base 0 cap)).run c.P w = .ok #[] w := by
    cases base with
    | none => rfl
    | some b => simp [Builtin.firstCells, loadCells, loadCellsFrom]
  have : (Builtin.append_ #[t, t] ty #[a.eval x, a.eval y]).run c.P w = .ok (a.eval x) w := by
    rw [hx, hyv]
    cases hb : (φ r).blk with
    | none => simp [Builtin.append_, run_underlying hu, sizeOf, typeInfo, hi, Builtin.lenOf, hroom, hfc]
    | some b => simp [Builtin.append_, run_underlying hu, sizeOf, typeInfo, hi, Builtin.lenOf, hroom, hfc, storeCells]
  simp only [execOp, resolve, invoke, builtin]
  simp [this]
theorem ZdE {α : Type} {f : α → List AV} {x y : Operand} {t e sz by_ r n s : Nat} {xs ys zs : List α} (h : Opv c st x (.own r n)) (hy : SlV c st y sz (ys.map f)) (ht : tSl c.P t e sz by_ = true)
    (ho : nth st.hp r = some ⟨e, xs.map f⟩) (hn : xs.length = n) (h1 : ∀ u, ∀ v ∈ f u, ZdN c st v) (hby : Nat.ble by_ s = true) (hz : apz s xs ys = some zs) :
    WVal c ops st ⟨dst, .call { callee := .builtin .append, args := #[x, y], argTypes := #[t, t] }, ty, pos, after, none⟩ (.own r zs.length) (Qd st.hp r (some ⟨e, zs.map f⟩)) := by
  cases ys with
  | cons u ys => exact Xg h hy ht ho hn rfl h1 hby hz
  | nil =>
    unfold apz at hz
    split at hz
    · simp only [List.append_nil, Option.some.injEq] at hz
      subst hz
      have hset : Qd st.hp r (some (⟨e, xs.map f⟩ : Own)) = st.hp := by
        generalize st.hp = hp at ho
        clear h hy
        induction hp generalizing r with
        | nil => cases ho
        | cons o hp ih =>
          cases r with
          | zero => simp only [nth] at ho; simp [Qd, ho]
          | succ r => simp only [nth] at ho; simp only [Qd]; rw [ih ho]
      rw [hset, hn]
      exact Zfs h hy ht ho hn
    · cases hz
end ops
end Go.Vx

namespace Go.Vx
open Go Go.RowKit

def ZO {α : Type} {n : Nat} (v : Vector α n) (i : Int) : Option α := if 0 ≤ i then v.toList[i.toNat]? else none
theorem ZcP {α : Type} {n : Nat} {v : Vector α n} {i : Int} {x : α} (h : ZO v i = some x) : i = (i.toNat : Int) ∧ i.toNat < n ∧ v.toList[i.toNat]? = some x := by
  unfold ZO at h
  split at h
  · have := (List.getElem?_eq_some_iff.1 h).1
    simp at this
    exact ⟨by omega, this, h⟩
  · cases h
def X4 {α : Type} {n : Nat} (v : Vector α n) (i : Int) (x : α) : Vector α n := v.setIfInBounds i.toNat x
theorem Zkh {α : Type} {n : Nat} (v : Vector α n) (i : Int) (x : α) : (X4 v i x).toList = v.toList.set i.toNat x := by simp [X4]

section
variable {α : Type} {n : Nat} {v : Vector α n} {f : α → AV} {z : Int} {u : α}
theorem arL : (v.toList.map f).length = n := by simp
theorem arD (h : ∀ x, datB (f x) = true) : (v.toList.map f).all datB = true := by simp [List.all_eq_true, h]
theorem arC (h : ∀ x, c1B (f x) = true) : (v.toList.map f).all c1B = true := by simp [List.all_eq_true, h]
theorem arB (h : ZO v z = some u) {x : AV} : (0 + z.toNat * 1) + [x].length ≤ (v.toList.map f).length := by
  obtain ⟨_, h2, _⟩ := ZcP h
  simp; omega
theorem arS (h : ZO v z = some u) {x : α} : (v.toList.map f).take (0 + z.toNat * 1) ++ ([f x] ++ (v.toList.map f).drop ((0 + z.toNat * 1) + [f x].length)) = (X4 v z x).toList.map f := by
  obtain ⟨_, h2, _⟩ := ZcP h
  rw [Zkh]
  have hlt : z.toNat < (v.toList.map f).length := by simpa using h2
  rw [List.map_set, List.set_eq_take_append_cons_drop, if_pos (by simpa using hlt)]
  simp
end

section ops
variable {c : Ctx} {ops : Array Oper} {st : St} {dst : Option Tmp} {ty : TypeId} {pos : String} {after : Array Edge}
theorem JC {α : Type} {m : Nat} {v : Vector α m} {x y : Operand} {t e n r q i j : Nat} {k : IntKind} {z : Int} {o : Own} {u : α} (h : Opv c st x (.ptr r q i j)) (hy : Opv c st y (.int k z)) (ht : tArr c.P t m e n = true)
    (ho : nth st.hp r = some o) (hq : o.es.length = q) (hx : ZO v z = some u) : SVal c ops st ⟨dst, .indexAddr t x y, ty, pos, after, none⟩ (.ptr r q i (j + z.toNat * n)) := by
  obtain ⟨h1, h2, _⟩ := ZcP hx
  exact Zmt h hy ht ho hq h1 h2
theorem QS {α : Type} {m : Nat} {v : Vector α m} {x y : Operand} {t e n o : Nat} {k : IntKind} {z : Int} {cells : List AV} {u : α} (h : Opv c st x (.rp cells o)) (hy : Opv c st y (.int k z)) (ht : tArr c.P t m e n = true)
    (hx : ZO v z = some u) : SVal c ops st ⟨dst, .indexAddr t x y, ty, pos, after, none⟩ (.rp cells (o + z.toNat * n)) := by
  obtain ⟨h1, h2, _⟩ := ZcP hx
  exact Zme h hy ht h1 h2
theorem Ziu {α : Type} {n : Nat} {v : Vector α n} {f : α → AV} {x y : Operand} {t e : Nat} {k : IntKind} {z : Int} {u : α} (h : Opv c st x (.agg (v.toList.map f))) (hy : Opv c st y (.int k z)) (ht : tArr c.P t n e 1 = true) (he : tScal c.P e = true)
    (hx : ZO v z = some u) : SVal c ops st ⟨dst, .index t x y, ty, pos, after, none⟩ (f u) := by
  obtain ⟨h1, h2, h3⟩ := ZcP hx
  exact ZkS h hy ht he h1 h2 (by simp [h3])
end ops
end Go.Vx
