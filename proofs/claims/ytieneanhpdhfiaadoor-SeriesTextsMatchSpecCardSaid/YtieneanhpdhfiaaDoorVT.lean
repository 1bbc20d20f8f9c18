/- A text of the proof: a verified executor of the program form, or the contracts of the functions that the law reaches. -/
import Derived.Test.YtieneanhpdhfiaaDoorVS
import Derived.Shelf.Strings.Builder1
import Derived.Lib.AppendZeros
set_option linter.all false
namespace Go.Vx
open Go Go.RowKit Go.Lib
theorem ZbZ {P : Program} {w : World} {M : Nat → Prop} {m : Nat} {φ : Phi} {r n : Nat} {v : Value} (h : RelF P w M m φ (.bptr r n) v) :
    (φ r).n = n → (φ r).mp = false ∧ (φ r).cap = 1 ∧ ∃ b, (φ r).blk = some b ∧ (v = .pointer none ∨ v = .pointer (some ⟨b, 0, none⟩)) := by
  have := h φ (fun _ _ => rfl)
  cases this with
  | data h => cases h
  | bptr _ _ _ _ _ h => exact h
theorem Zd6 {P : Program} {w : World} {M : Nat → Prop} {m : Nat} {φ : Phi} {u v : Value} (h : RelF P w M m φ (.lit u) v) : v = u := by
  have := h φ (fun _ _ => rfl)
  cases this with
  | data h => cases h; rfl
theorem ZdF {P : Program} {w : World} {M : Nat → Prop} {m : Nat} {φ : Phi} {r b : Nat} {v : Value} (hr : r < m) (hn : (φ r).n = 1) (hm : (φ r).mp = false) (hc : (φ r).cap = 1) (hb : (φ r).blk = some b)
    (hv : v = .pointer none ∨ v = .pointer (some ⟨b, 0, none⟩)) : RelF P w M m φ (.bptr r 1) v := fun φ' hφ => by
  have e := hφ r hr
  refine .bptr r 1 v (by rcases hv with h | h <;> rw [h] <;> rfl) (by rw [e, hn]; exact Nat.le_refl _) fun _ => ?_
  rw [e]
  exact ⟨hm, hc, b, hb, hv⟩
theorem ZdV {c : Ctx} {φ : Phi} {hp : List (Option Own)} {w : World} {r T : Nat} {l : List AV} (hok : HeapOK c φ hp w) (ho : nth hp r = some ⟨T, [.lit (.pointer none) :: l]⟩) (hmp : (φ r).mp = false) (hcap : (φ r).cap = 1) :
    ∃ φ', HeapOK c φ' (ZF hp r (some ⟨T, [.bptr r 1 :: l]⟩)) w ∧ φ' r = φ r ∧
    ∀ av x, RelF c.P w (Mut c.A φ hp) hp.length φ av x → RelF c.P w (Mut c.A φ' (ZF hp r (some ⟨T, [.bptr r 1 :: l]⟩))) (ZF hp r (some ⟨T, [.bptr r 1 :: l]⟩)).length φ' av x := by
  have hO := hok.obj r _ ho
  have hrl := Qh ho
  have hl := hO.len
  obtain ⟨k1, k2⟩ := XN (L := φ r) (o' := ⟨T, [.bptr r 1 :: l]⟩) (w' := w) hok ho rfl rfl rfl (Nat.le_refl _) (fun _ _ _ => rfl) (.inl rfl) (.inl (Loc.same.refl _)) (fun htr => by
    refine ⟨by simp only [if_true]; exact hO.len, by simp only [if_true]; exact hO.sz, fun row hrow => ?_, by simp only [if_true]; exact hO.room, by simp only [if_true]; exact hO.cap, fun h => ?_, by simp only [if_true]; exact hO.subl, by simp only [if_true]; exact hO.subn, fun b hb => ?_⟩
    · have := hO.rows (.lit (.pointer none) :: l) (by simp)
      rw [List.mem_singleton.1 hrow]
      exact this
    · simp only [if_true] at h
      exact absurd (hO.none h).1 (by simp)
    · simp only [if_true] at hb
      obtain ⟨cs, h1, h2, T', t1, t2, h3⟩ := hO.some b hb
      refine ⟨cs, by simp only [if_true]; exact h1, by simp only [if_true]; exact h2, T', by simp only [if_true]; exact t1, t2, fun i j hi hj => ?_⟩
      obtain rfl : i = 0 := by simp at hi; exact hi
      cases j with
      | zero =>
        have h0 := Zd6 ((h3 0 0 (by simp) hj).plain rfl)
        show TRel _ _ _ _ _ _ (.bptr r 1) _
        rw [h0]
        exact .leaf (ZdF hrl (by simp only [if_true]; exact hl) (by simp only [if_true]; exact hmp) (by simp only [if_true]; exact hcap) (by simp only [if_true]; exact hb) (.inl rfl))
      | succ j => exact (h3 0 (j + 1) (by simp) hj).tr (fun _ _ => rfl) htr)
  exact ⟨_, k1, by simp, k2⟩
theorem Zei {tm : List (Nat × AV)} {t : Nat} {v : AV} (h : look tm t = some v) : (t, v) ∈ tm := by
  induction tm with
  | nil => cases h
  | cons p tm ih =>
    obtain ⟨s, u⟩ := p
    simp only [look] at h
    split at h
    · rename_i he
      have he := Nat.eq_of_beq_eq_true he
      subst he; cases h
      exact List.mem_cons_self
    · exact List.mem_cons_of_mem _ (ih h)
section bld
variable {c : Ctx} {ops : Array Oper} {st : St} {dst : Option Tmp} {ty : TypeId} {pos : String} {after : Array Edge}
theorem ZeN {t r : Nat} (hr : st.hp.length = r) (hz : Q8 c.P t = some [.pointer none, .slice none 0 0]) (hl : c.P.cellsOf t = 2) :
    WVal c ops st ⟨dst, .alloc t, ty, pos, after, none⟩ (.ptr r 1 0 0) (st.hp ++ [some ⟨t, [[.bptr r 1, .nils]]⟩]) := by
  subst hr
  refine .run rfl fun φ a w hc => ?_
  unfold Q8 at hz
  split at hz
  · rename_i i hi
    simp only [Option.map_eq_some_iff] at hz
    obtain ⟨z, hz, hzs⟩ := hz
    have hzc : z.cells = #[.pointer none, .slice none 0 0] := by
      rw [← Array.toArray_toList (xs := z.cells), hzs]
    obtain ⟨k1, k2⟩ := ZcT (o := ⟨t, [[.lit (.pointer none), .nils]]⟩) (cs := z.cells) (cap := 1) (mp := false) (ob := .cells z.cells t (0, 0)) hc.hok
      (by show (w.heap.push _)[w.heap.size]? = _; simp) (by rw [hzc, hl]; rfl) (by decide) (by simp) (by simp [hl])
      ⟨fun _ _ _ => False, fun _ _ _ h => h.elim, fun _ _ _ _ _ h => h.elim, fun i j hi hj => by
        simp only [List.length_singleton] at hi
        simp only [hl] at hj
        obtain rfl : i = 0 := by omega
        rw [hzc]
        simp only [Nat.zero_mul, Nat.zero_add]
        have : j = 0 ∨ j = 1 := by omega
        rcases this with rfl | rfl
        · exact .leaf (Ze (.lit _))
        · exact .leaf (Ze .nils)⟩
    have hn : nth (st.hp ++ [some ⟨t, [[.lit (.pointer none), .nils]]⟩]) st.hp.length = some (⟨t, [[.lit (.pointer none), .nils]]⟩ : Own) := by
      generalize st.hp = hp
      induction hp with
      | nil => rfl
      | cons o hp ih => exact ih
    have hset : ∀ (hp : List (Option Own)) (o o' : Option Own), ZF (hp ++ [o]) hp.length o' = hp ++ [o'] := fun hp o o' => by
      induction hp with
      | nil => rfl
      | cons x hp ih => exact congrArg (x :: ·) ih
    obtain ⟨φ', g1, g2, g3⟩ := ZdV k1 hn (by simp) (by simp)
    rw [hset] at g1 g3
    refine ⟨.pointer (some ⟨w.heap.size, 0, none⟩), _, φ', ?_, g1, fun av x hx => g3 _ _ (k2 _ _ hx), fun ψ hψ => ?_⟩
    · simp [execOp, Instr.alloc, zeroValue, typeInfo, hi, hz, newVar, newRow]
    · have e1 := (hψ st.hp.length (by simp)).trans g2
      refine .ptr _ 1 0 0 _ rfl ?_ fun _ => ?_
      · rw [e1]; simp
      · rw [e1]; simp
  · cases hz
def Zdu (P : Program) (f : FuncId) (T t u ty0 : TypeId) : Prop := ∀ (b : Nat) (p v v' : Value) (s : ByteArray) (w w1 w2 w3 : World),
  w.heap[b]? = some (.cells #[p, v] T (0, 0)) → (p = .pointer (some ⟨b, 0, none⟩) ∧ w1 = w ∨ p = .pointer none ∧ (storeCells ⟨b, 0, none⟩ [.pointer (some ⟨b, 0, none⟩)]).run P w = .ok () w1) →
  w1.heap[b]? = some (.cells #[.pointer (some ⟨b, 0, none⟩), v] T (0, 0)) →
  (Builtin.append_ #[t, u] ty0 #[v, .string s]).run P w1 = .ok v' w2 → w2.heap[b]? = some (.cells #[.pointer (some ⟨b, 0, none⟩), v] T (0, 0)) → (∃ a n c, v' = .slice a n c) →
  (storeCells ⟨b, 1, none⟩ [v']).run P w2 = .ok () w3 →
  Calls P f #[.pointer (some ⟨b, 0, none⟩), .string s] w fun r w' => r = .returned (.tuple #[.int .i64 s.size, .nilIface]) ∧ w' = w3
theorem ZbW {cs : Array Value} (h : cs.size = 2) : cs = #[cs.getD 0 undef, cs.getD 1 undef] := by
  apply Array.ext
  · simp [h]
  · intro i h1 h2
    have : i = 0 ∨ i = 1 := by omega
    rcases this with rfl | rfl <;> simp [Array.getD, h]
theorem HeapOK.nt {c : Ctx} {φ : Phi} {hp : List (Option Own)} {w : World} (h : HeapOK c φ hp w) (n : Nat) : HeapOK ⟨c.P, n, c.w0, c.A, c.W, c.gl, c.n0, c.φ0⟩ φ hp w :=
  ⟨h.os, h.tape, h.output, h.heap, h.frame, h.owned, h.apart, h.obj, h.amb, h.glob, h.len, h.mono⟩
theorem HeapOK.tn {c : Ctx} {φ : Phi} {hp : List (Option Own)} {w : World} {n : Nat} (h : HeapOK ⟨c.P, n, c.w0, c.A, c.W, c.gl, c.n0, c.φ0⟩ φ hp w) : HeapOK c φ hp w :=
  ⟨h.os, h.tape, h.output, h.heap, h.frame, h.owned, h.apart, h.obj, h.amb, h.glob, h.len, h.mono⟩
theorem Ql {f : FuncId} {R : Int → List AV} {x y : Operand} {T t u ty0 : TypeId} {e by_ r q n : Nat} {xs zs : List Int} {s : Str} {ts : Array TypeId} (hB : Zdu c.P f T t u ty0) (hcall : callable c.P f = true) (h : Opv c st x (.ptr r 1 0 0)) (hy : Opv c st y (.str s))
    (hut : tStr c.P u = true) (ht : tSl c.P t e 1 by_ = true) (hI : ∃ i, c.P.info? e = some i ∧ i.zero = some (.int .u8 0) ∧ i.size = 1 ∧ i.bytes = 1)
    (ho : nth st.hp r = some ⟨T, [[.bptr r 1, .own q n]]⟩) (hq : nth st.hp q = some ⟨e, xs.map R⟩) (hn : xs.length = n) (hR : ∀ z, R z = [.int .u8 z]) (hby : Nat.ble by_ 32768 = true) (hqr : Nat.beq q r = false) (hz : app xs (bytes s) = some zs) :
    WVal c ops st ⟨dst, .call { callee := .value (.func f), args := #[x, y], argTypes := ts }, ty, pos, after, none⟩ (.tuple [.int .i64 (s.length : Int), .lit .nilIface])
      (ZF (ZF st.hp q (some ⟨e, zs.map R⟩)) r (some ⟨T, [[.bptr r 1, .own q zs.length]]⟩)) := by
  intro φ a w hc
  refine ⟨rfl, ?_⟩
  have hO := hc.hok.obj r _ ho
  have hne : q ≠ r := Nat.ne_of_beq_eq_false hqr
  obtain ⟨b, hb, hx⟩ := Qb (h φ a w hc) (by rw [hO.len]; rfl)
  have hx : a.eval x = .pointer (some ⟨b, 0, none⟩) := by simpa using hx
  have hyv := hy.str hc
  have hcs2 : c.P.cellsOf T = 2 := by have := hO.rows [.bptr r 1, .own q n] (by simp); simpa using this.symm
  obtain ⟨cs, c1, c2, c3⟩ := hO.some b hb
  have r0 : RelF c.P w (Mut c.A φ st.hp) st.hp.length φ (.bptr r 1) (cs.getD 0 undef) := by have := c3.plain (i := 0) (j := 0) (by simp) (by rw [hcs2]; decide) rfl; simpa [cellAt] using this
  have r1 : RelF c.P w (Mut c.A φ st.hp) st.hp.length φ (.own q n) (cs.getD 1 undef) := by have := c3.plain (i := 0) (j := 1) (by simp) (by rw [hcs2]; decide) rfl; simpa [cellAt] using this
  obtain ⟨hmp, hcap, b', hb', hp⟩ := ZbZ r0 hO.len
  rw [hb] at hb'; cases hb'
  have c1 := c1.cells hmp
  rw [hcap, hcs2] at c2
  have hcs := ZbW (by simpa using c2)
  generalize cs.getD 0 undef = p at r0 hp hcs
  generalize cs.getD 1 undef = v at r1 hcs
  subst hcs
  -- its own address is put in
  have P1 : ∃ w1, (p = .pointer (some ⟨b, 0, none⟩) ∧ w1 = w ∨ p = .pointer none ∧ (storeCells ⟨b, 0, none⟩ [.pointer (some ⟨b, 0, none⟩)]).run c.P w = .ok () w1) ∧ HeapOK c φ st.hp w1 ∧
      (∀ av x, RelF c.P w (Mut c.A φ st.hp) st.hp.length φ av x → RelF c.P w1 (Mut c.A φ st.hp) st.hp.length φ av x) ∧ w1.heap[b]? = some (.cells #[.pointer (some ⟨b, 0, none⟩), v] T (0, 0)) := by
    rcases hp with rfl | rfl
    · obtain ⟨w1, g1, g2, g3⟩ := JY hc ho (n := 1) rfl (i := 0) (j := 0) (row := [.bptr r 1, .own q n]) rfl (l := [.bptr r 1]) (vs := [.pointer (some ⟨b, 0, none⟩)]) (row' := [.bptr r 1, .own q n]) (by simp) rfl
        (fun k hk => by obtain rfl : k = 0 := (by simpa using hk); exact ZdF (Qh ho) hO.len hmp hcap hb (.inr rfl)) (fun u hu => by rw [List.mem_singleton.1 hu]; rfl) rfl hb hmp
      have hs : ZF st.hp r (some (⟨T, [[.bptr r 1, .own q n]].set 0 [.bptr r 1, .own q n]⟩ : Own)) = st.hp := Zd9 ho
      rw [hs] at g2 g3
      simp only [Nat.zero_mul, Nat.zero_add] at g1
      refine ⟨w1, .inr ⟨rfl, g1⟩, g2, g3, ?_⟩
      have e1 := run_storeCells_at c.P b 0 T [.pointer (some ⟨b, 0, none⟩)] 0 #[.pointer none, v] w c1 (by simp) (fun u hu => by rw [List.mem_singleton.1 hu]; rfl)
      simp only [Nat.add_zero] at e1
      rw [g1] at e1
      injection e1 with _ e1
      rw [e1]
      exact setRow_heap w b _ _ T _ c1
    · exact ⟨w, .inl ⟨rfl, rfl⟩, hc.hok, fun _ _ h => h, c1⟩
  obtain ⟨w1, hp1, k1, k2, k3⟩ := P1
  -- the bytes go in
  have r1' := k2 _ _ r1
  have hQ := k1.obj q _ hq
  have hv := QO r1' (by rw [hQ.len]; simpa using hn)
  have hvm := QH r1' (by rw [hQ.len]; simpa using hn)
  obtain ⟨c', hc'⟩ : ∃ c' : Ctx, c' = ⟨c.P, 2, c.w0, c.A, c.W, c.gl, c.n0, c.φ0⟩ := ⟨_, rfl⟩
  have hcc : Conc ⟨c.P, 2, c.w0, c.A, c.W, c.gl, c.n0, c.φ0⟩ φ ⟨[(0, .own q n), (1, .str s)], st.hp⟩ { tmps := #[v, .string ⟨s.toArray⟩], defers := [] } w1 :=
    ⟨rfl, rfl, k1.nt 2, fun t av ht => by
      simp only [look] at ht
      split at ht
      · rename_i he
        have he := Nat.eq_of_beq_eq_true he
        subst he; cases ht
        exact r1'
      · split at ht
        · rename_i he
          have he := Nat.eq_of_beq_eq_true he
          subst he; cases ht
          exact Ze (.str _)
        · cases ht⟩
  obtain ⟨_, hwp⟩ := XC (c := ⟨c.P, 2, c.w0, c.A, c.W, c.gl, c.n0, c.φ0⟩) (ops := #[]) (st := ⟨[(0, .own q n), (1, .str s)], st.hp⟩) (dst := some 0) (ty := ty0) (pos := "") (after := #[]) (f := R) (x := .tmp 0) (y := .tmp 1)
    (fun φ a w hc => hc.tm 0 _ rfl) (fun φ a w hc => hc.tm 1 _ rfl) hut ht hq hn hR hby hz φ _ w1 hcc
  unfold Oper.wp at hwp
  have he : (execOp (Act.eval { tmps := #[v, .string ⟨s.toArray⟩], defers := [] }) ⟨some 0, .call { callee := .builtin .append, args := #[.tmp 0, .tmp 1], argTypes := #[t, u] }, ty0, "", #[], none⟩).run c.P w1 =
      ((Builtin.append_ #[t, u] ty0 #[v, .string ⟨s.toArray⟩]).run c.P w1).andThen fun v w => .ok (.value v) w := by
    simp [execOp, resolve, invoke, builtin, Act.eval]
  rw [he] at hwp
  have hap : ∃ v' w2 φ2, (Builtin.append_ #[t, u] ty0 #[v, .string ⟨s.toArray⟩]).run c.P w1 = .ok v' w2 ∧ HeapOK c φ2 (ZF st.hp q (some ⟨e, zs.map R⟩)) w2 ∧
      (∀ av x, RelF c.P w1 (Mut c.A φ st.hp) st.hp.length φ av x → RelF c.P w2 (Mut c.A φ2 (ZF st.hp q (some ⟨e, zs.map R⟩))) (ZF st.hp q (some ⟨e, zs.map R⟩)).length φ2 av x) ∧
      RelF c.P w2 (Mut c.A φ2 (ZF st.hp q (some ⟨e, zs.map R⟩))) (ZF st.hp q (some ⟨e, zs.map R⟩)).length φ2 (.own q zs.length) v' := by
    cases hrun : (Builtin.append_ #[t, u] ty0 #[v, .string ⟨s.toArray⟩]).run c.P w1 with
    | halt x w' => rw [hrun] at hwp; cases x <;> simp [Result.andThen, Oper.upon, noQ, LetsOut] at hwp
    | ok v' w2 =>
      rw [hrun] at hwp
      obtain ⟨u', φ2, e1, e2, e3, e4⟩ := hwp
      have : v' = u' := by
        have := congrArg (fun a : Act => a.tmps.getD 0 undef) e1
        simpa [Act.put] using this
      subst this
      exact ⟨v', w2, φ2, rfl, e2.tn, e3, e4⟩
  obtain ⟨v', w2, φ2, hrun, g4, g5, g6⟩ := hap
  have hbl : w2.heap[b]? = some (.cells #[.pointer (some ⟨b, 0, none⟩), v] T (0, 0)) := by
    obtain ⟨i, hi, hz0, hz1, hz2⟩ := hI
    obtain ⟨hu, _⟩ := tSl.spec ht
    have hbq : v.ownBlock ≠ some b := fun hbb => by
      rw [hv] at hbb
      cases hbk : (φ q).blk with
      | none => rw [hbk] at hbb; cases hbb
      | some g =>
        rw [hbk] at hbb
        have : g = b := by simpa [Value.ownBlock] using hbb
        subst this
        exact hne (k1.apart q r _ _ g hq ho (.inl hbk) (.inl hb))
    have hsl : (bytes s).length = s.length := by simp [bytes]
    have hle : n + s.length ≤ 4294967296 := by
      unfold app apz at hz
      split at hz
      · rename_i hle; rw [hsl, hn] at hle; omega
      · cases hz
    have hown : ∃ L, w1.ownsRow 0 e 1 v n L := by
      cases hbk : (φ q).blk with
      | none =>
        obtain ⟨h1, h2⟩ := hQ.none hbk
        have hn0 : n = 0 := by rw [← hn]; simpa using h1
        subst hn0
        exact ⟨[], rfl, .inl ⟨by rw [hv, hbk, h2]; rfl, rfl⟩⟩
      | some g =>
        obtain ⟨cs', d1, d2, _⟩ := hQ.some g hbk
        have d1 := d1.cells hvm
        have hroom := hQ.room
        have hcap63 := hQ.cap
        have he1 : c.P.cellsOf e = 1 := by obtain ⟨_, _, _, _, _, _, _, _, _, h⟩ := tSl.spec ht; exact h
        simp only [he1, Nat.mul_one, List.length_map, hn] at d2 hroom
        refine ⟨cs'.toList.take n, by simp; omega, .inr ⟨g, (φ q).cap, cs', by rw [hv, hbk]; rfl, Nat.zero_le _, d1, hroom, by simp only [maxLen]; omega, by omega, by simp⟩⟩
    obtain ⟨L, hown⟩ := hown
    obtain ⟨v2, w2', f1, _, f3, _⟩ := run_append_own_string (P := c.P) w1 0 t u ty0 e i hu (tStr.spec hut) hi hz0 hz1 hz2 v n L hown ⟨s.toArray⟩ (by simp only [maxLen, ByteArray.size, List.size_toArray]; omega) (by simp only [ByteArray.size, List.size_toArray]; omega) (Nat.zero_le _)
    rw [hrun] at f1
    injection f1 with _ f1
    subst f1
    rw [f3.block b (by have := (Array.getElem?_eq_some_iff.1 k3).1; exact this) (fun h => hbq h.symm)]
    exact k3
  -- and what holds them
  have ho2 : nth (ZF st.hp q (some ⟨e, zs.map R⟩)) r = some ⟨T, [[.bptr r 1, .own q n]]⟩ := by rw [Xo hq, if_neg (fun h => hne h.symm)]; exact ho
  have hO2 := g4.obj r _ ho2
  have hpt := g5 _ _ (k2 _ _ (h φ a w hc))
  rw [hx] at hpt
  obtain ⟨b2, hb2, hx2⟩ := Qb hpt (by rw [hO2.len]; rfl)
  have : b = b2 := by simpa using hx2
  subst this
  have hsl' : ∃ a n c, v' = .slice a n c := ⟨_, _, _, QO g6 (by have := (g4.obj q _ (by rw [Xo hq, if_pos rfl])).len; simpa using this)⟩
  have h1v : v'.oneCell' = true := by obtain ⟨_, _, _, h⟩ := hsl'; rw [h]; rfl
  have hc2 : Conc ⟨c.P, 0, c.w0, c.A, c.W, c.gl, c.n0, c.φ0⟩ φ2 ⟨[], ZF st.hp q (some ⟨e, zs.map R⟩)⟩ { tmps := #[], defers := [] } w2 := ⟨rfl, rfl, g4.nt 0, fun t av ht => by cases ht⟩
  obtain ⟨w3, s1, s2, s3⟩ := JY hc2 ho2 (n := 1) rfl (i := 0) (j := 1) (row := [.bptr r 1, .own q n]) rfl (l := [.own q zs.length]) (vs := [v']) (row' := [.bptr r 1, .own q zs.length]) (by simp) rfl
    (fun k hk => by obtain rfl : k = 0 := (by simpa using hk); exact g6) (fun u hu => by rw [List.mem_singleton.1 hu]; exact h1v) rfl hb2 (ZP hpt (by rw [hO2.len]; rfl))
  simp only [Nat.zero_mul, Nat.zero_add] at s1
  unfold Oper.wp
  have e : (execOp a.eval ⟨dst, .call { callee := .value (.func f), args := #[x, y], argTypes := ts }, ty, pos, after, none⟩).run c.P w = .ok (.enter f #[.pointer (some ⟨b, 0, none⟩), .string ⟨s.toArray⟩]) w := by
    have hf : a.eval (.func f) = .func (.func f) #[] #[] := rfl
    simp [execOp, resolve, Deferred.ofValue, invoke, QM hcall, hx, hyv, hf]
  rw [e]
  refine (hB b p v v' ⟨s.toArray⟩ w w1 w2 w3 c1 hp1 k3 hrun hbl hsl' s1).mono ?_
  rintro e w' ⟨rfl, rfl⟩
  refine ⟨_, φ2, rfl, s2.tn, fun av x hx => s3 _ _ (g5 _ _ (k2 _ _ hx)), Ze (.tuple _ _ rfl fun i hi => ?_)⟩
  have : i = 0 ∨ i = 1 := by simp at hi; omega
  rcases this with rfl | rfl
  · simp only [ByteArray.size, List.size_toArray]; exact .int _ _
  · exact .lit _
def Zgr (P : Program) (f : FuncId) (T e : TypeId) : Prop := ∀ (B b : Nat) (l : List UInt8) (w : World), Lib.IsBuilder T e B b (Lib.byteCells l) w → B ≤ w.heap.size → Calls P f #[.pointer (some ⟨b, 0, none⟩)] w fun r w' => r = .returned (.string ⟨l.toArray⟩) ∧ Below B w w'
def ZfF : AV → Bool
  | .int _ _ | .bool _ | .str _ => true
  | _ => false
def ofB (xs : List Int) : Option Str := if bytes (ZI xs) = xs then some (ZI xs) else none
theorem ZbU (s : Str) : ofB (bytes s) = some s := by
  have : ZI (bytes s) = s := by
    unfold ZI bytes
    rw [List.map_map]
    refine (List.map_congr_left fun b _ => ?_).trans (List.map_id s)
    simp
  unfold ofB
  rw [this, if_pos rfl]
theorem Zf4 {f : FuncId} {Rw : Int → List AV} {x : Operand} {T e : TypeId} {r q n d : Nat} {xs : List Int} {s : Str} {ts : Array TypeId} {rest : List Oper} {K : Exit → St → Prop} (hB : Zgr c.P f T e) (hcall : callable c.P f = true) (h : Opv c st x (.ptr r 1 0 0))
    (ho : nth st.hp r = some ⟨T, [[.bptr r 1, .own q n]]⟩) (hq : nth st.hp q = some ⟨e, xs.map Rw⟩) (hn : xs.length = n) (hR : ∀ z, Rw z = [.int .u8 z]) (he1 : c.P.cellsOf e = 1) (hqr : Nat.beq q r = false) (hW : c.W = []) (h0 : c.n0 = 0) (hd : Nat.blt d c.nt = true)
    (hs : ofB xs = some s) (tl : List Nat) (htl : ((restr st.tm tl).all fun p => ZfF p.2) = true) (k : Go.Vx.R c ops rest ⟨(d, .str s) :: restr st.tm tl, []⟩ K) :
    Go.Vx.R c ops (⟨some d, .call { callee := .value (.func f), args := #[x], argTypes := ts }, ty, pos, after, none⟩ :: rest) st K := by
  intro φ a w hc
  have hO := hc.hok.obj r _ ho
  have hQ := hc.hok.obj q _ hq
  have hne : q ≠ r := Nat.ne_of_beq_eq_false hqr
  obtain ⟨b, hb, hx⟩ := Qb (h φ a w hc) (by rw [hO.len]; rfl)
  have hx : a.eval x = .pointer (some ⟨b, 0, none⟩) := by simpa using hx
  have hcs2 : c.P.cellsOf T = 2 := by have := hO.rows [.bptr r 1, .own q n] (by simp); simpa using this.symm
  obtain ⟨cs, c1, c2, c3⟩ := hO.some b hb
  have r0 : RelF c.P w (Mut c.A φ st.hp) st.hp.length φ (.bptr r 1) (cs.getD 0 undef) := by have := c3.plain (i := 0) (j := 0) (by simp) (by rw [hcs2]; decide) rfl; simpa [cellAt] using this
  have r1 : RelF c.P w (Mut c.A φ st.hp) st.hp.length φ (.own q n) (cs.getD 1 undef) := by have := c3.plain (i := 0) (j := 1) (by simp) (by rw [hcs2]; decide) rfl; simpa [cellAt] using this
  obtain ⟨hmp, hcap, b', hb', hp⟩ := ZbZ r0 hO.len
  rw [hb] at hb'; cases hb'
  have c1 := c1.cells hmp
  rw [hcap, hcs2] at c2
  have hcs := ZbW (by simpa using c2)
  generalize cs.getD 0 undef = p at r0 hp hcs
  generalize cs.getD 1 undef = v at r1 hcs
  subst hcs
  have hv := QO r1 (by rw [hQ.len]; simpa using hn)
  have hvm := QH r1 (by rw [hQ.len]; simpa using hn)
  unfold ofB at hs
  split at hs
  · rename_i hbs
    cases hs
    have hst : ∀ {r' o b'}, nth st.hp r' = some o → (φ r').has b' → c.w0.heap.size ≤ b' := fun h1 h2 => by
      rcases (hc.hok.owned _ _ _ h1 h2).1 with h | h
      · rw [hW] at h; cases h
      · exact h
    have hlen : (ZI xs).length = n := by unfold ZI; rw [List.length_map, hn]
    have hown : w.ownsRow c.w0.heap.size e 1 v (byteCells (ZI xs)).length (byteCells (ZI xs)) := by
      rw [byteCells_length, hlen]
      refine ⟨by rw [byteCells_length, hlen, Nat.mul_one], ?_⟩
      cases hbk : (φ q).blk with
      | none =>
        obtain ⟨h1, h2⟩ := hQ.none hbk
        have hn0 : n = 0 := by rw [← hn]; simpa using h1
        exact .inl ⟨by rw [hv, hbk, h2, hn0]; rfl, hn0⟩
      | some g =>
        obtain ⟨cs', d1, d2, d3⟩ := hQ.some g hbk
        have d1 := d1.cells hvm
        have hroom := hQ.room
        have hcap63 := hQ.cap
        simp only [he1, Nat.mul_one, List.length_map, hn] at d2 hroom
        refine .inr ⟨g, (φ q).cap, cs', by rw [hv, hbk]; rfl, hst hq (.inl hbk), d1, hroom, by simp only [maxLen]; omega, by omega, ?_⟩
        rw [Nat.mul_one]
        apply List.ext_getElem?
        intro i
        rw [List.getElem?_take]
        by_cases hi : i < n
        · rw [if_pos hi]
          have hix : i < xs.length := by omega
          have hcell : cellAt (xs.map Rw) i 0 = .int .u8 xs[i] := by
            simp [cellAt, hix, hR]
          have d := d3.plain (i := i) (j := 0) (by simpa [hn] using hi) (by rw [he1]; decide) (by show noSub (cellAt (xs.map Rw) i 0) = true; rw [hcell]; rfl)
          have d : RelF c.P w (Mut c.A φ st.hp) st.hp.length φ (cellAt (xs.map Rw) i 0) (cs'.getD (i * c.P.cellsOf e + 0) undef) := d
          rw [hcell, he1, Nat.mul_one, Nat.add_zero] at d
          have d := X2 d
          have e1 : cs'.toList[i]? = some (cs'.getD i undef) := by
            rw [Array.getElem?_toList]
            simp [Array.getD, show i < cs'.size by omega]
          rw [e1, d]
          unfold byteCells
          rw [List.getElem?_map]
          have e2 : (bytes (ZI xs))[i]? = some xs[i] := by rw [hbs]; exact List.getElem?_eq_getElem hix
          unfold bytes at e2
          rw [List.getElem?_map] at e2
          obtain ⟨z, z1, z2⟩ := Option.map_eq_some_iff.1 e2
          rw [z1, Option.map_some, z2]
        · rw [if_neg hi, List.getElem?_eq_none (by rw [byteCells_length, hlen]; omega)]
    have hvb : v.ownBlock ≠ some b := fun hbb => by
      rw [hv] at hbb
      cases hbk : (φ q).blk with
      | none => rw [hbk] at hbb; cases hbb
      | some g =>
        rw [hbk] at hbb
        have : g = b := by simpa [Value.ownBlock] using hbb
        subst this
        exact hne (hc.hok.apart q r _ _ g hq ho (.inl hbk) (.inl hb))
    have hAt : BuilderAt T e c.w0.heap.size b p (byteCells (ZI xs)) w := ⟨hst ho (.inl hb), v, c1, hown, hvb⟩
    have hIs : IsBuilder T e c.w0.heap.size b (byteCells (ZI xs)) w := by
      rcases hp with rfl | rfl
      · exact .inl hAt
      · exact .inr hAt
    have hcalls := hB c.w0.heap.size b (ZI xs) w hIs hc.hok.heap
    unfold wpList
    rw [if_pos (Qo rfl)]
    refine .inl ?_
    unfold Oper.wp
    have e : (execOp a.eval ⟨some d, .call { callee := .value (.func f), args := #[x], argTypes := ts }, ty, pos, after, none⟩).run c.P w = .ok (.enter f #[.pointer (some ⟨b, 0, none⟩)]) w := by
      have hf : a.eval (.func f) = .func (.func f) #[] #[] := rfl
      simp [execOp, resolve, Deferred.ofValue, invoke, QM hcall, hx, hf]
    rw [e]
    refine hcalls.mono ?_
    rintro e w' ⟨rfl, hbw⟩
    refine k φ _ w' ⟨?_, ?_, ⟨hbw.os.trans hc.hok.os, hbw.tape.trans hc.hok.tape, hbw.output.trans hc.hok.output, Nat.le_trans hc.hok.heap hbw.size, fun b hb hnb => (hbw.block b hb).trans (hc.hok.frame b hb hnb), (fun r o b h => by cases h), (fun r r' o o' b h => by cases h), (fun r o h => by cases h),
      hc.hok.amb, hc.hok.glob, (by rw [h0]; exact Nat.zero_le _), (fun r hr => by rw [h0] at hr; omega)⟩, ?_⟩
    · rw [ZbS]; exact hc.size
    · rw [ZaP]; exact hc.defers
    · have hd' : d < c.nt := by simpa [Nat.blt_eq] using hd
      refine Ze0 (R := fun av v => RelF c.P w' (Mut c.A φ []) 0 φ av v) hc.size (fun t av ht => ?_) hd' (Ze (.str _))
      have hsc : ZfF av = true := by
        have : (t, av) ∈ restr st.tm tl := Zei ht
        exact List.all_eq_true.1 htl _ this
      have h1 := hc.tm t av (Zbo ht)
      cases av with
      | int kk z => rw [X2 h1]; exact Ze (.int _ _)
      | bool z => rw [JL h1]; exact Ze (.bool _)
      | str z => rw [Zc0 h1]; exact Ze (.str _)
      | _ => cases hsc
  · cases hs
end bld
section walk
open Go.Proofs Go.Shelf
variable {P : Program} {ρ : Ren}
theorem ZfM (X : Builder.Extra P ρ) : ∃ i, P.info? (ρ.t 5) = some i ∧ i.zero = some (.int .u8 0) ∧ i.size = 1 ∧ i.bytes = 1 := info_parts X.infoByte
theorem JV {w : World} {b j : Nat} {v x : Value} {cs : Array Value} {e : TypeId} {w' : World} (hb : w.heap[b]? = some (.cells cs e (0, 0))) (hj : j < cs.size) (h1 : v.oneCell' = true) (h : (storeCells ⟨b, j, none⟩ [v]).run P w = .ok () w') : w' = w.setCell ⟨b, j, none⟩ v := by
  have e1 := run_storeCells_at P b j e [v] 0 cs w hb (by simp; omega) (fun u hu => by rw [List.mem_singleton.1 hu]; exact h1)
  simp only [Nat.add_zero] at e1
  rw [h] at e1
  injection e1 with _ e1
  rw [e1, setCell_eq_setRow w b j cs e (0, 0) v hb]
  congr 1
  apply Array.ext'
  rw [Array.toList_setIfInBounds, List.set_eq_take_append_cons_drop, if_pos (by simpa using hj)]
  simp
set_option maxHeartbeats 2000000 in
set_option maxRecDepth 100000 in
theorem Zfp (L : Lays.n166 P ρ) (X : Builder.Extra P ρ) : Zdu P (ρ.f 166) (ρ.t 72) (ρ.t 37) (ρ.t 9) (ρ.t 37) := by
  intro b p v v' s w w1 w2 w3 hbk hp hk hrun hb2 h1 hst
  obtain ⟨i0, hi, hz0, hz1, hz2⟩ := info_parts X.infoByte
  have mixed := L.mixed
  have t72 := L.t72; have a72 := L.a72; have z72 := L.z72; have v72 := L.v72; have u72 := run_underlying L.t72
  have t70 := L.t70; have a70 := L.a70; have z70 := L.z70; have v70 := L.v70; have u70 := run_underlying L.t70
  have t37 := L.t37; have a37 := L.a37; have z37 := L.z37; have v37 := L.v37; have u37 := run_underlying L.t37
  have t3 := L.t3; have a3 := L.a3; have z3 := L.z3; have v3 := L.v3; have u3 := run_underlying L.t3
  have t9 := L.t9; have a9 := L.a9; have z9 := L.z9; have v9 := L.v9; have u9 := run_underlying L.t9
  have t4 := L.t4; have a4 := L.a4; have z4 := L.z4; have v4 := L.v4; have u4 := run_underlying L.t4
  have t164 := L.t164; have a164 := L.a164; have z164 := L.z164; have v164 := L.v164; have u164 := run_underlying L.t164
  have t5 := X.t5; have a5 := X.a5; have z5 := X.z5; have v5 := X.v5; have u5 := run_underlying X.t5
  have e240 : ∀ args w, (callFunc (ρ.f 240) args).run P w = .ok (.enter (ρ.f 240) args) w := enters_of L.f240 (by kernel_rfl) rfl
  have hk0 : w1.cell? ⟨b, 0, none⟩ = some (.pointer (some ⟨b, 0, none⟩)) := by rw [Lib.cell_of_heap hk]; rfl
  have hk1 : w1.cell? ⟨b, 1, none⟩ = some v := by rw [Lib.cell_of_heap hk]; rfl
  have d0 : w2.cell? ⟨b, 0, none⟩ = some (.pointer (some ⟨b, 0, none⟩)) := by rw [Lib.cell_of_heap hb2]; rfl
  have d1 : w2.cell? ⟨b, 1, none⟩ = some v := by rw [Lib.cell_of_heap hb2]; rfl
  have f1 : w2.frozen? ⟨b, 1, none⟩ = false := Lib.frozen_of_heap hb2 1
  obtain ⟨ao, n', cap, rfl⟩ := h1
  have hw3 := JV (x := v) hb2 (by simp) rfl hst
  have hcc : Calls P (ρ.f 240) #[.pointer (some ⟨b, 0, none⟩)] w fun e w' => e = .returned (.tuple #[]) ∧ w' = w1 := by
    rcases hp with ⟨rfl, rfl⟩ | ⟨rfl, hs1⟩
    · exact Any.Builder_copyCheck_used { L with } X.toX72 b _ hk0
    · refine (Any.Builder_copyCheck_fresh { L with } X.toX72 b w (by rw [Lib.cell_of_heap hbk]; rfl) (by simp [World.shape?, hbk]) (Lib.frozen_of_heap hbk 0)).mono ?_
      rintro e w' ⟨rfl, rfl⟩
      exact ⟨rfl, (JV (x := v) hbk (by simp) rfl hs1).symm⟩
  go_enter L.f166, Body.n166_ntmps ρ
  go_wp2_with (go_at_fn (ρ.f 240); refine hcc.mono ?_)
  rintro e w1' ⟨rfl, rfl⟩
  go_wp2_with (at_builtin; refine Go.Lib.wpList_append_run _ rfl _ _ _ _ rfl _ _ rfl rfl _ _ hrun ?_)
  go_wp2
  go_ret2
  exact ⟨rfl, hw3.symm⟩
end walk
end Go.Vx
