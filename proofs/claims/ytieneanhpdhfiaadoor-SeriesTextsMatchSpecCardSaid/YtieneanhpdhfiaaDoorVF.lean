/- A text of the proof: a verified executor of the program form, or the contracts of the functions that the law reaches. -/
import Derived.Test.YtieneanhpdhfiaaDoorVE
import Derived.Lib.AppendStr
set_option linter.all false
namespace Go.Vx
open Go Go.RowKit Go.Lib
def bytes (s : Str) : List Int := s.map fun b => (b.toNat : Int)
def ZI (l : List Int) : Str := l.map fun z => UInt8.ofNat z.toNat
section ops
variable {c : Ctx} {ops : Array Oper} {st : St} {dst : Option Tmp} {ty : TypeId} {pos : String} {after : Array Edge}
theorem Zcz {x y : Operand} {t u e sz by_ r n m : Nat} {o : Own} {s : Str} {ys : List (List AV)} (h : Opv c st x (.own r n)) (hy : Opv c st y (.str s)) (hut : tStr c.P u = true) (hsz1 : sz = 1) (hys : ys = s.map fun b => [.int .u8 (b.toNat : Int)]) (ht : tSl c.P t e sz by_ = true)
    (ho : nth st.hp r = some o) (hn : o.es.length = n) (he : o.elem = e) (hm : ys.length = m) (hpos : 0 < m) (hb : (n + m) * by_ ≤ 140737488355328) (h63 : n + m < 2 ^ 63) :
    WVal c ops st ⟨dst, .call { callee := .builtin .append, args := #[x, y], argTypes := #[t, u] }, ty, pos, after, none⟩ (.own r (n + m)) (ZF st.hp r (some ⟨e, o.es ++ ys⟩)) := by
  subst he
  refine .run rfl fun φ a w hc => ?_
  obtain ⟨hu, inf, z, hi, hs, hby, hn0, hz, hzs, hcs⟩ := tSl.spec ht
  have hO := hc.hok.obj r o ho
  have hx := QO (h φ a w hc) (by rw [hO.len, hn])
  have huu := tStr.spec hut
  have hyv := hy.str hc
  have hlen : (ByteArray.mk s.toArray).size = s.length := by simp [ByteArray.size]
  have hms : s.length = m := by rw [← hm, hys]; simp
  have hyr : ∀ row ∈ ys, row.length = sz := fun row hr => by rw [hys] at hr; obtain ⟨b, _, rfl⟩ := List.mem_map.1 hr; rw [hsz1]; rfl
  obtain ⟨news, hnews⟩ : ∃ news, news = strCells (ByteArray.mk s.toArray) := ⟨_, rfl⟩
  have hnl : news.length = m * sz := by rw [hnews, strCells_length, hlen, hms, hsz1, Nat.mul_one]
  have hnd : ∀ i, i < m → news.getD i undef = .int .u8 ((s.getD i 0).toNat : Int) := fun i hi => by
    rw [hnews]; simp [strCells, List.getD_eq_getElem?_getD, show i < s.length by omega]
  obtain ⟨us, hus⟩ : ∃ us : Nat → Nat → Value, us = fun i _ => .int .u8 ((s.getD i 0).toNat : Int) := ⟨_, rfl⟩
  have hn2 : ∀ i j, i < ys.length → j < sz → news.getD (i * sz + j) undef = us i j := fun i j hi hj => by
    have : j = 0 := by omega
    subst this
    rw [hsz1, Nat.mul_one, Nat.add_zero, hus, hnd i (by omega)]
  have hc2 : ∀ i j, i < ys.length → j < sz → RelF c.P w (Mut c.A φ st.hp) st.hp.length φ (cellAt ys i j) (us i j) := fun i j hi hj => by
    have : j = 0 := by omega
    subst this
    have hi' : i < s.length := by omega
    have : cellAt ys i 0 = .int .u8 ((s.getD i 0).toNat : Int) := by rw [hys]; simp [cellAt, List.getD_eq_getElem?_getD, hi']
    rw [this, hus]
    exact Ze (.int _ _)
  have hmp := QH (h φ a w hc) (by rw [hO.len, hn])
  have h2n : (o.es ++ ys).length = n + m := by simp [hn, hm]
  have hrl : r < st.hp.length := Qh ho
  -- whatever has come of it
  have fin : ∀ (w' : World) (L : Loc) (g : Nat) (cs : Array Value), w'.os = w.os → w'.tape = w.tape → w'.output = w.output → w.heap.size ≤ w'.heap.size →
      (∀ b, b < w.heap.size → (φ r).blk ≠ some b → w'.heap[b]? = w.heap[b]?) → (L.blk = (φ r).blk ∨ w.heap.size ≤ g) → L.blk = some g → L.n = n + m → L.sz = sz → L.cap < 2 ^ 63 → n + m ≤ L.cap → L.mp = false → L.sub = (φ r).sub →
      w'.heap[g]? = some (.cells cs o.elem (0, 0)) → cs.size = L.cap * sz → (∀ i j, i < n → j < sz → ∃ b csO, (φ r).blk = some b ∧ w.heap[b]? = some (.cells csO o.elem (0, 0)) ∧ cs.getD (i * sz + j) undef = csO.getD (i * sz + j) undef) →
      (∀ i j, i < m → j < sz → cs.getD ((n + i) * sz + j) undef = us i j) →
      ∃ φ', HeapOK c φ' (ZF st.hp r (some ⟨o.elem, o.es ++ ys⟩)) w' ∧
      (∀ av x, RelF c.P w (Mut c.A φ st.hp) st.hp.length φ av x → RelF c.P w' (Mut c.A φ' (ZF st.hp r (some ⟨o.elem, o.es ++ ys⟩))) (ZF st.hp r (some ⟨o.elem, o.es ++ ys⟩)).length φ' av x) ∧
      RelF c.P w' (Mut c.A φ' (ZF st.hp r (some ⟨o.elem, o.es ++ ys⟩))) (ZF st.hp r (some ⟨o.elem, o.es ++ ys⟩)).length φ' (.own r (n + m)) (.slice (some ⟨g, 0, none⟩) (n + m) L.cap) := by
    intro w' L g cs hos htp hou hsz hblk hLb hLg hLn hLs hLc hLr hLm hLu hg hcsz hold hnew
    have hgs : ¬ (φ r).sub g := fun hs => by
      rcases hLb with h | h
      · exact hO.subn g (by rw [← h]; exact hLg) hs
      · have := hO.subl g hs; omega
    have hupd := XN (L := L) (o' := ⟨o.elem, o.es ++ ys⟩) (w' := w') hc.hok ho hos htp hou hsz hblk (by
        rcases hLb with h | h
        · exact .inl h
        · exact .inr fun b hb => by rw [hLg] at hb; cases hb; exact h) (.inr (by rw [hO.len, hn, hLn]; omega)) (fun htr => by
      refine ⟨by simp only [if_true, hLn, h2n], by simp [hLs, hcs], ?_, by simp [hn, hm]; exact hLr, by simpa using hLc, (fun h => by simp [hLg] at h), (by simp only [if_true, hLu]; exact fun b hb => Nat.lt_of_lt_of_le (hO.subl b hb) hsz), (by simp only [if_true, hLu, hLg]; rintro b hb; cases hb; exact hgs), fun b' hb' => ?_⟩
      · intro row hrow
        rcases List.mem_append.1 hrow with hrow | hrow
        · exact hO.rows row hrow
        · rw [hcs]; exact hyr row hrow
      · simp only [if_true, hLg] at hb'
        cases hb'
        have hT : ∃ T : Nat → Nat → Nat → Prop, (∀ i j b, T i j b → (φ r).sub b) ∧ (∀ i j i' j' b, T i j b → T i' j' b → i = i' ∧ j = j') ∧ ∀ i j, i < n → j < sz → ∀ b0 csO, (φ r).blk = some b0 → w.heap[b0]? = some (.cells csO o.elem (0, 0)) →
            TRel c.P w (Mut c.A φ st.hp) st.hp.length φ (T i j) (cellAt o.es i j) (csO.getD (i * sz + j) undef) := by
          cases hbk : (φ r).blk with
          | none => exact ⟨fun _ _ _ => False, fun _ _ _ h => h.elim, fun _ _ _ _ _ h => h.elim, fun i j _ _ b0 csO h => by cases h⟩
          | some b0 =>
            obtain ⟨cs2, g1, g2, T, t1, t2, g3⟩ := hO.some b0 hbk
            refine ⟨T, t1, t2, fun i j hi hj b1 csO hb1 hgO => ?_⟩
            cases hb1
            have g1 := g1.cells hmp
            rw [hgO] at g1; cases g1
            have := g3 i j (by rw [hn]; exact hi) (by rw [hcs]; exact hj)
            rwa [hcs] at this
        obtain ⟨T, t1, t2, g3⟩ := hT
        refine ⟨cs, (by simp only [if_true, hLm]; exact hg), by simp [hcsz, hcs], fun i j x => T i j x ∧ i < n, (fun i j x hx => by simp only [if_true, hLu]; exact t1 i j x hx.1), (fun i1 j1 i2 j2 x hx hy => t2 i1 j1 i2 j2 x hx.1 hy.1), fun i j hi' hj' => ?_⟩
        simp only [hcs] at hj' ⊢
        by_cases hin : i < n
        · obtain ⟨b0, csO, hb0, hgO, hvO⟩ := hold i j hin hj'
          rw [hvO, XL (by rw [hn]; exact hin)]
          exact ((g3 i j hin hj' b0 csO hb0 hgO).tr (fun x hx => hblk x (hO.subl x (t1 i j x hx)) (fun e => hO.subn x e (t1 i j x hx))) htr).sub fun x hx => ⟨hx, hin⟩
        · rw [Xx (by rw [hn]; omega), hn]
          have hlt : i - n < m := by simp [hn, hm] at hi'; omega
          have e := hnew (i - n) j hlt hj'
          rw [show n + (i - n) = i by omega] at e
          rw [e]
          exact .leaf (htr _ _ (hc2 (i - n) j (by rw [hm]; exact hlt) hj'))) (by exact hLu)
    refine ⟨_, hupd.1, hupd.2, fun φ' hφ => ?_⟩
    have e : φ' r = L := by
      have := hφ r (by rw [XY]; exact hrl)
      simpa using this
    exact .own r (n + m) _ rfl (by rw [e, hLn]; exact Nat.le_refl _) fun _ => by rw [e, hLg]; exact ⟨hLm, rfl⟩
  have hml : n + m ≤ maxLen := by simp only [maxLen]; omega
  cases hbk : (φ r).blk with
  | none =>
    obtain ⟨hes, hcap⟩ := hO.none hbk
    have hn' : n = 0 := by rw [← hn, hes]; rfl
    subst hn'
    rw [hbk, hcap] at hx
    have hr := run_append_nil_string (P := c.P) w t u ty o.elem inf z hu huu hi hz ⟨s.toArray⟩ (by omega) (by rw [hlen]; omega) (by rw [hby, hlen]; simp at hb; rw [hms]; omega)
    rw [hlen, hms, show (ByteArray.mk s.toArray).data.map (fun b => Value.int .u8 (b.toNat : Int)) = news.toArray by rw [hnews]; apply Array.ext'; simp [strCells]] at hr
    obtain ⟨φ', g1, g2, g3⟩ := fin (w.drew.alloc (.cells (news.toArray ++ Builtin.zeroCells z.cells (grownCap w m 0 o.elem - m)) o.elem)) ⟨some w.heap.size, grownCap w m 0 o.elem, 0 + m, sz, false, (φ r).sub⟩ w.heap.size (news.toArray ++ Builtin.zeroCells z.cells (grownCap w m 0 o.elem - m)) rfl rfl rfl (by simp) (fun b' hlt _ => heap_alloc_old w.drew _ b' hlt) (.inr (Nat.le_refl _)) rfl rfl rfl
      (by have := grownCap_le_maxLen w m 0 o.elem (by simpa using hml); simp only [maxLen] at this; show grownCap w m 0 o.elem < 2 ^ 63; omega) (by simpa using grownCap_ge w m 0 o.elem) rfl rfl
      (heap_alloc_new w.drew _) (by
        have hge := grownCap_ge w m 0 o.elem
        simp only [Array.size_append, List.size_toArray, size_zeroCells, hzs, hnl, ← Nat.add_mul]
        congr 1; omega) (fun i j hi' _ => absurd hi' (by omega)) (fun i j hi' hj' => by
        rw [← hn2 i j (by rw [hm]; exact hi') hj']
        have : i * sz + j < news.length := by rw [hnl]; exact Q3 hi' hj'
        simp [Array.getD_eq_getD_getElem?, List.getD_eq_getElem?_getD, Array.getElem?_append, this])
    refine ⟨_, _, φ', ?_, g1, g2, g3⟩
    simp [execOp, resolve, invoke, builtin, hx, hyv, hr]
  | some g =>
    obtain ⟨cs, h4, h5, _⟩ := hO.some g hbk
    have h4 := h4.cells hmp
    rw [hcs] at h5
    have hroom := hO.room
    have hcap63 := hO.cap
    rw [hbk] at hx
    simp only [Option.map_some] at hx
    by_cases hfit : n + m ≤ (φ r).cap
    · have hbnd : n * sz + news.length ≤ cs.size := by
        rw [hnl, h5, ← Nat.add_mul]; exact Nat.mul_le_mul_right _ hfit
      have hr := run_append_room_string (P := c.P) w t u ty o.elem inf hu huu hi (by rw [hs, hsz1]) g n (φ r).cap cs h4 ⟨s.toArray⟩ (by rw [hlen, hms]; exact hfit) (by rw [hlen, hms]; have := hbnd; rw [hnl, hsz1, Nat.mul_one, Nat.mul_one] at this; exact this)
      rw [← hnews, hlen, hms, show n + m = n * sz + news.length by rw [hnl, hsz1, Nat.mul_one, Nat.mul_one]] at hr
      rw [show cs.toList.take n = cs.toList.take (n * sz) by rw [hsz1, Nat.mul_one]] at hr
      obtain ⟨φ', g1, g2, g3⟩ := fin (w.setRow g (cs.toList.take (n * sz) ++ news ++ cs.toList.drop (n * sz + news.length)).toArray) ⟨some g, (φ r).cap, n + m, sz, false, (φ r).sub⟩ g (cs.toList.take (n * sz) ++ news ++ cs.toList.drop (n * sz + news.length)).toArray rfl rfl rfl (by simp) (fun b' _ hne => setRow_other w g b' _ (fun e => hne (by rw [hbk, e]))) (.inl hbk.symm) rfl rfl rfl hcap63 hfit rfl rfl
        (setRow_heap w g cs _ o.elem _ h4) (by simp; omega) (fun i j hi' hj' => ⟨g, cs, hbk, h4, by
          have : i * sz + j < n * sz := Q3 hi' hj'
          rw [QK cs news _ _ hbnd, if_pos this]⟩) (fun i j hi' hj' => by
          rw [← hn2 i j (by rw [hm]; exact hi') hj']
          have h7 : i * sz + j < news.length := by rw [hnl]; exact Q3 hi' hj'
          rw [QK cs news _ _ hbnd, Nat.add_mul, if_neg (by omega), if_pos (by omega)]
          congr 1; omega)
      refine ⟨_, _, φ', ?_, g1, g2, g3⟩
      simp [execOp, resolve, invoke, builtin, hx, hyv, hr]
      first | done | (rw [hnl, hsz1]; omega)
    · obtain ⟨olds, holdl, holds, holdv⟩ : ∃ olds : List Value, olds.length = n * sz ∧ (∀ j u, olds[j]? = some u → w.cell? ((⟨g, 0, none⟩ : Addr).add j) = some u) ∧ (∀ k, k < n * sz → olds.getD k undef = cs.getD k undef) := by
        refine ⟨cs.toList.take (n * sz), ?_, fun j u hu' => ?_, fun k hk => ?_⟩
        · have : n * sz ≤ cs.size := by rw [h5]; exact Nat.mul_le_mul_right _ (by omega)
          simp; omega
        · rw [Xm, Nat.zero_add, Zn h4]
          rw [List.getElem?_take] at hu'
          split at hu'
          · simpa using hu'
          · cases hu'
        · rw [List.getD_eq_getElem?_getD, List.getElem?_take, if_pos hk]
          simp [Array.getD_eq_getD_getElem?]
      have hr := run_append_grow_string (P := c.P) w t u ty o.elem inf z hu huu hi hz ⟨g, 0, none⟩ n (φ r).cap olds (by rw [holdl, hs]) holds ⟨s.toArray⟩ (by rw [hlen, hms]; omega) (by rw [hlen, hms]; omega) (by rw [hlen, hms]; exact growslice_fits (by omega) (by rw [hby]; exact hb))
      rw [← hnews, hlen, hms] at hr
      obtain ⟨φ', g1, g2, g3⟩ := fin (w.drew.alloc (.cells (olds.toArray ++ news.toArray ++ Builtin.zeroCells z.cells (grownCap w (n + m) (φ r).cap o.elem - (n + m))) o.elem)) ⟨some w.heap.size, grownCap w (n + m) (φ r).cap o.elem, n + m, sz, false, (φ r).sub⟩ w.heap.size (olds.toArray ++ news.toArray ++ Builtin.zeroCells z.cells (grownCap w (n + m) (φ r).cap o.elem - (n + m))) rfl rfl rfl (by simp) (fun b' hlt _ => heap_alloc_old w.drew _ b' hlt) (.inr (Nat.le_refl _)) rfl rfl rfl
        (by have := grownCap_le_maxLen w (n + m) (φ r).cap o.elem hml; simp only [maxLen] at this; show grownCap w (n + m) (φ r).cap o.elem < 2 ^ 63; omega) (grownCap_ge w (n + m) (φ r).cap o.elem) rfl rfl
        (heap_alloc_new w.drew _) (by
          have hge := grownCap_ge w (n + m) (φ r).cap o.elem
          rw [Array.size_append, Array.size_append, List.size_toArray, List.size_toArray, size_zeroCells, hzs, hnl, holdl, ← Nat.add_mul, ← Nat.add_mul, Nat.add_sub_cancel' hge]) (fun i j hi' hj' => ⟨g, cs, hbk, h4, by
          have h8 : i * sz + j < n * sz := Q3 hi' hj'
          rw [← holdv _ h8]
          rw [Zau, holdl, if_pos h8]⟩) (fun i j hi' hj' => by
          rw [← hn2 i j (by rw [hm]; exact hi') hj']
          have h7 : i * sz + j < news.length := by rw [hnl]; exact Q3 hi' hj'
          have h8 : ¬ ((n + i) * sz + j < n * sz) := by rw [Nat.add_mul]; omega
          have h9 : (n + i) * sz + j - n * sz = i * sz + j := by rw [Nat.add_mul]; omega
          rw [Zau, holdl, if_neg h8, if_pos (by rw [Nat.add_mul]; omega), h9])
      refine ⟨_, _, φ', ?_, g1, g2, g3⟩
      simp [execOp, resolve, invoke, builtin, hx, hyv, hr]
end ops
end Go.Vx
