/- A text of the proof: a verified executor of the program form, or the contracts of the functions that the law reaches. -/
import Derived.Test.YtjjlfkjacmhcmaaVU
import Derived.Maps.RangeRun
set_option linter.all false
namespace Go.Vx
open Go Go.RowKit
open Go.ChangeMaps (setBlock)

section fold
variable {α σ : Type}
def ZbH (step : α → σ → Option σ) : List α → σ → Option σ
  | [], s => some s
  | x :: l, s => (step x s).bind (ZbH step l)
theorem ZdT {step : α → σ → Option σ} : ∀ (a b : List α) (s : σ), ZbH step (a ++ b) s = (ZbH step a s).bind (ZbH step b)
  | [], _, _ => rfl
  | x :: a, b, s => by
    simp only [List.cons_append, ZbH, Option.bind_assoc]
    congr 1; funext s'; exact ZdT a b s'
theorem Zgz {step : α → σ → Option σ} (hc : ∀ x y s, (step x s).bind (step y) = (step y s).bind (step x)) {a b : List α} (h : a.Perm b) : ∀ s, ZbH step a s = ZbH step b s := by
  induction h with
  | nil => intro s; rfl
  | cons x _ ih => intro s; simp only [ZbH]; congr 1; funext s'; exact ih s'
  | swap x y l =>
    intro s
    simp only [ZbH, ← Option.bind_assoc]
    rw [hc]
  | trans _ _ h1 h2 => intro s; rw [h1, h2]
end fold

theorem RelF.less {P : Program} {w : World} {M M' : Nat → Prop} {n : Nat} {φ : Phi} {av : AV} {x : Value} (h : RelF P w M n φ av x) (hm : ∀ b, M' b → M b) : RelF P w M' n φ av x :=
  fun ψ hψ => (h ψ hψ).mono (Nat.le_refl _) (fun _ _ _ => rfl) (fun b _ h1 h2 => h1 (hm b h2))
theorem HRel.toW {P : Program} {w w' : World} {M M' : Nat → Prop} {n : Nat} {φ : Phi} {r : Nat} {o : Own} (h : HRel P w M n φ r o) (hsz : w.heap.size ≤ w'.heap.size) (hb : ∀ b, (φ r).has b → w'.heap[b]? = w.heap[b]?)
    (hr : ∀ av x, RelF P w M n φ av x → RelF P w' M' n φ av x) : HRel P w' M' n φ r o := by
  refine ⟨h.len, h.sz, h.rows, h.room, h.cap, h.none, fun b hs => Nat.lt_of_lt_of_le (h.subl b hs) hsz, h.subn, fun b hbk => ?_⟩
  obtain ⟨cs, h1, h2, h3⟩ := h.some b hbk
  exact ⟨cs, h1.congr (hb b (.inl hbk)), h2, h3.tr (fun x hx => hb x (.inr hx)) hr⟩

open Classical in
noncomputable def Zfh (φ : Phi) (hp : List (Option Own)) (w : World) : List Nat := (List.range w.heap.size).filter fun b => decide (∃ r o, nth hp r = some o ∧ (φ r).has b)
theorem Zbi {φ : Phi} {hp : List (Option Own)} {w : World} {b : Nat} : b ∈ Zfh φ hp w ↔ b < w.heap.size ∧ ∃ r o, nth hp r = some o ∧ (φ r).has b := by
  simp only [Zfh, List.mem_filter, List.mem_range, decide_eq_true_eq]

noncomputable def cxN (c : Ctx) (A' : Nat → Prop) (φ : Phi) (hp : List (Option Own)) (w : World) : Ctx := ⟨c.P, c.nt, w, A', Zfh φ hp w, c.gl, hp.length, φ⟩

theorem mkD {c : Ctx} {φ : Phi} {hp : List (Option Own)} {w w' : World} {A' : Nat → Prop} (h : HeapOK c φ hp w) (hA' : ∀ b, A' b → b < w'.heap.size ∧ ∀ r o, nth hp r = some o → ¬ (φ r).has b) (hsz : w.heap.size ≤ w'.heap.size)
    (hown : ∀ r o b, nth hp r = some o → (φ r).has b → w'.heap[b]? = w.heap[b]?) (hrel : ∀ av x, RelF c.P w (Mut c.A φ hp) hp.length φ av x → RelF c.P w' (Mut A' φ hp) hp.length φ av x)
    (hg : c.gl.n ≤ w'.heap.size) (hgt : ∀ p ∈ c.gl.tabs, p.1 < c.gl.n ∧ (∃ e fr, w'.heap[p.1]? = some (.cells p.2 e fr)) ∧ ¬ A' p.1) (hgW : ∀ r o b, nth hp r = some o → (φ r).has b → c.gl.n ≤ b) :
    HeapOK (cxN c A' φ hp w') φ hp w' := by
  refine ⟨rfl, rfl, rfl, Nat.le_refl _, fun _ _ _ => rfl, fun r o b hr hb => ⟨.inl (Zbi.2 ⟨?_, r, o, hr, hb⟩), fun ha => (hA' b ha).2 r o hr hb⟩, fun r r' o o' b h1 h2 h3 h4 => h.apart r r' o o' b h1 h2 h3 h4, fun r o hr => ?_, fun b hb => ⟨(hA' b hb).1, fun hw => ?_⟩, ⟨hg, fun b hb => ?_, hgt⟩, Nat.le_refl _, fun r _ => .inl (.refl _)⟩
  · exact Nat.lt_of_lt_of_le ((h.obj r o hr).has_lt hb) hsz
  · exact (h.obj r o hr).toW hsz (fun b hb => hown r o b hr hb) hrel
  · obtain ⟨_, r, o, hr, h2⟩ := Zbi.1 hw
    exact (hA' b hb).2 r o hr h2
  · obtain ⟨_, r, o, hr, h2⟩ := Zbi.1 hb
    exact hgW r o b hr h2

theorem toC {c D : Ctx} {φ φ' : Phi} {hp hp' : List (Option Own)} {w w' : World} {bi : Nat} (h : HeapOK c φ hp w) (hP : D.P = c.P) (hA : ∀ b, c.A b → D.A b) (d : HeapOK D φ' hp' w') (hbi : c.w0.heap.size ≤ bi)
    (hos : w'.os = w.os) (htp : w'.tape = w.tape) (hou : w'.output = w.output) (hsz : w.heap.size ≤ w'.heap.size)
    (hfr : ∀ b, b < w.heap.size → b ≠ bi → (∀ r o, nth hp r = some o → ¬ (φ r).has b) → w'.heap[b]? = w.heap[b]?)
    (hown : ∀ r o b, nth hp' r = some o → (φ' r).has b → (∃ r' o', nth hp r' = some o' ∧ (φ r').has b) ∨ w.heap.size ≤ b)
    (hlen : hp.length ≤ hp'.length) (hmono : ∀ r, r < hp.length → (φ' r).same (φ r) ∨ (φ r).n < (φ' r).n) :
    HeapOK c φ' hp' w' ∧ ∀ av x, RelF c.P w' (Mut D.A φ' hp') hp'.length φ' av x → RelF c.P w' (Mut c.A φ' hp') hp'.length φ' av x := by
  have hsub : ∀ b, Mut c.A φ' hp' b → Mut D.A φ' hp' b := fun b hb => hb.imp (hA b) id
  have hh := h.heap
  refine ⟨⟨hos.trans h.os, htp.trans h.tape, hou.trans h.output, Nat.le_trans h.heap hsz, fun b hb hW => ?_, fun r o b hr hb => ?_, fun r r' o o' b h1 h2 h3 h4 => d.apart r r' o o' b h1 h2 h3 h4, fun r o hr => ?_, h.amb, h.glob, Nat.le_trans h.len hlen, fun r hr => ?_⟩, fun av x hx => hx.less hsub⟩
  · rw [hfr b (by omega) (by omega) fun r o hr hb2 => ?_]
    · exact h.frame b hb hW
    · rcases (h.owned r o b hr hb2).1 with h1 | h1
      · exact hW h1
      · omega
  · refine ⟨?_, fun ha => (d.owned r o b hr hb).2 (hA b ha)⟩
    rcases hown r o b hr hb with ⟨r', o', h1, h2⟩ | h1
    · exact (h.owned r' o' b h1 h2).1
    · exact .inr (by omega)
  · have hd := d.obj r o hr
    rw [hP] at hd
    exact hd.toW (Nat.le_refl _) (fun _ _ => rfl) fun av x hx => hx.less hsub
  · have := h.len
    rcases h.mono r hr with h1 | h1
    · rcases hmono r (by omega) with h2 | h2
      · exact .inl (h2.trans h1)
      · exact .inr (by rw [← h1.2.2.1]; exact h2)
    · rcases hmono r (by omega) with h2 | h2
      · exact .inr (by rw [h2.2.2.1]; exact h1)
      · exact .inr (Nat.lt_trans h1 h2)

structure Sit (c : Ctx) (bi : Nat) (φ : Phi) (st : St) (a : Act) (w : World) : Prop where
  k : Conc c φ st a w
  d : HeapOK (cxN c (fun b => c.A b ∨ b = bi) φ st.hp w) φ st.hp w
  t : ∀ t av, look st.tm t = some av → RelF c.P w (Mut (fun b => c.A b ∨ b = bi) φ st.hp) st.hp.length φ av (a.tmps.getD t undef)
  bi : c.w0.heap.size ≤ bi
theorem Sit.D {c : Ctx} {bi : Nat} {φ : Phi} {st : St} {a : Act} {w : World} (h : Sit c bi φ st a w) : Conc (cxN c (fun b => c.A b ∨ b = bi) φ st.hp w) φ st a w := ⟨h.k.size, h.k.defers, h.d, h.t⟩
theorem glW {c : Ctx} {φ : Phi} {hp : List (Option Own)} {w : World} (h : HeapOK c φ hp w) : ∀ r o b, nth hp r = some o → (φ r).has b → c.gl.n ≤ b := fun r o b hr hb => by
  rcases (h.owned r o b hr hb).1 with h1 | h1
  · exact h.glob.W b h1
  · exact Nat.le_trans h.glob.len h1

theorem Sit.new {c : Ctx} {φ : Phi} {st : St} {a : Act} {w : World} (h : Conc c φ st a w) (ob : Obj) : Sit c w.heap.size φ st a (w.alloc ob) := by
  have hBl : Below w.heap.size w (w.alloc ob) := (Below.refl _ _).alloc (Nat.le_refl _) _
  have hc' := h.below hBl
  have hrel : ∀ av x, RelF c.P w (Mut c.A φ st.hp) st.hp.length φ av x → RelF c.P (w.alloc ob) (Mut (fun b => c.A b ∨ b = w.heap.size) φ st.hp) st.hp.length φ av x := fun av x hx ψ hψ =>
    (hx ψ hψ).mono hBl.size (fun b hb _ => hBl.block b hb) (fun b hb hm hm' => hm (hm'.elim (fun q => q.elim .inl fun e => by omega) .inr))
  have hgl := ZdB h
  refine ⟨hc', mkD h.hok (fun b hb => ?_) hBl.size (fun r o b hr hb => hBl.block b ((h.hok.obj r o hr).has_lt hb)) hrel (Nat.le_trans hgl.len hBl.size) (fun p hp => ?_) (glW h.hok), fun t av ht => hrel _ _ (h.tm t av ht), h.hok.heap⟩
  · have hs : (w.alloc ob).heap.size = w.heap.size + 1 := by show (w.heap.push _).size = _; simp
    rcases hb with hb | rfl
    · have h1 := (h.hok.amb b hb).1
      have h2 := h.hok.heap
      exact ⟨by omega, fun r o hr hb2 => (h.hok.owned r o b hr hb2).2 hb⟩
    · exact ⟨by omega, fun r o hr hb2 => by have := (h.hok.obj r o hr).has_lt hb2; omega⟩
  · obtain ⟨h1, ⟨e, fr, h2⟩, h3⟩ := hgl.tab p hp
    have hlt := (Array.getElem?_eq_some_iff.1 h2).1
    exact ⟨h1, ⟨e, fr, (hBl.block _ hlt).trans h2⟩, fun hq => hq.elim (fun q => h3 (.inl q)) fun e => by omega⟩

theorem Sit.turn {c : Ctx} {bi : Nat} {φ : Phi} {st : St} {a : Act} {w w' : World} (h : Sit c bi φ st a w) (hos : w'.os = w.os) (htp : w'.tape = w.tape) (hou : w'.output = w.output) (hsz : w'.heap.size = w.heap.size) (hb : ∀ b, b ≠ bi → w'.heap[b]? = w.heap[b]?) : Sit c bi φ st a w' := by
  have hni : ∀ r o b, nth st.hp r = some o → (φ r).has b → b ≠ bi := fun r o b hr hb e => (h.d.owned r o b hr hb).2 (.inr e)
  have hrel : ∀ av x, RelF c.P w (Mut (fun b => c.A b ∨ b = bi) φ st.hp) st.hp.length φ av x → RelF c.P w' (Mut (fun b => c.A b ∨ b = bi) φ st.hp) st.hp.length φ av x := fun av x hx ψ hψ =>
    (hx ψ hψ).mono (by omega) (fun b _ hm => hb b fun e => hm (.inl (.inr e))) (fun _ _ hm => hm)
  have hd : HeapOK (cxN c (fun b => c.A b ∨ b = bi) φ st.hp w') φ st.hp w' := by
    have hg := h.d.glob
    refine mkD (c := cxN c (fun b => c.A b ∨ b = bi) φ st.hp w) h.d (fun b hb2 => ?_) (by omega) (fun r o b hr hb2 => hb b (hni r o b hr hb2)) hrel (by rw [hsz]; exact hg.len) (fun p hp => ?_) (glW h.d)
    · obtain ⟨h1, _⟩ := h.d.amb b hb2
      exact ⟨by rw [hsz]; exact h1, fun r o hr hb3 => (h.d.owned r o b hr hb3).2 hb2⟩
    · obtain ⟨h1, ⟨e, fr, h2⟩, h3⟩ := hg.tab p hp
      exact ⟨h1, ⟨e, fr, (hb p.1 fun e => h3 (.inr e)).trans h2⟩, h3⟩
  obtain ⟨k1, k2⟩ := toC h.k.hok (D := cxN c (fun b => c.A b ∨ b = bi) φ st.hp w') rfl (fun b hb => Or.inl hb) hd h.bi hos htp hou (by omega) (fun b _ h1 _ => hb b h1) (fun r o b hr hb2 => .inl ⟨r, o, hr, hb2⟩) (Nat.le_refl _) (fun r _ => .inl (.refl _))
  have ht : ∀ t av, look st.tm t = some av → RelF c.P w' (Mut (fun b => c.A b ∨ b = bi) φ st.hp) st.hp.length φ av (a.tmps.getD t undef) := fun t av h1 => hrel _ _ (h.t t av h1)
  exact ⟨⟨h.k.size, h.k.defers, k1, fun t av h1 => k2 _ _ (ht t av h1)⟩, hd, ht, h.bi⟩

theorem Sit.next {c : Ctx} {bi : Nat} {φ φ' : Phi} {st st' : St} {a a' : Act} {w w' : World} (h : Sit c bi φ st a w) (hlt : bi < w.heap.size) (hc : Conc (cxN c (fun b => c.A b ∨ b = bi) φ st.hp w) φ' st' a' w') :
    Sit c bi φ' st' a' w' ∧ w'.heap[bi]? = w.heap[bi]? ∧ ∀ r, r < st.hp.length → (φ' r).same (φ r) ∨ (φ r).n < (φ' r).n := by
  have hd := hc.hok
  have hmono : ∀ r, r < st.hp.length → (φ' r).same (φ r) ∨ (φ r).n < (φ' r).n := hd.mono
  have hbi : bi ∉ Zfh φ st.hp w := fun hw => by
    obtain ⟨_, r, o, hr, h2⟩ := Zbi.1 hw
    exact (h.d.owned r o bi hr h2).2 (.inr rfl)
  have hsz : w.heap.size ≤ w'.heap.size := hd.heap
  obtain ⟨k1, k2⟩ := toC h.k.hok (D := cxN c (fun b => c.A b ∨ b = bi) φ st.hp w) rfl (fun b hb => Or.inl hb) hd h.bi hd.os hd.tape hd.output hsz (fun b hb _ hno => hd.frame b hb fun hw => by
      obtain ⟨_, r, o, hr, h2⟩ := Zbi.1 hw
      exact hno r o hr h2) (fun r o b hr hb => by
      rcases (hd.owned r o b hr hb).1 with h1 | h1
      · obtain ⟨_, r', o', h2, h3⟩ := Zbi.1 h1
        exact .inl ⟨r', o', h2, h3⟩
      · exact .inr h1) hd.len hmono
  have hg := hd.glob
  have hgn := ZdB hc
  have hD : HeapOK (cxN c (fun b => c.A b ∨ b = bi) φ' st'.hp w') φ' st'.hp w' := by
    refine mkD (c := cxN c (fun b => c.A b ∨ b = bi) φ st.hp w) hd (fun b hb => ?_) (Nat.le_refl _) (fun _ _ _ _ _ => rfl) (fun _ _ h => h) hgn.len (fun p hp => ?_) (glW hd)
    · exact ⟨Nat.lt_of_lt_of_le (hd.amb b hb).1 hsz, fun r o hr hb2 => (hd.owned r o b hr hb2).2 hb⟩
    · obtain ⟨h1, h2, h3⟩ := hgn.tab p hp
      exact ⟨h1, h2, fun ha => h3 (.inl ha)⟩
  exact ⟨⟨⟨hc.size, hc.defers, k1, fun t av ht => k2 _ _ (hc.tm t av ht)⟩, hD, hc.tm, h.bi⟩, hd.frame bi hlt hbi, hmono⟩
end Go.Vx

namespace Go.Vx
open Go Go.RowKit
open Go.ChangeMaps (setBlock)

def RG (c : Ctx) (ops : Array Oper) (rest : List Oper) (st : St) (Q : Exit → Act → World → Prop) : Prop := ∀ φ a w, Conc c φ st a w → wpList c.P ops Q rest a w
theorem ZlV {c : Ctx} {ops : Array Oper} {o : Oper} {rest : List Oper} {st : St} {Q : Exit → Act → World → Prop} (v : AV) (hd : dstLt o.dst c.nt = true) (hv : SVal c ops st o v) (h : RG c ops rest (st.puto o.dst v) Q) : RG c ops (o :: rest) st Q := by
  intro φ a w hc
  obtain ⟨h1, h2⟩ := hv φ a w hc
  unfold wpList
  by_cases hw : Region.wanted o (yielded ops a.tmps) = true
  · rw [if_pos hw]
    refine .inl (ZcI ?_ (fun _ _ _ h => h.elim) (h1 hw))
    rintro a' w' ⟨u, rfl, hb, hr⟩
    exact h φ _ _ ((hc.below hb).puto hd hr)
  · rw [if_neg hw]
    exact h φ _ _ (hc.puto hd (h2 (by simpa using hw)))
theorem Zmw {c : Ctx} {ops : Array Oper} {o : Oper} {rest : List Oper} {st : St} {Q : Exit → Act → World → Prop} (v : AV) (hp' : List (Option Own)) (hd : dstLt o.dst c.nt = true) (hv : WVal c ops st o v hp')
    (h : RG c ops rest (St.puto ⟨st.tm, hp'⟩ o.dst v) Q) : RG c ops (o :: rest) st Q := by
  intro φ a w hc
  obtain ⟨h1, h2⟩ := hv φ a w hc
  unfold wpList
  rw [if_pos h1]
  refine .inl (ZcI ?_ (fun _ _ _ h => h.elim) h2)
  rintro a' w' ⟨u, φ', rfl, hh, hf, hr⟩
  have hc' : Conc c φ' ⟨st.tm, hp'⟩ a w' := ⟨hc.size, hc.defers, hh, fun t av ht => hf _ _ (hc.tm t av ht)⟩
  exact h φ' _ _ (hc'.puto hd hr)
theorem ZlS {c : Ctx} {id : Nat} {l : List Oper} {y : Code} {st : St} {K : Exit → St → Prop} (h : RG c l.toArray l st (Exit.then (y.wp c.P (Zej c K)) (Zej c K))) : T c (.seq (.region id l.toArray false) y) st K :=
  fun φ a w hc => wp_seq (wp_region_lit (h φ a w hc))
theorem Zll {c : Ctx} {x y : Code} {K : Exit → St → Prop} {a : Act} {w : World} (h : x.wp c.P (Zej c (Zd4 (fun st' => T c y st' K) K)) a w) : (Code.seq x y).wp c.P (Zej c K) a w := by
  refine wp_seq (wp_mono h ?_)
  rintro e a' w' ⟨st', φ', hk, hc'⟩
  cases e with
  | normal => exact hk φ' a' w' hc'
  | exit id => exact ⟨st', φ', hk, hc'⟩
  | goto l => exact ⟨st', φ', hk, hc'⟩
  | ret => exact ⟨st', φ', hk, hc'⟩
  | panic ch => exact ⟨st', φ', hk, hc'⟩
  | outgrown => exact ⟨st', φ', hk, hc'⟩
theorem ZjS {c : Ctx} {id : Nat} {code : Code} {K : Exit → St → Prop} {a : Act} {w : World} (h : code.wp c.P (Zej c (Zfd id K)) a w) : (Code.block id code).wp c.P (Zej c K) a w := by
  refine wp_block (wp_mono h ?_)
  rintro e a' w' ⟨st', φ', hk, hc'⟩
  cases e with
  | exit id' =>
    simp only [Zfd] at hk
    simp only [Exit.inBlock]
    by_cases he : id' = id
    · subst he; simp at hk; rw [if_pos rfl]; exact ⟨st', φ', hk, hc'⟩
    · have : Nat.beq id' id = false := by
        cases hb : Nat.beq id' id
        · rfl
        · exact absurd (Nat.eq_of_beq_eq_true hb) he
      rw [this] at hk
      rw [if_neg he]; exact ⟨st', φ', by simpa using hk, hc'⟩
  | normal => exact ⟨st', φ', hk, hc'⟩
  | goto l => exact ⟨st', φ', hk, hc'⟩
  | ret => exact ⟨st', φ', hk, hc'⟩
  | panic ch => exact ⟨st', φ', hk, hc'⟩
  | outgrown => exact ⟨st', φ', hk, hc'⟩

def KR (c : Ctx) (st'' : St) : Exit → St → Prop := fun e st' => e = .normal ∧ Ent c st' st''

theorem ZgN {P : Program} {w : World} {M : Nat → Prop} {m : Nat} {φ : Phi} {u v : Value} (h : RelF P w M m φ (.lit u) v) : v = u := by
  have := h φ (fun _ _ => rfl)
  cases this with | data h => cases h; rfl

section picked
variable {α : Type}
def pick (m : List α) (l : List Nat) : List α := l.filterMap fun i => m[i]?
theorem Zf9 (m : List α) : pick m (List.range m.length) = m := by
  unfold pick
  induction m with
  | nil => rfl
  | cons x m ih =>
    rw [List.length_cons, List.range_succ_eq_map, List.filterMap_cons, List.filterMap_map]
    simp only [List.getElem?_cons_zero]
    congr 1
theorem Zjf {m : List α} {l : List Nat} (hn : l.Nodup) (hl : ∀ i ∈ l, i < m.length) : ∃ rest, (pick m (l ++ rest)).Perm m := by
  refine ⟨(List.range m.length).filter fun i => !l.contains i, ?_⟩
  have hp : (l ++ (List.range m.length).filter fun i => !l.contains i).Perm (List.range m.length) := by
    refine (List.perm_ext_iff_of_nodup ?_ List.nodup_range).2 fun i => ?_
    · refine List.nodup_append.2 ⟨hn, List.nodup_range.filter _, fun a ha b hb e => ?_⟩
      subst e
      have := (List.mem_filter.1 hb).2
      simp at this
      exact this ha
    · simp only [List.mem_append, List.mem_filter, List.mem_range]
      constructor
      · rintro (h | h)
        · exact hl i h
        · exact h.1
      · intro h
        by_cases hi : i ∈ l
        · exact .inl hi
        · exact .inr ⟨h, by simpa using hi⟩
  have := hp.filterMap fun i => m[i]?
  rw [show (List.range m.length).filterMap (fun i => m[i]?) = m from Zf9 m] at this
  exact this
end picked

theorem Zi3 {c : Ctx} {ops : Array Oper} {K V σ : Type} {fk : K → AV} {fv : V → AV} {m : List (K × V)} {st : St} {KK : Exit → St → Prop}
    {it u1 u2 u3 : Nat} {x : Operand} {t kt e rm : Nat} {ty ty1 ty2 ty3 : TypeId} {pos pos1 pos2 pos3 : String} {after after1 after2 after3 : Array Edge} {bl b3 i1 i3 : Nat} {restE : List Oper} {code2 : Code}
    (step : K × V → σ → Option σ) (hcomm : ∀ x y s, (step x s).bind (step y) = (step y s).bind (step x))
    (tm : σ → List (Nat × AV)) (hp : σ → List (Option Own)) (s0 : σ) {r : σ} (hm : ZbH step m s0 = some r)
    (hx : Opv c st x (.mref rm 1)) (ht : tMap c.P t kt e = true) (N : Nat) (hN : ∀ s, (hp s).length = N) (hmap : ∀ s, nth (hp s) rm = some ⟨t, [[.mcon (m.map (Qz fk fv))]]⟩) (hns : ∀ v, noSub (fv v) = true)
    (hk0 : Keep st.tm (tm s0)) (hp0 : st.hp = hp s0) (hlt : (Nat.blt it c.nt && Nat.blt u1 c.nt && Nat.blt u2 c.nt && Nat.blt u3 c.nt) = true) (hit : (Nat.beq u1 it || Nat.beq u2 it || Nat.beq u1 u2) = false)
    (hbody : ∀ (pv : Value) (x : K × V) (s s' : σ), step x s = some s' → ∀ (w : World) (A : Nat → Prop) (W : List Nat) (φ : Phi),
      R ⟨c.P, c.nt, w, A, W, c.gl, N, φ⟩ (⟨some u3, .entry (.tmp it), ty3, pos3, after3, none⟩ :: restE).toArray restE ⟨(u3, .tuple [fk x.1, fv x.2]) :: (u2, .bool true) :: (u1, .any) :: (it, .lit pv) :: tm s, hp s⟩
        (Zd4 (fun st' => T ⟨c.P, c.nt, w, A, W, c.gl, N, φ⟩ code2 st' (Zfd b3 (KR ⟨c.P, c.nt, w, A, W, c.gl, N, φ⟩ ⟨(it, .lit pv) :: tm s', hp s'⟩))) (Zfd b3 (KR ⟨c.P, c.nt, w, A, W, c.gl, N, φ⟩ ⟨(it, .lit pv) :: tm s', hp s'⟩))))
    (hnext : ∀ pv : Value, KK .normal ⟨(u2, .bool false) :: (u1, .any) :: (it, .lit pv) :: tm r, hp r⟩) :
    RG c ops [⟨some it, .range t x, ty, pos, after, none⟩] st (Exit.then ((Code.block bl (.loop (.seq (.region i1 [⟨some u1, .next (.tmp it) false, ty1, pos1, after1, none⟩, ⟨some u2, .extract (.tmp u1) 0, ty2, pos2, after2, none⟩].toArray false)
      (.seq (.cond (.tmp u2) .skip (.exit bl)) (.block b3 (.seq (.region i3 (⟨some u3, .entry (.tmp it), ty3, pos3, after3, none⟩ :: restE).toArray false) code2)))))).wp c.P (Zej c KK)) (Zej c KK)) := by
  simp only [Bool.and_eq_true] at hlt
  obtain ⟨⟨⟨l1, l2⟩, l3⟩, l4⟩ := hlt
  simp only [Bool.or_eq_false_iff] at hit
  obtain ⟨⟨n1, n2⟩, n3⟩ := hit
  intro φ a w hc
  obtain ⟨hu, hcs⟩ := tMap.spec ht
  have hmap0 : nth st.hp rm = some ⟨t, [[.mcon (m.map (Qz fk fv))]]⟩ := by rw [hp0]; exact hmap s0
  obtain ⟨hmp, bm, hbm, hxv⟩ := Ze8 (hx φ a w hc) (hc.hok.obj rm _ hmap0).len
  obtain ⟨es, clock, T0, e1, e2, e3, e4, _, _, _⟩ := Zdb hc hmap0 hcs hbm hmp
  refine wpList_plain rfl fun K' hK' => ?_
  have hrun := run_range_map (P := c.P) w t kt e bm es clock hu e1
  unfold Oper.wp
  simp [execOp, hxv, hrun, Result.andThen]
  refine hK' _ _ ?_
  have hcl : clock = m.length := by omega
  subst hcl
  -- at the head
  let bi := w.heap.size
  let pv : Value := .pointer (some ⟨bi, 0, none⟩)
  have hS0 := Sit.new hc (.mapIter (some bm) m.length #[] m.length)
  have hdl : ∀ {d : Nat}, Nat.blt d c.nt = true → dstLt (some d) c.nt = true := fun h => by simpa [dstLt] using h
  have hS : Sit c bi φ ⟨(it, .lit pv) :: tm s0, hp s0⟩ (a.put (some it) pv) (w.alloc (.mapIter (some bm) m.length #[] m.length)) := by
    have hput := hS0.k.puto (d := some it) (av := .lit pv) (v := pv) (hdl l1) (Zo (.lit _))
    have hputD := hS0.D.puto (d := some it) (av := .lit pv) (v := pv) (hdl l1) (Zo (.lit _))
    rw [← hp0]
    refine ⟨⟨hput.size, hput.defers, hput.hok, fun t' av h' => hput.tm t' av ?_⟩, hS0.d, fun t' av h' => hputD.tm t' av ?_, hS0.bi⟩
    all_goals
      simp only [look] at h'
      show look ((it, AV.lit pv) :: st.tm) t' = some av
      simp only [look]
      split at h'
      · exact h'
      · exact hk0.look h'
  show (Code.block _ _).wp c.P (Zej c KK) _ _
  refine wp_block (wp_loop_ghost (fun n a w => ∃ (s : σ) (φ : Phi) (seen : Array Nat), n = m.length - seen.size ∧ seen.toList.Nodup ∧ (∀ i ∈ seen.toList, i < m.length) ∧ ZbH step (pick m seen.toList) s0 = some s ∧
      Sit c bi φ ⟨(it, .lit pv) :: tm s, hp s⟩ a w ∧ w.heap[bi]? = some (.mapIter (some bm) m.length seen m.length) ∧ (φ rm).blk = some bm ∧ (φ rm).mp = true) m.length ⟨s0, φ, #[], rfl, by simp, by simp, rfl, hS, heap_alloc_new w _, hbm, hmp⟩ ?_)
  clear hS hS0 hK' hrun
  rintro n a w ⟨s, φ, seen, rfl, hnd, hsl, hfold, hS, hbi, hbm, hmp⟩
  obtain ⟨es, clock, T0, e1, e2, e3, e4, _, _, _⟩ := Zdb hS.k (hmap s) hcs hbm hmp
  obtain rfl : clock = m.length := by omega
  have hbb : bm ≠ bi := fun h => by subst h; rw [e1] at hbi; cases hbi
  have hpvE : a.eval (.tmp it) = pv := ZgN (hS.k.tm it _ (by simp [look]))
  have hborn : ∀ z ∈ es.toList, ∃ i, es[i]? = some z ∧ z.born = i ∧ i < m.length := fun z hz => by
    obtain ⟨i, hi, rfl⟩ := List.getElem_of_mem hz
    have hi' : i < es.size := by simpa using hi
    have h1 : es[i]? = some es.toList[i] := by simp [hi']
    exact ⟨i, h1, e3 i _ h1, by omega⟩
  have hnxt := run_next_at (P := c.P) w ty1 bi bm m.length m.length seen es m.length hbi e1 (fun z hz => by obtain ⟨i, _, h2, h3⟩ := hborn z hz; omega) (Nat.le_refl _)
  refine wp_seq (wp_region_lit (wpList_plain rfl fun K1 hK1 => ?_))
  unfold Oper.wp
  rcases hnxt with ⟨h0, hrun⟩ | ⟨z, hz, w1, hw1, hrun⟩
  · -- nothing is left
    simp [execOp, hpvE, pv, hrun, Result.andThen]
    refine hK1 _ _ (wpList_plain rfl fun K2 hK2 => ?_)
    unfold Oper.wp
    have hE : (a.put (some u1) (.tuple #[.bool false])).eval (.tmp u1) = .tuple #[.bool false] := by
      have : u1 < a.tmps.size := by rw [hS.k.size]; simpa using l2
      simp [Act.eval, Act.put, Ze1, this]
    simp [execOp, hE, Instr.extract, Result.andThen]
    refine hK2 _ _ ?_
    show (Code.seq _ _).wp c.P _ _ _
    have hc1 := (hS.k.puto (d := some u1) (av := .any) (v := .tuple #[.bool false]) (hdl l2) (Zo (.any _))).puto (d := some u2) (av := .bool false) (v := .bool false) (hdl l3) (Zo (.bool _))
    refine wp_seq (wp_cond (t := false) (by
      have := Zcw (hc1.tm u2 (.bool false) (by simp [St.puto, St.put, look]))
      exact this) ?_)
    simp only [Bool.false_eq_true, if_false]
    refine wp_exit ?_
    simp only [Exit.then, Exit.inBlock, if_true]
    -- all has been seen
    have hall : ∀ i, i < m.length → i ∈ seen.toList := fun i hi => by
      have hie : i < es.size := by omega
      have h1 : es[i]? = some es[i] := by simp [hie]
      have hb := e3 i _ h1
      rcases Classical.em (i ∈ seen.toList) with h | h
      · exact h
      · exfalso
        have : es[i] ∈ (leftOf es seen).toList := by
          unfold leftOf
          have hm1 : es[i] ∈ es.toList := by simp
          simp only [Array.toList_filter, List.mem_filter]
          refine ⟨hm1, ?_⟩
          rw [hb]
          have : ¬ i ∈ seen := by simpa using h
          simpa using this
        have := List.length_pos_of_mem this
        simp at this
        omega
    have hperm : (pick m seen.toList).Perm m := by
      have h1 : seen.toList.Perm (List.range m.length) := (List.perm_ext_iff_of_nodup hnd List.nodup_range).2 fun i => ⟨fun h => List.mem_range.2 (hsl i h), fun h => hall i (List.mem_range.1 h)⟩
      have := h1.filterMap fun i => m[i]?
      rw [show (List.range m.length).filterMap (fun i => m[i]?) = m from Zf9 m] at this
      exact this
    have hsr : s = r := by
      rw [Zgz hcomm hperm, hm] at hfold
      exact (Option.some.inj hfold).symm
    subst hsr
    exact ⟨_, φ, hnext pv, hc1⟩
  · -- one more
    have hz' : z ∈ es.toList ∧ z.born ∉ seen.toList := by
      unfold leftOf at hz
      simp only [Array.toList_filter, List.mem_filter] at hz
      refine ⟨hz.1, ?_⟩
      have := hz.2
      simpa using this
    obtain ⟨i, hi1, hi2, hi3⟩ := hborn z hz'.1
    simp [execOp, hpvE, pv, hrun, Result.andThen]
    refine hK1 _ _ (wpList_plain rfl fun K2 hK2 => ?_)
    unfold Oper.wp
    have hE : (a.put (some u1) (.tuple #[.bool true, z.key, z.val])).eval (.tmp u1) = .tuple #[.bool true, z.key, z.val] := by
      have : u1 < a.tmps.size := by rw [hS.k.size]; simpa using l2
      simp [Act.eval, Act.put, Ze1, this]
    simp [execOp, hE, Instr.extract, Result.andThen]
    refine hK2 _ _ ?_
    show (Code.seq _ _).wp c.P _ _ _
    -- the world behind the step
    have hbl : bi < w.heap.size := (Array.getElem?_eq_some_iff.1 hbi).1
    have hw1h : w1.heap = w.heap := by rcases hw1 with rfl | rfl <;> rfl
    have hS2 : Sit c bi φ ⟨(it, .lit pv) :: tm s, hp s⟩ a (setBlock w1 bi (.mapIter (some bm) m.length (seen.push z.born) m.length)) := by
      refine hS.turn ?_ ?_ ?_ ?_ ?_
      · rcases hw1 with rfl | rfl <;> rfl
      · rcases hw1 with rfl | rfl <;> rfl
      · rcases hw1 with rfl | rfl <;> rfl
      · simp [setBlock, hw1h]
      · intro b hb; simp [setBlock, hw1h, Array.getElem?_setIfInBounds, Ne.symm hb]
    generalize hw2 : setBlock w1 bi (.mapIter (some bm) m.length (seen.push z.born) m.length) = w2 at *
    have hbi2 : w2.heap[bi]? = some (.mapIter (some bm) m.length (seen.push z.born) m.length) := by rw [← hw2]; simp [setBlock, hw1h, Array.getElem?_setIfInBounds, hbl]
    have hbm2 : w2.heap[bm]? = some (.map es m.length) := by rw [← hw2]; simp [setBlock, hw1h, Array.getElem?_setIfInBounds, Ne.symm hbb, e1]
    have hbl2 : bi < w2.heap.size := (Array.getElem?_eq_some_iff.1 hbi2).1
    have hcD := (hS2.D.puto (d := some u1) (av := .any) (v := .tuple #[.bool true, z.key, z.val]) (hdl l2) (Zo (.any _))).puto (d := some u2) (av := .bool true) (v := .bool true) (hdl l3) (Zo (.bool _))
    have hcC := (hS2.k.puto (d := some u1) (av := .any) (v := .tuple #[.bool true, z.key, z.val]) (hdl l2) (Zo (.any _))).puto (d := some u2) (av := .bool true) (v := .bool true) (hdl l3) (Zo (.bool _))
    refine wp_seq (wp_cond (t := true) (by
      have := Zcw (hcC.tm u2 (.bool true) (by simp [St.puto, St.put, look]))
      exact this) ?_)
    simp only [if_true]
    refine wp_skip ?_
    simp only [Exit.then]
    -- the entry
    generalize ha2 : ((a.put (some u1) (.tuple #[.bool true, z.key, z.val])).put (some u2) (.bool true)) = a2 at *
    obtain ⟨es2, clock2, T2, g1, g2, g3, g4, _, _, g7⟩ := Zdb hS2.D (hmap s) hcs hbm hmp
    have hes : es2 = es := by rw [hbm2] at g1; cases g1; rfl
    subst hes
    have hnodup : (es2.toList.map (·.born)).Nodup := by
      have : es2.toList.map (·.born) = List.range es2.size := by
        apply List.ext_getElem?
        intro j
        by_cases hj : j < es2.size
        · have h1 : es2[j]? = some es2[j] := by simp [hj]
          have := e3 j _ h1
          rw [List.getElem?_range hj]
          simp [hj, this]
        · rw [List.getElem?_eq_none (by simp; omega), List.getElem?_eq_none (by simp; omega)]
      rw [this]; exact List.nodup_range
    have hent := run_entry_at (P := c.P) w2 bi bm m.length seen es2 m.length z hbi2 hbm2 hz'.1 hnodup
    have hitne : Nat.beq u1 it = false ∧ Nat.beq u2 it = false := ⟨n1, n2⟩
    have hpv2 : a2.eval (.tmp it) = pv := ZgN (hcC.tm it (.lit pv) (by
      show look ((u2, AV.bool true) :: (u1, AV.any) :: (it, AV.lit pv) :: tm s) it = _
      simp only [look, n1, n2]
      simp))
    obtain ⟨p, hp1⟩ : ∃ p, m[i]? = some p := ⟨m[i]'hi3, by simp [hi3]⟩
    obtain ⟨q1, q2⟩ := g7 i p z hp1 hi1
    have q3 := q2.plain (hns p.2)
    -- its word
    obtain ⟨s', hs'⟩ : ∃ s', step p s = some s' := by
      obtain ⟨rst, hrst⟩ := Zjf (m := m) (l := seen.toList ++ [i]) (by
        refine List.nodup_append.2 ⟨hnd, by simp, fun x hx y hy e => ?_⟩
        obtain rfl : y = i := by simpa using hy
        subst e; rw [hi2] at hz'; exact hz'.2 hx) (fun j hj => by
        rcases List.mem_append.1 hj with h | h
        · exact hsl j h
        · obtain rfl : j = i := by simpa using h
          exact hi3)
      have h1 := Zgz hcomm hrst s0
      rw [hm] at h1
      have e5 : pick m (seen.toList ++ [i] ++ rst) = pick m seen.toList ++ ([p] ++ pick m rst) := by simp [pick, List.filterMap_append, hp1]
      rw [e5, ZdT, hfold, Option.bind_some, ZdT] at h1
      simp only [ZbH] at h1
      cases hst : step p s with
      | none => rw [hst] at h1; cases h1
      | some s' => exact ⟨s', rfl⟩
    have hb := hbody pv p s s' hs' w2 (fun b => c.A b ∨ b = bi) (Zfh φ (hp s) w2) φ
    have hNs : (hp s).length = N := hN s
    have hcx : cxN c (fun b => c.A b ∨ b = bi) φ (hp s) w2 = ⟨c.P, c.nt, w2, fun b => c.A b ∨ b = bi, Zfh φ (hp s) w2, c.gl, N, φ⟩ := by unfold cxN; rw [hNs]
    rw [← hcx] at hb
    have hblk : (Code.block b3 (.seq (.region i3 (⟨some u3, .entry (.tmp it), ty3, pos3, after3, none⟩ :: restE).toArray false) code2)).wp c.P (Zej (cxN c (fun b => c.A b ∨ b = bi) φ (hp s) w2) (KR (cxN c (fun b => c.A b ∨ b = bi) φ (hp s) w2) ⟨(it, .lit pv) :: tm s', hp s'⟩)) a2 w2 := by
      refine ZjS (c := cxN c (fun b => c.A b ∨ b = bi) φ (hp s) w2) (Zll (c := cxN c (fun b => c.A b ∨ b = bi) φ (hp s) w2) (wp_region_lit (wpList_plain rfl fun K3 hK3 => ?_)))
      unfold Oper.wp
      have hent' : (Instr.entry (a2.eval (.tmp it))).run (cxN c (fun b => c.A b ∨ b = bi) φ (hp s) w2).P w2 = .ok (.tuple #[z.key, z.val]) w2 := by rw [hpv2]; exact hent
      simp [execOp, hent', Result.andThen]
      refine hK3 _ _ ?_
      refine hb φ _ _ ?_
      have := hcD.puto (d := some u3) (av := .tuple [fk p.1, fv p.2]) (v := .tuple #[z.key, z.val]) (hdl l4) (ZdP (by simp) fun j hj => ?_)
      · exact this
      · have hj' : j < 2 := by simpa using hj
        match j, hj' with
        | 0, _ => exact q1
        | 1, _ => exact q3
    refine wp_mono hblk ?_
    rintro ex a' w' ⟨st', φ', ⟨rfl, hE'⟩, hc'⟩
    obtain ⟨φ2, hc2⟩ := hE' φ' a' w' hc'
    obtain ⟨hS3, hbi3, hmono⟩ := hS2.next hbl2 hc2
    simp only [Exit.then]
    have hrm : rm < (hp s).length := Xz (hmap s)
    have hsame : (φ2 rm).same (φ rm) := by
      rcases hmono rm hrm with h | h
      · exact h
      · exfalso
        have h1 := (hS3.k.hok.obj rm _ (hmap s')).len
        have h2 := (hS2.k.hok.obj rm _ (hmap s)).len
        rw [h1, h2] at h
        simp at h
    have hnis : ¬ z.born ∈ seen.toList := hz'.2
    refine ⟨m.length - (seen.push z.born).size, ?_, s', φ2, seen.push z.born, rfl, ?_, ?_, ?_, hS3, hbi3.trans hbi2, hsame.1.trans hbm, hsame.2.2.2.2.trans hmp⟩
    · have h1 : seen.size < m.length := by
        have hn2 : (seen.toList ++ [i]).Nodup := by
          refine List.nodup_append.2 ⟨hnd, by simp, fun x hx y hy e => ?_⟩
          obtain rfl : y = i := by simpa using hy
          subst e; rw [hi2] at hnis; exact hnis hx
        have := hn2.length_le_of_subset (l₂ := List.range m.length) fun j hj => by
          rcases List.mem_append.1 hj with h | h
          · exact List.mem_range.2 (hsl j h)
          · obtain rfl : j = i := by simpa using h
            exact List.mem_range.2 hi3
        simp at this
        omega
      simp; omega
    · simp only [Array.toList_push]
      refine List.nodup_append.2 ⟨hnd, by simp, fun x hx y hy e => ?_⟩
      obtain rfl : y = z.born := by simpa using hy
      subst e; exact hnis hx
    · intro j hj
      simp only [Array.toList_push] at hj
      rcases List.mem_append.1 hj with h | h
      · exact hsl j h
      · obtain rfl : j = z.born := by simpa using h
        omega
    · simp only [Array.toList_push]
      have : pick m (seen.toList ++ [z.born]) = pick m seen.toList ++ [p] := by simp [pick, List.filterMap_append, hi2, hp1]
      rw [this, ZdT, hfold, Option.bind_some]
      simp [ZbH, hs']
end Go.Vx
