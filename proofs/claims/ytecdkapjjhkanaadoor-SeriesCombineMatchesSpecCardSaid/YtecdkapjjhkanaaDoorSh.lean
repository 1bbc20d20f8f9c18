/- A text of the proof: a verified executor of the program form, or the contracts of the functions that the law reaches. -/
import Derived.Test.YtecdkapjjhkanaaDoorVxW
set_option linter.all false
namespace Go.Vx
open Go Go.RowKit

/-! ## The words of the functions that are printed -/

abbrev Str := List UInt8
def idx {α : Type} (xs : List α) (i : Int) : Option α := if 0 ≤ i then xs[i.toNat]? else none
theorem idx_some {α : Type} {xs : List α} {i : Int} {x : α} (h : idx xs i = some x) : i = (i.toNat : Int) ∧ xs[i.toNat]? = some x := by
  unfold idx at h
  split at h
  · exact ⟨by omega, h⟩
  · cases h
/-- Only under a guard. -/
def gd {α : Type} (g : Bool) (d : α) (o : Option α) : Option α := if g = true then o else some d
theorem gdT {α : Type} {g : Bool} {d x : α} {o : Option α} (h : gd g d o = some x) (hg : g = true) : o = some x := by simpa [gd, hg] using h

def t0 {β : Type} (f : β) (_ : Unit) : β := f
def t1 {α β : Type} (f : α → β) (a : α) : β := f a
@[simp] theorem t0_mk {β : Type} (f : β) : t0 f () = f := rfl
@[simp] theorem t1_mk {α β : Type} (f : α → β) (a : α) : t1 f a = f a := rfl
def t2 {α β γ : Type} (f : α → β → γ) (p : α × β) : γ := f p.1 p.2
def t3 {α β γ δ : Type} (f : α → β → γ → δ) (p : α × β × γ) : δ := f p.1 p.2.1 p.2.2
def t4 {α β γ δ ε : Type} (f : α → β → γ → δ → ε) (p : α × β × γ × δ) : ε := f p.1 p.2.1 p.2.2.1 p.2.2.2
def t5 {α β γ δ ε ζ : Type} (f : α → β → γ → δ → ε → ζ) (p : α × β × γ × δ × ε) : ζ := f p.1 p.2.1 p.2.2.1 p.2.2.2.1 p.2.2.2.2
def t6 {α β γ δ ε ζ η : Type} (f : α → β → γ → δ → ε → ζ → η) (p : α × β × γ × δ × ε × ζ) : η := f p.1 p.2.1 p.2.2.1 p.2.2.2.1 p.2.2.2.2.1 p.2.2.2.2.2
def t7 {α β γ δ ε ζ η θ : Type} (f : α → β → γ → δ → ε → ζ → η → θ) (p : α × β × γ × δ × ε × ζ × η) : θ := f p.1 p.2.1 p.2.2.1 p.2.2.2.1 p.2.2.2.2.1 p.2.2.2.2.2.1 p.2.2.2.2.2.2
def t8 {α β γ δ ε ζ η θ ι : Type} (f : α → β → γ → δ → ε → ζ → η → θ → ι) (p : α × β × γ × δ × ε × ζ × η × θ) : ι := f p.1 p.2.1 p.2.2.1 p.2.2.2.1 p.2.2.2.2.1 p.2.2.2.2.2.1 p.2.2.2.2.2.2.1 p.2.2.2.2.2.2.2
@[simp] theorem t2_mk {α β γ : Type} (f : α → β → γ) (a : α) (b : β) : t2 f (a, b) = f a b := rfl
@[simp] theorem t3_mk {α β γ δ : Type} (f : α → β → γ → δ) (a : α) (b : β) (c : γ) : t3 f (a, b, c) = f a b c := rfl
@[simp] theorem t4_mk {α β γ δ ε : Type} (f : α → β → γ → δ → ε) (a : α) (b : β) (c : γ) (d : δ) : t4 f (a, b, c, d) = f a b c d := rfl
@[simp] theorem t5_mk {α β γ δ ε ζ : Type} (f : α → β → γ → δ → ε → ζ) (a : α) (b : β) (c : γ) (d : δ) (e : ε) : t5 f (a, b, c, d, e) = f a b c d e := rfl
@[simp] theorem t6_mk {α β γ δ ε ζ η : Type} (f : α → β → γ → δ → ε → ζ → η) (a : α) (b : β) (c : γ) (d : δ) (e : ε) (g : ζ) : t6 f (a, b, c, d, e, g) = f a b c d e g := rfl
@[simp] theorem t7_mk {α β γ δ ε ζ η θ : Type} (f : α → β → γ → δ → ε → ζ → η → θ) (a : α) (b : β) (c : γ) (d : δ) (e : ε) (g : ζ) (h : η) : t7 f (a, b, c, d, e, g, h) = f a b c d e g h := rfl
@[simp] theorem t8_mk {α β γ δ ε ζ η θ ι : Type} (f : α → β → γ → δ → ε → ζ → η → θ → ι) (a : α) (b : β) (c : γ) (d : δ) (e : ε) (g : ζ) (h : η) (i : θ) : t8 f (a, b, c, d, e, g, h, i) = f a b c d e g h i := rfl

section
variable {α β γ : Type} {k : β → Option γ} {r : γ}
theorem bnd0 {X : Option γ} (h : X = some r) : X.bind some = some r := by simpa using h
theorem bnd {o : Option α} {f : α → Option β} (h : (o.bind f).bind k = some r) : ∃ x, o = some x ∧ (f x).bind k = some r := by
  cases o with
  | none => cases h
  | some x => exact ⟨x, rfl, h⟩
theorem ret {v : γ} (h : (some v).bind some = some r) : v = r := Option.some.inj h
/-- Out of a loop. -/
theorem lx {ρ : Type} {v r1 : ρ} (h : some v = some r1) : r1 = v := (Option.some.inj h).symm
theorem bndL {o : Option β} (h : o.bind k = some r) : ∃ x, o = some x ∧ k x = some r := by
  cases o with
  | none => cases h
  | some x => exact ⟨x, rfl, h⟩
theorem ell {β' δ : Type} {A : β' → Option β} {B : δ → Option β} {x : β'} (h : (Sum.elim A B (.inl x)).bind k = some r) : (A x).bind k = some r := h
theorem elr {β' δ : Type} {A : β' → Option β} {B : δ → Option β} {x : δ} (h : (Sum.elim A B (.inr x)).bind k = some r) : (B x).bind k = some r := h
theorem rt {v w : γ} (h : some v = some w) : v = w := Option.some.inj h
end
section
variable {α β γ δ ε ζ η θ κ ν : Type} {k : κ → Option ν} {r : ν}
theorem t0i {f : Option κ} (h : (t0 f ()).bind k = some r) : f.bind k = some r := h
theorem t1i {f : α → Option κ} {a : α} (h : (t1 f a).bind k = some r) : (f a).bind k = some r := h
theorem t2i {f : α → β → Option κ} {a : α} {b : β} (h : (t2 f (a, b)).bind k = some r) : (f a b).bind k = some r := h
theorem t3i {f : α → β → γ → Option κ} {a : α} {b : β} {c : γ} (h : (t3 f (a, b, c)).bind k = some r) : (f a b c).bind k = some r := h
theorem t4i {f : α → β → γ → δ → Option κ} {a : α} {b : β} {c : γ} {d : δ} (h : (t4 f (a, b, c, d)).bind k = some r) : (f a b c d).bind k = some r := h
theorem t5i {f : α → β → γ → δ → ε → Option κ} {a : α} {b : β} {c : γ} {d : δ} {e : ε} (h : (t5 f (a, b, c, d, e)).bind k = some r) : (f a b c d e).bind k = some r := h
theorem t6i {f : α → β → γ → δ → ε → ζ → Option κ} {a : α} {b : β} {c : γ} {d : δ} {e : ε} {g : ζ} (h : (t6 f (a, b, c, d, e, g)).bind k = some r) : (f a b c d e g).bind k = some r := h
theorem t7i {f : α → β → γ → δ → ε → ζ → η → Option κ} {a : α} {b : β} {c : γ} {d : δ} {e : ε} {g : ζ} {i : η} (h : (t7 f (a, b, c, d, e, g, i)).bind k = some r) : (f a b c d e g i).bind k = some r := h
theorem t8i {f : α → β → γ → δ → ε → ζ → η → θ → Option κ} {a : α} {b : β} {c : γ} {d : δ} {e : ε} {g : ζ} {i : η} {j : θ} (h : (t8 f (a, b, c, d, e, g, i, j)).bind k = some r) : (f a b c d e g i j).bind k = some r := h
end

/-! ## Loops -/

section
variable {σ ρ : Type}
def iter (body : σ → Option (σ ⊕ ρ)) : Nat → σ → Option ρ
  | 0, _ => none
  | n + 1, s => (body s).bind (Sum.elim (iter body n) some)
open Classical in
noncomputable def loop (body : σ → Option (σ ⊕ ρ)) (s : σ) : Option ρ := if h : ∃ r, ∃ n, iter body n s = some r then some (Classical.choose h) else none

theorem iter_mono {body : σ → Option (σ ⊕ ρ)} : ∀ {n m : Nat} {s : σ} {r : ρ}, n ≤ m → iter body n s = some r → iter body m s = some r
  | 0, _, _, _, _, h => by cases h
  | n + 1, 0, _, _, h, _ => by omega
  | n + 1, m + 1, s, r, hnm, h => by
    simp only [iter] at h ⊢
    cases hb : body s with
    | none => rw [hb] at h; cases h
    | some o =>
      rw [hb] at h
      cases o with
      | inl s' => exact iter_mono (n := n) (m := m) (by omega) h
      | inr r' => exact h
theorem loop_of {body : σ → Option (σ ⊕ ρ)} {n : Nat} {s : σ} {r : ρ} (h : iter body n s = some r) : loop body s = some r := by
  have hx : ∃ r, ∃ n, iter body n s = some r := ⟨r, n, h⟩
  unfold loop
  rw [dif_pos hx]
  obtain ⟨m, hm⟩ := Classical.choose_spec hx
  have h1 := iter_mono (Nat.le_max_left n m) h
  have h2 := iter_mono (Nat.le_max_right n m) hm
  rw [h1] at h2
  exact h2.symm
theorem loop_some {body : σ → Option (σ ⊕ ρ)} {s : σ} {r : ρ} (h : loop body s = some r) : ∃ n, iter body n s = some r := by
  unfold loop at h
  split at h
  · rename_i hx
    cases h
    exact Classical.choose_spec hx
  · cases h
theorem loop_eq (body : σ → Option (σ ⊕ ρ)) (s : σ) : loop body s = (body s).bind (Sum.elim (loop body) some) := by
  cases hb : body s with
  | none =>
    cases hl : loop body s with
    | none => rfl
    | some r =>
      obtain ⟨n, hn⟩ := loop_some hl
      cases n with
      | zero => cases hn
      | succ n => simp only [iter, hb] at hn; cases hn
  | some o =>
    cases o with
    | inr r => exact loop_of (n := 1) (by simp [iter, hb])
    | inl s' =>
      show loop body s = loop body s'
      cases hl : loop body s' with
      | some r =>
        obtain ⟨n, hn⟩ := loop_some hl
        exact loop_of (n := n + 1) (by simp only [iter, hb]; exact hn)
      | none =>
        cases hl2 : loop body s with
        | none => rfl
        | some r =>
          obtain ⟨n, hn⟩ := loop_some hl2
          cases n with
          | zero => cases hn
          | succ n =>
            simp only [iter, hb] at hn
            rw [loop_of (n := n) hn] at hl; cases hl

theorem T_loopG {c : Ctx} {code : Code} {st : St} {K : Exit → St → Prop} (body : σ → Option (σ ⊕ ρ)) (I : σ → St) (s0 : σ) {r : ρ} (h : loop body s0 = some r) (h0 : Ent c st (I s0))
    (hr : ∀ n s, (body s).bind (Sum.elim (iter body n) some) = some r → T c code (I s) (seqK (fun st' => ∃ s', iter body n s' = some r ∧ Ent c st' (I s')) K)) : T c (.loop code) st K := by
  obtain ⟨N, hN⟩ := loop_some h
  refine T_loop (ι := Nat × σ) (fun p => iter body p.1 p.2 = some r) (fun p => I p.2) (fun p => p.1) (N, s0) hN h0 ?_
  rintro ⟨n, s⟩ hC
  cases n with
  | zero => cases hC
  | succ n =>
    refine T_mono (hr n s hC) ?_
    intro e st' hk
    cases e with
    | normal =>
      obtain ⟨s', h1, h2⟩ := hk
      exact ⟨(n, s'), h1, Nat.lt_succ_self n, h2⟩
    | exit id => exact hk
    | goto l => exact hk
    | ret => exact hk
    | panic ch => exact hk
    | outgrown => exact hk

/-- What holds along a loop. -/
theorem loop_inv {body : σ → Option (σ ⊕ ρ)} (I : σ → Prop) (μ : σ → Nat) (Q : ρ → Prop) (step : ∀ s, I s → (∃ s', body s = some (.inl s') ∧ I s' ∧ μ s' < μ s) ∨ (∃ r, body s = some (.inr r) ∧ Q r)) :
    ∀ s, I s → ∃ r, loop body s = some r ∧ Q r := by
  have key : ∀ n s, μ s < n → I s → ∃ r, loop body s = some r ∧ Q r := by
    intro n
    induction n with
    | zero => intro s h; omega
    | succ n ih =>
      intro s hn hs
      rcases step s hs with ⟨s', h1, h2, h3⟩ | ⟨r, h1, h2⟩
      · obtain ⟨r, h4, h5⟩ := ih s' (by omega) h2
        exact ⟨r, by rw [loop_eq, h1]; exact h4, h5⟩
      · exact ⟨r, by rw [loop_eq, h1]; rfl, h2⟩
  intro s hs
  exact key (μ s + 1) s (Nat.lt_succ_self _) hs
end

section
variable {c : Ctx} {st : St} {K : Exit → St → Prop} {β γ : Type} {k : β → Option γ} {r : γ} {X Y : Option β}
theorem T_joinG {ι τ : Type} {G : τ → Option β} {X : Option τ} {x y : Code} (inj : ι → τ) (J : ι → St) (h : (X.bind G).bind k = some r)
    (hx : X.bind (fun o => (G o).bind k) = some r → T c x st (seqK (fun st' => ∃ i, (G (inj i)).bind k = some r ∧ Ent c st' (J i)) K))
    (ky : ∀ i, (G (inj i)).bind k = some r → T c y (J i) K) : T c (.seq x y) st K :=
  T_join (fun i => (G (inj i)).bind k = some r) J (hx (by rw [Option.bind_assoc] at h; exact h)) ky
theorem T_if {t : Nat} {b : Bool} {x y : Code} (h : (if b = true then X else Y).bind k = some r) (hl : look st.tm t = some (.bool b))
    (h1 : b = true → X.bind k = some r → T c x st K) (h2 : b = false → Y.bind k = some r → T c y st K) : T c (.cond (.tmp t) x y) st K :=
  T_cond hl (fun hb => h1 hb (by rw [if_pos hb] at h; exact h)) (fun hb => h2 hb (by rw [if_neg (by rw [hb]; simp)] at h; exact h))
end

section
variable {c : Ctx} {code : Code} {K : Exit → St → Prop} {α β γ δ ε ζ η θ : Type}
theorem t0T {f : St} (h : T c code f K) : T c code (t0 f ()) K := h
theorem t1T {f : α → St} {a' : α} (h : T c code (f a') K) : T c code (t1 f a') K := h
theorem t2T {f : α → β → St} {a' : α} {b' : β} (h : T c code (f a' b') K) : T c code (t2 f (a', b')) K := h
theorem t3T {f : α → β → γ → St} {a' : α} {b' : β} {c' : γ} (h : T c code (f a' b' c') K) : T c code (t3 f (a', b', c')) K := h
theorem t4T {f : α → β → γ → δ → St} {a' : α} {b' : β} {c' : γ} {d' : δ} (h : T c code (f a' b' c' d') K) : T c code (t4 f (a', b', c', d')) K := h
theorem t5T {f : α → β → γ → δ → ε → St} {a' : α} {b' : β} {c' : γ} {d' : δ} {e' : ε} (h : T c code (f a' b' c' d' e') K) : T c code (t5 f (a', b', c', d', e')) K := h
theorem t6T {f : α → β → γ → δ → ε → ζ → St} {a' : α} {b' : β} {c' : γ} {d' : δ} {e' : ε} {f' : ζ} (h : T c code (f a' b' c' d' e' f') K) : T c code (t6 f (a', b', c', d', e', f')) K := h
theorem t7T {f : α → β → γ → δ → ε → ζ → η → St} {a' : α} {b' : β} {c' : γ} {d' : δ} {e' : ε} {f' : ζ} {g' : η} (h : T c code (f a' b' c' d' e' f' g') K) : T c code (t7 f (a', b', c', d', e', f', g')) K := h
theorem t8T {f : α → β → γ → δ → ε → ζ → η → θ → St} {a' : α} {b' : β} {c' : γ} {d' : δ} {e' : ε} {f' : ζ} {g' : η} {h' : θ} (h : T c code (f a' b' c' d' e' f' g' h') K) : T c code (t8 f (a', b', c', d', e', f', g', h')) K := h
end
end Go.Vx
