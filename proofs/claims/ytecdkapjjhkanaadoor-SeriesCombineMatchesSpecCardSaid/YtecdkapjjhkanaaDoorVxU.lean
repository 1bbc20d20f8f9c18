/- A text of the proof: a verified executor of the program form, or the contracts of the functions that the law reaches. -/
import Derived.Test.YtecdkapjjhkanaaDoorVxT
import Derived.Test.YtecdkapjjhkanaaDoorVxQ
import Derived.Test.YtecdkapjjhkanaaDoorVxR
set_option linter.all false
namespace Go.Vx
open Go Go.RowKit

/-! ## Other names for our objects -/

/-- R: new names for objects; N: new, empty rows in the place of nil; F: rows that are data from now on; G: variables that are read only from now on. -/
structure Rw where
  R : Nat → Nat → Prop
  N : Nat → Prop
  F : Nat → Nat → TypeId → List (List AV) → Prop
  G : Nat → Nat → List AV → Prop

inductive RenR (q : Rw) : AV → AV → Prop
  | own {r r' : Nat} (n : Nat) : q.R r r' → RenR q (.own r n) (.own r' n)
  | ptr {r r' : Nat} (n i j : Nat) : q.R r r' → RenR q (.ptr r n i j) (.ptr r' n i j)
  | osl {r r' : Nat} (n j k : Nat) : q.R r r' → RenR q (.osl r n j k) (.osl r' n j k)
  | dat {av : AV} : datB av = true → RenR q av av
  | agg {l l' : List AV} : l.length = l'.length → (∀ i, i < l.length → RenR q (l.getD i .any) (l'.getD i .any)) → RenR q (.agg l) (.agg l')
  | tuple {l l' : List AV} : l.length = l'.length → (∀ i, i < l.length → RenR q (l.getD i .any) (l'.getD i .any)) → RenR q (.tuple l) (.tuple l')
  | fn (f : FuncId) {l l' : List AV} : l.length = l'.length → (∀ i, i < l.length → RenR q (l.getD i .any) (l'.getD i .any)) → RenR q (.fn f l) (.fn f l')
  | any : RenR q .any .any
  | nils (e : TypeId) : RenR q .nils (.sl e [])
  | row {r' : Nat} : q.N r' → RenR q .nils (.own r' 0)
  | frz {r n : Nat} {e : TypeId} {es : List (List AV)} : q.F r n e es → RenR q (.own r n) (.sl e es)
  | frp {r n j : Nat} {row : List AV} : q.G r n row → RenR q (.ptr r n 0 j) (.rp row j)

/-- How a renaming holds between two ways to lie. -/
structure RwOK (q : Rw) (P : Program) (w : World) (M M' : Nat → Prop) (φ ψ : Phi) : Prop where
  R : ∀ r r', q.R r r' → ψ r' = φ r
  N : ∀ r', q.N r' → (ψ r').n = 0 ∧ (ψ r').blk = none ∧ (ψ r').cap = 0
  F : ∀ r n e es v, q.F r n e es → Rel P w M φ (.own r n) v → RelD P w M' (.sl e es) v
  G : ∀ r n row j v, q.G r n row → Rel P w M φ (.ptr r n 0 j) v → RelD P w M' (.rp row j) v
  M : ∀ b, b < w.heap.size → ¬ M b → ¬ M' b

theorem RenR.rel {P : Program} {w : World} {M M' : Nat → Prop} {q : Rw} {φ ψ : Phi} {av av' : AV} {v : Value} (hn : RenR q av av') (hp : RwOK q P w M M' φ ψ) (h : Rel P w M φ av v) : Rel P w M' ψ av' v := by
  have dm : ∀ {av v}, RelD P w M av v → RelD P w M' av v := fun h => h.mono (Nat.le_refl _) (fun _ _ _ => rfl) hp.M
  induction hn generalizing v with
  | own n hr =>
    cases h with
    | data h => cases h
    | own _ _ _ h0 h1 h2 => exact .own _ _ _ h0 (by rw [hp.R _ _ hr]; exact h1) (by rw [hp.R _ _ hr]; exact h2)
  | ptr n i j hr =>
    cases h with
    | data h => cases h
    | ptr _ _ _ _ _ h0 h1 h2 => exact .ptr _ _ _ _ _ h0 (by rw [hp.R _ _ hr]; exact h1) (by rw [hp.R _ _ hr]; exact h2)
  | osl n j k hr =>
    cases h with
    | data h => cases h
    | osl _ _ _ _ _ h0 h1 h2 => exact .osl _ _ _ _ _ h0 (by rw [hp.R _ _ hr]; exact h1) (by rw [hp.R _ _ hr]; exact h2)
  | dat hb =>
    cases h with
    | data h => exact .data (dm h)
    | own => cases hb
    | ptr => cases hb
    | osl => cases hb
    | agg => cases hb
    | tuple => cases hb
    | fn => cases hb
    | when => cases hb
  | agg h1 h2 ih =>
    cases h with
    | data h => cases h with | agg _ vs h3 h4 => exact .agg _ vs (by omega) fun i hi => ih i (by omega) (.data (h4 i (by omega)))
    | agg _ vs h3 h4 => exact .agg _ vs (by omega) fun i hi => ih i (by omega) (h4 i (by omega))
  | tuple h1 h2 ih =>
    cases h with
    | data h => cases h with | tuple _ vs h3 h4 => exact .tuple _ vs (by omega) fun i hi => ih i (by omega) (.data (h4 i (by omega)))
    | tuple _ vs h3 h4 => exact .tuple _ vs (by omega) fun i hi => ih i (by omega) (h4 i (by omega))
  | fn f h1 h2 ih =>
    cases h with
    | data h => cases h with | fn _ _ vs h3 h4 => exact .fn _ _ vs (by omega) fun i hi => ih i (by omega) (.data (h4 i (by omega)))
    | fn _ _ vs h3 h4 => exact .fn _ _ vs (by omega) fun i hi => ih i (by omega) (h4 i (by omega))
  | any => exact .data (.any v)
  | nils e => cases h with | data h => cases h; exact .data (.sl0 e none 0)
  | row hN =>
    cases h with
    | data h =>
      cases h
      obtain ⟨h1, h2, h3⟩ := hp.N _ hN
      exact .own _ _ _ rfl (Nat.zero_le _) fun _ => by rw [h2, h3]; rfl
  | frz hF => exact .data (hp.F _ _ _ _ _ hF h)
  | frp hG => exact .data (hp.G _ _ _ _ _ hG h)

theorem RenR.imp {q q' : Rw} {av av' : AV} (h : RenR q av av') (h1 : ∀ x y, q.R x y → q'.R x y) (h2 : ∀ x, q.N x → q'.N x) (h3 : ∀ r n e es, q.F r n e es → q'.F r n e es) (h4 : ∀ r n row, q.G r n row → q'.G r n row) : RenR q' av av' := by
  induction h with
  | own n hr => exact .own n (h1 _ _ hr)
  | ptr n i j hr => exact .ptr n i j (h1 _ _ hr)
  | osl n j k hr => exact .osl n j k (h1 _ _ hr)
  | dat hb => exact .dat hb
  | agg h1 h2 ih => exact .agg h1 ih
  | tuple h1 h2 ih => exact .tuple h1 ih
  | fn f h1 h2 ih => exact .fn f h1 ih
  | any => exact .any
  | nils e => exact .nils e
  | row h => exact .row (h2 _ h)
  | frz h => exact .frz (h3 _ _ _ _ h)
  | frp h => exact .frp (h4 _ _ _ h)

/-- Lists, one by one. -/
def RenL (q : Rw) (l l' : List AV) : Prop := l.length = l'.length ∧ ∀ i, i < l.length → RenR q (l.getD i .any) (l'.getD i .any)
theorem rln {q : Rw} : RenL q [] [] := ⟨rfl, fun i h => by cases h⟩
theorem rlc {q : Rw} {x y : AV} {l m : List AV} (h : RenR q x y) (k : RenL q l m) : RenL q (x :: l) (y :: m) := ⟨by simp [k.1], fun i hi => by
  cases i with
  | zero => simpa using h
  | succ i => simpa using k.2 i (by simpa using hi)⟩
theorem rld {q : Rw} {l : List AV} (h : l.all datB = true) : RenL q l l := ⟨rfl, fun i hi => .dat (by
  have : l.getD i .any = l[i] := by simp [List.getD_eq_getElem?_getD, hi]
  rw [this]; exact List.all_eq_true.1 h _ (List.getElem_mem _))⟩
theorem rAgg {q : Rw} {l l' : List AV} (h : RenL q l l') : RenR q (.agg l) (.agg l') := .agg h.1 h.2
theorem rTup {q : Rw} {l l' : List AV} (h : RenL q l l') : RenR q (.tuple l) (.tuple l') := .tuple h.1 h.2
theorem rFn {q : Rw} {f : FuncId} {l l' : List AV} (h : RenL q l l') : RenR q (.fn f l) (.fn f l') := .fn f h.1 h.2

/-- One object under two names. -/
def RenOO (P : Program) (q : Rw) (o o' : Own) : Prop := o.elem = o'.elem ∧ o.es.length = o'.es.length ∧ (∀ row ∈ o'.es, row.length = P.cellsOf o'.elem) ∧
  ∀ i j, i < o.es.length → j < P.cellsOf o.elem → RenR q (cellAt o.es i j) (cellAt o'.es i j)

theorem roD {P : Program} {q : Rw} {o : Own} (h : ∀ row ∈ o.es, row.length = P.cellsOf o.elem ∧ row.all datB = true) : RenOO P q o o :=
  ⟨rfl, rfl, fun row hr => (h row hr).1, fun i j hi hj => .dat (cellAt_dat h hi hj)⟩
/-- rows that are printed of data -/
theorem roM {P : Program} {q : Rw} {α : Type} {e : TypeId} {xs : List α} {f : α → List AV} (h : ∀ x, (f x).length = P.cellsOf e ∧ (f x).all datB = true) : RenOO P q ⟨e, xs.map f⟩ ⟨e, xs.map f⟩ :=
  roD fun row hr => by obtain ⟨x, _, rfl⟩ := List.mem_map.1 hr; exact h x
theorem ro1 {P : Program} {q : Rw} {e : TypeId} {l l' : List AV} (hl : l'.length = P.cellsOf e) (h : RenL q l l') : RenOO P q ⟨e, [l]⟩ ⟨e, [l']⟩ :=
  ⟨rfl, rfl, fun row hr => by cases List.mem_singleton.1 hr; exact hl, fun i j hi hj => by
    have : i = 0 := by simpa using hi
    subst this
    exact h.2 j (by show j < l.length; rw [h.1, hl]; exact hj)⟩

/-- What an object holds, told under other names. -/
theorem HRel.ren {P : Program} {w : World} {M M' : Nat → Prop} {n n' : Nat} {φ φ' : Phi} {q : Rw} {r r' : Nat} {o o' : Own} (hO : HRel P w M n φ r o) (he : φ' r' = φ r) (h : RenOO P q o o')
    (hR : ∀ ψ, Agree n' φ' ψ → RwOK q P w M M' φ ψ) : HRel P w M' n' φ' r' o' := by
  obtain ⟨h1, h2, h4, h5⟩ := h
  refine ⟨by rw [he, ← h2]; exact hO.len, by rw [he, ← h1]; exact hO.sz, h4, by rw [he, ← h2]; exact hO.room, by rw [he]; exact hO.cap, fun hb => ?_, fun b hb => ?_⟩
  · rw [he] at hb ⊢
    obtain ⟨e1, e2⟩ := hO.none hb
    exact ⟨List.eq_nil_of_length_eq_zero (by rw [← h2, e1]; rfl), e2⟩
  · rw [he] at hb
    obtain ⟨cs, e1, e2, e3⟩ := hO.some b hb
    refine ⟨cs, by rw [← h1]; exact e1, by rw [he, ← h1]; exact e2, fun i j hi hj ψ hψ => ?_⟩
    rw [← h1] at hj ⊢
    exact (h5 i j (by omega) hj).rel (hR ψ hψ) (e3 i j (by omega) hj φ (fun _ _ => rfl))

theorem RelF.ren {P : Program} {w : World} {M M' : Nat → Prop} {n n' : Nat} {φ φ' : Phi} {q : Rw} {av av' : AV} {v : Value} (h : RelF P w M n φ av v) (hr : RenR q av av')
    (hR : ∀ ψ, Agree n' φ' ψ → RwOK q P w M M' φ ψ) : RelF P w M' n' φ' av' v := fun ψ hψ => hr.rel (hR ψ hψ) (h φ (fun _ _ => rfl))

/-- A renaming that renames alone. -/
def rwR (R : Nat → Nat → Prop) : Rw := ⟨R, fun _ => False, fun _ _ _ _ => False, fun _ _ _ => False⟩
theorem rwR_ok {P : Program} {w : World} {M M' : Nat → Prop} {φ ψ : Phi} {R : Nat → Nat → Prop} (h : ∀ r r', R r r' → ψ r' = φ r) (hM : ∀ b, b < w.heap.size → ¬ M b → ¬ M' b) : RwOK (rwR R) P w M M' φ ψ :=
  ⟨h, fun _ h => h.elim, fun _ _ _ _ _ h => h.elim, fun _ _ _ _ _ h => h.elim, hM⟩

/-! ## Choose the objects that stay, in this order -/

/-- 'some r': the object that was r; 'none': an empty row. -/
def selQ (s : List (Option Nat)) (hp : List (Option Own)) : Rw where
  R := fun r r' => s[r']? = some (some r)
  N := fun r' => s[r']? = some none
  F := fun r n e es => s.contains (some r) = false ∧ nth hp r = some ⟨e, es⟩ ∧ es.length = n ∧ ∀ row ∈ es, row.all datB = true
  G := fun r n row => s.contains (some r) = false ∧ (∃ e, nth hp r = some ⟨e, [row]⟩) ∧ n = 1 ∧ row.all datB = true

inductive SelTm (q : Rw) (tm : List (Nat × AV)) : List (Nat × AV) → Prop
  | nil : SelTm q tm []
  | cons {t : Nat} {v v' : AV} {tl : List (Nat × AV)} : look tm t = some v → RenR q v v' → SelTm q tm tl → SelTm q tm ((t, v') :: tl)
theorem SelTm.look {q : Rw} {tm tl : List (Nat × AV)} (h : SelTm q tm tl) : ∀ t av', Vx.look tl t = some av' → ∃ av, Vx.look tm t = some av ∧ RenR q av av' := by
  induction h with
  | nil => intro t av' h; cases h
  | cons h1 h2 _ ih =>
    intro t av' hl
    simp only [Vx.look] at hl
    split at hl
    · rename_i he
      have he := Nat.eq_of_beq_eq_true he
      subst he
      cases hl
      exact ⟨_, h1, h2⟩
    · exact ih t av' hl
theorem sn {q : Rw} {tm : List (Nat × AV)} : SelTm q tm [] := .nil
/-- slot t, plain data -/
theorem sd {q : Rw} {tm : List (Nat × AV)} (t : Nat) {v : AV} {tl : List (Nat × AV)} (h : look tm t = some v) (hb : datB v = true) (k : SelTm q tm tl) : SelTm q tm ((t, v) :: tl) := .cons h (.dat hb) k
theorem sr {q : Rw} {tm : List (Nat × AV)} (t : Nat) {v v' : AV} {tl : List (Nat × AV)} (h : look tm t = some v) (hb : RenR q v v') (k : SelTm q tm tl) : SelTm q tm ((t, v') :: tl) := .cons h hb k

inductive SelHp (P : Program) (q : Rw) (hp : List (Option Own)) : List (Option Nat) → List (Option Own) → Prop
  | nil : SelHp P q hp [] []
  | cons {r : Nat} {o o' : Own} {s : List (Option Nat)} {tl : List (Option Own)} : nth hp r = some o → RenOO P q o o' → SelHp P q hp s tl → SelHp P q hp (some r :: s) (some o' :: tl)
  | dead {r : Nat} {s : List (Option Nat)} {tl : List (Option Own)} : SelHp P q hp s tl → SelHp P q hp (some r :: s) (.none :: tl)
  | row (e : TypeId) {s : List (Option Nat)} {tl : List (Option Own)} : SelHp P q hp s tl → SelHp P q hp (.none :: s) (some ⟨e, []⟩ :: tl)
theorem SelHp.len {P : Program} {q : Rw} {hp : List (Option Own)} {s : List (Option Nat)} {tl : List (Option Own)} (h : SelHp P q hp s tl) : tl.length = s.length := by induction h <;> simp_all
theorem SelHp.get {P : Program} {q : Rw} {hp : List (Option Own)} {s : List (Option Nat)} {tl : List (Option Own)} (h : SelHp P q hp s tl) : ∀ r' o', nth tl r' = some o' →
    (∃ r o, s[r']? = some (some r) ∧ nth hp r = some o ∧ RenOO P q o o') ∨ (s[r']? = some none ∧ o'.es = []) := by
  induction h with
  | nil => intro r' o' h; cases h
  | @cons r o o' s tl h1 h2 _ ih =>
    intro r' o'' h
    cases r' with
    | zero => cases h; exact .inl ⟨r, o, rfl, h1, h2⟩
    | succ r' => simpa using ih r' o'' h
  | dead _ ih =>
    intro r' o'' h
    cases r' with
    | zero => cases h
    | succ r' => simpa using ih r' o'' h
  | row e _ ih =>
    intro r' o'' h
    cases r' with
    | zero => cases h; exact .inr ⟨rfl, rfl⟩
    | succ r' => simpa using ih r' o'' h

def nodupB : List Nat → Bool
  | [] => true
  | x :: l => !l.contains x && nodupB l
theorem nodup_of {l : List Nat} (h : nodupB l = true) : ∀ (i j x : Nat), l[i]? = some x → l[j]? = some x → i = j := by
  induction l with
  | nil => intro i j x h; simp at h
  | cons y l ih =>
    simp only [nodupB, Bool.and_eq_true, Bool.not_eq_true'] at h
    have hy : ∀ (j : Nat), l[j]? ≠ some y := fun j hj => by
      have := List.mem_of_getElem? hj
      have h1 := h.1
      simp at h1
      exact h1 this
    intro i j x hi hj
    cases i with
    | zero =>
      simp at hi; subst hi
      cases j with
      | zero => rfl
      | succ j => simp at hj; exact absurd hj (hy j)
    | succ i =>
      cases j with
      | zero => simp at hj; subst hj; simp at hi; exact absurd hi (hy i)
      | succ j => simp at hi hj; rw [ih h.2 i j x hi hj]

def fixB : Nat → Nat → List Nat → Bool
  | _, 0, _ => true
  | k, n + 1, x :: s => Nat.beq x k && fixB (k + 1) n s
  | _, _ + 1, [] => false
theorem fix_of : ∀ {n k : Nat} {s : List Nat}, fixB k n s = true → n ≤ s.length ∧ ∀ r, r < n → s[r]? = some (k + r)
  | 0, k, s, _ => ⟨Nat.zero_le _, fun r h => by omega⟩
  | n + 1, k, [], h => by cases h
  | n + 1, k, x :: s, h => by
    simp only [fixB, Bool.and_eq_true] at h
    obtain ⟨h1, h2⟩ := fix_of (n := n) (k := k + 1) (s := s) h.2
    have hx := Nat.eq_of_beq_eq_true h.1
    refine ⟨by simp; omega, fun r hr => ?_⟩
    cases r with
    | zero => simp [hx]
    | succ r => simp; rw [h2 r (by omega)]; congr 1; omega


def oldsOf : List (Option Nat) → List Nat
  | [] => []
  | some r :: s => r :: oldsOf s
  | none :: s => oldsOf s
def dupB : List (Option Nat) → Bool
  | [] => true
  | some x :: l => !l.contains (some x) && dupB l
  | none :: l => dupB l
theorem dup_of {l : List (Option Nat)} (h : dupB l = true) : ∀ (i j x : Nat), l[i]? = some (some x) → l[j]? = some (some x) → i = j := by
  induction l with
  | nil => intro i j x h; simp at h
  | cons y l ih =>
    have hl : dupB l = true := by cases y with | none => exact h | some y => simp only [dupB, Bool.and_eq_true] at h; exact h.2
    have hy : ∀ z, y = some z → ∀ (j : Nat), l[j]? ≠ some (some z) := fun z hz j hj => by
      subst hz
      have := List.mem_of_getElem? hj
      simp only [dupB, Bool.and_eq_true, Bool.not_eq_true'] at h
      have h1 := h.1
      simp at h1
      exact h1 this
    intro i j x hi hj
    cases i with
    | zero =>
      simp at hi
      cases j with
      | zero => rfl
      | succ j => simp at hj; exact absurd hj (hy x hi j)
    | succ i =>
      cases j with
      | zero => simp at hj; simp at hi; exact absurd hi (hy x hj i)
      | succ j => simp at hi hj; rw [ih hl i j x hi hj]
def fixB' : Nat → Nat → List (Option Nat) → Bool
  | _, 0, _ => true
  | k, n + 1, some x :: s => Nat.beq x k && fixB' (k + 1) n s
  | _, _ + 1, _ => false
theorem fix_of' : ∀ {n k : Nat} {s : List (Option Nat)}, fixB' k n s = true → n ≤ s.length ∧ ∀ r, r < n → s[r]? = some (some (k + r))
  | 0, k, s, _ => ⟨Nat.zero_le _, fun r h => by omega⟩
  | n + 1, k, [], h => by cases h
  | n + 1, k, none :: s, h => by cases h
  | n + 1, k, some x :: s, h => by
    simp only [fixB', Bool.and_eq_true] at h
    obtain ⟨h1, h2⟩ := fix_of' (n := n) (k := k + 1) (s := s) h.2
    have hx := Nat.eq_of_beq_eq_true h.1
    refine ⟨by simp; omega, fun r hr => ?_⟩
    cases r with
    | zero => simp [hx]
    | succ r => simp; rw [h2 r (by omega)]; congr 1; congr 1; omega

theorem sel_core {c : Ctx} {st : St} {φ : Phi} {a : Act} {w : World} (hc : Conc c φ st a w) {hp' : List (Option Own)} (s : List (Option Nat)) (hhp : SelHp c.P (selQ s st.hp) st.hp s hp')
    (hnd : dupB s = true) (hfx : fixB' 0 c.n0 s = true) : ∃ φ', HeapOK c φ' hp' w ∧ ∀ av av' v, RenR (selQ s st.hp) av av' → RelF c.P w (Mut c.A φ st.hp) st.hp.length φ av v → RelF c.P w (Mut c.A φ' hp') hp'.length φ' av' v := by
  obtain ⟨tm, hp⟩ := st
  simp only at hhp ⊢
  have hlen := hhp.len
  obtain ⟨hf1, hf2⟩ := fix_of' hfx
  let φ' : Phi := fun r' => match s[r']? with | some (some r) => φ r | some none => (match nth hp' r' with | some o => ⟨none, 0, 0, c.P.cellsOf o.elem⟩ | none => ⟨none, 0, 0, 0⟩) | none => φz r'
  have hφ : ∀ r r', s[r']? = some (some r) → φ' r' = φ r := fun r r' h => by simp only [φ', h]
  have hφn : ∀ r', s[r']? = some none → (φ' r').n = 0 ∧ (φ' r').blk = none ∧ (φ' r').cap = 0 := fun r' h => by
    simp only [φ', h]
    split <;> exact ⟨rfl, rfl, rfl⟩
  have hmut : ∀ b, Mut c.A φ' hp' b → c.A b ∨ ∃ r o, s.contains (some r) = true ∧ nth hp r = some o ∧ (φ r).blk = some b := by
    rintro b (ha | ⟨r', o', hr, hb⟩)
    · exact .inl ha
    · rcases hhp.get r' o' hr with ⟨r, o, h1, h2, _⟩ | ⟨h1, h2⟩
      · rw [hφ r r' h1] at hb
        exact .inr ⟨r, o, by simpa using List.mem_of_getElem? h1, h2, hb⟩
      · rw [(hφn r' h1).2.1] at hb; cases hb
  have hmut' : ∀ b, Mut c.A φ' hp' b → Mut c.A φ hp b := fun b h => (hmut b h).elim .inl fun ⟨r, o, _, h2, h3⟩ => .inr ⟨r, o, h2, h3⟩
  have hfrz : ∀ r o b, s.contains (some r) = false → nth hp r = some o → (φ r).blk = some b → ¬ Mut c.A φ' hp' b := by
    intro r o b h1 h2 h3 hm
    rcases hmut b hm with h | ⟨r', o', h4, h5, h6⟩
    · exact (hc.hok.owned r o b h2 h3).2 h
    · have := hc.hok.apart r r' o o' b h2 h5 h3 h6
      subst this
      rw [h1] at h4; cases h4
  have hQ : ∀ ψ, Agree hp'.length φ' ψ → RwOK (selQ s hp) c.P w (Mut c.A φ hp) (Mut c.A φ' hp') φ ψ := by
    intro ψ hψ
    refine ⟨fun r r' h => ?_, fun r' h => ?_, fun r n e es v hF h => ?_, fun r n row j v hG h => ?_, fun b _ hm hm' => hm (hmut' b hm')⟩
    · have h' : s[r']? = some (some r) := h
      rw [hψ r' (by rw [hlen]; exact (List.getElem?_eq_some_iff.1 h').1)]
      exact hφ r r' h'
    · have h' : s[r']? = some none := h
      rw [hψ r' (by rw [hlen]; exact (List.getElem?_eq_some_iff.1 h').1)]
      exact hφn r' h'
    · obtain ⟨h1, h2, h3, h4⟩ := hF
      have hO := hc.hok.obj r _ h2
      cases h with
      | data h => cases h
      | own _ _ _ g0 g1 g2 =>
        have hv := g2 (by rw [hO.len]; exact h3)
        subst h3
        cases es with
        | nil => rw [hv]; exact .sl0 _ _ _
        | cons row es =>
          cases hb : (φ r).blk with
          | none => have := (hO.none hb).1; cases this
          | some b =>
            obtain ⟨cs, e1, e2, e3⟩ := hO.some b hb
            rw [hv, hb]
            have hsz : ∀ i j, i < (row :: es).length → j < c.P.cellsOf e → i * c.P.cellsOf e + j < cs.size := fun i j hi hj => by
              rw [e2]; exact ix_lt (Nat.lt_of_lt_of_le hi hO.room) hj
            refine .sl e (row :: es) b 0 _ (fun i j => cs.getD (i * c.P.cellsOf e + j) undef) (Array.getElem?_eq_some_iff.1 e1).1 (hfrz r _ b h1 h2 hb) (Nat.lt_of_le_of_lt hO.room hO.cap) hO.room hO.rows (fun i j hi hj => ?_) (fun i j hi hj => ?_)
            · rw [cell_of_cells e1]
              have := hsz i j hi hj
              simp [this]
            · have := e3 i j hi hj φ (fun _ _ => rfl)
              have hd : datB (cellAt (row :: es) i j) = true := cellAt_dat (fun x hx => ⟨hO.rows x hx, h4 x hx⟩) hi hj
              exact (Dat.b (c := c) (st := ⟨tm, hp⟩) hd φ a w hc _ (e3 i j hi hj)).mono (Nat.le_refl _) (fun _ _ _ => rfl) (fun b _ hm hm' => hm (hmut' b hm'))
    · obtain ⟨h1, ⟨e, h2⟩, h3, h4⟩ := hG
      have hO := hc.hok.obj r _ h2
      cases h with
      | data h => cases h
      | ptr _ _ _ _ _ g0 g1 g2 =>
        obtain ⟨b, hb, hv⟩ := g2 (by rw [hO.len, h3]; rfl)
        obtain ⟨cs, e1, e2, e3⟩ := hO.some b hb
        have hrl := hO.rows row (by simp)
        rw [hv, Nat.zero_mul]
        have hroom : 1 ≤ (φ r).cap := hO.room
        have hsz : ∀ j, j < row.length → j < cs.size := fun j hj => by
          rw [e2, ← hrl]
          have := Nat.mul_le_mul_right row.length hroom
          omega
        refine .rp row b 0 j (fun j => cs.getD j undef) (Array.getElem?_eq_some_iff.1 e1).1 (hfrz r _ b h1 h2 hb) (fun k hk => ?_) (fun k hk => ?_)
        · rw [cell_of_cells e1, Nat.zero_add]
          have := hsz k hk
          simp [this]
        · have := e3 0 k (by simp) (by rw [← hrl]; exact hk)
          have e0 : cellAt [row] 0 k = row.getD k .any := by simp [cellAt]
          rw [e0, Nat.zero_mul, Nat.zero_add] at this
          have hd : datB (row.getD k .any) = true := by
            have : row.getD k .any = row[k] := by simp [List.getD_eq_getElem?_getD, hk]
            rw [this]; exact List.all_eq_true.1 h4 _ (List.getElem_mem _)
          exact (Dat.b (c := c) (st := ⟨tm, hp⟩) hd φ a w hc _ this).mono (Nat.le_refl _) (fun _ _ _ => rfl) (fun b _ hm hm' => hm (hmut' b hm'))
  refine ⟨φ', ⟨hc.hok.os, hc.hok.tape, hc.hok.output, hc.hok.heap, hc.hok.frame, ?_, ?_, ?_, hc.hok.amb, hc.hok.glob, by show c.n0 ≤ hp'.length; omega, fun r hr => ?_⟩, ?_⟩
  · intro r' o' b hr hb
    rcases hhp.get r' o' hr with ⟨r, o, h1, h2, _⟩ | ⟨h1, _⟩
    · rw [hφ r r' h1] at hb
      exact hc.hok.owned r o b h2 hb
    · rw [(hφn r' h1).2.1] at hb; cases hb
  · intro r1 r2 o1 o2 b hr1 hr2 hb1 hb2
    rcases hhp.get r1 o1 hr1 with ⟨x1, q1, e1, f1, _⟩ | ⟨e1, _⟩
    · rcases hhp.get r2 o2 hr2 with ⟨x2, q2, e2, f2, _⟩ | ⟨e2, _⟩
      · rw [hφ _ _ e1] at hb1
        rw [hφ _ _ e2] at hb2
        have := hc.hok.apart x1 x2 q1 q2 b f1 f2 hb1 hb2
        subst this
        exact dup_of hnd r1 r2 x1 e1 e2
      · rw [(hφn r2 e2).2.1] at hb2; cases hb2
    · rw [(hφn r1 e1).2.1] at hb1; cases hb1
  · intro r' o' hr
    rcases hhp.get r' o' hr with ⟨r, o, h1, h2, h3⟩ | ⟨h1, h2⟩
    · exact (hc.hok.obj r o h2).ren (hφ _ _ h1) h3 hQ
    · have e : φ' r' = ⟨none, 0, 0, c.P.cellsOf o'.elem⟩ := by simp only [φ', h1, hr]
      refine ⟨by rw [e, h2]; rfl, by rw [e], by rw [h2]; simp, by rw [e, h2]; exact Nat.le_refl _, by rw [e]; exact (by decide : (0:Nat) < 2 ^ 63), fun _ => ⟨h2, by rw [e]⟩, fun b hb => by rw [e] at hb; cases hb⟩
  · have := hf2 r hr
    rw [Nat.zero_add] at this
    rw [hφ r r this]
    exact hc.hok.mono r hr
  · intro av av' v h2 h1
    exact h1.ren h2 hQ

theorem Ent.sel {c : Ctx} {st : St} {tm' : List (Nat × AV)} {hp' : List (Option Own)} (s : List (Option Nat)) (htm : SelTm (selQ s st.hp) st.tm tm') (hhp : SelHp c.P (selQ s st.hp) st.hp s hp')
    (hnd : dupB s = true) (hfx : fixB' 0 c.n0 s = true) : Ent c st ⟨tm', hp'⟩ := by
  intro φ a w hc
  obtain ⟨φ', h1, h2⟩ := sel_core hc s hhp hnd hfx
  refine ⟨φ', hc.size, hc.defers, h1, fun t av' ht => ?_⟩
  obtain ⟨av, h3, h4⟩ := htm.look t av' ht
  exact h2 _ _ _ h4 (hc.tm t av h3)

theorem R_ent {c : Ctx} {ops : Array Oper} {rest : List Oper} {st st' : St} {K : Exit → St → Prop} (he : Ent c st st') (h : R c ops rest st' K) : R c ops rest st K :=
  fun φ a w hc => let ⟨φ', hc'⟩ := he φ a w hc; h φ' a w hc'
end Go.Vx
