/- A text of the proof: a verified executor of the program form, or the contracts of the functions that the law reaches. -/
import Derived.Test.YtieneanhpdhfiaaDoorVC
set_option linter.all false
namespace Go.Vx
open Go Go.RowKit


structure Rw where
  R : Nat → Nat → Prop
  N : Nat → Prop
  F : Nat → Nat → TypeId → List (List AV) → Prop
  G : Nat → Nat → List AV → Prop

inductive RenR (q : Rw) : AV → AV → Prop
  | own {r r' : Nat} (n : Nat) : q.R r r' → RenR q (.own r n) (.own r' n)
  | ptr {r r' : Nat} (n i j : Nat) : q.R r r' → RenR q (.ptr r n i j) (.ptr r' n i j)
  | osl {r r' : Nat} (n j k : Nat) : q.R r r' → RenR q (.osl r n j k) (.osl r' n j k)
  | mref {r r' : Nat} (n : Nat) : q.R r r' → RenR q (.mref r n) (.mref r' n)
  | bptr {r r' : Nat} (n : Nat) : q.R r r' → RenR q (.bptr r n) (.bptr r' n)
  | out (av : AV) : RenR q av .any
  | dat {av : AV} : datB av = true → RenR q av av
  | agg {l l' : List AV} : l.length = l'.length → (∀ i, i < l.length → RenR q (l.getD i .any) (l'.getD i .any)) → RenR q (.agg l) (.agg l')
  | tuple {l l' : List AV} : l.length = l'.length → (∀ i, i < l.length → RenR q (l.getD i .any) (l'.getD i .any)) → RenR q (.tuple l) (.tuple l')
  | fn (f : FuncId) {l l' : List AV} : l.length = l'.length → (∀ i, i < l.length → RenR q (l.getD i .any) (l'.getD i .any)) → RenR q (.fn f l) (.fn f l')
  | any : RenR q .any .any
  | nils (e : TypeId) : RenR q .nils (.sl e [])
  | row {r' : Nat} : q.N r' → RenR q .nils (.own r' 0)
  | frz {r n : Nat} {e : TypeId} {es : List (List AV)} : q.F r n e es → RenR q (.own r n) (.sl e es)
  | frp {r n j : Nat} {row : List AV} : q.G r n row → RenR q (.ptr r n 0 j) (.rp row j)

structure RwOK (q : Rw) (P : Program) (w : World) (M M' : Nat → Prop) (φ ψ : Phi) : Prop where
  R : ∀ r r', q.R r r' → ψ r' = φ r
  N : ∀ r', q.N r' → (ψ r').n = 0 ∧ (ψ r').blk = none ∧ (ψ r').cap = 0 ∧ (ψ r').mp = false
  F : ∀ r n e es v, q.F r n e es → Rel P w M φ (.own r n) v → RelD P w M' (.sl e es) v
  G : ∀ r n row j v, q.G r n row → Rel P w M φ (.ptr r n 0 j) v → RelD P w M' (.rp row j) v
  M : ∀ b, b < w.heap.size → ¬ M b → ¬ M' b

theorem RenR.rel {P : Program} {w : World} {M M' : Nat → Prop} {q : Rw} {φ ψ : Phi} {av av' : AV} {v : Value} (hn : RenR q av av') (hp : RwOK q P w M M' φ ψ) (h : Rel P w M φ av v) : Rel P w M' ψ av' v := by
  have dm : ∀ {av v}, RelD P w M av v → RelD P w M' av v := fun h => h.mono (Nat.le_refl _) (fun _ _ _ => rfl) hp.M
  induction hn generalizing v with
  | own n hr =>
    cases h with
    | data h => cases h
    | own _ _ _ h0 h1 h2 => exact .own _ _ _ h0 (by rw [hp.R _ _ hr]; exact h1) (by rw [hp.R _ _ hr]; exact h2)
  | ptr n i j hr =>
    cases h with
    | data h => cases h
    | ptr _ _ _ _ _ h0 h1 h2 => exact .ptr _ _ _ _ _ h0 (by rw [hp.R _ _ hr]; exact h1) (by rw [hp.R _ _ hr]; exact h2)
  | osl n j k hr =>
    cases h with
    | data h => cases h
    | osl _ _ _ _ _ h0 h1 h2 => exact .osl _ _ _ _ _ h0 (by rw [hp.R _ _ hr]; exact h1) (by rw [hp.R _ _ hr]; exact h2)
  | mref n hr =>
    cases h with
    | data h => cases h
    | mref _ _ _ h0 h1 h2 => exact .mref _ _ _ h0 (by rw [hp.R _ _ hr]; exact h1) (by rw [hp.R _ _ hr]; exact h2)
  | bptr n hr =>
    cases h with
    | data h => cases h
    | bptr _ _ _ h0 h1 h2 => exact .bptr _ _ _ h0 (by rw [hp.R _ _ hr]; exact h1) (by rw [hp.R _ _ hr]; exact h2)
  | out av => exact .data (.any v)
  | dat hb => exact .data (dm (Zbf h hb))
  | agg h1 h2 ih =>
    cases h with
    | data h => cases h with | agg _ vs h3 h4 => exact .agg _ vs (by omega) fun i hi => ih i (by omega) (.data (h4 i (by omega)))
    | agg _ vs h3 h4 => exact .agg _ vs (by omega) fun i hi => ih i (by omega) (h4 i (by omega))
  | tuple h1 h2 ih =>
    cases h with
    | data h => cases h with | tuple _ vs h3 h4 => exact .tuple _ vs (by omega) fun i hi => ih i (by omega) (.data (h4 i (by omega)))
    | tuple _ vs h3 h4 => exact .tuple _ vs (by omega) fun i hi => ih i (by omega) (h4 i (by omega))
  | fn f h1 h2 ih =>
    cases h with
    | data h => cases h with | fn _ _ vs h3 h4 => exact .fn _ _ vs (by omega) fun i hi => ih i (by omega) (.data (h4 i (by omega)))
    | fn _ _ vs h3 h4 => exact .fn _ _ vs (by omega) fun i hi => ih i (by omega) (h4 i (by omega))
  | any => exact .data (.any v)
  | nils e => cases h with | data h => cases h; exact .data (.sl0 e none 0)
  | row hN =>
    cases h with
    | data h =>
      cases h
      obtain ⟨h1, h2, h3, h4⟩ := hp.N _ hN
      exact .own _ _ _ rfl (Nat.zero_le _) fun _ => by rw [h2, h3]; exact ⟨h4, rfl⟩
  | frz hF => exact .data (hp.F _ _ _ _ _ hF h)
  | frp hG => exact .data (hp.G _ _ _ _ _ hG h)

theorem RenR.imp {q q' : Rw} {av av' : AV} (h : RenR q av av') (h1 : ∀ x y, q.R x y → q'.R x y) (h2 : ∀ x, q.N x → q'.N x) (h3 : ∀ r n e es, q.F r n e es → q'.F r n e es) (h4 : ∀ r n row, q.G r n row → q'.G r n row) : RenR q' av av' := by
  induction h with
  | own n hr => exact .own n (h1 _ _ hr)
  | ptr n i j hr => exact .ptr n i j (h1 _ _ hr)
  | osl n j k hr => exact .osl n j k (h1 _ _ hr)
  | mref n hr => exact .mref n (h1 _ _ hr)
  | bptr n hr => exact .bptr n (h1 _ _ hr)
  | out av => exact .out av
  | dat hb => exact .dat hb
  | agg h1 h2 ih => exact .agg h1 ih
  | tuple h1 h2 ih => exact .tuple h1 ih
  | fn f h1 h2 ih => exact .fn f h1 ih
  | any => exact .any
  | nils e => exact .nils e
  | row h => exact .row (h2 _ h)
  | frz h => exact .frz (h3 _ _ _ _ h)
  | frp h => exact .frp (h4 _ _ _ h)

def ZbE (q : Rw) (l l' : List AV) : Prop := l.length = l'.length ∧ ∀ i, i < l.length → RenR q (l.getD i .any) (l'.getD i .any)
theorem rln {q : Rw} : ZbE q [] [] := ⟨rfl, fun i h => by cases h⟩
theorem rlc {q : Rw} {x y : AV} {l m : List AV} (h : RenR q x y) (k : ZbE q l m) : ZbE q (x :: l) (y :: m) := ⟨by simp [k.1], fun i hi => by
  cases i with
  | zero => simpa using h
  | succ i => simpa using k.2 i (by simpa using hi)⟩
theorem rld {q : Rw} {l : List AV} (h : l.all datB = true) : ZbE q l l := ⟨rfl, fun i hi => .dat (by
  have : l.getD i .any = l[i] := by simp [List.getD_eq_getElem?_getD, hi]
  rw [this]; exact List.all_eq_true.1 h _ (List.getElem_mem _))⟩
theorem ZdY {q : Rw} {l l' : List AV} (h : ZbE q l l') : RenR q (.agg l) (.agg l') := .agg h.1 h.2
theorem JP {q : Rw} {l l' : List AV} (h : ZbE q l l') : RenR q (.tuple l) (.tuple l') := .tuple h.1 h.2
theorem rFn {q : Rw} {f : FuncId} {l l' : List AV} (h : ZbE q l l') : RenR q (.fn f l) (.fn f l') := .fn f h.1 h.2

inductive RenC (q : Rw) : AV → AV → Prop
  | ren {av av' : AV} : RenR q av av' → RenC q av av'
  | nil (e : TypeId) : RenC q .nils (.osub e [])
  | sub {e : TypeId} {l : List (List AV)} (h : ∀ i j, RenC q (cellAt l i j) (cellAt l i j)) : RenC q (.osub e l) (.osub e l)
  | map {l : List (List AV)} (h0 : ∀ i, RenR q (cellAt l i 0) (cellAt l i 0)) (h : ∀ i, RenC q (cellAt l i 1) (cellAt l i 1)) : RenC q (.mcon l) (.mcon l)

theorem RenC.relX {P : Program} {w : World} {M M' : Nat → Prop} {n n' : Nat} {φ φ' : Phi} {q : Rw} {S : Nat → Prop} {av av' : AV} {v : Value} (hn : RenC q av av') (hR : ∀ ψ, JT n' φ' ψ → ∃ χ, JT n φ χ ∧ RwOK q P w M M' χ ψ) (h : TRel P w M n φ S av v) : TRel P w M' n' φ' S av' v := by
  have hren : ∀ {av av' v}, RenR q av av' → RelF P w M n φ av v → RelF P w M' n' φ' av' v := fun hr h ψ hψ => by
    obtain ⟨χ, h1, h2⟩ := hR ψ hψ
    exact hr.rel h2 (h χ h1)
  induction hn generalizing S v with
  | @ren av av' hr =>
    cases h with
    | leaf h => exact .leaf (hren hr h)
    | nil e => cases hr with | out => exact .leaf (Ze (.any _)) | dat hb => cases hb
    | osub => cases hr with | out => exact .leaf (Ze (.any _)) | dat hb => cases hb
    | mcon => cases hr with | out => exact .leaf (Ze (.any _)) | dat hb => cases hb
  | nil e =>
    cases h with
    | leaf h =>
      have hv := h φ (fun _ _ => rfl)
      cases hv with | data h => cases h; exact .nil e
  | @sub e l h0 ih =>
    cases h with
    | leaf h => have := Zbd h; cases this
    | nil e => exact .nil e
    | osub _ _ b cap cs T h1 h2 h3 h4 h5 h6 h7 h8 h9 => exact .osub e l b cap cs T h1 h2 h3 h4 h5 h6 h7 h8 fun i j hi hj => ih i j (h9 i j hi hj)
  | @map l h0 h' ih =>
    cases h with
    | leaf h => have := Zbd h; cases this
    | mcon _ ks vs es T h1 h2 h3 h4 h5 h6 => exact .mcon l ks vs es T h1 h2 h3 h4 (fun i hi => hren (h0 i) (h5 i hi)) fun i hi => ih i (h6 i hi)
theorem RenC.rel {P : Program} {w : World} {M M' : Nat → Prop} {n n' : Nat} {φ φ' : Phi} {q : Rw} {S : Nat → Prop} {av av' : AV} {v : Value} (hn : RenC q av av') (hR : ∀ ψ, JT n' φ' ψ → RwOK q P w M M' φ ψ) (h : TRel P w M n φ S av v) : TRel P w M' n' φ' S av' v :=
  hn.relX (fun ψ hψ => ⟨φ, fun _ _ => rfl, hR ψ hψ⟩) h

def RenOO (P : Program) (q : Rw) (o o' : Own) : Prop := o.elem = o'.elem ∧ o.es.length = o'.es.length ∧ (∀ row ∈ o'.es, row.length = P.cellsOf o'.elem) ∧
  ∀ i j, i < o.es.length → j < P.cellsOf o.elem → RenC q (cellAt o.es i j) (cellAt o'.es i j)

theorem roD {P : Program} {q : Rw} {o : Own} (h : ∀ row ∈ o.es, row.length = P.cellsOf o.elem ∧ row.all datB = true) : RenOO P q o o :=
  ⟨rfl, rfl, fun row hr => (h row hr).1, fun i j hi hj => .ren (.dat (ZbB h hi hj))⟩
theorem roM {P : Program} {q : Rw} {α : Type} {e : TypeId} {xs : List α} {f : α → List AV} (h : ∀ x, (f x).length = P.cellsOf e ∧ (f x).all datB = true) : RenOO P q ⟨e, xs.map f⟩ ⟨e, xs.map f⟩ :=
  roD fun row hr => by obtain ⟨x, _, rfl⟩ := List.mem_map.1 hr; exact h x
theorem ro1 {P : Program} {q : Rw} {e : TypeId} {l l' : List AV} (hl : l'.length = P.cellsOf e) (h : ZbE q l l') : RenOO P q ⟨e, [l]⟩ ⟨e, [l']⟩ :=
  ⟨rfl, rfl, fun row hr => by cases List.mem_singleton.1 hr; exact hl, fun i j hi hj => by
    have : i = 0 := by simpa using hi
    subst this
    exact .ren (h.2 j (by show j < l.length; rw [h.1, hl]; exact hj))⟩

theorem HRel.ren {P : Program} {w : World} {M M' : Nat → Prop} {n n' : Nat} {φ φ' : Phi} {q : Rw} {r r' : Nat} {o o' : Own} (hO : HRel P w M n φ r o) (he : φ' r' = φ r) (h : RenOO P q o o')
    (hR : ∀ ψ, JT n' φ' ψ → RwOK q P w M M' φ ψ) : HRel P w M' n' φ' r' o' := by
  obtain ⟨h1, h2, h4, h5⟩ := h
  refine ⟨by rw [he, ← h2]; exact hO.len, by rw [he, ← h1]; exact hO.sz, h4, by rw [he, ← h2]; exact hO.room, by rw [he]; exact hO.cap, fun hb => ?_, by rw [he]; exact hO.subl, by rw [he]; exact hO.subn, fun b hb => ?_⟩
  · rw [he] at hb ⊢
    obtain ⟨e1, e2⟩ := hO.none hb
    exact ⟨List.eq_nil_of_length_eq_zero (by rw [← h2, e1]; rfl), e2⟩
  · rw [he] at hb ⊢
    obtain ⟨cs, e1, e2, T, t1, t2, e3⟩ := hO.some b hb
    refine ⟨cs, by rw [← h1]; exact e1, by rw [← h1]; exact e2, T, t1, t2, fun i j hi hj => ?_⟩
    rw [← h1] at hj ⊢
    exact (h5 i j (by omega) hj).rel hR (e3 i j (by omega) hj)

theorem RelF.ren {P : Program} {w : World} {M M' : Nat → Prop} {n n' : Nat} {φ φ' : Phi} {q : Rw} {av av' : AV} {v : Value} (h : RelF P w M n φ av v) (hr : RenR q av av')
    (hR : ∀ ψ, JT n' φ' ψ → RwOK q P w M M' φ ψ) : RelF P w M' n' φ' av' v := fun ψ hψ => hr.rel (hR ψ hψ) (h φ (fun _ _ => rfl))

def rwR (R : Nat → Nat → Prop) : Rw := ⟨R, fun _ => False, fun _ _ _ _ => False, fun _ _ _ => False⟩
theorem Zb8 {P : Program} {w : World} {M M' : Nat → Prop} {φ ψ : Phi} {R : Nat → Nat → Prop} (h : ∀ r r', R r r' → ψ r' = φ r) (hM : ∀ b, b < w.heap.size → ¬ M b → ¬ M' b) : RwOK (rwR R) P w M M' φ ψ :=
  ⟨h, fun _ h => h.elim, fun _ _ _ _ _ h => h.elim, fun _ _ _ _ _ h => h.elim, hM⟩


def ZaI (s : List (Option Nat)) (hp : List (Option Own)) : Rw where
  R := fun r r' => s[r']? = some (some r)
  N := fun r' => s[r']? = some none
  F := fun r n e es => s.contains (some r) = false ∧ nth hp r = some ⟨e, es⟩ ∧ es.length = n ∧ ∀ row ∈ es, row.all datB = true
  G := fun r n row => s.contains (some r) = false ∧ (∃ e, nth hp r = some ⟨e, [row]⟩) ∧ n = 1 ∧ row.all datB = true

inductive SelTm (q : Rw) (tm : List (Nat × AV)) : List (Nat × AV) → Prop
  | nil : SelTm q tm []
  | cons {t : Nat} {v v' : AV} {tl : List (Nat × AV)} : look tm t = some v → RenR q v v' → SelTm q tm tl → SelTm q tm ((t, v') :: tl)
theorem SelTm.look {q : Rw} {tm tl : List (Nat × AV)} (h : SelTm q tm tl) : ∀ t av', Vx.look tl t = some av' → ∃ av, Vx.look tm t = some av ∧ RenR q av av' := by
  induction h with
  | nil => intro t av' h; cases h
  | cons h1 h2 _ ih =>
    intro t av' hl
    simp only [Vx.look] at hl
    split at hl
    · rename_i he
      have he := Nat.eq_of_beq_eq_true he
      subst he
      cases hl
      exact ⟨_, h1, h2⟩
    · exact ih t av' hl
theorem sn {q : Rw} {tm : List (Nat × AV)} : SelTm q tm [] := .nil
theorem sd {q : Rw} {tm : List (Nat × AV)} (t : Nat) {v : AV} {tl : List (Nat × AV)} (h : look tm t = some v) (hb : datB v = true) (k : SelTm q tm tl) : SelTm q tm ((t, v) :: tl) := .cons h (.dat hb) k
theorem sr {q : Rw} {tm : List (Nat × AV)} (t : Nat) {v v' : AV} {tl : List (Nat × AV)} (h : look tm t = some v) (hb : RenR q v v') (k : SelTm q tm tl) : SelTm q tm ((t, v') :: tl) := .cons h hb k

inductive SelHp (P : Program) (q : Rw) (hp : List (Option Own)) : List (Option Nat) → List (Option Own) → Prop
  | nil : SelHp P q hp [] []
  | cons {r : Nat} {o o' : Own} {s : List (Option Nat)} {tl : List (Option Own)} : nth hp r = some o → RenOO P q o o' → SelHp P q hp s tl → SelHp P q hp (some r :: s) (some o' :: tl)
  | dead {r : Nat} {s : List (Option Nat)} {tl : List (Option Own)} : SelHp P q hp s tl → SelHp P q hp (some r :: s) (.none :: tl)
  | row (e : TypeId) {s : List (Option Nat)} {tl : List (Option Own)} : SelHp P q hp s tl → SelHp P q hp (.none :: s) (some ⟨e, []⟩ :: tl)
theorem SelHp.len {P : Program} {q : Rw} {hp : List (Option Own)} {s : List (Option Nat)} {tl : List (Option Own)} (h : SelHp P q hp s tl) : tl.length = s.length := by induction h <;> simp_all
theorem SelHp.get {P : Program} {q : Rw} {hp : List (Option Own)} {s : List (Option Nat)} {tl : List (Option Own)} (h : SelHp P q hp s tl) : ∀ r' o', nth tl r' = some o' →
    (∃ r o, s[r']? = some (some r) ∧ nth hp r = some o ∧ RenOO P q o o') ∨ (s[r']? = some none ∧ o'.es = []) := by
  induction h with
  | nil => intro r' o' h; cases h
  | @cons r o o' s tl h1 h2 _ ih =>
    intro r' o'' h
    cases r' with
    | zero => cases h; exact .inl ⟨r, o, rfl, h1, h2⟩
    | succ r' => simpa using ih r' o'' h
  | dead _ ih =>
    intro r' o'' h
    cases r' with
    | zero => cases h
    | succ r' => simpa using ih r' o'' h
  | row e _ ih =>
    intro r' o'' h
    cases r' with
    | zero => cases h; exact .inr ⟨rfl, rfl⟩
    | succ r' => simpa using ih r' o'' h

def ZaD : List Nat → Bool
  | [] => true
  | x :: l => !l.contains x && ZaD l
theorem ZcH {l : List Nat} (h : ZaD l = true) : ∀ (i j x : Nat), l[i]? = some x → l[j]? = some x → i = j := by
  induction l with
  | nil => intro i j x h; simp at h
  | cons y l ih =>
    simp only [ZaD, Bool.and_eq_true, Bool.not_eq_true'] at h
    have hy : ∀ (j : Nat), l[j]? ≠ some y := fun j hj => by
      have := List.mem_of_getElem? hj
      have h1 := h.1
      simp at h1
      exact h1 this
    intro i j x hi hj
    cases i with
    | zero =>
      simp at hi; subst hi
      cases j with
      | zero => rfl
      | succ j => simp at hj; exact absurd hj (hy j)
    | succ i =>
      cases j with
      | zero => simp at hj; subst hj; simp at hi; exact absurd hi (hy i)
      | succ j => simp at hi hj; rw [ih h.2 i j x hi hj]

def Zat : Nat → Nat → List (Option Nat) → Bool
  | _, 0, _ => true
  | k, n + 1, some x :: s => Nat.beq x k && Zat (k + 1) n s
  | _, _ + 1, _ => false
theorem Zdy : ∀ {n k : Nat} {s : List (Option Nat)}, Zat k n s = true → n ≤ s.length ∧ ∀ r, r < n → s[r]? = some (some (k + r))
  | 0, k, s, _ => ⟨Nat.zero_le _, fun r h => by omega⟩
  | n + 1, k, [], h => by cases h
  | n + 1, k, none :: s, h => by cases h
  | n + 1, k, some x :: s, h => by
    simp only [Zat, Bool.and_eq_true] at h
    obtain ⟨h1, h2⟩ := Zdy (n := n) (k := k + 1) (s := s) h.2
    have hx := Nat.eq_of_beq_eq_true h.1
    refine ⟨by simp; omega, fun r hr => ?_⟩
    cases r with
    | zero => simp [hx]
    | succ r => simp; rw [h2 r (by omega)]; congr 1; congr 1; omega

def dupL : List (Option Nat) → List (Option Own) → Bool
  | some x :: s, some _ :: hp => dupL s hp && dupN x s hp
  | _ :: s, _ :: hp => dupL s hp
  | _, _ => true
where dupN (x : Nat) : List (Option Nat) → List (Option Own) → Bool
  | some y :: s, some _ :: hp => !Nat.beq x y && dupN x s hp
  | _ :: s, _ :: hp => dupN x s hp
  | _, _ => true
theorem Zcp {x : Nat} : ∀ {s : List (Option Nat)} {hp : List (Option Own)}, dupL.dupN x s hp = true → ∀ (i : Nat) o, s[i]? = some (some x) → nth hp i = some o → False
  | [], _, _, i, o, h, _ => by simp at h
  | s :: ss, [], _, i, o, _, h => by cases i <;> cases h
  | a :: s, p :: hp, hd, i, o, hi, hn => by
    have hrest : dupL.dupN x s hp = true := by
      cases a <;> cases p <;> simp only [dupL.dupN] at hd
      · exact hd
      · exact hd
      · exact hd
      · simp only [Bool.and_eq_true] at hd; exact hd.2
    cases i with
    | zero =>
      simp only [List.getElem?_cons_zero, Option.some.injEq] at hi
      simp only [nth] at hn
      subst hi; subst hn
      simp only [dupL.dupN, Bool.and_eq_true, Bool.not_eq_true'] at hd
      have := hd.1
      rw [Nat.beq_refl x] at this; cases this
    | succ i => exact Zcp hrest i o (by simpa using hi) hn
theorem ZdA : ∀ {s : List (Option Nat)} {hp : List (Option Own)}, dupL s hp = true → ∀ (i j x : Nat) (o o' : Own), s[i]? = some (some x) → s[j]? = some (some x) → nth hp i = some o → nth hp j = some o' → i = j
  | [], _, _, i, j, x, o, o', h, _, _, _ => by simp at h
  | s :: ss, [], _, i, j, x, o, o', _, _, h, _ => by cases i <;> cases h
  | a :: s, p :: hp, hd, i, j, x, o, o', hi, hj, hn, hn' => by
    have hrest : dupL s hp = true := by
      cases a <;> cases p <;> simp only [dupL] at hd
      · exact hd
      · exact hd
      · exact hd
      · simp only [Bool.and_eq_true] at hd; exact hd.1
    cases i with
    | zero =>
      simp only [List.getElem?_cons_zero, Option.some.injEq] at hi
      simp only [nth] at hn
      subst hi; subst hn
      simp only [dupL, Bool.and_eq_true] at hd
      cases j with
      | zero => rfl
      | succ j => exact (Zcp hd.2 j o' (by simpa using hj) hn').elim
    | succ i =>
      cases j with
      | zero =>
        simp only [List.getElem?_cons_zero, Option.some.injEq] at hj
        simp only [nth] at hn'
        subst hj; subst hn'
        simp only [dupL, Bool.and_eq_true] at hd
        exact (Zcp hd.2 i o (by simpa using hi) hn).elim
      | succ j => rw [ZdA hrest i j x o o' (by simpa using hi) (by simpa using hj) hn hn']

theorem Zc3 {c : Ctx} {st : St} {φ : Phi} {a : Act} {w : World} (hc : Conc c φ st a w) {hp' : List (Option Own)} (s : List (Option Nat)) (hhp : SelHp c.P (ZaI s st.hp) st.hp s hp')
    (hnd : dupL s hp' = true) (hfx : Zat 0 c.n0 s = true) : ∃ φ', HeapOK c φ' hp' w ∧ ∀ av av' v, RenR (ZaI s st.hp) av av' → RelF c.P w (Mut c.A φ st.hp) st.hp.length φ av v → RelF c.P w (Mut c.A φ' hp') hp'.length φ' av' v := by
  obtain ⟨tm, hp⟩ := st
  simp only at hhp ⊢
  have hlen := hhp.len
  obtain ⟨hf1, hf2⟩ := Zdy hfx
  let φ' : Phi := fun r' => match s[r']? with | some (some r) => φ r | some none => (match nth hp' r' with | some o => ⟨none, 0, 0, c.P.cellsOf o.elem, false, fun _ => False⟩ | none => ⟨none, 0, 0, 0, false, fun _ => False⟩) | none => φz r'
  have hφ : ∀ r r', s[r']? = some (some r) → φ' r' = φ r := fun r r' h => by simp only [φ', h]
  have hφn : ∀ r', s[r']? = some none → (φ' r').n = 0 ∧ (φ' r').blk = none ∧ (φ' r').cap = 0 ∧ (φ' r').mp = false := fun r' h => by
    simp only [φ', h]
    split <;> exact ⟨rfl, rfl, rfl, rfl⟩
  have hφs : ∀ r', s[r']? = some none → ∀ b, ¬ (φ' r').has b := fun r' h b hb => by
    have : ¬ (φ' r').sub b := by
      simp only [φ', h]
      split <;> exact fun h => h
    rcases hb with hb | hb
    · rw [(hφn r' h).2.1] at hb; cases hb
    · exact this hb
  have hmut : ∀ b, Mut c.A φ' hp' b → c.A b ∨ ∃ r o, s.contains (some r) = true ∧ nth hp r = some o ∧ (φ r).has b := by
    rintro b (ha | ⟨r', o', hr, hb⟩)
    · exact .inl ha
    · rcases hhp.get r' o' hr with ⟨r, o, h1, h2, _⟩ | ⟨h1, h2⟩
      · rw [hφ r r' h1] at hb
        exact .inr ⟨r, o, by simpa using List.mem_of_getElem? h1, h2, hb⟩
      · exact (hφs r' h1 b hb).elim
  have hmut' : ∀ b, Mut c.A φ' hp' b → Mut c.A φ hp b := fun b h => (hmut b h).elim .inl fun ⟨r, o, _, h2, h3⟩ => .inr ⟨r, o, h2, h3⟩
  have hfrz : ∀ r o b, s.contains (some r) = false → nth hp r = some o → (φ r).has b → ¬ Mut c.A φ' hp' b := by
    intro r o b h1 h2 h3 hm
    rcases hmut b hm with h | ⟨r', o', h4, h5, h6⟩
    · exact (hc.hok.owned r o b h2 h3).2 h
    · have := hc.hok.apart r r' o o' b h2 h5 h3 h6
      subst this
      rw [h1] at h4; cases h4
  have hQ : ∀ ψ, JT hp'.length φ' ψ → RwOK (ZaI s hp) c.P w (Mut c.A φ hp) (Mut c.A φ' hp') φ ψ := by
    intro ψ hψ
    refine ⟨fun r r' h => ?_, fun r' h => ?_, fun r n e es v hF h => ?_, fun r n row j v hG h => ?_, fun b _ hm hm' => hm (hmut' b hm')⟩
    · have h' : s[r']? = some (some r) := h
      rw [hψ r' (by rw [hlen]; exact (List.getElem?_eq_some_iff.1 h').1)]
      exact hφ r r' h'
    · have h' : s[r']? = some none := h
      rw [hψ r' (by rw [hlen]; exact (List.getElem?_eq_some_iff.1 h').1)]
      exact hφn r' h'
    · obtain ⟨h1, h2, h3, h4⟩ := hF
      have hO := hc.hok.obj r _ h2
      cases h with
      | data h => cases h
      | own _ _ _ g0 g1 g2 =>
        obtain ⟨hmp, hv⟩ := g2 (by rw [hO.len]; exact h3)
        subst h3
        cases es with
        | nil => rw [hv]; exact .sl0 _ _ _
        | cons row es =>
          cases hb : (φ r).blk with
          | none => have := (hO.none hb).1; cases this
          | some b =>
            obtain ⟨cs, e1, e2, e3⟩ := hO.some b hb
            have e1 := e1.cells hmp
            rw [hv, hb]
            have hsz : ∀ i j, i < (row :: es).length → j < c.P.cellsOf e → i * c.P.cellsOf e + j < cs.size := fun i j hi hj => by
              rw [e2]; exact Q3 (Nat.lt_of_lt_of_le hi hO.room) hj
            refine .sl e (row :: es) b 0 _ (fun i j => cs.getD (i * c.P.cellsOf e + j) undef) (Array.getElem?_eq_some_iff.1 e1).1 (hfrz r _ b h1 h2 (.inl hb)) (Nat.lt_of_le_of_lt hO.room hO.cap) hO.room hO.rows (fun i j hi hj => ?_) (fun i j hi hj => ?_)
            · rw [Zn e1]
              have := hsz i j hi hj
              simp [this]
            · have hd : datB (cellAt (row :: es) i j) = true := ZbB (fun x hx => ⟨hO.rows x hx, h4 x hx⟩) hi hj
              exact (Dat.b (c := c) (st := ⟨tm, hp⟩) hd φ a w hc _ (e3.plain hi hj (Jg hd))).mono (Nat.le_refl _) (fun _ _ _ => rfl) (fun b _ hm hm' => hm (hmut' b hm'))
    · obtain ⟨h1, ⟨e, h2⟩, h3, h4⟩ := hG
      have hO := hc.hok.obj r _ h2
      cases h with
      | data h => cases h
      | ptr _ _ _ _ _ g0 g1 g2 =>
        obtain ⟨hmp, b, hb, hv⟩ := g2 (by rw [hO.len, h3]; rfl)
        obtain ⟨cs, e1, e2, e3⟩ := hO.some b hb
        have e1 := e1.cells hmp
        have hrl := hO.rows row (by simp)
        rw [hv, Nat.zero_mul]
        have hroom : 1 ≤ (φ r).cap := hO.room
        have hsz : ∀ j, j < row.length → j < cs.size := fun j hj => by
          rw [e2, ← hrl]
          have := Nat.mul_le_mul_right row.length hroom
          omega
        refine .rp row b 0 j (fun j => cs.getD j undef) (Array.getElem?_eq_some_iff.1 e1).1 (hfrz r _ b h1 h2 (.inl hb)) (fun k hk => ?_) (fun k hk => ?_)
        · rw [Zn e1, Nat.zero_add]
          have := hsz k hk
          simp [this]
        · have e0 : cellAt [row] 0 k = row.getD k .any := by simp [cellAt]
          have hd : datB (row.getD k .any) = true := by
            have : row.getD k .any = row[k] := by simp [List.getD_eq_getElem?_getD, hk]
            rw [this]; exact List.all_eq_true.1 h4 _ (List.getElem_mem _)
          have := e3.plain (i := 0) (j := k) (by simp) (by rw [← hrl]; exact hk) (by rw [e0]; exact Jg hd)
          rw [e0, Nat.zero_mul, Nat.zero_add] at this
          exact (Dat.b (c := c) (st := ⟨tm, hp⟩) hd φ a w hc _ this).mono (Nat.le_refl _) (fun _ _ _ => rfl) (fun b _ hm hm' => hm (hmut' b hm'))
  refine ⟨φ', ⟨hc.hok.os, hc.hok.tape, hc.hok.output, hc.hok.heap, hc.hok.frame, ?_, ?_, ?_, hc.hok.amb, hc.hok.glob, by show c.n0 ≤ hp'.length; omega, fun r hr => ?_⟩, ?_⟩
  · intro r' o' b hr hb
    rcases hhp.get r' o' hr with ⟨r, o, h1, h2, _⟩ | ⟨h1, _⟩
    · rw [hφ r r' h1] at hb
      exact hc.hok.owned r o b h2 hb
    · exact (hφs r' h1 b hb).elim
  · intro r1 r2 o1 o2 b hr1 hr2 hb1 hb2
    rcases hhp.get r1 o1 hr1 with ⟨x1, q1, e1, f1, _⟩ | ⟨e1, _⟩
    · rcases hhp.get r2 o2 hr2 with ⟨x2, q2, e2, f2, _⟩ | ⟨e2, _⟩
      · rw [hφ _ _ e1] at hb1
        rw [hφ _ _ e2] at hb2
        have := hc.hok.apart x1 x2 q1 q2 b f1 f2 hb1 hb2
        subst this
        exact ZdA hnd r1 r2 x1 o1 o2 e1 e2 hr1 hr2
      · exact (hφs r2 e2 b hb2).elim
    · exact (hφs r1 e1 b hb1).elim
  · intro r' o' hr
    rcases hhp.get r' o' hr with ⟨r, o, h1, h2, h3⟩ | ⟨h1, h2⟩
    · exact (hc.hok.obj r o h2).ren (hφ _ _ h1) h3 hQ
    · have e : φ' r' = ⟨none, 0, 0, c.P.cellsOf o'.elem, false, fun _ => False⟩ := by simp only [φ', h1, hr]
      refine ⟨by rw [e, h2]; rfl, by rw [e], by rw [h2]; simp, by rw [e, h2]; exact Nat.le_refl _, by rw [e]; exact (by decide : (0:Nat) < 2 ^ 63), (fun _ => ⟨h2, by rw [e]⟩), (fun b hb => by rw [e] at hb; exact hb.elim), (fun b hb => by rw [e] at hb; cases hb), (fun b hb => by rw [e] at hb; cases hb)⟩
  · have := hf2 r hr
    rw [Nat.zero_add] at this
    rw [hφ r r this]
    exact hc.hok.mono r hr
  · intro av av' v h2 h1
    exact h1.ren h2 hQ

theorem Ent.sel {c : Ctx} {st : St} {tm' : List (Nat × AV)} {hp' : List (Option Own)} (s : List (Option Nat)) (htm : SelTm (ZaI s st.hp) st.tm tm') (hhp : SelHp c.P (ZaI s st.hp) st.hp s hp')
    (hnd : dupL s hp' = true) (hfx : Zat 0 c.n0 s = true) : Ent c st ⟨tm', hp'⟩ := by
  intro φ a w hc
  obtain ⟨φ', h1, h2⟩ := Zc3 hc s hhp hnd hfx
  refine ⟨φ', hc.size, hc.defers, h1, fun t av' ht => ?_⟩
  obtain ⟨av, h3, h4⟩ := htm.look t av' ht
  exact h2 _ _ _ h4 (hc.tm t av h3)

theorem ZeA {c : Ctx} {ops : Array Oper} {rest : List Oper} {st st' : St} {K : Exit → St → Prop} (he : Ent c st st') (h : R c ops rest st' K) : R c ops rest st K :=
  fun φ a w hc => let ⟨φ', hc'⟩ := he φ a w hc; h φ' a w hc'
end Go.Vx

namespace Go.Vx
open Go Go.RowKit


def GSpec0 (P : Program) (gl : Gl) (f : FuncId) (args : List AV) (os : List (Option Own)) (res : AV) (os' : List (Option Own)) : Prop :=
  ∀ (A : Nat → Prop) (W : List Nat) (w : World) (φ : Phi) (vals : Array Value), HeapOK ⟨P, 0, w, A, W, gl, os.length, φ⟩ φ os w → vals.size = args.length →
    (∀ i, i < args.length → RelF P w (Mut A φ os) os.length φ (args.getD i .any) (vals.getD i undef)) →
    Calls P f vals w fun e w' => ∃ v φ', e = .returned v ∧ HeapOK ⟨P, 0, w, A, W, gl, os.length, φ⟩ φ' os' w' ∧ RelF P w' (Mut A φ' os') os'.length φ' res v

structure GSpec (P : Program) (gl : Gl) (f : FuncId) (args : List AV) (os : List (Option Own)) (res : AV) (os' : List (Option Own)) : Prop where
  call : callable P f = true
  spec : GSpec0 P gl f args os res os'

inductive RetW (c : Ctx) (st : St) : ResultVar → AV → Prop
  | tmp {t : Nat} {av : AV} : look st.tm t = some av → RetW c st (.tmp t) av
  | agg {t ty r n i j sz : Nat} {o : Own} {row l : List AV} : look st.tm t = some (.ptr r n i j) → nth st.hp r = some o → o.es.length = n → o.es[i]? = some row → tAgg c.P ty sz = true → (row.drop j).take sz = l → l.length = sz →
      (hns : NS l := by first | exact nsR rfl | exact nsM (fun _ => rfl)) → RetW c st (.cell t ty) (.agg l)
  | scal {t ty r n i j : Nat} {o : Own} {row : List AV} {v : AV} : look st.tm t = some (.ptr r n i j) → nth st.hp r = some o → o.es.length = n → o.es[i]? = some row → tScal c.P ty = true → row[j]? = some v →
      (hns : noSub v = true := by rfl) → RetW c st (.cell t ty) v

theorem RetW.sound {c : Ctx} {st : St} {rv : ResultVar} {dv : AV} (h : RetW c st rv dv) {φ : Phi} {a : Act} {w : World} (hc : Conc c φ st a w) :
    ∃ v, (ZaT a.tmps rv).run c.P w = .ok v w ∧ RelF c.P w (Mut c.A φ st.hp) st.hp.length φ dv v := by
  unfold ZaT
  cases h with
  | tmp hl => exact ⟨_, rfl, hc.tm _ _ hl⟩
  | @agg t ty r n i j sz o row l hl ho hn hrow ht hl' hlen hns =>
    have hmp := ZP (hc.tm t _ hl) (by rw [(hc.hok.obj r o ho).len, hn])
    obtain ⟨b, cs, h1, h2, h3, h4, h5, _, _, h6, h7⟩ := QF hc ho hrow hmp
    obtain ⟨b', hb', hx⟩ := Qb (hc.tm t _ hl) (by rw [h2, hn])
    rw [h1] at hb'; cases hb'
    obtain ⟨_, _, _, _, _, _, _, hsz0⟩ := tAgg.spec ht
    have hjl : j + sz ≤ row.length := by rw [← hl'] at hlen; simp at hlen; omega
    refine ⟨.agg ((cs.toList.drop (i * row.length + j)).take sz).toArray, ?_, ?_⟩
    · simp only [hx, h3]
      have := Q7 w b (i * row.length + j) ty sz ((cs.toList.drop (i * row.length + j)).take sz) ht (by
        simp
        have := h6 (j + sz - 1) (by omega)
        omega) (fun k hk => by
        rw [Zn h4]
        have := h6 (j + k) (by omega)
        simp [List.getD_eq_getElem?_getD, hk, List.getElem?_drop]
        have e : i * row.length + j + k = i * row.length + (j + k) := by omega
        rw [e, Array.getElem?_eq_getElem (by omega)]
        simp)
      simp only [Instr.loadAt, Instr.sureAddr] at this
      exact this
    · refine Je ?_ fun k hk => ?_
      · simp [hlen]
        have := h6 (j + sz - 1) (by omega)
        omega
      · have e1 : l.getD k .any = row.getD (j + k) .any := by
          rw [← hl']; simp [List.getD_eq_getElem?_getD, List.getElem?_drop, show k < sz by omega]
        have h8 := h7 (j + k) (by omega) (by rw [← e1]; exact hns.getD' k)
        have e2 : ((cs.toList.drop (i * row.length + j)).take sz).toArray.getD k undef = cs.getD (i * row.length + (j + k)) undef := by
          simp [Array.getD_eq_getD_getElem?, List.getElem?_drop, show k < sz by omega, Nat.add_assoc]
        rw [e1, e2]; exact h8
  | @scal t ty r n i j o row v hl ho hn hrow ht hv hns =>
    have hmp := ZP (hc.tm t _ hl) (by rw [(hc.hok.obj r o ho).len, hn])
    obtain ⟨b, cs, h1, h2, h3, h4, h5, _, _, h6, h7⟩ := QF hc ho hrow hmp
    obtain ⟨b', hb', hx⟩ := Qb (hc.tm t _ hl) (by rw [h2, hn])
    rw [h1] at hb'; cases hb'
    have hj : j < row.length := (List.getElem?_eq_some_iff.1 hv).1
    have h6' := h6 j hj
    refine ⟨cs.getD (i * row.length + j) undef, ?_, ?_⟩
    · simp only [hx, h3]
      have := QU w b (i * row.length + j) ty (cs.getD (i * row.length + j) undef) ht (by
        rw [Zn h4, Array.getElem?_eq_getElem h6']; simp [h6'])
      simp only [Instr.loadAt, Instr.sureAddr] at this
      exact this
    · have := h7 j hj (by rw [getD_of_get? hv]; exact hns)
      rw [getD_of_get? hv] at this
      exact this

inductive RetWs (c : Ctx) (st : St) : List ResultVar → List AV → Prop
  | nil : RetWs c st [] []
  | cons {r : ResultVar} {d : AV} {rs : List ResultVar} {ds : List AV} : RetW c st r d → RetWs c st rs ds → RetWs c st (r :: rs) (d :: ds)

def ZdJ : List AV → AV
  | [d] => d
  | ds => .tuple ds

theorem RetWs.run {c : Ctx} {st : St} {rs : List ResultVar} {ds : List AV} (h : RetWs c st rs ds) {φ : Phi} {a : Act} {w : World} (hc : Conc c φ st a w) :
    ∃ vs : List Value, (rs.mapM (fun r => ZaT a.tmps r)).run c.P w = .ok vs w ∧ ds.length = vs.length ∧ rs.length = vs.length ∧ ∀ i, i < ds.length → RelF c.P w (Mut c.A φ st.hp) st.hp.length φ (ds.getD i .any) (vs.getD i undef) := by
  induction h with
  | nil => exact ⟨[], rfl, rfl, rfl, fun i hi => by cases hi⟩
  | cons h1 _ ih =>
    obtain ⟨v, e1, e2⟩ := h1.sound hc
    obtain ⟨vs, f1, f2, f2', f3⟩ := ih
    refine ⟨v :: vs, ?_, by simp [f2], by simp [f2'], fun i hi => ?_⟩
    · simp [e1, f1]
    · cases i with
      | zero => simpa using e2
      | succ i => simpa using f3 i (by simpa using hi)

theorem ZbQ {P : Program} {w : World} {M : Nat → Prop} {m : Nat} {φ : Phi} {l : List AV} {vs : Array Value} (h1 : l.length = vs.size) (h2 : ∀ i, i < l.length → RelF P w M m φ (l.getD i .any) (vs.getD i undef)) :
    RelF P w M m φ (.tuple l) (.tuple vs) := fun φ' hφ => .tuple l vs h1 fun i hi => h2 i hi φ' hφ

theorem RetWs.sound {c : Ctx} {st : St} {fn : Func} {rs : List ResultVar} {ds : List AV} (hrs : fn.results = rs.toArray) (h : RetWs c st rs ds) {φ : Phi} {a : Act} {w : World} (hc : Conc c φ st a w) :
    ∃ v, (results fn a.tmps).run c.P w = .ok v w ∧ RelF c.P w (Mut c.A φ st.hp) st.hp.length φ (ZdJ ds) v := by
  obtain ⟨vs, h1, h2, h2', h3⟩ := h.run hc
  have key : (rs.toArray.mapM (ZaT a.tmps)).run c.P w = .ok vs.toArray w := by
    have h1 : (List.mapM (ZaT a.tmps) rs).run c.P w = .ok vs w := h1
    simp [h1]
  rw [ZaR, hrs, key]
  clear key h1
  cases h with
  | nil =>
    cases vs with
    | nil => exact ⟨.tuple #[], rfl, ZbQ rfl fun i hi => by cases hi⟩
    | cons v vs => simp at h2
  | @cons r d rs ds hr hq =>
    cases hq with
    | nil =>
      cases vs with
      | nil => simp at h2
      | cons v vs =>
        cases vs with
        | cons v' vs => simp at h2
        | nil => exact ⟨v, rfl, h3 0 (by simp)⟩
    | @cons r' d' rs ds hr' hq' =>
      cases vs with
      | nil => simp at h2
      | cons v vs =>
        cases vs with
        | nil => simp at h2
        | cons v' vs => exact ⟨.tuple (v :: v' :: vs).toArray, by simp, ZbQ (by simpa using h2) fun i hi => by simpa [Array.getD_eq_getD_getElem?, List.getD_eq_getElem?_getD] using h3 i hi⟩
end Go.Vx

namespace Go.Vx
open Go Go.RowKit

def Ze8 (c : Ctx) (rs : Array ResultVar) (res : AV) (os' : List (Option Own)) : Exit → St → Prop
  | .ret, st | .normal, st => ∃ (s : List (Option Nat)) (rs' : List ResultVar) (ds : List AV), rs = rs'.toArray ∧ RetWs c st rs' ds ∧ SelHp c.P (ZaI s st.hp) st.hp s os' ∧ dupL s os' = true ∧ Zat 0 c.n0 s = true ∧ RenR (ZaI s st.hp) (ZdJ ds) res
  | _, _ => False
theorem Zeu {c : Ctx} {st : St} {rs : Array ResultVar} {res : AV} {os' : List (Option Own)} (s : List (Option Nat)) {rs' : List ResultVar} {ds : List AV} (h1 : rs = rs'.toArray) (h2 : RetWs c st rs' ds) (h3 : SelHp c.P (ZaI s st.hp) st.hp s os')
    (h4 : dupL s os' = true) (h5 : Zat 0 c.n0 s = true) (h6 : RenR (ZaI s st.hp) (ZdJ ds) res) : Ze8 c rs res os' .ret st := ⟨s, rs', ds, h1, h2, h3, h4, h5, h6⟩

theorem Q6 {P : Program} {gl : Gl} {f : FuncId} {fn : Func} {code : Code} {args : List AV} {os os' : List (Option Own)} {res : AV} (hc : callable P f = true) (hf : P.funcs[f]? = some fn) (hb : fn.body = some code)
    (hlen : Nat.ble args.length fn.ntmps = true)
    (hT : ∀ w0 A W φ0, T ⟨P, fn.ntmps, w0, A, W, gl, os.length, φ0⟩ code ⟨ZaU 0 args, os⟩ (Ze8 ⟨P, fn.ntmps, w0, A, W, gl, os.length, φ0⟩ fn.results res os')) : GSpec P gl f args os res os' := by
  refine ⟨hc, fun A W w φ vals hok hsz hv => ?_⟩
  have hlen : args.length ≤ fn.ntmps := by simpa using hlen
  refine calls_of_wp hf hb ?_
  have hconc : Conc ⟨P, fn.ntmps, w, A, W, gl, os.length, φ⟩ φ ⟨ZaU 0 args, os⟩ { tmps := vals ++ Array.replicate (fn.ntmps - vals.size) undef, defers := [] } w := by
    refine ⟨by simp; omega, rfl, ⟨hok.os, hok.tape, hok.output, hok.heap, hok.frame, hok.owned, hok.apart, hok.obj, hok.amb, hok.glob, hok.len, hok.mono⟩, ?_⟩
    intro t av ht
    obtain ⟨_, h2, h3⟩ := Zbq ht
    simp only [Nat.sub_zero] at h2 h3
    have := hv t h2
    rw [h3] at this
    have e : (vals ++ Array.replicate (fn.ntmps - vals.size) undef).getD t undef = vals.getD t undef := by
      simp [Array.getD_eq_getD_getElem?, Array.getElem?_append, show t < vals.size by omega]
    rw [e]
    exact this
  refine wp_mono (hT w A W φ _ _ _ hconc) ?_
  rintro e a' w' ⟨st', φ', hk, hc'⟩
  have fin : Ze8 ⟨P, fn.ntmps, w, A, W, gl, os.length, φ⟩ fn.results res os' .ret st' → a'.defers = [] ∧ ∃ v, (results fn a'.tmps).run P w' = .ok v w' ∧
      (∃ v' φ', Ending.returned v = .returned v' ∧ HeapOK ⟨P, 0, w, A, W, gl, os.length, φ⟩ φ' os' w' ∧ RelF P w' (Mut A φ' os') os'.length φ' res v') := by
    rintro ⟨s, rs', ds, h2, h4, h5, h6, h7, h8⟩
    obtain ⟨v, e1, e2⟩ := h4.sound h2 hc'
    obtain ⟨φ2, hok, hren⟩ := Zc3 hc' s h5 h6 h7
    exact ⟨hc'.defers, v, e1, v, φ2, rfl, ⟨hok.os, hok.tape, hok.output, hok.heap, hok.frame, hok.owned, hok.apart, hok.obj, hok.amb, hok.glob, hok.len, hok.mono⟩, hren _ _ _ h8 e2⟩
  cases e with
  | ret => exact fin hk
  | normal => exact fin hk
  | exit id => exact hk.elim
  | goto l => exact hk.elim
  | panic ch => exact hk.elim
  | outgrown => exact hk.elim


def callR (ρ : List Nat) (n : Nat) (i r : Nat) : Prop := ρ[i]? = some r ∨ (ρ.length ≤ i ∧ r = n + (i - ρ.length))

inductive ArgsG (c : Ctx) (st : St) (R : Rw) : List Operand → List AV → Prop
  | nil : ArgsG c st R [] []
  | cons {x : Operand} {av d : AV} {xs : List Operand} {ds : List AV} : Opv c st x av → RenR R av d → ArgsG c st R xs ds → ArgsG c st R (x :: xs) (d :: ds)

inductive Back (P : Program) (ρ : List Nat) (n : Nat) (hp os' : List (Option Own)) : Nat → List (Option Own) → Prop
  | nil {r : Nat} : Back P ρ n hp os' r []
  | none {r : Nat} {tl : List (Option Own)} : Back P ρ n hp os' (r + 1) tl → Back P ρ n hp os' r (none :: tl)
  | keep {r : Nat} {o : Own} {tl : List (Option Own)} : nth hp r = some o → ρ.contains r = false → Back P ρ n hp os' (r + 1) tl → Back P ρ n hp os' r (some o :: tl)
  | lent {r : Nat} {o o2 : Own} {tl : List (Option Own)} (i : Nat) : callR ρ n i r → nth os' i = some o → RenOO P (rwR (callR ρ n)) o o2 → Back P ρ n hp os' (r + 1) tl → Back P ρ n hp os' r (some o2 :: tl)

theorem Back.get {P : Program} {ρ : List Nat} {n : Nat} {hp os' : List (Option Own)} {k : Nat} {tl : List (Option Own)} (h : Back P ρ n hp os' k tl) : ∀ r o2, nth tl r = some o2 →
    (∃ i o, callR ρ n i (k + r) ∧ nth os' i = some o ∧ RenOO P (rwR (callR ρ n)) o o2) ∨ (nth hp (k + r) = some o2 ∧ ρ.contains (k + r) = false) := by
  induction h with
  | nil => intro r o2 h; cases h
  | none _ ih =>
    intro r o2 h
    cases r with
    | zero => cases h
    | succ r => have := ih r o2 h; rwa [Nat.add_assoc, Nat.add_comm 1 r] at this
  | keep h1 h2 _ ih =>
    intro r o2 h
    cases r with
    | zero => cases h; exact .inr ⟨h1, h2⟩
    | succ r => have := ih r o2 h; rwa [Nat.add_assoc, Nat.add_comm 1 r] at this
  | lent i h1 h2 h3 _ ih =>
    intro r o2 h
    cases r with
    | zero => cases h; exact .inl ⟨i, _, h1, h2, h3⟩
    | succ r => have := ih r o2 h; rwa [Nat.add_assoc, Nat.add_comm 1 r] at this

inductive Lend (P : Program) (ρ : List Nat) (hp : List (Option Own)) : List Nat → List (Option Own) → Prop
  | nil : Lend P ρ hp [] []
  | cons {r : Nat} {o o1 : Own} {s : List Nat} {os : List (Option Own)} : nth hp r = some o1 → RenOO P (rwR fun r i => ρ[i]? = some r) o1 o → Lend P ρ hp s os → Lend P ρ hp (r :: s) (some o :: os)

theorem Lend.len {P : Program} {ρ : List Nat} {hp : List (Option Own)} {s : List Nat} {os : List (Option Own)} (h : Lend P ρ hp s os) : os.length = s.length := by induction h <;> simp_all
theorem Lend.get {P : Program} {ρ : List Nat} {hp : List (Option Own)} {s : List Nat} {os : List (Option Own)} (h : Lend P ρ hp s os) : ∀ i r, s[i]? = some r → ∃ o o1, nth os i = some o ∧ nth hp r = some o1 ∧ RenOO P (rwR fun r i => ρ[i]? = some r) o1 o := by
  induction h with
  | nil => intro i r h; simp at h
  | cons h1 h2 _ ih =>
    intro i r h
    cases i with
    | zero => simp at h; subst h; exact ⟨_, _, rfl, h1, h2⟩
    | succ i => simpa [nth] using ih i r (by simpa using h)

theorem ArgsG.rel {c : Ctx} {st : St} {R : Rw} {xs : List Operand} {ds : List AV} (h : ArgsG c st R xs ds) {φ : Phi} {a : Act} {w : World} (hc : Conc c φ st a w) :
    xs.length = ds.length ∧ ∀ i, i < ds.length → ∃ av, RenR R av (ds.getD i .any) ∧ RelF c.P w (Mut c.A φ st.hp) st.hp.length φ av ((xs.map a.eval).getD i undef) := by
  induction h with
  | nil => exact ⟨rfl, fun i hi => by cases hi⟩
  | @cons x av d xs ds h1 h2 _ ih =>
    refine ⟨by simp [ih.1], fun i hi => ?_⟩
    cases i with
    | zero => exact ⟨av, by simpa using h2, by simpa using h1 φ a w hc⟩
    | succ i => simpa using ih.2 i (by simpa using hi)

section
variable {c : Ctx} {ops : Array Oper} {st : St} {dst : Option Tmp} {ty : TypeId} {pos : String} {after : Array Edge}

theorem ZcF (Cl : (Ending → World → Prop) → Prop) (hCl : ∀ {R R' : Ending → World → Prop}, Cl R → (∀ e w', R e w' → R' e w') → Cl R') {φ : Phi} {a : Act} {w : World} (hc : Conc c φ st a w) {ds : List AV} {os os' hp' : List (Option Own)} {res res' : AV} {vals : Array Value} (ρ : List Nat)
    (hs : ∀ (A : Nat → Prop) (W : List Nat) (φ1 : Phi), (∀ i r, ρ[i]? = some r → φ1 i = φ r) → (∀ b, b ∈ W → ∃ i r : Nat, ρ[i]? = some r ∧ (φ r).has b) → HeapOK ⟨c.P, 0, w, A, W, c.gl, os.length, φ1⟩ φ1 os w → vals.size = ds.length →
      (∀ i, i < ds.length → RelF c.P w (Mut A φ1 os) os.length φ1 (ds.getD i .any) (vals.getD i undef)) →
      Cl fun e w' => ∃ v φ', e = .returned v ∧ HeapOK ⟨c.P, 0, w, A, W, c.gl, os.length, φ1⟩ φ' os' w' ∧ RelF c.P w' (Mut A φ' os') os'.length φ' res v)
    (hvs : vals.size = ds.length) (ha : ∀ i, i < ds.length → ∃ av, RenR (rwR fun r i => ρ[i]? = some r) av (ds.getD i .any) ∧ RelF c.P w (Mut c.A φ st.hp) st.hp.length φ av (vals.getD i undef))
    (hl : Lend c.P ρ st.hp ρ os) (hnd : ZaD ρ = true) (hb : Back c.P ρ st.hp.length st.hp os' 0 hp') (hlen : st.hp.length + (os'.length - ρ.length) = hp'.length) (hr : RenR (rwR (callR ρ st.hp.length)) res res')
    (hin : os'.length ≥ ρ.length) :
    Cl fun e w' => ∃ v φ', e = .returned v ∧ HeapOK c φ' hp' w' ∧
      (∀ av x, RelF c.P w (Mut c.A φ st.hp) st.hp.length φ av x → RelF c.P w' (Mut c.A φ' hp') hp'.length φ' av x) ∧ RelF c.P w' (Mut c.A φ' hp') hp'.length φ' res' v ∧
      ∀ b, b < w.heap.size → (∀ r o, nth st.hp r = some o → ¬ (φ r).has b) → w'.heap[b]? = w.heap[b]? ∧ ∀ r o, nth hp' r = some o → ¬ (φ' r).has b := by
  have hos := hl.len
  have hok := hc.hok
  generalize hhp : st.hp = hp at *
  -- the callee's view
  let W' : List Nat := open Classical in (List.range w.heap.size).filter fun b => decide (∃ (i r : Nat), ρ[i]? = some r ∧ (φ r).has b)
  have hW' : ∀ (b : Nat), b ∈ W' ↔ ∃ (i r : Nat), ρ[i]? = some r ∧ (φ r).has b := fun b => by
    simp only [W', List.mem_filter, List.mem_range, decide_eq_true_eq]
    constructor
    · exact fun h => h.2
    · rintro ⟨i, r, h1, h2⟩
      obtain ⟨o, o1, h3, h4, h5⟩ := hl.get i r h1
      exact ⟨(hok.obj r o1 h4).has_lt h2, i, r, h1, h2⟩
  let A' : Nat → Prop := fun b => Mut c.A φ hp b ∧ b ∉ W'
  let φc : Phi := fun i => match ρ[i]? with | some r => φ r | none => φz i
  have hφc : ∀ i r, ρ[i]? = some r → φc i = φ r := fun i r h => by simp only [φc, h]
  have hlentMut : ∀ b, b ∈ W' → ∃ r o, ρ.contains r = true ∧ nth hp r = some o ∧ (φ r).has b := fun b hb => by
    obtain ⟨i, r, h1, h2⟩ := (hW' b).1 hb
    obtain ⟨o, o1, h3, h4, h5⟩ := hl.get i r h1
    exact ⟨r, o1, by simpa using List.mem_of_getElem? h1, h4, h2⟩
  have hmutlt : ∀ b, Mut c.A φ hp b → b < w.heap.size := fun b hb => ZaL hc b (by rw [hhp]; exact hb)
  have hMsub : ∀ b, Mut A' φc os b → Mut c.A φ hp b := by
    rintro b (ha | ⟨i, o, hi, hbk⟩)
    · exact ha.1
    · have hlt := Qh hi
      obtain ⟨r, hr⟩ : ∃ r, ρ[i]? = some r := ⟨ρ[i]'(by omega), by simp [show i < ρ.length by omega]⟩
      obtain ⟨o', o1, h3, h4, h5⟩ := hl.get i r hr
      rw [hφc i r hr] at hbk
      exact .inr ⟨r, o1, h4, hbk⟩
  have hRin : ∀ x y, (fun r i => ρ[i]? = some r) x y → y < os.length ∧ φc y = φ x := fun x y h => ⟨by rw [hos]; exact (List.getElem?_eq_some_iff.1 h).1, hφc y x h⟩
  have hgl := X4 hc
  rw [hhp] at hgl
  have hok' : HeapOK ⟨c.P, 0, w, A', W', c.gl, os.length, φc⟩ φc os w := by
    refine ⟨rfl, rfl, rfl, Nat.le_refl _, fun _ _ _ => rfl, ?_, ?_, ?_, fun b hb => ⟨hmutlt b hb.1, hb.2⟩, ?_, Nat.le_refl _, fun r _ => .inl (.refl _)⟩
    · intro i o b hi hbk
      have hlt := Qh hi
      obtain ⟨r, hr⟩ : ∃ r, ρ[i]? = some r := ⟨ρ[i]'(by omega), by simp [show i < ρ.length by omega]⟩
      rw [hφc i r hr] at hbk
      have : b ∈ W' := (hW' b).2 ⟨i, r, hr, hbk⟩
      exact ⟨.inl this, fun h => h.2 this⟩
    · intro i i' o o' b hi hi' hbk hbk'
      have hlt := Qh hi
      have hlt' := Qh hi'
      obtain ⟨r, hr⟩ : ∃ r, ρ[i]? = some r := ⟨ρ[i]'(by omega), by simp [show i < ρ.length by omega]⟩
      obtain ⟨r', hr'⟩ : ∃ r, ρ[i']? = some r := ⟨ρ[i']'(by omega), by simp [show i' < ρ.length by omega]⟩
      rw [hφc i r hr] at hbk
      rw [hφc i' r' hr'] at hbk'
      obtain ⟨_, o1, _, h4, _⟩ := hl.get i r hr
      obtain ⟨_, o1', _, h4', _⟩ := hl.get i' r' hr'
      have := hok.apart r r' o1 o1' b h4 h4' hbk hbk'
      subst this
      exact ZcH hnd i i' r hr hr'
    · intro i o hi
      have hlt := Qh hi
      obtain ⟨r, hr⟩ : ∃ r, ρ[i]? = some r := ⟨ρ[i]'(by omega), by simp [show i < ρ.length by omega]⟩
      obtain ⟨o', o1, h3, h4, h5⟩ := hl.get i r hr
      rw [hi] at h3; cases h3
      exact (hok.obj r o1 h4).ren (hφc i r hr) h5 fun ψ hψ => Zb8 (fun x y hxy => (hψ y (hRin x y hxy).1).trans (hRin x y hxy).2) (fun b _ hm hm' => hm (hMsub b hm'))
    · refine ⟨hgl.len, fun b hw => ?_, fun p hp => ?_⟩
      · obtain ⟨r, o, _, h5, h6⟩ := hlentMut b hw
        rcases (hok.owned r o b h5 h6).1 with h7 | h7
        · exact hok.glob.W b h7
        · exact Nat.le_trans hok.glob.len h7
      · obtain ⟨h1, h2, h3⟩ := hgl.tab p hp
        exact ⟨h1, h2, fun ha => h3 ha.1⟩
  refine hCl (hs A' W' φc hφc (fun b h => (hW' b).1 h) hok' hvs (fun i hi => ?_)) ?_
  · obtain ⟨av, h1, h2⟩ := ha i hi
    exact h2.ren h1 fun ψ hψ => Zb8 (fun x y hxy => (hψ y (hRin x y hxy).1).trans (hRin x y hxy).2) (fun b _ hm hm' => hm (hMsub b hm'))
  rintro e w' ⟨v, φ', rfl, hq, hv⟩
  -- back at the caller
  let φ'' : Phi := fun r => if r < hp.length then (match ρ.findIdx? (· == r) with | some i => φ' i | none => φ r) else φ' (ρ.length + (r - hp.length))
  have hlt_of : ∀ i r, ρ[i]? = some r → r < hp.length := fun i r h => by
    obtain ⟨_, o1, _, h4, _⟩ := hl.get i r h
    exact Qh h4
  have hφR : ∀ i r, callR ρ hp.length i r → φ'' r = φ' i := by
    rintro i r (h | ⟨h1, rfl⟩)
    · have hlt := hlt_of i r h
      have hfi : ρ.findIdx? (· == r) = some i := by
        rw [List.findIdx?_eq_some_iff_getElem]
        obtain ⟨hi, he⟩ := List.getElem?_eq_some_iff.1 h
        refine ⟨hi, by simp [he], fun j hj => ?_⟩
        simp only [beq_iff_eq]
        intro hje
        have : j = i := ZcH hnd j i r (by rw [List.getElem?_eq_getElem (by omega)]; exact congrArg some hje) h
        omega
      simp only [φ'', if_pos hlt, hfi]
    · simp only [φ'', if_neg (show ¬ hp.length + (i - ρ.length) < hp.length by omega)]
      congr 1; omega
  have hφK : ∀ r, r < hp.length → ρ.contains r = false → φ'' r = φ r := fun r h1 h2 => by
    have : ρ.findIdx? (· == r) = none := by
      rw [List.findIdx?_eq_none_iff]
      intro x hx
      cases hxr : x == r
      · rfl
      · rw [beq_iff_eq] at hxr
        subst hxr
        rw [List.contains_eq_mem] at h2
        simp [hx] at h2
    simp only [φ'', if_pos h1, this]
  have hgrow : ∀ r, r < hp.length → (φ'' r).same (φ r) ∨ (φ r).n < (φ'' r).n := fun r h => by
    cases hcr : ρ.contains r with
    | false => exact .inl (hφK r h hcr ▸ .refl _)
    | true =>
      obtain ⟨i, hi⟩ := List.mem_iff_getElem?.1 (show r ∈ ρ by simpa using hcr)
      rw [hφR i r (.inl hi), ← hφc i r hi]
      exact hq.mono i (by show i < os.length; rw [hos]; exact (List.getElem?_eq_some_iff.1 hi).1)
  have hback : ∀ r o2, nth hp' r = some o2 → (∃ i o, callR ρ hp.length i r ∧ nth os' i = some o ∧ RenOO c.P (rwR (callR ρ hp.length)) o o2) ∨ (nth hp r = some o2 ∧ ρ.contains r = false) := fun r o2 h => by
    have := hb.get r o2 h
    rwa [Nat.zero_add] at this
  -- blocks of the callee's objects: lent ones, or new
  have hcb : ∀ i o b, nth os' i = some o → (φ' i).has b → (b ∈ W' ∨ w.heap.size ≤ b) ∧ ¬ A' b := fun i o b h1 h2 => hq.owned i o b h1 h2
  have hframe : ∀ b, b < w.heap.size → b ∉ W' → w'.heap[b]? = w.heap[b]? := fun b h1 h2 => hq.frame b h1 h2
  have hnMut : ∀ b, b < w.heap.size → ¬ Mut c.A φ hp b → w'.heap[b]? = w.heap[b]? := fun b h1 h2 => hframe b h1 fun hw => by
    obtain ⟨r, o, _, h5, h6⟩ := hlentMut b hw
    exact h2 (.inr ⟨r, o, h5, h6⟩)
  have hmm : ∀ b, b < w.heap.size → ¬ Mut c.A φ hp b → ¬ Mut c.A φ'' hp' b := by
    rintro b hlt hm (ha | ⟨r, o2, hr2, hbk⟩)
    · exact hm (.inl ha)
    · rcases hback r o2 hr2 with ⟨i, o, h1, h2, _⟩ | ⟨h1, h2⟩
      · rw [hφR i r h1] at hbk
        rcases (hcb i o b h2 hbk).1 with h | h
        · obtain ⟨r', o', _, h5, h6⟩ := hlentMut b h
          exact hm (.inr ⟨r', o', h5, h6⟩)
        · omega
      · rw [hφK r (Qh h1) h2] at hbk
        exact hm (.inr ⟨r, o2, h1, hbk⟩)
  have hn'' : hp.length ≤ hp'.length := by omega
  have hrel : ∀ (ψ : Phi) av x, (∀ s, s < hp.length → ψ s = φ'' s) → Rel c.P w (Mut c.A φ hp) (fun s => if s < hp.length then φ s else ψ s) av x → Rel c.P w' (Mut c.A φ'' hp') ψ av x := by
    intro ψ av x hψ hx
    refine (hx.mono hq.heap hnMut hmm).loc fun s => ?_
    by_cases hsl : s < hp.length
    · rw [hψ s hsl, if_pos hsl]; exact hgrow s hsl
    · rw [if_neg hsl]; exact .inl (.refl _)
  have htr : ∀ av x, RelF c.P w (Mut c.A φ hp) hp.length φ av x → RelF c.P w' (Mut c.A φ'' hp') hp'.length φ'' av x := by
    intro av x hx ψ hψ
    refine hrel ψ av x (fun s hs => hψ s (by omega)) (hx _ fun s hs => ?_)
    simp only [if_pos hs]
  have hRout : ∀ x y, callR ρ hp.length x y ∧ x < os'.length → y < hp'.length ∧ φ'' y = φ' x := by
    rintro x y ⟨h, hx⟩
    refine ⟨?_, hφR x y h⟩
    rcases h with h | ⟨h1, rfl⟩
    · have := hlt_of x y h; omega
    · omega
  have hMout : ∀ b, b < w'.heap.size → ¬ Mut A' φ' os' b → ¬ Mut c.A φ'' hp' b := by
    rintro b _ hm (ha | ⟨r, o2, hr2, hbk⟩)
    · refine hm (.inl ⟨.inl ha, fun hw => ?_⟩)
      obtain ⟨r, o, _, h5, h6⟩ := hlentMut b hw
      exact (hok.owned r o b h5 h6).2 ha
    · rcases hback r o2 hr2 with ⟨i, o, h1, h2, _⟩ | ⟨h1, h2⟩
      · rw [hφR i r h1] at hbk
        exact hm (.inr ⟨i, o, h2, hbk⟩)
      · rw [hφK r (Qh h1) h2] at hbk
        refine hm (.inl ⟨.inr ⟨r, o2, h1, hbk⟩, fun hw => ?_⟩)
        obtain ⟨r', o', h4, h5, h6⟩ := hlentMut b hw
        have := hok.apart r r' o2 o' b h1 h5 hbk h6
        subst this
        rw [h2] at h4; cases h4
  -- numbers of callee's objects that its values bear lie below os'.length, or nothing is known of them
  have hren0 : ∀ ψ, JT hp'.length φ'' ψ → ∃ χ, JT os'.length φ' χ ∧ RwOK (rwR (callR ρ hp.length)) c.P w' (Mut A' φ' os') (Mut c.A φ'' hp') χ ψ := by
    intro ψ hψ
    let χ : Phi := fun i => if i < os'.length then φ' i else match ρ[i]? with | some r => ψ r | none => ψ (hp.length + (i - ρ.length))
    refine ⟨χ, fun i hi => by simp only [χ, if_pos hi], Zb8 (fun i r hir => ?_) hMout⟩
    by_cases hi : i < os'.length
    · obtain ⟨e1, e2⟩ := hRout i r ⟨hir, hi⟩
      simp only [χ, if_pos hi]
      rw [hψ r e1, e2]
    · simp only [χ, if_neg hi]
      rcases hir with h | ⟨h5, rfl⟩
      · rw [h]
      · rw [List.getElem?_eq_none (by omega)]
  have hrenC : ∀ {av av' : AV} {S : Nat → Prop} {x : Value}, RenC (rwR (callR ρ hp.length)) av av' → TRel c.P w' (Mut A' φ' os') os'.length φ' S av x → TRel c.P w' (Mut c.A φ'' hp') hp'.length φ'' S av' x :=
    fun h1 h2 => h1.relX (fun ψ hψ => hren0 ψ hψ) h2
  have hren : ∀ (av av' : AV) (x : Value), RenR (rwR (callR ρ hp.length)) av av' → RelF c.P w' (Mut A' φ' os') os'.length φ' av x → RelF c.P w' (Mut c.A φ'' hp') hp'.length φ'' av' x := by
    intro av av' x h1 h2 ψ hψ
    let χ : Phi := fun i => if i < os'.length then φ' i else match ρ[i]? with | some r => ψ r | none => ψ (hp.length + (i - ρ.length))
    have h3 := h2 χ fun i hi => by simp only [χ, if_pos hi]
    refine h1.rel (Zb8 (fun i r hir => ?_) hMout) h3
    by_cases hi : i < os'.length
    · obtain ⟨e1, e2⟩ := hRout i r ⟨hir, hi⟩
      simp only [χ, if_pos hi]
      rw [hψ r e1, e2]
    · simp only [χ, if_neg hi]
      rcases hir with h | ⟨h5, rfl⟩
      · rw [h]
      · rw [List.getElem?_eq_none (by omega)]
  refine ⟨v, φ'', rfl, ⟨hq.os.trans hok.os, hq.tape.trans hok.tape, hq.output.trans hok.output, Nat.le_trans hok.heap hq.heap, ?_, ?_, ?_, ?_, hok.amb, hok.glob, Nat.le_trans (by have := hok.len; exact this) hn'', ?_⟩, htr, hren _ _ _ hr hv, ?_⟩
  · intro b hlt hnW
    rw [hframe b (Nat.lt_of_lt_of_le hlt hok.heap) fun hw => ?_]
    · exact hok.frame b hlt hnW
    · obtain ⟨r, o, _, h5, h6⟩ := hlentMut b hw
      rcases (hok.owned r o b h5 h6).1 with h | h
      · exact hnW h
      · omega
  · intro r o2 b hr2 hbk
    rcases hback r o2 hr2 with ⟨i, o, h1, h2, _⟩ | ⟨h1, h2⟩
    · rw [hφR i r h1] at hbk
      rcases (hcb i o b h2 hbk).1 with h | h
      · obtain ⟨r', o', _, h5, h6⟩ := hlentMut b h
        exact hok.owned r' o' b h5 h6
      · have := hok.heap
        exact ⟨.inr (by omega), fun ha => by have := (hok.amb b ha).1; omega⟩
    · rw [hφK r (Qh h1) h2] at hbk
      exact hok.owned r o2 b h1 hbk
  · intro r r' o o' b hr1 hr1' hbk hbk'
    have mix : ∀ i x o y q, callR ρ hp.length i x → nth os' i = some o → (φ' i).has b → nth hp y = some q → ρ.contains y = false → (φ y).has b → False := by
      intro i x o y q h1 h2 h3 h4 h5 h6
      rcases (hcb i o b h2 h3).1 with h | h
      · obtain ⟨r', o', e4, e5, e6⟩ := hlentMut b h
        have := hok.apart y r' q o' b h4 e5 h6 e6
        subst this
        rw [h5] at e4; cases e4
      · have := hmutlt b (.inr ⟨y, q, h4, h6⟩); omega
    rcases hback r o hr1 with ⟨i, oi, h1, h2, _⟩ | ⟨h1, h2⟩
    · rw [hφR i r h1] at hbk
      rcases hback r' o' hr1' with ⟨i', oi', h1', h2', _⟩ | ⟨h1', h2'⟩
      · rw [hφR i' r' h1'] at hbk'
        have := hq.apart i i' oi oi' b h2 h2' hbk hbk'
        subst this
        rcases h1 with h1 | ⟨h1, rfl⟩
        · rcases h1' with h1' | ⟨h1', rfl⟩
          · rw [h1] at h1'; cases h1'; rfl
          · have := (List.getElem?_eq_some_iff.1 h1).1; omega
        · rcases h1' with h1' | ⟨h1', rfl⟩
          · have := (List.getElem?_eq_some_iff.1 h1').1; omega
          · rfl
      · rw [hφK r' (Qh h1') h2'] at hbk'
        exact (mix i r oi r' o' h1 h2 hbk h1' h2' hbk').elim
    · rw [hφK r (Qh h1) h2] at hbk
      rcases hback r' o' hr1' with ⟨i', oi', h1', h2', _⟩ | ⟨h1', h2'⟩
      · rw [hφR i' r' h1'] at hbk'
        exact (mix i' r' oi' r o h1' h2' hbk' h1 h2 hbk).elim
      · rw [hφK r' (Qh h1') h2'] at hbk'
        exact hok.apart r r' o o' b h1 h1' hbk hbk'
  · intro r o2 hr2
    rcases hback r o2 hr2 with ⟨i, o, h1, h2, h3⟩ | ⟨h1, h2⟩
    · have hO := hq.obj i o h2
      obtain ⟨g1, g2, g4, g5⟩ := h3
      have he := hφR i r h1
      refine ⟨by rw [he, ← g2]; exact hO.len, by rw [he, ← g1]; exact hO.sz, g4, by rw [he, ← g2]; exact hO.room, by rw [he]; exact hO.cap, fun hb => ?_, by rw [he]; exact hO.subl, by rw [he]; exact hO.subn, fun b hb => ?_⟩
      · rw [he] at hb ⊢
        obtain ⟨e1, e2⟩ := hO.none hb
        exact ⟨List.eq_nil_of_length_eq_zero (by rw [← g2, e1]; rfl), e2⟩
      · rw [he] at hb ⊢
        obtain ⟨cs, e1, e2, T, t1, t2, e3⟩ := hO.some b hb
        refine ⟨cs, by rw [← g1]; exact e1, by rw [← g1]; exact e2, T, t1, t2, fun i' j' hi' hj' => ?_⟩
        rw [← g1] at hj' ⊢
        exact hrenC (g5 i' j' (by omega) hj') (e3 i' j' (by omega) hj')
    · have hO := hok.obj r o2 h1
      have he := hφK r (Qh h1) h2
      have hsame : ∀ b, (φ r).has b → w'.heap[b]? = w.heap[b]? := fun b hb => hframe b (hO.has_lt hb) fun hw => by
        obtain ⟨r', o', e4, e5, e6⟩ := hlentMut b hw
        have := hok.apart r r' o2 o' b h1 e5 hb e6
        subst this
        rw [h2] at e4; cases e4
      refine ⟨by rw [he]; exact hO.len, by rw [he]; exact hO.sz, hO.rows, by rw [he]; exact hO.room, by rw [he]; exact hO.cap, by rw [he]; exact hO.none, by rw [he]; exact fun b hb => Nat.lt_of_lt_of_le (hO.subl b hb) hq.heap, by rw [he]; exact hO.subn, fun b hb => ?_⟩
      rw [he] at hb ⊢
      obtain ⟨cs, e1, e2, e3⟩ := hO.some b hb
      exact ⟨cs, e1.congr (hsame b (.inl hb)), e2, e3.tr (fun x hx => hsame x (.inr hx)) htr⟩
  · intro r hr0
    have hl0 : c.n0 ≤ hp.length := hok.len
    rcases hok.mono r hr0 with h1 | h1
    · rcases hgrow r (by omega) with h2 | h2
      · exact .inl (h2.trans h1)
      · exact .inr (by rw [← h1.2.2.1]; exact h2)
    · rcases hgrow r (by omega) with h2 | h2
      · exact .inr (by rw [h2.2.2.1]; exact h1)
      · exact .inr (Nat.lt_trans h1 h2)
  · intro b hlt hno
    refine ⟨hframe b hlt fun hw => ?_, fun r o2 hr2 hbk => ?_⟩
    · obtain ⟨r, o, _, h5, h6⟩ := hlentMut b hw
      exact hno r o h5 h6
    · rcases hback r o2 hr2 with ⟨i, o, h1, h2, _⟩ | ⟨h1, h2⟩
      · rw [hφR i r h1] at hbk
        rcases (hcb i o b h2 hbk).1 with h | h
        · obtain ⟨r', o', _, h5, h6⟩ := hlentMut b h
          exact hno r' o' h5 h6
        · omega
      · rw [hφK r (Qh h1) h2] at hbk
        exact hno r o2 h1 hbk

theorem Zds {φ : Phi} {a : Act} {w : World} (hc : Conc c φ st a w) {f : FuncId} {ds : List AV} {os os' hp' : List (Option Own)} {res res' : AV} {vals : Array Value} (ρ : List Nat) (hs : GSpec c.P c.gl f ds os res os')
    (hvs : vals.size = ds.length) (ha : ∀ i, i < ds.length → ∃ av, RenR (rwR fun r i => ρ[i]? = some r) av (ds.getD i .any) ∧ RelF c.P w (Mut c.A φ st.hp) st.hp.length φ av (vals.getD i undef))
    (hl : Lend c.P ρ st.hp ρ os) (hnd : ZaD ρ = true) (hb : Back c.P ρ st.hp.length st.hp os' 0 hp') (hlen : st.hp.length + (os'.length - ρ.length) = hp'.length) (hr : RenR (rwR (callR ρ st.hp.length)) res res')
    (hin : os'.length ≥ ρ.length) :
    Calls c.P f vals w fun e w' => ∃ v φ', e = .returned v ∧ HeapOK c φ' hp' w' ∧
      (∀ av x, RelF c.P w (Mut c.A φ st.hp) st.hp.length φ av x → RelF c.P w' (Mut c.A φ' hp') hp'.length φ' av x) ∧ RelF c.P w' (Mut c.A φ' hp') hp'.length φ' res' v :=
  Calls.mono (ZcF (fun R => Calls c.P f vals w R) (fun h k => Calls.mono h k) hc ρ (fun A W φ1 _ _ h1 h2 h3 => hs.spec A W w φ1 vals h1 h2 h3) hvs ha hl hnd hb hlen hr hin)
    fun _ _ ⟨v, φ', e, h1, h2, h3, _⟩ => ⟨v, φ', e, h1, h2, h3⟩

theorem Qx {f : FuncId} {xs : List Operand} {ts : Array TypeId} {ds : List AV} {os os' hp' : List (Option Own)} {res res' : AV} (ρ : List Nat) (hs : GSpec c.P c.gl f ds os res os') (ha : ArgsG c st (rwR fun r i => ρ[i]? = some r) xs ds)
    (hl : Lend c.P ρ st.hp ρ os) (hnd : ZaD ρ = true) (hb : Back c.P ρ st.hp.length st.hp os' 0 hp') (hlen : st.hp.length + (os'.length - ρ.length) = hp'.length) (hin : Nat.ble ρ.length os'.length = true)
    (hr : RenR (rwR (callR ρ st.hp.length)) res res') :
    WVal c ops st ⟨dst, .call { callee := .value (.func f), args := xs.toArray, argTypes := ts }, ty, pos, after, none⟩ res' hp' := by
  intro φ a w hc
  refine ⟨rfl, ?_⟩
  obtain ⟨h1, h2⟩ := ha.rel hc
  unfold Oper.wp
  have e : (execOp a.eval ⟨dst, .call { callee := .value (.func f), args := xs.toArray, argTypes := ts }, ty, pos, after, none⟩).run c.P w = .ok (.enter f (xs.map a.eval).toArray) w := by
    simp [execOp, resolve, Act.eval, Deferred.ofValue, invoke, QM hs.call]
  rw [e]
  refine (Zds hc ρ hs (vals := (xs.map a.eval).toArray) (by simpa using h1) (fun i hi => ?_) hl hnd hb hlen hr (Nat.le_of_ble_eq_true hin)).mono ?_
  · obtain ⟨av, e1, e2⟩ := h2 i hi
    exact ⟨av, e1, by simpa [Array.getD_eq_getD_getElem?, List.getD_eq_getElem?_getD] using e2⟩
  rintro e w' ⟨v, φ', rfl, g1, g2, g3⟩
  exact ⟨v, φ', rfl, g1, g2, g3⟩
end
end Go.Vx

namespace Go.Vx
open Go Go.RowKit


abbrev Str := List UInt8
def idx {α : Type} (xs : List α) (i : Int) : Option α := if 0 ≤ i then xs[i.toNat]? else none
theorem Zex {α : Type} {xs : List α} {i : Int} {x : α} (h : idx xs i = some x) : i = (i.toNat : Int) ∧ xs[i.toNat]? = some x := by
  unfold idx at h
  split at h
  · exact ⟨by omega, h⟩
  · cases h
def gd {α : Type} (g : Bool) (d : α) (o : Option α) : Option α := if g = true then o else some d
theorem gdT {α : Type} {g : Bool} {d x : α} {o : Option α} (h : gd g d o = some x) (hg : g = true) : o = some x := by simpa [gd, hg] using h

def t0 {β : Type} (f : β) (_ : Unit) : β := f
def t1 {α β : Type} (f : α → β) (a : α) : β := f a
@[simp] theorem ZgS {β : Type} (f : β) : t0 f () = f := rfl
@[simp] theorem Zav {α β : Type} (f : α → β) (a : α) : t1 f a = f a := rfl
def t2 {α β γ : Type} (f : α → β → γ) (p : α × β) : γ := f p.1 p.2
def t3 {α β γ δ : Type} (f : α → β → γ → δ) (p : α × β × γ) : δ := f p.1 p.2.1 p.2.2
def t4 {α β γ δ ε : Type} (f : α → β → γ → δ → ε) (p : α × β × γ × δ) : ε := f p.1 p.2.1 p.2.2.1 p.2.2.2
def t5 {α β γ δ ε ζ : Type} (f : α → β → γ → δ → ε → ζ) (p : α × β × γ × δ × ε) : ζ := f p.1 p.2.1 p.2.2.1 p.2.2.2.1 p.2.2.2.2
def t6 {α β γ δ ε ζ η : Type} (f : α → β → γ → δ → ε → ζ → η) (p : α × β × γ × δ × ε × ζ) : η := f p.1 p.2.1 p.2.2.1 p.2.2.2.1 p.2.2.2.2.1 p.2.2.2.2.2
def t7 {α β γ δ ε ζ η θ : Type} (f : α → β → γ → δ → ε → ζ → η → θ) (p : α × β × γ × δ × ε × ζ × η) : θ := f p.1 p.2.1 p.2.2.1 p.2.2.2.1 p.2.2.2.2.1 p.2.2.2.2.2.1 p.2.2.2.2.2.2
def t8 {α β γ δ ε ζ η θ ι : Type} (f : α → β → γ → δ → ε → ζ → η → θ → ι) (p : α × β × γ × δ × ε × ζ × η × θ) : ι := f p.1 p.2.1 p.2.2.1 p.2.2.2.1 p.2.2.2.2.1 p.2.2.2.2.2.1 p.2.2.2.2.2.2.1 p.2.2.2.2.2.2.2
@[simp] theorem Zah {α β γ : Type} (f : α → β → γ) (a : α) (b : β) : t2 f (a, b) = f a b := rfl
@[simp] theorem ZaQ {α β γ δ : Type} (f : α → β → γ → δ) (a : α) (b : β) (c : γ) : t3 f (a, b, c) = f a b c := rfl
@[simp] theorem Zgy {α β γ δ ε : Type} (f : α → β → γ → δ → ε) (a : α) (b : β) (c : γ) (d : δ) : t4 f (a, b, c, d) = f a b c d := rfl
@[simp] theorem ZgV {α β γ δ ε ζ : Type} (f : α → β → γ → δ → ε → ζ) (a : α) (b : β) (c : γ) (d : δ) (e : ε) : t5 f (a, b, c, d, e) = f a b c d e := rfl
@[simp] theorem ZgR {α β γ δ ε ζ η : Type} (f : α → β → γ → δ → ε → ζ → η) (a : α) (b : β) (c : γ) (d : δ) (e : ε) (g : ζ) : t6 f (a, b, c, d, e, g) = f a b c d e g := rfl
@[simp] theorem ZgU {α β γ δ ε ζ η θ : Type} (f : α → β → γ → δ → ε → ζ → η → θ) (a : α) (b : β) (c : γ) (d : δ) (e : ε) (g : ζ) (h : η) : t7 f (a, b, c, d, e, g, h) = f a b c d e g h := rfl
@[simp] theorem ZgT {α β γ δ ε ζ η θ ι : Type} (f : α → β → γ → δ → ε → ζ → η → θ → ι) (a : α) (b : β) (c : γ) (d : δ) (e : ε) (g : ζ) (h : η) (i : θ) : t8 f (a, b, c, d, e, g, h, i) = f a b c d e g h i := rfl

section
variable {α β γ : Type} {k : β → Option γ} {r : γ}
theorem Qa {X : Option γ} (h : X = some r) : X.bind some = some r := by simpa using h
theorem bnd {o : Option α} {f : α → Option β} (h : (o.bind f).bind k = some r) : ∃ x, o = some x ∧ (f x).bind k = some r := by
  cases o with
  | none => cases h
  | some x => exact ⟨x, rfl, h⟩
theorem ret {v : γ} (h : (some v).bind some = some r) : v = r := Option.some.inj h
theorem lx {ρ : Type} {v r1 : ρ} (h : some v = some r1) : r1 = v := (Option.some.inj h).symm
theorem Zai {o : Option β} (h : o.bind k = some r) : ∃ x, o = some x ∧ k x = some r := by
  cases o with
  | none => cases h
  | some x => exact ⟨x, rfl, h⟩
theorem elr {β' δ : Type} {A : β' → Option β} {B : δ → Option β} {x : δ} (h : (Sum.elim A B (.inr x)).bind k = some r) : (B x).bind k = some r := h
theorem rt {v w : γ} (h : some v = some w) : v = w := Option.some.inj h
end
section
variable {α β γ δ ε ζ η θ κ ν : Type} {k : κ → Option ν} {r : ν}
theorem t0i {f : Option κ} (h : (t0 f ()).bind k = some r) : f.bind k = some r := h
theorem t1i {f : α → Option κ} {a : α} (h : (t1 f a).bind k = some r) : (f a).bind k = some r := h
theorem t2i {f : α → β → Option κ} {a : α} {b : β} (h : (t2 f (a, b)).bind k = some r) : (f a b).bind k = some r := h
end


section
variable {σ ρ : Type}
def XJ (body : σ → Option (σ ⊕ ρ)) : Nat → σ → Option ρ
  | 0, _ => none
  | n + 1, s => (body s).bind (Sum.elim (XJ body n) some)
open Classical in
noncomputable def loop (body : σ → Option (σ ⊕ ρ)) (s : σ) : Option ρ := if h : ∃ r, ∃ n, XJ body n s = some r then some (Classical.choose h) else none

theorem ZaC {body : σ → Option (σ ⊕ ρ)} : ∀ {n m : Nat} {s : σ} {r : ρ}, n ≤ m → XJ body n s = some r → XJ body m s = some r
  | 0, _, _, _, _, h => by cases h
  | n + 1, 0, _, _, h, _ => by omega
  | n + 1, m + 1, s, r, hnm, h => by
    simp only [XJ] at h ⊢
    cases hb : body s with
    | none => rw [hb] at h; cases h
    | some o =>
      rw [hb] at h
      cases o with
      | inl s' => exact ZaC (n := n) (m := m) (by omega) h
      | inr r' => exact h
theorem Zck {body : σ → Option (σ ⊕ ρ)} {n : Nat} {s : σ} {r : ρ} (h : XJ body n s = some r) : loop body s = some r := by
  have hx : ∃ r, ∃ n, XJ body n s = some r := ⟨r, n, h⟩
  unfold loop
  rw [dif_pos hx]
  obtain ⟨m, hm⟩ := Classical.choose_spec hx
  have h1 := ZaC (Nat.le_max_left n m) h
  have h2 := ZaC (Nat.le_max_right n m) hm
  rw [h1] at h2
  exact h2.symm
theorem JH {body : σ → Option (σ ⊕ ρ)} {s : σ} {r : ρ} (h : loop body s = some r) : ∃ n, XJ body n s = some r := by
  unfold loop at h
  split at h
  · rename_i hx
    cases h
    exact Classical.choose_spec hx
  · cases h
theorem JI (body : σ → Option (σ ⊕ ρ)) (s : σ) : loop body s = (body s).bind (Sum.elim (loop body) some) := by
  cases hb : body s with
  | none =>
    cases hl : loop body s with
    | none => rfl
    | some r =>
      obtain ⟨n, hn⟩ := JH hl
      cases n with
      | zero => cases hn
      | succ n => simp only [XJ, hb] at hn; cases hn
  | some o =>
    cases o with
    | inr r => exact Zck (n := 1) (by simp [XJ, hb])
    | inl s' =>
      show loop body s = loop body s'
      cases hl : loop body s' with
      | some r =>
        obtain ⟨n, hn⟩ := JH hl
        exact Zck (n := n + 1) (by simp only [XJ, hb]; exact hn)
      | none =>
        cases hl2 : loop body s with
        | none => rfl
        | some r =>
          obtain ⟨n, hn⟩ := JH hl2
          cases n with
          | zero => cases hn
          | succ n =>
            simp only [XJ, hb] at hn
            rw [Zck (n := n) hn] at hl; cases hl

theorem Za8 {c : Ctx} {code : Code} {st : St} {K : Exit → St → Prop} (body : σ → Option (σ ⊕ ρ)) (I : σ → St) (s0 : σ) {r : ρ} (h : loop body s0 = some r) (h0 : Ent c st (I s0))
    (hr : ∀ n s, (body s).bind (Sum.elim (XJ body n) some) = some r → T c code (I s) (JD (fun st' => ∃ s', XJ body n s' = some r ∧ Ent c st' (I s')) K)) : T c (.loop code) st K := by
  obtain ⟨N, hN⟩ := JH h
  refine Zgh (ι := Nat × σ) (fun p => XJ body p.1 p.2 = some r) (fun p => I p.2) (fun p => p.1) (N, s0) hN h0 ?_
  rintro ⟨n, s⟩ hC
  cases n with
  | zero => cases hC
  | succ n =>
    refine Zef (hr n s hC) ?_
    intro e st' hk
    cases e with
    | normal =>
      obtain ⟨s', h1, h2⟩ := hk
      exact ⟨(n, s'), h1, Nat.lt_succ_self n, h2⟩
    | exit id => exact hk
    | goto l => exact hk
    | ret => exact hk
    | panic ch => exact hk
    | outgrown => exact hk

theorem JC {body : σ → Option (σ ⊕ ρ)} (I : σ → Prop) (μ : σ → Nat) (Q : ρ → Prop) (step : ∀ s, I s → (∃ s', body s = some (.inl s') ∧ I s' ∧ μ s' < μ s) ∨ (∃ r, body s = some (.inr r) ∧ Q r)) :
    ∀ s, I s → ∃ r, loop body s = some r ∧ Q r := by
  have key : ∀ n s, μ s < n → I s → ∃ r, loop body s = some r ∧ Q r := by
    intro n
    induction n with
    | zero => intro s h; omega
    | succ n ih =>
      intro s hn hs
      rcases step s hs with ⟨s', h1, h2, h3⟩ | ⟨r, h1, h2⟩
      · obtain ⟨r, h4, h5⟩ := ih s' (by omega) h2
        exact ⟨r, by rw [JI, h1]; exact h4, h5⟩
      · exact ⟨r, by rw [JI, h1]; rfl, h2⟩
  intro s hs
  exact key (μ s + 1) s (Nat.lt_succ_self _) hs
end

section
variable {c : Ctx} {st : St} {K : Exit → St → Prop} {β γ : Type} {k : β → Option γ} {r : γ} {X Y : Option β}
theorem JF {ι τ : Type} {G : τ → Option β} {X : Option τ} {x y : Code} (inj : ι → τ) (J : ι → St) (h : (X.bind G).bind k = some r)
    (hx : X.bind (fun o => (G o).bind k) = some r → T c x st (JD (fun st' => ∃ i, (G (inj i)).bind k = some r ∧ Ent c st' (J i)) K))
    (ky : ∀ i, (G (inj i)).bind k = some r → T c y (J i) K) : T c (.seq x y) st K :=
  ZfL (fun i => (G (inj i)).bind k = some r) J (hx (by rw [Option.bind_assoc] at h; exact h)) ky
theorem ZgJ {t : Nat} {b : Bool} {x y : Code} (h : (if b = true then X else Y).bind k = some r) (hl : look st.tm t = some (.bool b))
    (h1 : b = true → X.bind k = some r → T c x st K) (h2 : b = false → Y.bind k = some r → T c y st K) : T c (.cond (.tmp t) x y) st K :=
  ZfY hl (fun hb => h1 hb (by rw [if_pos hb] at h; exact h)) (fun hb => h2 hb (by rw [if_neg (by rw [hb]; simp)] at h; exact h))
end

section
variable {c : Ctx} {code : Code} {K : Exit → St → Prop} {α β γ δ ε ζ η θ : Type}
end
end Go.Vx

namespace Go.Vx
open Go Go.RowKit


abbrev i64 (z : Int) : Int := IntKind.i64.wrap z
abbrev i8 (z : Int) : Int := IntKind.i8.wrap z
abbrev u64 (z : Int) : Int := IntKind.u64.wrap z
abbrev u8 (z : Int) : Int := IntKind.u8.wrap z
def shl (k : IntKind) (a n : Int) : Option Int := if n < 0 then none else some (k.wrap (a * 2 ^ min n.toNat k.bits))
def shr (k : IntKind) (a n : Int) : Option Int := if n < 0 then none else some (a.fdiv (2 ^ min n.toNat k.bits))
def cat (s t : Str) : Option Str := if s.length + t.length ≤ 9223372036854775807 then some (s ++ t) else none
def JR (s : Str) (i : Int) : Option Int := if 0 ≤ i then (s[i.toNat]?).map fun b => (b.toNat : Int) else none
def slc {α : Type} (xs : List α) (a b : Int) : Option (List α) := if 0 ≤ a ∧ a ≤ b ∧ b ≤ xs.length then some ((xs.take b.toNat).drop a.toNat) else none
def apz {α : Type} (s : Nat) (xs ys : List α) : Option (List α) := if xs.length + ys.length ≤ 140737488355328 / s then some (xs ++ ys) else none
abbrev app {α : Type} (xs ys : List α) : Option (List α) := apz 32768 xs ys
theorem Zge {s b n : Nat} (h : n ≤ 140737488355328 / s) (hb : b ≤ s) : n * b ≤ 140737488355328 := Nat.le_trans (Nat.mul_le_mul h hb) (Nat.div_mul_le_self ..)
theorem ZfZ {s n : Nat} (h : n ≤ 140737488355328 / s) : n < 2 ^ 63 := Nat.lt_of_le_of_lt (Nat.le_trans h (Nat.div_le_self ..)) (by decide)
def mk {α : Type} (n : Int) (z : α) : Option (List α) := if 0 ≤ n ∧ n ≤ 4294967296 then some (List.replicate n.toNat z) else none

section ops
variable {c : Ctx} {ops : Array Oper} {st : St} {dst : Option Tmp} {ty : TypeId} {pos : String} {after : Array Edge}

section arith
variable {x y : Operand} {k yk : IntKind} {m n z : Int} {t u : TypeId}
theorem Zfm {op : BinOp} (h : Opv c st x (.int k m)) (h' : Opv c st y (.int yk n)) (ho : op = .shl ∨ op = .shr)
    (hz : (Op.shift op k m yk n : Sem Value) = .pure (.int k z)) : SVal c ops st ⟨dst, .binOp op t x y u, ty, pos, after, none⟩ (.int k z) :=
  .pure rfl fun φ a w hc => by
    refine ⟨.int k z, ?_, Ze (.int _ _)⟩
    have e := h.int hc
    have e' := h'.int hc
    rcases ho with rfl | rfl
    · simp only [execOp, e, e', binOp, hz]; rfl
    · simp only [execOp, e, e', binOp, hz]; rfl
theorem Zf0 (h : Opv c st x (.int k m)) (h' : Opv c st y (.int yk n)) (hz : shr k m n = some z) : SVal c ops st ⟨dst, .binOp .shr t x y u, ty, pos, after, none⟩ (.int k z) := by
  unfold shr at hz
  split at hz
  · cases hz
  · rename_i h0; cases hz; exact Zfm h h' (.inr rfl) (by simp [Op.shift, h0, pure])
end arith

section str
variable {x y : Operand} {s s' r : Str} {t u : TypeId}
theorem Zej {op : BinOp} {v : Value} {av : AV} (h : Opv c st x (.str s)) (h' : Opv c st y (.str s')) (hne : op ≠ .shl ∧ op ≠ .shr) (hv : (Op.stringOp op ⟨s.toArray⟩ ⟨s'.toArray⟩ : Sem Value) = .pure v)
    (hr : ∀ w M, RelD c.P w M av v) : SVal c ops st ⟨dst, .binOp op t x y u, ty, pos, after, none⟩ av :=
  .pure rfl fun φ a w hc => by
    refine ⟨v, ?_, Ze (hr _ _)⟩
    have e := h.str hc
    have e' := h'.str hc
    simp only [execOp, e, e']
    have : binOp op t (.string ⟨s.toArray⟩) (.string ⟨s'.toArray⟩) = .pure v := by
      rw [← hv]; cases op <;> first | rfl | exact absurd rfl hne.1 | exact absurd rfl hne.2
    cases op <;> simp only [this] <;> rfl
theorem ZcX (s : Str) : (ByteArray.mk s.toArray).toList = s := by
  have key : ∀ (n i : Nat) (r : List UInt8), s.length - i = n → ByteArray.toList.loop (ByteArray.mk s.toArray) i r = r.reverse ++ s.drop i := by
    intro n
    induction n with
    | zero =>
      intro i r h
      unfold ByteArray.toList.loop
      have : ¬ i < (ByteArray.mk s.toArray).size := by simp [ByteArray.size]; omega
      rw [if_neg this, List.drop_eq_nil_of_le (by omega)]; simp
    | succ n ih =>
      intro i r h
      unfold ByteArray.toList.loop
      have : i < (ByteArray.mk s.toArray).size := by simp [ByteArray.size]; omega
      rw [if_pos this, ih (i + 1) _ (by omega)]
      have hlt : i < s.length := by omega
      rw [List.drop_eq_getElem_cons hlt]
      simp [ByteArray.get!, hlt]
  have := key s.length 0 [] (by simp)
  simpa [ByteArray.toList] using this
theorem Zgs (s s' : Str) : (s == s') = decide (s = s') := by rw [Bool.eq_iff_iff]; simp
theorem Jw (h : Opv c st x (.str s)) (h' : Opv c st y (.str s')) : SVal c ops st ⟨dst, .binOp .eql t x y u, ty, pos, after, none⟩ (.bool (decide (s = s'))) :=
  Zej h h' (by simp) (v := .bool (decide (s = s'))) (by simp only [Op.stringOp, ZcX, Zgs]; rfl) fun _ _ => .bool _
theorem Jb (h : Opv c st x (.str s)) (h' : Opv c st y (.str s')) : SVal c ops st ⟨dst, .binOp .neq t x y u, ty, pos, after, none⟩ (.bool (!decide (s = s'))) :=
  Zej h h' (by simp) (v := .bool (!decide (s = s'))) (by simp only [Op.stringOp, ZcX, Zgs]; rfl) fun _ _ => .bool _
theorem Qq (h : Opv c st x (.str s)) (h' : Opv c st y (.str s')) (hz : cat s s' = some r) : SVal c ops st ⟨dst, .binOp .add t x y u, ty, pos, after, none⟩ (.str r) := by
  unfold cat at hz
  split at hz
  · rename_i hle
    cases hz
    refine Zej h h' (by simp) (v := .string ⟨(s ++ s').toArray⟩) ?_ fun _ _ => .str _
    have e1 : ¬ ((((ByteArray.mk s.toArray).size + (ByteArray.mk s'.toArray).size : Nat) : Int) > IntKind.i64.max) := by
      simp only [ByteArray.size, List.size_toArray]
      have : IntKind.i64.max = 9223372036854775807 := by decide
      rw [this]; omega
    simp only [Op.stringOp]
    rw [if_neg e1]
    have e2 : (ByteArray.mk s.toArray ++ ByteArray.mk s'.toArray) = ByteArray.mk (s ++ s').toArray := by
      rw [ByteArray.ext_iff]
      simp
    rw [e2]; rfl
  · cases hz
theorem XF {k : IntKind} {i z : Int} (h : Opv c st x (.str s)) (hy : Opv c st y (.int k i)) (ht : tStr c.P t = true) (hz : JR s i = some z) : SVal c ops st ⟨dst, .index t x y, ty, pos, after, none⟩ (.int .u8 z) :=
  .pure rfl fun φ a w hc => by
    refine ⟨.int .u8 z, ?_, Ze (.int _ _)⟩
    unfold JR at hz
    split at hz
    · rename_i h0
      obtain ⟨b, hb, rfl⟩ := Option.map_eq_some_iff.1 hz
      have hlt := (List.getElem?_eq_some_iff.1 hb).1
      have e : (ByteArray.mk s.toArray)[i.toNat]? = some b := by
        have e1 : (ByteArray.mk s.toArray)[i.toNat]? = s[i.toNat]? := by
          rw [List.getElem?_eq_getElem hlt, getElem?_pos (ByteArray.mk s.toArray) i.toNat (by simpa [ByteArray.size] using hlt)]
          rfl
        rw [e1, hb]
      have hr : (Instr.index t (.string ⟨s.toArray⟩) (.int k i)).run c.P w = .ok (.int .u8 (b.toNat : Int)) w := by
        unfold Instr.index
        simp [asIntOf, run_underlying (tStr.spec ht), h0, e]
      show ((do pure (Next.value (← Instr.index t (a.eval x) (a.eval y))) : Sem Next)).run c.P w = _
      rw [h.str hc, hy.int hc, Sem.run_bind, hr]
      rfl
    · cases hz
end str

theorem QB {t n : Nat} {l : List AV} {x : Operand} (h : CellV c st x l) (hl : l.length = n) (hs : c.P.cellsOf t = n) (hd : l.all datB = true) : SVal c ops st ⟨dst, .box t x, ty, pos, after, none⟩ (.rp l 0) := by
  subst hl
  refine .run rfl fun φ a w hc => ?_
  obtain ⟨h1, h2⟩ := h φ a w hc
  have hBl : Below w.heap.size w (w.alloc (.cells (a.eval x).cells t)) := (Below.refl _ _).alloc (Nat.le_refl _) _
  refine ⟨.pointer (some ⟨w.heap.size, 0, none⟩), w.alloc (.cells (a.eval x).cells t), ?_, hBl, Ze ?_⟩
  · simp only [execOp, Instr.box, newVar, newRow]
    rfl
  · have hnew : (w.alloc (.cells (a.eval x).cells t)).heap[w.heap.size]? = some (.cells (a.eval x).cells t (0, 0)) := heap_alloc_new w _
    have hnM : ¬ Mut c.A φ st.hp w.heap.size := fun hmm => by have := ZaL hc _ hmm; omega
    refine .rp l w.heap.size 0 0 (fun j => (a.eval x).cells.getD j undef) (by simp) hnM (fun j hj => ?_) (fun j hj => ?_)
    · rw [Zn hnew, Nat.zero_add]
      simp [show j < (a.eval x).cells.size by omega]
    · have hdj : datB (l.getD j .any) = true := by
        have : l.getD j .any = l[j] := by simp [List.getD_eq_getElem?_getD, hj]
        rw [this]; exact List.all_eq_true.1 hd _ (List.getElem_mem _)
      exact (Dat.b (c := c) (st := st) hdj φ a w hc _ (h2 j hj)).mono hBl.size (fun b hb _ => hBl.block b hb) (fun _ _ hm => hm)

def ZcN (c : Ctx) (st : St) (d : Int) : Option Operand → Int → Prop
  | none, z => z = d
  | some x, z => ∃ k, Opv c st x (.int k z)
theorem oi {x : Operand} {k : IntKind} {z d : Int} (h : Opv c st x (.int k z)) : ZcN c st d (some x) z := ⟨k, h⟩
theorem on {d : Int} : ZcN c st d none d := rfl

theorem Zd7 {P : Program} {w : World} {k : IntKind} {z : Int} {y : Nat} {code : BoundsCode} (h0 : 0 ≤ z) (h1 : z ≤ y) : (Instr.sliceBound (.int k z) y code).run P w = .ok z.toNat w := by
  simp [Instr.sliceBound, asIntOf, h0, h1]

theorem ZbC {φ : Phi} {a : Act} {w : World} (hc : Conc c φ st a w) {lo hi : Option Operand} {len cap : Nat} {isS : Bool} {p q : Int} (hl : ZcN c st 0 lo p) (hh : ZcN c st len hi q) (h0 : 0 ≤ p) (h1 : p ≤ q) (h2 : q ≤ cap) (hlc : len ≤ cap) :
    (Instr.sliceBounds isS len cap (lo.map a.eval) (hi.map a.eval) none).run c.P w = .ok (p.toNat, q.toNat, cap) w := by
  have b1 : ∀ {x : Operand} {k : IntKind} {z : Int} {y : Nat} {code : BoundsCode}, Opv c st x (.int k z) → 0 ≤ z → z ≤ y → (Instr.sliceBound (a.eval x) y code).run c.P w = .ok z.toNat w :=
    fun h h0 h1 => by rw [h.int hc]; exact Zd7 h0 h1
  cases hi with
  | none =>
    have e : q = len := hh
    subst e
    cases lo with
    | none =>
      have e : p = 0 := hl
      subst e
      simp [Instr.sliceBounds]
    | some x =>
      obtain ⟨k, hx⟩ := hl
      have := fun code => b1 (code := code) (y := len) hx h0 h1
      simp [Instr.sliceBounds, this]
  | some y =>
    obtain ⟨k', hy⟩ := hh
    have hy' := fun code => b1 (code := code) hy (by omega) h2
    cases lo with
    | none =>
      have e : p = 0 := hl
      subst e
      simp [Instr.sliceBounds, hy']
    | some x =>
      obtain ⟨k, hx⟩ := hl
      have := fun code => b1 (code := code) (y := q.toNat) hx h0 (by omega)
      simp [Instr.sliceBounds, hy', this]

end ops
end Go.Vx
namespace Go.Vx
open Go Go.RowKit
section ops
variable {c : Ctx} {ops : Array Oper} {st : St} {dst : Option Tmp} {ty : TypeId} {pos : String} {after : Array Edge}

theorem Qf {t : Nat} {x : Operand} {lo hi : Option Operand} {s r : Str} {p q : Int} (h : Opv c st x (.str s)) (ht : tStr c.P t = true)
    (hl : ZcN c st 0 lo p) (hh : ZcN c st (s.length : Int) hi q) (hz : slc s p q = some r) : SVal c ops st ⟨dst, .slice t x lo hi none, ty, pos, after, none⟩ (.str r) :=
  .pure rfl fun φ a w hc => by
    unfold slc at hz
    split at hz
    · rename_i hb
      cases hz
      obtain ⟨h0, h1, h2⟩ := hb
      have hu := tStr.spec ht
      refine ⟨.string ⟨((s.take q.toNat).drop p.toNat).toArray⟩, ?_, Ze (.str _)⟩
      have hsz : (ByteArray.mk s.toArray).size = s.length := by simp [ByteArray.size]
      have := ZbC hc (isS := false) hl (len := s.length) (cap := s.length) hh h0 h1 (by omega) (Nat.le_refl _)
      show ((do pure (Next.value (← Instr.sliceAt t (a.eval x) (lo.map a.eval) (hi.map a.eval) none)) : Sem Next)).run c.P w = _
      rw [h.str hc, Sem.run_bind]
      have e : (Instr.sliceAt t (.string ⟨s.toArray⟩) (lo.map a.eval) (hi.map a.eval) none).run c.P w = .ok (.string ⟨((s.take q.toNat).drop p.toNat).toArray⟩) w := by
        unfold Instr.sliceAt
        rw [Sem.run_bind, run_underlying hu]
        simp only [Result.andThen_ok]
        unfold Instr.slice
        rw [Sem.run_bind, run_underlying hu]
        simp only [Result.andThen_ok, Option.isSome_none, hsz]
        simp only [Bool.false_eq_true, if_false, pure_bind]
        rw [Sem.run_bind, this]
        simp only [Result.andThen_ok]
        show Result.ok (Value.string _) w = _
        congr 2
        rw [ByteArray.ext_iff, ByteArray.data_extract]
        simp [List.drop_take]
      rw [e]
      rfl
    · cases hz


theorem ZV {α : Type} {f : α → List AV} {x y : Operand} {t e n by_ : Nat} {k : IntKind} {z : Int} {xs : List α} {u : α} (h : Opv c st x (.sl e (xs.map f))) (hy : Opv c st y (.int k z)) (ht : tSl c.P t e n by_ = true)
    (hx : idx xs z = some u) : SVal c ops st ⟨dst, .indexAddr t x y, ty, pos, after, none⟩ (.rp (f u) 0) := by
  obtain ⟨h1, h2⟩ := Zex hx
  exact Zgk h hy ht h1 (ZfB h2)

theorem Q1 {α : Type} {f : α → List AV} {x y : Operand} {t e sz by_ r n s : Nat} {xs ys zs : List α} (h : Opv c st x (.own r n)) (hy : SlV c st y sz (ys.map f)) (ht : tSl c.P t e sz by_ = true)
    (ho : nth st.hp r = some ⟨e, xs.map f⟩) (hn : xs.length = n) (hpos : Nat.blt 0 ys.length = true) (h1 : ∀ u, ∀ v ∈ f u, Zbi c st v) (hby : Nat.ble by_ s = true) (hz : apz s xs ys = some zs) :
    WVal c ops st ⟨dst, .call { callee := .builtin .append, args := #[x, y], argTypes := #[t, t] }, ty, pos, after, none⟩ (.own r zs.length) (ZF st.hp r (some ⟨e, zs.map f⟩)) := by
  unfold apz at hz
  split at hz
  · rename_i hle
    cases hz
    have hby := Nat.le_of_ble_eq_true hby
    have hle2 : n + ys.length ≤ 140737488355328 / s := hn ▸ hle
    have hmul : (n + ys.length) * by_ ≤ 140737488355328 := Zge hle2 hby
    have := Zew (c := c) (ops := ops) (dst := dst) (ty := ty) (pos := pos) (after := after) (m := ys.length) h hy ht ho (by simpa using hn) rfl (by simp) (by simpa using hpos) (fun row hr u hu => by
      obtain ⟨a, _, rfl⟩ := List.mem_map.1 hr
      exact h1 a u hu) hmul (ZfZ hle2)
    rw [← hn, ← List.length_append] at this
    simpa [List.map_append] using this
  · cases hz

end ops

theorem Dat.nils {c : Ctx} {st : St} (e : TypeId) : Dat c st .nils (.sl e []) := fun φ a w hc v hv => by
  have := hv φ (fun _ _ => rfl)
  cases this with | data h => cases h; exact .sl0 e none 0
theorem View.ownM {c : Ctx} {st : St} {α : Type} {f : α → List AV} {r n : Nat} {e : TypeId} {xs : List α} (ho : nth st.hp r = some ⟨e, xs.map f⟩) (hn : xs.length = n) (h : ∀ x, (f x).length = c.P.cellsOf e ∧ (f x).all datB = true) : View c st (.own r n) (.sl e (xs.map f)) :=
  View.ownB (o := ⟨e, xs.map f⟩) ho (by simpa using hn) fun row hr => by obtain ⟨x, _, rfl⟩ := List.mem_map.1 hr; exact h x
theorem View.nils {c : Ctx} {st : St} (e : TypeId) : View c st .nils (.sl e []) := (Dat.nils e).view
end Go.Vx

namespace Go.Vx
open Go Go.RowKit
theorem Zgw {β γ : Type} {k : β → Option γ} {r : γ} (h : (none : Option β).bind k = some r) : False := by cases h
theorem ZcS {c : Ctx} {st : St} {rs : Array ResultVar} {res : AV} {os' : List (Option Own)} (s : List (Option Nat)) {rs' : List ResultVar} {ds : List AV} (h1 : rs = rs'.toArray) (h2 : RetWs c st rs' ds) (h3 : SelHp c.P (ZaI s st.hp) st.hp s os')
    (h4 : dupL s os' = true) (h5 : Zat 0 c.n0 s = true) (h6 : RenR (ZaI s st.hp) (ZdJ ds) res) : Ze8 c rs res os' .normal st := ⟨s, rs', ds, h1, h2, h3, h4, h5, h6⟩
section ops
variable {c : Ctx} {ops : Array Oper} {st : St} {dst : Option Tmp} {ty : TypeId} {pos : String} {after : Array Edge}

theorem Xn {x : Operand} {r n i j : Nat} {o : Own} (h : Opv c st x (.ptr r n i j)) (ho : nth st.hp r = some o) (hn : o.es.length = n) : SVal c ops st ⟨dst, .nilCheck x, ty, pos, after, none⟩ (.ptr r n i j) :=
  .pure rfl fun φ a w hc => by
    have hO := hc.hok.obj r o ho
    obtain ⟨b, hb, hx⟩ := Qb (h φ a w hc) (by rw [hO.len, hn])
    exact ⟨a.eval x, by simp only [execOp, hx]; rfl, h φ a w hc⟩
theorem ZbL {α : Type} {f : α → List AV} {x y : Operand} {t e sz by_ r n : Nat} {xs : List α} (h : Opv c st x (.own r n)) (hy : SlV c st y sz []) (ht : tSl c.P t e sz by_ = true)
    (ho : nth st.hp r = some ⟨e, xs.map f⟩) (hn : xs.length = n) :
    WVal c ops st ⟨dst, .call { callee := .builtin .append, args := #[x, y], argTypes := #[t, t] }, ty, pos, after, none⟩ (.own r n) st.hp := by
  refine .run rfl fun φ a w hc => ?_
  obtain ⟨hu, inf, z, hi, hs, hby, hn0, hz, hzs, hcs⟩ := tSl.spec ht
  have hO := hc.hok.obj r _ ho
  have hx := QO (h φ a w hc) (by rw [hO.len]; simpa using hn)
  obtain ⟨base, cap, hyv, _, _, _⟩ := hy φ a w hc
  have hroom : n ≤ (φ r).cap := by have := hO.room; simpa [hn] using this
  refine ⟨_, w, φ, ?_, hc.hok, fun _ _ h => h, h φ a w hc⟩
  simp only [List.length_nil] at hyv
  have hfc : (Builtin.firstCells inf.size 0 (.slice base 0 cap)).run c.P w = .ok #[] w := by
    cases base with
    | none => rfl
    | some b => simp [Builtin.firstCells, loadCells, loadCellsFrom]
  have : (Builtin.append_ #[t, t] ty #[a.eval x, a.eval y]).run c.P w = .ok (a.eval x) w := by
    rw [hx, hyv]
    cases hb : (φ r).blk with
    | none => simp [Builtin.append_, run_underlying hu, sizeOf, typeInfo, hi, Builtin.lenOf, hroom, hfc]
    | some b => simp [Builtin.append_, run_underlying hu, sizeOf, typeInfo, hi, Builtin.lenOf, hroom, hfc, storeCells]
  simp only [execOp, resolve, invoke, builtin]
  simp [this]
theorem Zd1 {α : Type} {f : α → List AV} {x y : Operand} {t e sz by_ r n s : Nat} {xs ys zs : List α} (h : Opv c st x (.own r n)) (hy : SlV c st y sz (ys.map f)) (ht : tSl c.P t e sz by_ = true)
    (ho : nth st.hp r = some ⟨e, xs.map f⟩) (hn : xs.length = n) (h1 : ∀ u, ∀ v ∈ f u, Zbi c st v) (hby : Nat.ble by_ s = true) (hz : apz s xs ys = some zs) :
    WVal c ops st ⟨dst, .call { callee := .builtin .append, args := #[x, y], argTypes := #[t, t] }, ty, pos, after, none⟩ (.own r zs.length) (ZF st.hp r (some ⟨e, zs.map f⟩)) := by
  cases ys with
  | cons u ys => exact Q1 h hy ht ho hn rfl h1 hby hz
  | nil =>
    unfold apz at hz
    split at hz
    · simp only [List.append_nil, Option.some.injEq] at hz
      subst hz
      have hset : ZF st.hp r (some (⟨e, xs.map f⟩ : Own)) = st.hp := by
        generalize st.hp = hp at ho
        clear h hy
        induction hp generalizing r with
        | nil => cases ho
        | cons o hp ih =>
          cases r with
          | zero => simp only [nth] at ho; simp [ZF, ho]
          | succ r => simp only [nth] at ho; simp only [ZF]; rw [ih ho]
      rw [hset, hn]
      exact ZbL h hy ht ho hn
    · cases hz
end ops
end Go.Vx
