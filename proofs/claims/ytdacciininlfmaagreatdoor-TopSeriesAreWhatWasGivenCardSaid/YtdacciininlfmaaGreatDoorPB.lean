/- A text of the proof: a verified executor of the program form, or the contracts of the functions that the law reaches. -/
import Derived.Test.YtdacciininlfmaaGreatDoorPA
import Derived.Test.YtdacciininlfmaaGreatDoorShLib
import Derived.Test.YtdacciininlfmaaGreatDoorVP
set_option linter.all false
namespace Go.Vx
open Go Go.RowKit
theorem Zpm {a b A B : Int} (h0 : 0 ≤ a) (h1 : a ≤ A) (h2 : 0 ≤ b) (h3 : b ≤ B) : 0 ≤ a * b ∧ a * b ≤ A * B :=
  ⟨Int.mul_nonneg h0 h2, Int.mul_le_mul h1 h3 h2 (by omega)⟩
def Zaj (p : api_Param) (f : Int) : Bool := p.Parts.all fun x => decide (f + x.Frame < 16)
def stL (p : api_Param) : Nat → Int → List Int
  | 0, _ => []
  | n + 1, f => if f < 16 then (if Zaj p f then f :: stL p n (f + p.Every) else stL p n (f + p.Every)) else []
theorem ZjD (p : api_Param) : ∀ n f, (stL p n f).length ≤ n
  | 0, _ => Nat.le_refl _
  | n + 1, f => by
    have := ZjD p n (f + p.Every)
    unfold stL
    split
    · split
      · simp only [List.length_cons]; omega
      · omega
    · simp
theorem Zgg {p : api_Param} (h1 : 1 ≤ p.Every) : ∀ n f x, 0 ≤ f → x ∈ stL p n f → 0 ≤ x ∧ x < 16 ∧ Zaj p x = true
  | 0, _, _, _, hx => by cases hx
  | n + 1, f, x, h0, hx => by
    unfold stL at hx
    split at hx
    · split at hx
      · rcases List.mem_cons.1 hx with rfl | hx
        · exact ⟨h0, by assumption, by assumption⟩
        · exact Zgg h1 n _ x (by omega) hx
      · exact Zgg h1 n _ x (by omega) hx
    · cases hx
def Ju (p : api_Param) (f j : Int) (x : api_Part) : api_Place := ⟨f + x.Frame, x.Word + j * p.Step, x.Low, x.Bits⟩
def Zbk (number : Int) (p : api_Param) (idx f : Int) (j : Nat) : api_Cell := ⟨number, idx, f, p.Parts.map (Ju p f j)⟩
def Zcd (number : Int) (p : api_Param) (out : List api_Cell) (f : Int) : List api_Cell := out ++ (List.range p.Times.toNat).map fun j => Zbk number p ((out.length + j : Nat) : Int) f j
def Jm (p : api_Param) : List Int := stL p 17 p.First
def cellsN (number : Int) (p : api_Param) : List api_Cell := (Jm p).foldl (Zcd number p) []
structure PartsOK (p : api_Param) : Prop where
  len : lenOK p
  tim : timA p = true
  stp : ∀ x ∈ p.Parts, stepOK p x = true
theorem Zlx {p : api_Param} (h : PartsOK p) {f : Int} (hf : 0 ≤ f ∧ f < 16) : ZW p.Parts (fun z0 => X6 z0 f) = some (!Zaj p f) := by
  have h8 := h.len.1
  have key : loop (t1 (ZV p.Parts (fun z0 => X6 z0 f))) 0 = some (Jk Sum.inl (Sum.inr ()) (ZY (fun k (x : api_Part) => if f + x.Frame < 16 then none else some (k : Int)) 0 p.Parts)) := by
    refine JK (xs := p.Parts) _ _ _ (fun k x hx => ?_) (by simp [ZV])
    have hlt := Xh hx
    have hk : i64 ((k : Int) + 1) = (k : Int) + 1 := ZX (by omega) (by omega)
    have hp := JQ.1 (h.len.2 x (List.mem_of_getElem? hx))
    have hs : i64 (f + x.Frame) = f + x.Frame := ZX (by omega) (by omega)
    simp only [ZV, X6, hlt, decide_true, if_true, ZE hx, Option.bind_some, hk, hs]
    by_cases h16 : f + x.Frame < 16
    · have : ¬ 16 ≤ f + x.Frame := by omega
      simp [h16, this]
    · have : 16 ≤ f + x.Frame := by omega
      simp [h16, this]
  have fnd : ∀ (k : Nat) (l : List api_Part), ((l.all fun x => decide (f + x.Frame < 16)) = true ∧ ZY (fun k (x : api_Part) => if f + x.Frame < 16 then none else some (k : Int)) k l = none) ∨ ((l.all fun x => decide (f + x.Frame < 16)) = false ∧ ∃ j : Nat, ZY (fun k (x : api_Part) => if f + x.Frame < 16 then none else some (k : Int)) k l = some (j : Int)) := by
    intro k l
    induction l generalizing k with
    | nil => left; exact ⟨rfl, rfl⟩
    | cons x l ih =>
      by_cases hx : f + x.Frame < 16
      · rcases ih (k + 1) with ⟨h1, h2⟩ | ⟨h1, j, h2⟩
        · left; exact ⟨by simp only [List.all_cons, hx, decide_true, Bool.true_and]; exact h1, by simp only [ZY, hx, if_true]; exact h2⟩
        · right; exact ⟨by simp only [List.all_cons, hx, decide_true, Bool.true_and]; exact h1, j, by simp only [ZY, hx, if_true]; exact h2⟩
      · right; exact ⟨by simp [hx], k, by simp [ZY, hx]⟩
  unfold ZW Qe
  rw [key]
  unfold Zaj
  rcases fnd 0 p.Parts with ⟨h1, h2⟩ | ⟨h1, j, h2⟩
  · rw [h2, h1]; rfl
  · rw [h2, h1]
    simp [Jk]
theorem ZeD {p : api_Param} (h : PartsOK p) : ∀ (n : Nat) (out : List Int) (f : Int), 0 ≤ f → f ≤ 32 → out.length + n ≤ 100 → 16 - f < n → loop (t2 (QK p)) (out, f) = some (out ++ stL p n f)
  | 0, out, f, h0, h1, h2, h3 => by
    have h16 : ¬ f < 16 := by omega
    rw [ZN]
    simp [QK, h16, stL]
  | n + 1, out, f, h0, h1, h2, h3 => by
    obtain ⟨hE, _⟩ := Xw h.tim
    rw [ZN]
    by_cases h16 : f < 16
    · have e : i64 (f + p.Every) = f + p.Every := ZX (by omega) (by omega)
      simp only [J3, QK, h16, decide_true, if_true, Zlx h ⟨h0, h16⟩, Option.bind_some, Bool.not_not, e]
      cases hi : Zaj p f
      · simp only [Bool.false_eq_true, if_false, Option.bind_some, t1]
        show loop (t2 (QK p)) (out, f + p.Every) = _
        rw [ZeD h n out _ (by omega) (by omega) (by omega) (by omega)]
        simp [stL, h16, hi]
      · simp only [if_true]
        rw [Zb0 (by simp; omega)]
        simp only [Option.bind_some, t1]
        show loop (t2 (QK p)) (out ++ [f], f + p.Every) = _
        rw [ZeD h n _ _ (by omega) (by omega) (by simp; omega) (by omega)]
        simp [stL, h16, hi]
    · simp [QK, h16, stL]
theorem Zj6 {p : api_Param} (h : PartsOK p) : Zae p = some (Jm p) := by
  obtain ⟨hE, hF, _⟩ := Xw h.tim
  unfold Zae
  rw [ZeD h 17 [] p.First (by omega) (by omega) (by simp) (by omega)]
  rfl
theorem ZkK {p : api_Param} (h : PartsOK p) {f : Int} (hf : 0 ≤ f ∧ f < 16) {j : Nat} (hj : (j : Int) < p.Times) : loop (t2 (Qv p f j)) ([], 0) = some (p.Parts.map (Ju p f j)) := by
  have h8 := h.len.1
  obtain ⟨_, _, hT, hS, _⟩ := Xw h.tim
  refine ZoH (Ju p f j) (fun k x acc hx ha => ?_) (fun acc => by simp [Qv])
  have hlt := Xh hx
  have hk : i64 ((k : Int) + 1) = (k : Int) + 1 := ZX (by omega) (by omega)
  have hp := JQ.1 (h.len.2 x (List.mem_of_getElem? hx))
  have hst := h.stp x (List.mem_of_getElem? hx)
  simp only [stepOK, Bool.and_eq_true, decide_eq_true_eq] at hst
  have hm := Zpm (a := (j : Int)) (b := p.Step) (A := 57) (B := 60) (by omega) (by omega) hS hst.1
  simp only [Qv, hlt, decide_true, if_true, ZE hx, Option.bind_some, Zay, hk]
  rw [ZX (z := f + x.Frame) (by omega) (by omega), ZX (z := (j : Int) * p.Step) (by omega) (by omega), ZX (z := x.Word + (j : Int) * p.Step) (by omega) (by omega), Zb0 (by simp; omega)]
  rfl
theorem Zlf (p : api_Param) (f : Int) (j : Int) : Zb2 p f j = Qv p f j := by
  funext l i
  simp only [Zb2, Qv, Zay, Option.bind_some]
theorem Zkn {number : Int} {p : api_Param} (h : PartsOK p) {f : Int} (hf : 0 ≤ f ∧ f < 16) {body : List api_Cell → Int → Option ((List api_Cell × Int) ⊕ List api_Cell)} (out : List api_Cell) (ho : out.length ≤ 100000)
    (hb : ∀ acc i, body acc i = if decide (i < p.Times) = true then
      ((loop (t2 (Qv p f i)) ([], 0)) : Option (((List api_Place)))).bind (t1 fun (Places : List api_Place) =>
      (app acc ([(api_Cell.mk number (acc.length : Int) f Places)] : List api_Cell)).bind fun l2 =>
      some (.inl (l2, (i64 (i + 1)))))
      else some (.inr acc)) : loop (t2 body) (out, 0) = some (Zcd number p out f) := by
  obtain ⟨_, _, hT, _⟩ := Xw h.tim
  have hTn : (p.Times.toNat : Int) = p.Times := by omega
  have := Za5 (body := t2 body) (fun s => ∃ k : Nat, s.2 = k ∧ k ≤ p.Times.toNat ∧ s.1 = out ++ (List.range k).map fun j => Zbk number p ((out.length + j : Nat) : Int) f j) (fun s => p.Times.toNat - s.2.toNat) (fun _ => Zcd number p out f) (by
    rintro ⟨acc, i⟩ ⟨k, hi, hk, ha⟩
    simp only at hi ha
    subst hi
    simp only [J3, hb]
    rcases Nat.lt_or_ge k p.Times.toNat with hlt | hge
    · left
      have h1 : ((k : Nat) : Int) < p.Times := by omega
      have hlen : acc.length = out.length + k := by rw [ha]; simp
      simp only [h1, decide_true, if_true, ZkK h hf h1, Option.bind_some, t1]
      rw [Zb0 (by simp; omega), ZX (by omega) (by omega)]
      refine ⟨_, rfl, ⟨k + 1, by push_cast; rfl, hlt, ?_⟩, by simp only; omega, trivial⟩
      simp only [List.range_succ, List.map_append, List.map_cons, List.map_nil]
      rw [← List.append_assoc, ← ha, hlen]
      rfl
    · have : k = p.Times.toNat := by omega
      subst this
      right
      rw [if_neg (by simp; omega), ha]
      rfl) (out, 0) ⟨0, rfl, Nat.zero_le _, by simp⟩
  exact this
theorem Zk9 {number : Int} {p : api_Param} (hT : p.Times ≤ 57) : ∀ (fs : List Int) (out : List api_Cell), (fs.foldl (Zcd number p) out).length ≤ out.length + 57 * fs.length
  | [], out => by simp
  | f :: fs, out => by
    have := Zk9 (number := number) hT fs (Zcd number p out f)
    have h2 : (Zcd number p out f).length ≤ out.length + 57 := by unfold Zcd; simp; omega
    simp only [List.foldl_cons, List.length_cons]
    omega
theorem ZjP {p : api_Param} (h : PartsOK p) (number : Int) : Xg number p = some (cellsN number p) := by
  obtain ⟨hE, hF, hT, _⟩ := Xw h.tim
  have hlen : (Jm p).length ≤ 17 := ZjD p 17 _
  unfold Xg
  rw [Zj6 h, Option.bind_some]
  have key : loop (t2 (Xr number p (Jm p))) ([], 0) = some (cellsN number p) := by
    have := ZeI (xs := Jm p) (body := Xr number p (Jm p)) (I := fun acc k => acc.length ≤ 57 * k) (F := fun acc k => ((Jm p).drop k).foldl (Zcd number p) acc)
      (fun acc k f hI hx => by
        have hlt := Xh hx
        have hf := Zgg (p := p) (by omega) 17 p.First f hF.1 (List.mem_of_getElem? hx)
        left
        refine ⟨Zcd number p acc f, ?_, ?_, by rw [ZO hx]; rfl⟩
        · simp only [Xr, hlt, decide_true, if_true, ZE hx, Option.bind_some]
          rw [Zkn (number := number) (body := Zbq number p f) h ⟨hf.1, hf.2.1⟩ acc (by omega) (fun acc i => rfl), ZX (by omega) (by omega)]
          rfl
        · unfold Zcd; simp; omega)
      (fun acc hI => by simp [Xr]) (a0 := []) (by simp)
    exact this
  rw [key]
  rfl
theorem Zk3 {p : api_Param} (h : PartsOK p) {f : Int} (hf : 0 ≤ f ∧ f < 16) : loop (t2 (J5 p f)) (true, 0) = some (Zaj p f) := by
  have h8 := h.len.1
  have := ZeI (xs := p.Parts) (body := J5 p f) (I := fun _ _ => True) (F := fun b k => b && ((p.Parts.drop k).all fun x => decide (f + x.Frame < 16)))
    (fun b k x _ hx => by
      have hlt := Xh hx
      have hp := JQ.1 (h.len.2 x (List.mem_of_getElem? hx))
      left
      refine ⟨b && decide (f + x.Frame < 16), ?_, trivial, by rw [ZO hx, List.all_cons, Bool.and_assoc]⟩
      simp only [J5, hlt, decide_true, if_true, ZE hx, Option.bind_some]
      rw [ZX (z := f + x.Frame) (by omega) (by omega), ZX (by omega) (by omega)])
    (fun b _ => by simp [J5]) (a0 := true) trivial
  rw [this]
  simp [Zaj]
theorem ZeM {p : api_Param} (h : PartsOK p) (number : Int) : ∀ (n : Nat) (out : List api_Cell) (f : Int), 0 ≤ f → f ≤ 32 → out.length + 57 * n ≤ 10000 → 16 - f < n → loop (t2 (XG p number)) (out, f) = some ((stL p n f).foldl (Zcd number p) out)
  | 0, out, f, h0, h1, h2, h3 => by
    have h16 : ¬ f < 16 := by omega
    rw [ZN]
    simp [XG, h16, stL]
  | n + 1, out, f, h0, h1, h2, h3 => by
    obtain ⟨hE, _, hT, _⟩ := Xw h.tim
    rw [ZN]
    by_cases h16 : f < 16
    · have e : i64 (f + p.Every) = f + p.Every := ZX (by omega) (by omega)
      simp only [J3, XG, h16, decide_true, if_true, Zk3 h ⟨h0, h16⟩, Option.bind_some, t1, e]
      cases hi : Zaj p f
      · have hL : loop (t2 (Zaa p number f false)) (out, 0) = some out := by
          rw [ZN]; simp [Zaa]
        rw [hL]
        show loop (t2 (XG p number)) (out, f + p.Every) = _
        rw [ZeM h number n out _ (by omega) (by omega) (by omega) (by omega)]
        simp [stL, h16, hi]
      · rw [Zkn (number := number) h ⟨h0, h16⟩ (body := Zaa p number f true) out (by omega) (fun acc i => by
          simp only [Zaa, Bool.and_true, Zlf])]
        show loop (t2 (XG p number)) (Zcd number p out f, f + p.Every) = _
        have h2' : (Zcd number p out f).length ≤ out.length + 57 := by unfold Zcd; simp; omega
        rw [ZeM h number n _ _ (by omega) (by omega) (by omega) (by omega)]
        simp [stL, h16, hi]
    · simp [XG, h16, stL]
theorem Zgm {p : api_Param} (h : PartsOK p) (number : Int) : JI p number = some (cellsN number p) := by
  obtain ⟨hE, hF, _⟩ := Xw h.tim
  unfold JI
  rw [ZeM h number 17 [] p.First (by omega) (by omega) (by simp) (by omega)]
  rfl
end Go.Vx

namespace Go.Vx
open Go Go.RowKit

section
variable {K V : Type} {eq : K → K → Bool}
def mkeys (m : List (K × V)) : List K := m.map (·.1)
theorem Zg8 (he : ∀ a b, eq a b = true ↔ a = b) {m : List (K × V)} {k : K} : (ZaW eq m k).isSome = true ↔ k ∈ mkeys m := by
  unfold ZaW mkeys
  rw [Option.isSome_map, List.find?_isSome]
  simp only [List.mem_map]
  constructor
  · rintro ⟨p, hp, h⟩; exact ⟨p, hp, ((he _ _).1 h).symm⟩
  · rintro ⟨p, hp, rfl⟩; exact ⟨p, hp, (he _ _).2 rfl⟩
theorem Zjd (he : ∀ a b, eq a b = true ↔ a = b) {m : List (K × V)} {k : K} (h : k ∉ mkeys m) : ZaW eq m k = none := by
  cases hm : ZaW eq m k with
  | none => rfl
  | some v => exact absurd ((Zg8 he).1 (by rw [hm]; rfl)) h
theorem ZkH (he : ∀ a b, eq a b = true ↔ a = b) {m : List (K × V)} {k : K} {v : V} (h : k ∉ mkeys m) : ZfG eq m k v = m ++ [(k, v)] := by
  unfold ZfG
  have : (m.findIdx? fun p => eq k p.1) = none := by
    rw [List.findIdx?_eq_none_iff]
    intro p hp
    cases hq : eq k p.1 with
    | false => rfl
    | true => exact absurd (List.mem_map.2 ⟨p, hp, ((he _ _).1 hq).symm⟩) h
  rw [this]
end
theorem ZjA {n : Nat} (a b : Vector Int n) : kqV a b = true ↔ a = b := by simp [kqV]
end Go.Vx

namespace Go.Vx
open Go Go.RowKit
theorem kqB_iff (a b : layout_bit) : kq_layout_bit a b = true ↔ a = b := by
  cases a; cases b; simp [kq_layout_bit]
instance : DecidableEq layout_bit := fun a b => decidable_of_iff (kq_layout_bit a b = true) (kqB_iff a b)
def Zal (x : api_Place) : List layout_bit := (List.range x.Bits.toNat).map fun (i : Nat) => ⟨x.Frame, x.Word, x.Low + i⟩
def Q6 (l : List api_Place) : List layout_bit := l.flatMap Zal
def okB : List layout_bit → List layout_bit → Bool
  | _, [] => true
  | K, b :: bs => if b ∈ K then false else okB (K ++ [b]) bs
theorem Zcu : ∀ (K a b : List layout_bit), okB K (a ++ b) = (okB K a && okB (K ++ a) b)
  | K, [], b => by simp [okB]
  | K, x :: a, b => by
    simp only [List.cons_append, okB]
    split
    · rfl
    · rw [Zcu (K ++ [x]) a b]; simp
def Zc7 (x : api_Place) : Prop := 0 ≤ x.Low ∧ x.Low ≤ 10 ∧ 0 ≤ x.Bits ∧ x.Bits ≤ 11
theorem Znw {x : api_Place} (h : Zc7 x) : ZaV x = some (Zal x) := by
  obtain ⟨h1, h2, h3, h4⟩ := h
  have hn : (x.Bits.toNat : Int) = x.Bits := by omega
  have := Zky (body := Jy x) x.Bits.toNat (fun i => (⟨x.Frame, x.Word, x.Low + i⟩ : layout_bit)) (fun k acc hk ha => by
    have h5 : ((k : Nat) : Int) < x.Bits := by omega
    simp only [Jy, h5, decide_true, if_true]
    rw [ZX (by omega) (by omega), Zb0 (by simp; omega), ZX (by omega) (by omega)]
    rfl) (fun acc => by simp [Jy, hn])
  unfold ZaV
  rw [this]; rfl
theorem ZkL {K V : Type} {o : List (K × V)} {b : K} {v : V} : mkeys (o ++ [(b, v)]) = mkeys o ++ [b] := by simp [mkeys]
theorem Zo2 {y : List layout_bit} (owner : Int) (hy : y.length ≤ 1000) (o : List (layout_bit × Int)) : ∃ q, loop (t2 (XQ owner y)) (o, 0) = some (cond (okB (mkeys o) y) (.inr (o ++ y.map fun b => (b, owner))) (.inl (false, q))) := by
  have key : ∀ (n k : Nat) (o : List (layout_bit × Int)), k + n = y.length → ∃ q, loop (t2 (XQ owner y)) (o, (k : Int)) = some (cond (okB (mkeys o) (y.drop k)) (.inr (o ++ (y.drop k).map fun b => (b, owner))) (.inl (false, q))) := by
    intro n
    induction n with
    | zero =>
      intro k o hk
      have : k = y.length := by omega
      subst this
      refine ⟨[], ?_⟩
      rw [ZN]
      simp [XQ, okB]
    | succ n ih =>
      intro k o hk
      obtain ⟨x, hx⟩ := ZU (xs := y) (k := k) (by omega)
      have hlt := Xh hx
      rw [ZO hx, ZN]
      simp only [J3, XQ, hlt, decide_true, if_true, ZE hx, Option.bind_some, okB]
      by_cases hm : x ∈ mkeys o
      · refine ⟨o, ?_⟩
        rw [if_pos ((Zg8 kqB_iff).2 hm), if_pos hm]
        rfl
      · have hg : (ZaW kq_layout_bit o x).isSome = false := by rw [Zjd kqB_iff hm]; rfl
        rw [hg, ZkH kqB_iff hm, if_neg hm, ZX (by omega) (by omega)]
        obtain ⟨q, h2⟩ := ih (k + 1) (o ++ [(x, owner)]) (by omega)
        refine ⟨q, ?_⟩
        simp only [Bool.false_eq_true, if_false]
        have e : ((k : Nat) : Int) + 1 = ((k + 1 : Nat) : Int) := by push_cast; rfl
        rw [e]
        rw [ZkL] at h2
        show loop (t2 (XQ owner y)) (o ++ [(x, owner)], ((k + 1 : Nat) : Int)) = _
        rw [h2]
        simp
  exact key y.length 0 o (by omega)
theorem ZmZ {x : api_Place} (h : Zc7 x) : (Zal x).length ≤ 11 := by
  obtain ⟨_, _, h3, h4⟩ := h
  simp [Zal]; omega
theorem Zoe {l : List api_Place} (owner : Int) (hl : l.length ≤ 1000000) (hp : ∀ x ∈ l, Zc7 x) (o : List (layout_bit × Int)) :
    ∃ q, Zbg o owner l = some (okB (mkeys o) (Q6 l), q) ∧ (okB (mkeys o) (Q6 l) = true → q = o ++ (Q6 l).map fun b => (b, owner)) := by
  have key : ∀ (n k : Nat) (o : List (layout_bit × Int)), k + n = l.length → ∃ q, loop (t2 (XO owner l)) (o, (k : Int)) = some (cond (okB (mkeys o) (Q6 (l.drop k))) (.inr (o ++ (Q6 (l.drop k)).map fun b => (b, owner))) (.inl (false, q))) := by
    intro n
    induction n with
    | zero =>
      intro k o hk
      have : k = l.length := by omega
      subst this
      refine ⟨[], ?_⟩
      rw [ZN]
      simp [XO, okB, Q6]
    | succ n ih =>
      intro k o hk
      obtain ⟨x, hx⟩ := ZU (xs := l) (k := k) (by omega)
      have hlt := Xh hx
      have hpx := hp x (List.mem_of_getElem? hx)
      obtain ⟨q, h2⟩ := Zo2 owner (y := Zal x) (by have := ZmZ hpx; omega) o
      have e : Q6 (l.drop k) = Zal x ++ Q6 (l.drop (k + 1)) := by rw [ZO hx]; simp [Q6]
      rw [e, Zcu, ZN]
      simp only [J3, XO, hlt, decide_true, if_true, ZE hx, Option.bind_some, Znw hpx, h2]
      by_cases hm : okB (mkeys o) (Zal x) = true
      · obtain ⟨q', h3⟩ := ih (k + 1) (o ++ (Zal x).map fun b => (b, owner)) (by omega)
        refine ⟨q', ?_⟩
        rw [hm, Bool.true_and, ZX (by omega) (by omega)]
        have e2 : ((k : Nat) : Int) + 1 = ((k + 1 : Nat) : Int) := by push_cast; rfl
        rw [e2]
        show loop (t2 (XO owner l)) (o ++ (Zal x).map (fun b => (b, owner)), ((k + 1 : Nat) : Int)) = _
        rw [h3]
        have e3 : mkeys (o ++ (Zal x).map fun b => (b, owner)) = mkeys o ++ Zal x := by simp [mkeys, Function.comp_def]
        rw [e3]
        simp
      · refine ⟨q, ?_⟩
        have hm' : okB (mkeys o) (Zal x) = false := by simpa using hm
        rw [hm']
        rfl
  obtain ⟨q, h⟩ := key l.length 0 o (by omega)
  unfold Zbg
  have h' : loop (t2 (XO owner l)) (o, 0) = _ := h
  rw [h']
  rw [List.drop_zero]
  by_cases hm : okB (mkeys o) (Q6 l) = true
  · rw [hm]; exact ⟨_, rfl, fun _ => rfl⟩
  · have hm' : okB (mkeys o) (Q6 l) = false := by simpa using hm
    rw [hm']
    refine ⟨q, rfl, ?_⟩
    intro h; cases h
def trB (b : layout_bit) : Vector Int 3 := #v[b.frame, b.word, b.bit]
theorem Zl4 {a b : layout_bit} (h : trB a = trB b) : a = b := by
  cases a; cases b
  simp only [trB] at h
  have h0 := congrArg (fun v : Vector Int 3 => v[0]) h
  have h1 := congrArg (fun v : Vector Int 3 => v[1]) h
  have h2 := congrArg (fun v : Vector Int 3 => v[2]) h
  simp at h0 h1 h2
  subst h0 h1 h2
  rfl
abbrev RT := List (Vector Int 3 × Bool)
structure RK (o : RT) (K : List layout_bit) : Prop where
  keys : mkeys o = K.map trB
  vals : ∀ p ∈ o, p.2 = true
theorem RK.get {o : RT} {K : List layout_bit} (h : RK o K) (b : layout_bit) : (ZaW kqV o (trB b)).getD false = decide (b ∈ K) := by
  by_cases hb : b ∈ K
  · have hm : trB b ∈ mkeys o := by rw [h.keys]; exact List.mem_map.2 ⟨b, hb, rfl⟩
    obtain ⟨v, hv⟩ := Option.isSome_iff_exists.1 ((Zg8 ZjA).2 hm)
    have : v = true := by
      unfold ZaW at hv
      obtain ⟨p, hp, rfl⟩ := Option.map_eq_some_iff.1 hv
      exact h.vals p (List.mem_of_find?_eq_some hp)
    rw [hv, this]; simp [hb]
  · have hm : trB b ∉ mkeys o := by
      rw [h.keys]
      intro hm
      obtain ⟨c, hc, he⟩ := List.mem_map.1 hm
      rw [Zl4 he] at hc
      exact hb hc
    rw [Zjd ZjA hm]; simp [hb]
theorem RK.put {o : RT} {K : List layout_bit} (h : RK o K) {b : layout_bit} (hb : b ∉ K) : RK (ZfG kqV o (trB b) true) (K ++ [b]) := by
  have hm : trB b ∉ mkeys o := by
    rw [h.keys]
    intro hm
    obtain ⟨c, hc, he⟩ := List.mem_map.1 hm
    rw [Zl4 he] at hc
    exact hb hc
  rw [ZkH ZjA hm]
  refine ⟨by rw [ZkL, h.keys]; simp, fun p hp => ?_⟩
  rcases List.mem_append.1 hp with hp | hp
  · exact h.vals p hp
  · simp at hp; rw [hp]
theorem Znj {x : api_Place} (hx : Zc7 x) (o : RT) (ok : Bool) :
    ∃ o' ok', loop (t3 (Q4 x)) (o, ok, x.Low) = some (o', ok') ∧ (ok = false → ok' = false) ∧ ∀ K, ok = true → RK o K → ok' = okB K (Zal x) ∧ (ok' = true → RK o' (K ++ Zal x)) := by
  obtain ⟨h1, h2, h3, h4⟩ := hx
  have hs : i64 (x.Low + x.Bits) = x.Low + x.Bits := ZX (by omega) (by omega)
  have key : ∀ (n k : Nat) (o : RT) (ok : Bool), k + n = x.Bits.toNat → ∃ o' ok', loop (t3 (Q4 x)) (o, ok, x.Low + k) = some (o', ok') ∧ (ok = false → ok' = false) ∧
      ∀ K, ok = true → RK o K → ok' = okB K ((Zal x).drop k) ∧ (ok' = true → RK o' (K ++ (Zal x).drop k)) := by
    intro n
    induction n with
    | zero =>
      intro k o ok hk
      have hge : ¬ (x.Low + (k : Int) < x.Low + x.Bits) := by omega
      refine ⟨o, ok, ?_, fun h => h, fun K h hK => ?_⟩
      · rw [ZN]
        simp only [Zgz, Q4, hs, hge, decide_false, Bool.false_eq_true, if_false]
        rfl
      · have : (Zal x).drop k = [] := List.drop_eq_nil_of_le (by simp [Zal]; omega)
        rw [this]
        exact ⟨by simp [okB, h], fun _ => by simpa using hK⟩
    | succ n ih =>
      intro k o ok hk
      have hlt : (x.Low + (k : Int) < x.Low + x.Bits) := by omega
      have hb : (Zal x)[k]? = some ⟨x.Frame, x.Word, x.Low + k⟩ := by
        simp only [Zal, List.getElem?_map]
        rw [List.getElem?_range (by omega)]
        rfl
      have he : (#v[x.Frame, x.Word, x.Low + (k : Int)] : Vector Int 3) = trB ⟨x.Frame, x.Word, x.Low + k⟩ := rfl
      have e1 : x.Low + ((k : Nat) : Int) + 1 = x.Low + ((k + 1 : Nat) : Int) := by push_cast; omega
      have hi : i64 (x.Low + (k : Int) + 1) = x.Low + ((k + 1 : Nat) : Int) := by rw [ZX (by omega) (by omega), e1]
      rw [ZN]
      simp only [Zgz, Q4, hs, hlt, decide_true, if_true, hi, he]
      cases ok with
      | false =>
        obtain ⟨o', ok', g1, g2, _⟩ := ih (k + 1) (ZfG kqV o (trB ⟨x.Frame, x.Word, x.Low + k⟩) true) false (by omega)
        exact ⟨o', ok', g1, fun _ => g2 rfl, fun K h => by cases h⟩
      | true =>
        simp only [ZkA, Option.bind_some, Bool.true_and]
        obtain ⟨o', ok', g1, g2, g3⟩ := ih (k + 1) (ZfG kqV o (trB ⟨x.Frame, x.Word, x.Low + k⟩) true) (!(ZaW kqV o (trB ⟨x.Frame, x.Word, x.Low + k⟩)).getD false) (by omega)
        refine ⟨o', ok', g1, (fun h => by cases h), fun K _ hK => ?_⟩
        rw [ZO hb]
        simp only [okB]
        rw [hK.get] at g2 g3
        by_cases hm : (⟨x.Frame, x.Word, x.Low + k⟩ : layout_bit) ∈ K
        · rw [if_pos hm]
          have hf := g2 (by simp [hm])
          exact ⟨hf, fun h => by rw [hf] at h; cases h⟩
        · rw [if_neg hm]
          obtain ⟨a1, a2⟩ := g3 (K ++ [⟨x.Frame, x.Word, x.Low + k⟩]) (by simp [hm]) (hK.put hm)
          refine ⟨a1, fun h => ?_⟩
          have := a2 h
          simpa using this
  have := key x.Bits.toNat 0 o ok (by omega)
  simpa using this
theorem ZpM {l : List api_Place} (hl : l.length ≤ 1000000) (hp : ∀ x ∈ l, Zc7 x) (o : RT) :
    ∃ o' ok', JT o l = some (ok', o') ∧ ∀ K, RK o K → ok' = okB K (Q6 l) ∧ (ok' = true → RK o' (K ++ Q6 l)) := by
  have key : ∀ (n k : Nat) (o : RT) (ok : Bool), k + n = l.length → ∃ o' ok', loop (t3 (Q5 l)) (o, ok, (k : Int)) = some (o', ok') ∧ (ok = false → ok' = false) ∧
      ∀ K, ok = true → RK o K → ok' = okB K (Q6 (l.drop k)) ∧ (ok' = true → RK o' (K ++ Q6 (l.drop k))) := by
    intro n
    induction n with
    | zero =>
      intro k o ok hk
      have : k = l.length := by omega
      subst this
      refine ⟨o, ok, ?_, fun h => h, fun K h hK => ?_⟩
      · rw [ZN]
        simp [Q5]
      · simp [Q6, okB, h, hK]
    | succ n ih =>
      intro k o ok hk
      obtain ⟨x, hx⟩ := ZU (xs := l) (k := k) (by omega)
      have hlt := Xh hx
      have hpx := hp x (List.mem_of_getElem? hx)
      obtain ⟨o1, ok1, h1, h2, h3⟩ := Znj hpx o ok
      obtain ⟨o2, ok2, g1, g2, g3⟩ := ih (k + 1) o1 ok1 (by omega)
      have e : Q6 (l.drop k) = Zal x ++ Q6 (l.drop (k + 1)) := by rw [ZO hx]; simp [Q6]
      have e2 : ((k : Nat) : Int) + 1 = ((k + 1 : Nat) : Int) := by push_cast; rfl
      refine ⟨o2, ok2, ?_, fun h => g2 (h2 h), fun K h hK => ?_⟩
      · rw [ZN]
        simp only [Zgz, Q5, hlt, decide_true, if_true, ZE hx, Option.bind_some, h1, J3]
        rw [ZX (by omega) (by omega), e2]
        exact g1
      · rw [e, Zcu]
        obtain ⟨a1, a2⟩ := h3 K h hK
        cases hok : ok1 with
        | false =>
          rw [← a1, hok, Bool.false_and]
          have := g2 hok
          exact ⟨this, fun h => by rw [this] at h; cases h⟩
        | true =>
          rw [← a1, hok, Bool.true_and]
          obtain ⟨b1, b2⟩ := g3 _ hok (a2 hok)
          exact ⟨b1, fun h => by have := b2 h; simpa using this⟩
  obtain ⟨o', ok', h1, _, h3⟩ := key l.length 0 o true (by omega)
  unfold JT
  have h1' : loop (t3 (Q5 l)) (o, true, 0) = _ := h1
  rw [h1']
  exact ⟨o', ok', rfl, fun K hK => by simpa using h3 K rfl hK⟩
def bitsC (l : List api_Cell) : List layout_bit := l.flatMap fun c => Q6 c.Places
def ZhM (l : List api_Cell) : Prop := l.length ≤ 1000000 ∧ ∀ c ∈ l, c.Places.length ≤ 1000000 ∧ ∀ x ∈ c.Places, Zc7 x
theorem Ziw {l : List api_Cell} (hl : ZhM l) (o : RT) :
    ∃ o' ok', Q0 o l = some (ok', o') ∧ ∀ K, RK o K → ok' = okB K (bitsC l) ∧ (ok' = true → RK o' (K ++ bitsC l)) := by
  have hl0 := hl.1
  have key : ∀ (n k : Nat) (o : RT) (ok : Bool), k + n = l.length → ∃ o' ok', loop (t3 (Qw l)) (o, ok, (k : Int)) = some (o', ok') ∧ (ok = false → ok' = false) ∧
      ∀ K, ok = true → RK o K → ok' = okB K (bitsC (l.drop k)) ∧ (ok' = true → RK o' (K ++ bitsC (l.drop k))) := by
    intro n
    induction n with
    | zero =>
      intro k o ok hk
      have : k = l.length := by omega
      subst this
      refine ⟨o, ok, ?_, fun h => h, fun K h hK => ?_⟩
      · rw [ZN]
        simp [Qw]
      · simp [bitsC, okB, h, hK]
    | succ n ih =>
      intro k o ok hk
      obtain ⟨c, hc⟩ := ZU (xs := l) (k := k) (by omega)
      have hlt := Xh hc
      obtain ⟨hp1, hp2⟩ := hl.2 c (List.mem_of_getElem? hc)
      obtain ⟨o1, ok1, h1, h3⟩ := ZpM hp1 hp2 o
      obtain ⟨o2, ok2, g1, g2, g3⟩ := ih (k + 1) o1 (if ok1 = true then ok else false) (by omega)
      have e : bitsC (l.drop k) = Q6 c.Places ++ bitsC (l.drop (k + 1)) := by rw [ZO hc]; simp [bitsC]
      have e2 : ((k : Nat) : Int) + 1 = ((k + 1 : Nat) : Int) := by push_cast; rfl
      refine ⟨o2, ok2, ?_, fun h => g2 (by simp [h]), fun K h hK => ?_⟩
      · rw [ZN]
        simp only [Zgz, Qw, hlt, decide_true, if_true, ZE hc, Option.bind_some, h1]
        rw [ZX (by omega) (by omega), e2]
        cases ok1 <;> exact g1
      · rw [e, Zcu]
        obtain ⟨a1, a2⟩ := h3 K hK
        cases hok : ok1 with
        | false =>
          rw [← a1, hok, Bool.false_and]
          have := g2 (by simp [hok])
          exact ⟨this, fun h => by rw [this] at h; cases h⟩
        | true =>
          rw [← a1, hok, Bool.true_and]
          obtain ⟨b1, b2⟩ := g3 _ (by simp [hok, h]) (a2 hok)
          exact ⟨b1, fun h => by have := b2 h; simpa using this⟩
  obtain ⟨o', ok', h1, _, h3⟩ := key l.length 0 o true (by omega)
  unfold Q0
  have h1' : loop (t3 (Qw l)) (o, true, 0) = _ := h1
  rw [h1']
  exact ⟨o', ok', rfl, fun K hK => by simpa using h3 K rfl hK⟩
end Go.Vx

namespace Go.Vx
open Go Go.RowKit
theorem PartsOK.of {p : api_Param} (h1 : Zft p = 0) (h2 : ZfV p = 0) : PartsOK p := by
  obtain ⟨hl, _, _⟩ := ZdF h1
  unfold ZfV at h2
  split at h2
  · split at h2
    · rename_i ha hb
      exact ⟨hl, ha, fun x hx => List.all_eq_true.1 hb x hx⟩
    · cases h2
  · cases h2
theorem Zn6 {number : Int} {p : api_Param} {out : List api_Cell} {f : Int} {c : api_Cell} (h : c ∈ Zcd number p out f) : c ∈ out ∨ ∃ (i : Int) (j : Nat), j < p.Times.toNat ∧ c = Zbk number p i f j := by
  unfold Zcd at h
  rcases List.mem_append.1 h with h | h
  · exact .inl h
  · obtain ⟨j, hj, rfl⟩ := List.mem_map.1 h
    exact .inr ⟨_, j, by simpa using hj, rfl⟩
theorem ZkU {number : Int} {p : api_Param} {c : api_Cell} : ∀ (fs : List Int) (out : List api_Cell), c ∈ fs.foldl (Zcd number p) out → c ∈ out ∨ ∃ (i f : Int) (j : Nat), f ∈ fs ∧ j < p.Times.toNat ∧ c = Zbk number p i f j
  | [], out, h => .inl h
  | f :: fs, out, h => by
    rcases ZkU fs _ h with h | ⟨i, g, j, h1, h2, h3⟩
    · rcases Zn6 h with h | ⟨i, j, h1, h2⟩
      · exact .inl h
      · exact .inr ⟨i, f, j, List.mem_cons_self, h1, h2⟩
    · exact .inr ⟨i, g, j, List.mem_cons_of_mem _ h1, h2, h3⟩
theorem Zd1 {number : Int} {p : api_Param} {c : api_Cell} (h : c ∈ cellsN number p) : ∃ (i f : Int) (j : Nat), f ∈ Jm p ∧ j < p.Times.toNat ∧ c = Zbk number p i f j := by
  rcases ZkU _ _ h with h | h
  · cases h
  · exact h
theorem Zav {number : Int} {p : api_Param} (h : PartsOK p) : (cellsN number p).length ≤ 969 := by
  obtain ⟨_, _, hT, _⟩ := Xw h.tim
  have h1 := Zk9 (number := number) (p := p) hT.2 (Jm p) []
  have h2 : (Jm p).length ≤ 17 := ZjD p 17 _
  unfold cellsN
  simp only [List.length_nil] at h1
  omega
theorem ZmD {p : api_Param} (h : PartsOK p) {x : api_Part} (hx : x ∈ p.Parts) (f j : Int) : Zc7 (Ju p f j x) := by
  have := JQ.1 (h.len.2 x hx)
  unfold Zc7 Ju
  simp only
  omega
theorem Zfb {number : Int} {p : api_Param} (h : PartsOK p) : ZhM (cellsN number p) := by
  have h0 := Zav (number := number) h
  refine ⟨by omega, fun c hc => ?_⟩
  obtain ⟨i, f, j, _, _, rfl⟩ := Zd1 hc
  have h8 := h.len.1
  refine ⟨by simp [Zbk]; omega, fun x hx => ?_⟩
  obtain ⟨y, hy, rfl⟩ := List.mem_map.1 hx
  exact ZmD h hy _ _
theorem Znq {l : List api_Cell} (hl : ZhM l) : loop (t2 (QF l)) (([] : List (layout_bit × Int)), 0) = some (cond (okB [] (bitsC l)) (.inr ()) (.inl 5)) := by
  have hl0 := hl.1
  have key : ∀ (n k : Nat) (o : List (layout_bit × Int)), k + n = l.length → loop (t2 (QF l)) (o, (k : Int)) = some (cond (okB (mkeys o) (bitsC (l.drop k))) (.inr ()) (.inl 5)) := by
    intro n
    induction n with
    | zero =>
      intro k o hk
      have : k = l.length := by omega
      subst this
      rw [ZN]
      simp [QF, okB, bitsC]
    | succ n ih =>
      intro k o hk
      obtain ⟨c, hc⟩ := ZU (xs := l) (k := k) (by omega)
      have hlt := Xh hc
      obtain ⟨hp1, hp2⟩ := hl.2 c (List.mem_of_getElem? hc)
      obtain ⟨q, h1, h2⟩ := Zoe 0 hp1 hp2 o
      have e : bitsC (l.drop k) = Q6 c.Places ++ bitsC (l.drop (k + 1)) := by rw [ZO hc]; simp [bitsC]
      have e2 : ((k : Nat) : Int) + 1 = ((k + 1 : Nat) : Int) := by push_cast; rfl
      rw [e, Zcu, ZN]
      simp only [J3, QF, hlt, decide_true, if_true, ZE hc, Option.bind_some, h1]
      rw [ZX (by omega) (by omega), e2]
      cases hok : okB (mkeys o) (Q6 c.Places) with
      | false => rfl
      | true =>
        have h3 := h2 hok
        have := ih (k + 1) q (by omega)
        have e3 : mkeys q = mkeys o ++ Q6 c.Places := by rw [h3]; simp [mkeys, Function.comp_def]
        rw [e3] at this
        exact this
  have := key l.length 0 [] (by omega)
  exact this
def Ze6 (p : api_Param) : Int := if nmL p.Name = true then (if wiL p.Kind 1 6 = true then (if Zft p = 0 then (if ZfV p = 0 then (if ZkS p = 0 then (if okB [] (bitsC (cellsN 0 p)) = true then (if (cellsN 0 p).length = 0 then 13 else 0) else 5) else ZkS p) else ZfV p) else Zft p) else 7) else 8
theorem Zgf (p : api_Param) : Xq p = some (Ze6 p) := by
  unfold Xq Ze6
  rw [Zk7, Option.bind_some]
  cases h1 : nmL p.Name
  · rfl
  simp only [Bool.not_true, Bool.false_eq_true, if_false, if_true, ZcB, Option.bind_some]
  cases h2 : wiL p.Kind 1 6
  · rfl
  simp only [Bool.not_true, Bool.false_eq_true, if_false, if_true, ZpH, Option.bind_some]
  by_cases h3 : Zft p = 0
  · by_cases h4 : ZfV p = 0
    · simp only [h3, h4, if_true, decide_true, Bool.not_true, Bool.false_eq_true, if_false, Zpe h3, Option.bind_some]
      by_cases h5 : ZkS p = 0
      · have hP := PartsOK.of h3 h4
        simp only [h5, if_true, decide_true, Bool.not_true, Bool.false_eq_true, if_false, ZjP hP, Option.bind_some, Znq (Zfb hP)]
        cases okB [] (bitsC (cellsN 0 p))
        · rfl
        · by_cases h6 : (cellsN 0 p).length = 0
          · simp [h6]
          · have : ¬ (((cellsN 0 p).length : Nat) : Int) = 0 := by omega
            simp only [if_true, if_neg h6, Option.bind_some, cond_true, Sum.elim_inr, t0, this, decide_false, Bool.false_eq_true, if_false]
      · simp [h5]
    · simp [h3, h4]
  · simp [h3]
theorem ZiW (p : api_Param) (hs : ZbF p) : JO p = some (Ze6 p) := by
  obtain ⟨w1, _, _, _, _, _, _, w2, _⟩ := hs
  unfold JO Ze6
  rw [Zmh _ w1, Option.bind_some]
  cases h1 : nmL p.Name
  · rfl
  simp only [Bool.not_true, Bool.false_eq_true, if_false, if_true, ZdT, Option.bind_some]
  cases h2 : wiL p.Kind 1 6
  · rfl
  simp only [Bool.not_true, Bool.false_eq_true, if_false, if_true, Zn5, Option.bind_some]
  by_cases h3 : Zft p = 0
  · simp only [h3, if_true, decide_true, Bool.not_true, Bool.false_eq_true, if_false, ZoR h3, Option.bind_some]
    by_cases h4 : ZfV p = 0
    · simp only [h4, if_true, decide_true, Bool.not_true, Bool.false_eq_true, if_false, ZpV h3 (fun x hx => w2.2 x hx), Option.bind_some]
      by_cases h5 : ZkS p = 0
      · have hP := PartsOK.of h3 h4
        obtain ⟨o', ok', g1, g2⟩ := Ziw (Zfb (number := 0) hP) []
        obtain ⟨g3, _⟩ := g2 [] ⟨rfl, fun p hp => by cases hp⟩
        simp only [h5, if_true, decide_true, Bool.not_true, Bool.false_eq_true, if_false, Zgm hP, Option.bind_some, g1, g3]
        cases okB [] (bitsC (cellsN 0 p))
        · rfl
        · by_cases h6 : (cellsN 0 p).length = 0
          · simp [h6]
          · have : ¬ (((cellsN 0 p).length : Nat) : Int) = 0 := by omega
            simp only [if_true, if_neg h6, this, decide_false, Bool.false_eq_true, if_false, Bool.not_true]
      · simp [h5]
    · simp [h4]
  · simp [h3]
structure ParOK (p : api_Param) : Prop extends PartsOK p where
  kind : 1 ≤ p.Kind ∧ p.Kind ≤ 6
  bits : 1 ≤ bitsN p ∧ bitsN p ≤ 40
  k4 : p.Kind = 4 → (bitsN p).tmod 4 = 0
  k5 : p.Kind = 5 → bitsN p = 1
  k23 : p.Kind = 2 ∨ p.Kind = 3 → 2 ≤ bitsN p
  k6 : p.Kind = 6 → 1 ≤ p.Names.length ∧ p.Names.length ≤ 64 ∧ (p.Names.length : Int) ≤ 2 ^ (bitsN p).toNat
  uniq : okB [] (bitsC (cellsN 0 p)) = true
theorem Zg6 {p : api_Param} (h : Ze6 p = 0) : ParOK p := by
  unfold Ze6 at h
  by_cases h1 : nmL p.Name = true
  case neg => rw [if_neg h1] at h; cases h
  rw [if_pos h1] at h
  by_cases h2 : wiL p.Kind 1 6 = true
  case neg => rw [if_neg h2] at h; cases h
  rw [if_pos h2] at h
  by_cases h3 : Zft p = 0
  case neg => rw [if_neg h3] at h; exact absurd h h3
  rw [if_pos h3] at h
  by_cases h4 : ZfV p = 0
  case neg => rw [if_neg h4] at h; exact absurd h h4
  rw [if_pos h4] at h
  by_cases h5 : ZkS p = 0
  case neg => rw [if_neg h5] at h; exact absurd h h5
  rw [if_pos h5] at h
  by_cases h6 : okB [] (bitsC (cellsN 0 p)) = true
  case neg => rw [if_neg h6] at h; cases h
  obtain ⟨hl, hl1, hl40⟩ := ZdF h3
  have hb1 : 1 ≤ bitsN p := by
    have := (ZoX hl.2).1
    unfold bitsN; omega
  have h5' := h5
  unfold ZkS at h5'
  have hk : ZdY p = false := by
    cases hk : ZdY p
    · rfl
    · rw [hk] at h5'; cases h5'
  rw [hk] at h5'
  simp only [ZdY, Bool.or_eq_false_iff, Bool.and_eq_false_iff] at hk
  refine { toPartsOK := PartsOK.of h3 h4, kind := Zcw.1 h2, bits := ⟨hb1, hl40⟩, k4 := ?_, k5 := ?_, k23 := ?_, k6 := ?_, uniq := h6 }
  · intro e; simp [e] at hk; exact hk
  · intro e; simp [e] at hk; exact hk
  · intro e
    have : bitsN p ≠ 1 := by
      intro eb
      rcases e with e | e <;> simp [e, eb] at hk
    omega
  · intro e
    simp only [e, Bool.false_eq_true, if_false, if_true] at h5'
    split at h5'
    · cases h5'
    · split at h5'
      · cases h5'
      · rename_i a b
        simp only [Bool.or_eq_true, decide_eq_true_eq, not_or] at b
        exact ⟨by omega, by omega, by omega⟩
end Go.Vx

namespace Go.Vx
open Go Go.RowKit
theorem ZqM (v : Int) : XJ .i64 v 15 = v % 16 := Zbr (n := 4) (by decide)
theorem Zry {b : Int} (h : 1 ≤ b) : (2 : Int) ^ b.toNat = 2 * (2 : Int) ^ (b - 1).toNat := by
  have : b.toNat = (b - 1).toNat + 1 := by omega
  rw [this, Int.pow_succ, Int.mul_comm]
def HH (p : api_Param) : Int := (2 : Int) ^ (bitsN p - 1).toNat
theorem Zij {p : api_Param} (h : ParOK p) : 1 ≤ HH p ∧ HH p ≤ 549755813888 ∧ (2 : Int) ^ (bitsN p).toNat = 2 * HH p := by
  have hb := h.bits
  have e : ((2 ^ (bitsN p - 1).toNat : Nat) : Int) = HH p := by unfold HH; push_cast; rfl
  have h1 : 1 ≤ 2 ^ (bitsN p - 1).toNat := Nat.one_le_two_pow
  have h2 : 2 ^ (bitsN p - 1).toNat ≤ 2 ^ 39 := Nat.pow_le_pow_right (by decide) (by omega)
  rw [show (2 : Nat) ^ 39 = 549755813888 by decide] at h2
  refine ⟨by omega, by omega, Zry hb.1⟩
def NN (p : api_Param) : Nat := ((bitsN p).tdiv 4).toNat
theorem Zoo {p : api_Param} (h : ParOK p) (h4 : p.Kind = 4) : bitsN p = 4 * (NN p : Int) ∧ 1 ≤ NN p ∧ NN p ≤ 10 := by
  have hb := h.bits
  have hk := h.k4 h4
  have e1 : (bitsN p).tmod 4 = bitsN p % 4 := Int.tmod_eq_emod_of_nonneg (by omega)
  have e2 : (bitsN p).tdiv 4 = bitsN p / 4 := Int.tdiv_eq_ediv_of_nonneg (by omega)
  rw [e1] at hk
  unfold NN
  rw [e2]
  omega
def lims (p : api_Param) : Int × Int := if p.Kind = 1 then (0, 2 * HH p - 1) else if p.Kind = 5 then (0, 1) else if p.Kind = 6 then (0, (p.Names.length : Int) - 1) else if p.Kind = 2 then (-HH p, HH p - 1) else if p.Kind = 3 then (1 - HH p, HH p - 1) else (0, 10 ^ NN p - 1)
def bcd : Nat → Nat → Nat
  | 0, _ => 0
  | n + 1, v => v % 10 + 16 * bcd n (v / 10)
def enc (p : api_Param) (v : Int) : Int := if p.Kind = 2 then (if v < 0 then 2 * HH p + v else v) else if p.Kind = 3 then (if v < 0 then HH p - v else v) else if p.Kind = 4 then (bcd (NN p) v.toNat : Int) else v
def dig (raw : Int) (m : Nat) : Int := XJ .i64 (raw.fdiv (2 ^ (4 * m))) 15
def Zfr (raw : Int) : Nat → Int → Bool → Int × Bool
  | 0, v, ok => (v, ok)
  | m + 1, v, ok => Zfr raw m (i64 (i64 (v * 10) + dig raw m)) (ok && decide (dig raw m < 10))
def clr (x : Int × Bool) : Int × Bool := if x.2 = true then (x.1, true) else (0, false)
def dec (p : api_Param) (raw : Int) : Int × Bool := if p.Kind = 1 then (raw, true) else if p.Kind = 5 then (raw, true) else if p.Kind = 6 then (if (p.Names.length : Int) ≤ raw then (0, false) else (raw, true)) else if p.Kind = 2 then (if HH p ≤ raw then (raw - 2 * HH p, true) else (raw, true))
  else if p.Kind = 3 then (if raw = HH p then (0, false) else if HH p < raw then (HH p - raw, true) else (raw, true)) else clr (Zfr raw (NN p) 0 true)
theorem Zf4 {n : Nat} (h : n ≤ 10) : (1 : Int) ≤ 10 ^ n ∧ (10 : Int) ^ n ≤ 10000000000 := by
  have e : ((10 ^ n : Nat) : Int) = (10 : Int) ^ n := by push_cast; rfl
  have h1 : 1 ≤ 10 ^ n := Nat.one_le_pow _ _ (by decide)
  have h2 : 10 ^ n ≤ 10 ^ 10 := Nat.pow_le_pow_right (by decide) h
  rw [show (10 : Nat) ^ 10 = 10000000000 by decide] at h2
  omega
theorem ZoC {n : Nat} (hn : n ≤ 10) {body : Int → Int → Option ((Int × Int) ⊕ Int)} (hb : ∀ a i, body a i = if decide (i < (n : Int)) = true then some (.inl (i64 (a * 10), i64 (i + 1))) else some (.inr a)) :
    loop (t2 body) (1, 0) = some ((10 : Int) ^ n) := by
  have := Za5 (body := t2 body) (fun s => ∃ k : Nat, s.2 = k ∧ k ≤ n ∧ s.1 = 10 ^ k) (fun s => n - s.2.toNat) (fun _ => (10 : Int) ^ n) (by
    rintro ⟨a, i⟩ ⟨k, hi, hk, ha⟩
    simp only at hi ha
    subst hi ha
    simp only [J3, hb]
    rcases Nat.lt_or_ge k n with h | h
    · left
      have h1 : ((k : Nat) : Int) < (n : Int) := by omega
      have hp := Zf4 (n := k) (by omega)
      simp only [h1, decide_true, if_true]
      rw [ZX (by omega) (by omega), ZX (by omega) (by omega)]
      exact ⟨_, rfl, ⟨k + 1, by push_cast; rfl, h, by simp only; rw [Int.pow_succ]⟩, by simp only; omega, trivial⟩
    · have : k = n := by omega
      subst this
      right
      simp) (1, 0) ⟨0, rfl, Nat.zero_le _, rfl⟩
  exact this
theorem Zkx : ∀ n, bcd n 0 = 0
  | 0 => rfl
  | n + 1 => by simp [bcd, Zkx n]
theorem Zlj : ∀ n v, bcd n v < 16 ^ n
  | 0, _ => by simp [bcd]
  | n + 1, v => by
    have := Zlj n (v / 10)
    have h2 := Nat.mod_lt v (show 0 < 10 by decide)
    rw [bcd, Nat.pow_succ]; omega
theorem p16 (k : Nat) : (16 : Nat) ^ k = 2 ^ (4 * k) := by rw [Nat.pow_mul]
theorem Zkz {v k : Nat} (hk : k ≤ 10) : rem (v : Int) 10 = some ((v % 10 : Nat) : Int) ∧ shl .i64 ((v % 10 : Nat) : Int) ((4 * k : Nat) : Int) = some ((2 ^ (4 * k) * (v % 10) : Nat) : Int) ∧ (v < 2 ^ 62 → quo .i64 (v : Int) 10 = some ((v / 10 : Nat) : Int)) := by
  refine ⟨?_, ?_, ?_⟩
  · simp only [rem]
    rw [if_neg (by decide)]
    rw [Int.tmod_eq_emod_of_nonneg (by omega)]; rfl
  · have h1 : v % 10 < 10 := Nat.mod_lt _ (by decide)
    have h2 : 2 ^ (4 * k) ≤ 2 ^ 40 := Nat.pow_le_pow_right (by decide) (by omega)
    have h3 : 2 ^ (4 * k) * (v % 10) ≤ 2 ^ 40 * 10 := Nat.mul_le_mul h2 (by omega)
    have h4 : (2 : Nat) ^ 40 * 10 = 10995116277760 := by decide
    have hm : min (((4 * k : Nat) : Int)).toNat IntKind.i64.bits = 4 * k := by
      have : IntKind.i64.bits = 64 := rfl
      rw [Int.toNat_natCast]; omega
    unfold shl
    rw [if_neg (by omega), hm]
    have e : (((v % 10 : Nat) : Int) * 2 ^ (4 * k)) = ((2 ^ (4 * k) * (v % 10) : Nat) : Int) := by push_cast; rw [Int.mul_comm]
    rw [e]
    congr 1
    exact ZX (by omega) (by omega)
  · intro hv
    have h62 : (2 : Nat) ^ 62 = 4611686018427387904 := by decide
    simp only [quo]
    rw [if_neg (by decide), Int.tdiv_eq_ediv_of_nonneg (by omega)]
    congr 1
    exact ZX (by omega) (by omega)
theorem Zrk {raw k n v : Nat} (hr : raw < 2 ^ (4 * k)) (hkn : k + n ≤ 10) : raw + 2 ^ (4 * k) * bcd n v < 2 ^ 62 := by
  have h1 := Zlj n v
  rw [p16] at h1
  have h2 : 2 ^ (4 * k) * bcd n v ≤ 2 ^ (4 * k) * (2 ^ (4 * n) - 1) := Nat.mul_le_mul_left _ (by omega)
  have h3 : 2 ^ (4 * k) * (2 ^ (4 * n) - 1) = 2 ^ (4 * k + 4 * n) - 2 ^ (4 * k) := by rw [Nat.mul_sub, Nat.mul_one, Nat.pow_add]
  have h4 : 2 ^ (4 * k + 4 * n) ≤ 2 ^ 40 := Nat.pow_le_pow_right (by decide) (by omega)
  have h5 : (2 : Nat) ^ 40 < 2 ^ 62 := by decide
  have h6 : 2 ^ (4 * k) ≤ 2 ^ (4 * k + 4 * n) := Nat.pow_le_pow_right (by decide) (by omega)
  omega
theorem t10 : (10 : Nat) ^ 10 = 10000000000 := by decide
theorem t62 : (2 : Nat) ^ 62 = 4611686018427387904 := by decide
theorem Zq1 {k v : Nat} (hv : v < 10000000000) (hk : k ≤ 10) : quo .i64 (v : Int) 10 = some ((v / 10 : Nat) : Int) := by
  obtain ⟨e1, e2, e3⟩ := Zkz (v := v) (k := k) hk
  exact e3 (by rw [t62]; omega)
theorem Zql {k v raw : Nat} (hr : raw < 2 ^ (4 * k)) (hk : k + 1 ≤ 10) : raw + 2 ^ (4 * k) * (v % 10) < 2 ^ 62 := by
  have hb := Zrk (v := v) (n := 1) hr hk
  simp only [bcd, Nat.mul_zero, Nat.add_zero] at hb
  exact hb
theorem ZmH {n k v raw : Nat} (h0 : v ≠ 0) (hv : v < 10000000000) (hr : raw < 2 ^ (4 * k)) (hkn : k + (n + 1) ≤ 10) : Z3 (v : Int) (raw : Int) ((4 * k : Nat) : Int) = some (.inl (((v / 10 : Nat) : Int), ((raw + 2 ^ (4 * k) * (v % 10) : Nat) : Int), ((4 * (k + 1) : Nat) : Int))) := by
  have hpos : decide ((0 : Int) < (v : Int)) = true := by rw [decide_eq_true_eq]; omega
  obtain ⟨e1, e2, _⟩ := Zkz (v := v) (k := k) (by omega)
  have e3 := Zq1 (k := k) hv (by omega)
  have hb := Zql (v := v) hr (by omega)
  have hb2 := Zot hr hb
  have e4 : i64 (((4 * k : Nat) : Int) + 4) = ((4 * (k + 1) : Nat) : Int) := by rw [ZX (by omega) (by omega)]; push_cast; omega
  unfold Z3
  rw [if_pos hpos, e1, Option.bind_some, e2, Option.bind_some, e3, Option.bind_some, hb2, e4]
theorem ZoF {k v raw : Nat} (hr : raw < 2 ^ (4 * k)) : raw + 2 ^ (4 * k) * (v % 10) < 2 ^ (4 * (k + 1)) := by
  have h1 : v % 10 < 10 := Nat.mod_lt _ (by decide)
  have h2 : 2 ^ (4 * (k + 1)) = 2 ^ (4 * k) * 16 := by rw [show 4 * (k + 1) = 4 * k + 4 by omega, Nat.pow_add]
  have h3 : 2 ^ (4 * k) * (v % 10) ≤ 2 ^ (4 * k) * 9 := Nat.mul_le_mul_left _ (by omega)
  omega
theorem Zo4 (n k v raw : Nat) : raw + 2 ^ (4 * k) * (v % 10) + 2 ^ (4 * (k + 1)) * bcd n (v / 10) = raw + 2 ^ (4 * k) * bcd (n + 1) v := by
  have h2 : 2 ^ (4 * (k + 1)) = 2 ^ (4 * k) * 16 := by rw [show 4 * (k + 1) = 4 * k + 4 by omega, Nat.pow_add]
  rw [h2, bcd, Nat.mul_add, ← Nat.mul_assoc, Nat.add_assoc]
theorem Zkr (n : Nat) : 10 ^ (n + 1) = 10 ^ n * 10 := Nat.pow_succ ..
theorem Zm2 : ∀ (n k v raw : Nat), v < 10 ^ n → raw < 2 ^ (4 * k) → k + n ≤ 10 → loop (t3 Z3) ((v : Int), (raw : Int), ((4 * k : Nat) : Int)) = some ((raw + 2 ^ (4 * k) * bcd n v : Nat) : Int) := by
  intro n
  induction n with
  | zero =>
    intro k v raw hv hr hkn
    have : v = 0 := by simpa using hv
    subst this
    rw [ZN]
    simp [Z3, bcd]
  | succ n ih =>
    intro k v raw hv hr hkn
    by_cases h0 : v = 0
    · subst h0
      rw [ZN]
      simp [Z3, Zkx]
    · have h10 : v < 10000000000 := Nat.lt_of_lt_of_le hv (Nat.le_trans (Nat.pow_le_pow_right (by decide) (by omega : n + 1 ≤ 10)) (Nat.le_of_eq t10))
      have hv2 : v / 10 < 10 ^ n := by
        rw [Zkr] at hv
        exact Nat.div_lt_of_lt_mul (by rw [Nat.mul_comm]; exact hv)
      rw [ZN, Zgz, ZmH (n := n) h0 h10 hr hkn]
      have := ih (k + 1) (v / 10) _ hv2 (ZoF (v := v) hr) (by omega)
      rw [Zo4] at this
      exact this
end Go.Vx

namespace Go.Vx
open Go Go.RowKit
theorem ZrR {raw : Int} {m : Nat} (hm : m ≤ 15) : shr .i64 raw ((4 * m : Nat) : Int) = some (raw.fdiv (2 ^ (4 * m))) := by
  have e : min (((4 * m : Nat) : Int)).toNat IntKind.i64.bits = 4 * m := by
    have : IntKind.i64.bits = 64 := rfl
    rw [Int.toNat_natCast]; omega
  unfold shr
  rw [if_neg (by omega), e]
theorem ZmT (raw : Int) : ∀ (m : Nat) (v : Int) (ok : Bool), m ≤ 16 → loop (t3 (X9 raw)) (v, ok, ((4 * m : Nat) : Int) - 4) = some (Zfr raw m v ok) := by
  intro m
  induction m with
  | zero =>
    intro v ok _
    rw [ZN]
    simp [X9, Zfr]
  | succ m ih =>
    intro v ok hm
    have h1 : ((4 * (m + 1) : Nat) : Int) - 4 = ((4 * m : Nat) : Int) := by push_cast; omega
    have h2 : decide ((0 : Int) ≤ ((4 * m : Nat) : Int)) = true := by rw [decide_eq_true_eq]; omega
    have h3 : i64 (((4 * m : Nat) : Int) - 4) = ((4 * m : Nat) : Int) - 4 := ZX (by omega) (by omega)
    rw [h1, ZN, Zgz]
    unfold X9
    rw [if_pos h2, ZrR (by omega), Option.bind_some, h3]
    exact ih _ _ (by omega)
theorem Zrr (raw : Int) : Zaq raw = some (Zfr raw 16 0 true) := by
  unfold Zaq
  have := ZmT raw 16 0 true (by omega)
  have e : ((4 * 16 : Nat) : Int) - 4 = 60 := by decide
  rw [e] at this
  rw [this]; generalize Zfr raw 16 0 true = x; rfl
theorem ZiH (raw : Int) : ∀ m v, (Zfr raw m v false).2 = false
  | 0, _ => rfl
  | m + 1, v => by simp only [Zfr, Bool.false_and]; exact ZiH raw m _
theorem Zp1 (raw : Int) (m : Nat) : dig raw m = raw.fdiv (2 ^ (4 * m)) % 16 := by unfold dig; rw [ZqM]
theorem ZqT {raw : Int} {n m : Nat} (h0 : 0 ≤ raw) (h1 : raw < 2 ^ (4 * n)) (hm : n ≤ m) : dig raw m = 0 := by
  rw [Zp1]
  have hle : (2 : Nat) ^ (4 * n) ≤ 2 ^ (4 * m) := Nat.pow_le_pow_right (by decide) (by omega)
  have e1 : ((2 ^ (4 * n) : Nat) : Int) = (2 : Int) ^ (4 * n) := by push_cast; rfl
  have e2 : ((2 ^ (4 * m) : Nat) : Int) = (2 : Int) ^ (4 * m) := by push_cast; rfl
  have hlt : raw < (2 : Int) ^ (4 * m) := by omega
  rw [Int.fdiv_eq_ediv_of_nonneg _ (by omega), Int.ediv_eq_zero_of_lt h0 hlt]
  rfl
theorem ZlS {raw : Int} {n : Nat} (h0 : 0 ≤ raw) (h1 : raw < 2 ^ (4 * n)) : ∀ d, Zfr raw (n + d) 0 true = Zfr raw n 0 true
  | 0 => rfl
  | d + 1 => by
    have e : n + (d + 1) = (n + d) + 1 := by omega
    rw [e, Zfr, ZqT h0 h1 (by omega)]
    have : i64 (i64 (0 * 10) + 0) = 0 := by decide
    rw [this]
    simpa using ZlS h0 h1 d
theorem Zsa {b : Int} (h : 1 ≤ b ∧ b ≤ 40) : quo .i64 b 4 = some (b.tdiv 4) := by
  simp only [quo]
  rw [if_neg (by decide)]
  congr 1
  rw [Int.tdiv_eq_ediv_of_nonneg (by omega)]
  exact ZX (by omega) (by omega)
structure NumOK (p : api_Param) (n : layout_number) : Prop where
  low : n.low = (lims p).1
  high : n.high = (lims p).2
  encode : ∀ v, (lims p).1 ≤ v → v ≤ (lims p).2 → n.encode.fn v = some (enc p v)
  decode : ∀ raw, 0 ≤ raw → raw < 2 * HH p → ∃ y, n.decode.fn raw = some y ∧ clr y = dec p raw
theorem Zmn {p : api_Param} (h : ParOK p) (h4 : p.Kind = 4) {v : Int} (h0 : 0 ≤ v) (h1 : v ≤ 10 ^ NN p - 1) : v = (v.toNat : Int) ∧ v.toNat < 10 ^ NN p ∧ v.toNat < 2 ^ 62 := by
  obtain ⟨_, _, hN⟩ := Zoo h h4
  have e : ((10 ^ NN p : Nat) : Int) = (10 : Int) ^ NN p := by push_cast; rfl
  have hp := Zf4 hN
  rw [t62]
  omega
theorem HH4 {p : api_Param} (h : ParOK p) (h4 : p.Kind = 4) : 2 * HH p = 2 ^ (4 * NN p) := by
  obtain ⟨e, _, _⟩ := Zoo h h4
  rw [← (Zij h).2.2, e]
  congr 1
theorem ZfZ {p : api_Param} (h : ParOK p) : ∃ n, Qo p = some n ∧ NumOK p n := by
  obtain ⟨hH1, hH2, hH3⟩ := Zij h
  have hb := h.bits
  have hk := h.kind
  unfold Qo
  rw [ZgU h.len, Option.bind_some, ZX (by omega) (by omega), Zo7 (by omega) (by omega), Option.bind_some]
  have eH : (2 : Int) ^ (bitsN p - 1).toNat = HH p := rfl
  rw [eH]
  by_cases k1 : p.Kind = 1
  · have e2 : i64 (i64 (2 * HH p) - 1) = 2 * HH p - 1 := by rw [ZX (z := 2 * HH p) (by omega) (by omega), ZX (by omega) (by omega)]
    rw [if_pos (by simpa using k1)]
    refine ⟨_, rfl, ?_, ?_, ?_, ?_⟩
    · simp [lims, k1]
    · simp only [lims, k1, if_true]; exact e2
    · intro v _ _; simp [enc, k1, Xm]
    · intro raw r0 r1
      refine ⟨_, rfl, ?_⟩
      rw [e2]
      have : raw ≤ 2 * HH p - 1 := by omega
      simp [clr, dec, k1, this]
  rw [if_neg (by simpa using k1)]
  by_cases k5 : p.Kind = 5
  · have hb1 := h.k5 k5
    have hHv : HH p = 1 := by unfold HH; rw [hb1]; rfl
    rw [if_pos (by simpa using k5)]
    refine ⟨_, rfl, ?_, ?_, ?_, ?_⟩
    · simp [lims, k5]
    · simp [lims, k5]
    · intro v _ _; simp [enc, k5, Xm]
    · intro raw r0 r1
      refine ⟨_, rfl, ?_⟩
      have : raw ≤ 1 := by omega
      simp [clr, dec, k5, this]
  rw [if_neg (by simpa using k5)]
  by_cases k6 : p.Kind = 6
  · obtain ⟨n1, n2, n3⟩ := h.k6 k6
    have e2 : i64 ((p.Names.length : Int) - 1) = (p.Names.length : Int) - 1 := ZX (by omega) (by omega)
    rw [if_pos (by simpa using k6)]
    refine ⟨_, rfl, ?_, ?_, ?_, ?_⟩
    · simp [lims, k6]
    · simp only [lims, k6]; exact e2
    · intro v _ _; simp [enc, k6, Xm]
    · intro raw r0 r1
      refine ⟨_, rfl, ?_⟩
      rw [e2]
      by_cases hr : (p.Names.length : Int) ≤ raw
      · have : ¬ raw ≤ (p.Names.length : Int) - 1 := by omega
        simp [clr, dec, k6, this, hr]
      · have : raw ≤ (p.Names.length : Int) - 1 := by omega
        simp [clr, dec, k6, this, hr]
  rw [if_neg (by simpa using k6)]
  by_cases k2 : p.Kind = 2
  · rw [if_pos (by simpa using k2)]
    refine ⟨_, rfl, ?_, ?_, ?_, ?_⟩
    · simp only [lims, k2]; exact ZX (by omega) (by omega)
    · simp only [lims, k2]; exact ZX (by omega) (by omega)
    · intro v v0 v1
      have l1 : (lims p).1 = -HH p := by simp [lims, k2]
      have l2 : (lims p).2 = HH p - 1 := by simp [lims, k2]
      rw [l1] at v0; rw [l2] at v1
      show some (XJ .i64 v (i64 (i64 (2 * HH p) - 1))) = _
      rw [ZX (z := 2 * HH p) (by omega) (by omega), ZX (z := 2 * HH p - 1) (by omega) (by omega), ← hH3, Zbr (by omega), hH3]
      congr 1
      by_cases hv : v < 0
      · have : v % (2 * HH p) = 2 * HH p + v := by
          rw [← Int.add_emod_left, Int.emod_eq_of_lt (by omega) (by omega)]
        simp [enc, k2, hv, this]
      · rw [Int.emod_eq_of_lt (by omega) (by omega)]
        simp [enc, k2, hv]
    · intro raw r0 r1
      show ∃ y, Xx raw (HH p) = some y ∧ _
      unfold Xx
      by_cases hr : HH p ≤ raw
      · rw [if_pos (by simpa using hr)]
        refine ⟨_, rfl, ?_⟩
        rw [ZX (z := 2 * HH p) (by omega) (by omega), ZX (by omega) (by omega)]
        simp [clr, dec, k2, hr]
      · rw [if_neg (by simpa using hr)]
        exact ⟨_, rfl, by simp [clr, dec, k2, hr]⟩
  rw [if_neg (by simpa using k2)]
  by_cases k3 : p.Kind = 3
  · rw [if_pos (by simpa using k3)]
    refine ⟨_, rfl, ?_, ?_, ?_, ?_⟩
    · simp only [lims, k3]; exact ZX (by omega) (by omega)
    · simp only [lims, k3]; exact ZX (by omega) (by omega)
    · intro v v0 v1
      have l1 : (lims p).1 = 1 - HH p := by simp [lims, k3]
      have l2 : (lims p).2 = HH p - 1 := by simp [lims, k3]
      rw [l1] at v0; rw [l2] at v1
      show Xz v (HH p) = _
      unfold Xz
      by_cases hv : v < 0
      · rw [if_pos (by simpa using hv), ZX (by omega) (by omega)]; simp [enc, k3, hv]
      · rw [if_neg (by simpa using hv)]; simp [enc, k3, hv]
    · intro raw r0 r1
      show ∃ y, XA raw (HH p) = some y ∧ _
      unfold XA
      by_cases hr : HH p ≤ raw
      · rw [if_pos (by simpa using hr)]
        refine ⟨_, rfl, ?_⟩
        rw [ZX (by omega) (by omega)]
        by_cases he : raw = HH p
        · simp [clr, dec, k3, he]
        · have : HH p < raw := by omega
          simp [clr, dec, k3, he, this]
      · have h1 : ¬ raw = HH p := by omega
        have h2 : ¬ HH p < raw := by omega
        rw [if_neg (by simpa using hr)]
        exact ⟨_, rfl, by simp [clr, dec, k3, h1, h2]⟩
  rw [if_neg (by simpa using k3)]
  have k4 : p.Kind = 4 := by omega
  rw [if_pos (by simpa using k4)]
  obtain ⟨hN1, hN2, hN3⟩ := Zoo h k4
  have hNt : (bitsN p).tdiv 4 = (NN p : Int) := by
    rw [Int.tdiv_eq_ediv_of_nonneg (by omega)]; omega
  have hp10 := Zf4 hN3
  unfold QO
  rw [Zsa hb, hNt]
  have hL := ZoC hN3 (body := Zao (NN p : Int)) (fun a i => rfl)
  simp only [Option.bind_some]
  rw [hL]
  refine ⟨_, rfl, ?_, ?_, ?_, ?_⟩
  · simp [lims, k4]
  · simp only [lims, k4]; exact ZX (by omega) (by omega)
  · intro v v0 v1
    have l1 : (lims p).1 = 0 := by simp [lims, k4]
    have l2 : (lims p).2 = 10 ^ NN p - 1 := by simp [lims, k4]
    rw [l1] at v0; rw [l2] at v1
    show Xy v = _
    obtain ⟨ev, hv, _⟩ := Zmn h k4 v0 v1
    have := Zm2 (NN p) 0 v.toNat 0 hv (by simp) (by omega)
    unfold Xy
    rw [← ev] at this
    have this' : loop (t3 Z3) (v, 0, 0) = _ := this
    rw [this']
    simp [enc, k4, t1]
  · intro raw r0 r1
    refine ⟨_, Zrr raw, ?_⟩
    have hlt : raw < 2 ^ (4 * NN p) := by rw [← HH4 h k4]; exact r1
    have := ZlS r0 hlt (16 - NN p)
    rw [show NN p + (16 - NN p) = 16 by omega] at this
    rw [this]
    simp [dec, k4]
end Go.Vx

namespace Go.Vx
open Go Go.RowKit
theorem Zkw {x : Int} (h : x ≠ 0) : (!decide (x = 0)) = true := by simp [h]
theorem ZmG {p : api_Param} (h : ParOK p) {raw : Int} (r0 : 0 ≤ raw) (r1 : raw < 2 * HH p) : Zaz p raw = some (dec p raw) := by
  obtain ⟨n, h1, h2⟩ := ZfZ h
  obtain ⟨y, h3, h4⟩ := h2.decode raw r0 r1
  unfold Zaz
  rw [h1, Option.bind_some, h3, Option.bind_some, ← h4]
  obtain ⟨y1, y2⟩ := y
  cases y2 <;> rfl
end Go.Vx

namespace Go.Vx
open Go Go.RowKit
def allC : Nat → List api_Param → List api_Cell
  | _, [] => []
  | k, x :: tl => cellsN (k : Int) x ++ allC (k + 1) tl
theorem ZmP {l : List api_Param} {f : api_Param → Option Bool} {g : api_Param → Bool} (hf : ∀ x, f x = some (g x)) (hl : l.length ≤ 1000) : ZM l f = some (l.any g) := by
  have key : loop (t1 (Zv l f)) 0 = some (Jk Sum.inl (Sum.inr ()) (ZY (fun k (x : api_Param) => if g x = true then some (k : Int) else none) 0 l)) := by
    refine JK (xs := l) _ _ _ (fun k x hx => ?_) (by simp [Zv])
    have hlt := Xh hx
    have hk : i64 ((k : Int) + 1) = (k : Int) + 1 := ZX (by omega) (by omega)
    simp only [Zv, hlt, decide_true, if_true, ZE hx, Option.bind_some, hk, hf]
    by_cases hg : g x = true <;> simp [hg]
  have fnd : ∀ (k : Nat) (l : List api_Param), (l.any g = false ∧ ZY (fun k (x : api_Param) => if g x = true then some (k : Int) else none) k l = none) ∨ (l.any g = true ∧ ∃ j : Nat, ZY (fun k (x : api_Param) => if g x = true then some (k : Int) else none) k l = some (j : Int)) := by
    intro k l
    induction l generalizing k with
    | nil => left; exact ⟨rfl, rfl⟩
    | cons x l ih =>
      by_cases hx : g x = true
      · right; exact ⟨by simp [hx], k, by simp [ZY, hx]⟩
      · have hx' : g x = false := by simpa using hx
        rcases ih (k + 1) with ⟨h1, h2⟩ | ⟨h1, j, h2⟩
        · left; exact ⟨by rw [List.any_cons, hx', Bool.false_or]; exact h1, by simp only [ZY, hx', Bool.false_eq_true, if_false]; exact h2⟩
        · right; exact ⟨by rw [List.any_cons, hx', Bool.false_or]; exact h1, j, by simp only [ZY, hx', Bool.false_eq_true, if_false]; exact h2⟩
  unfold ZM ZB
  rw [key]
  rcases fnd 0 l with ⟨h1, h2⟩ | ⟨h1, j, h2⟩
  · rw [h2, h1]; rfl
  · rw [h2, h1]; simp [Jk]
def g1M (l : List api_Param) (k : Nat) (x : api_Param) : Option (Int × Int) := if Ze6 x = 0 then (if ((l.take k).any fun q => decide (q.Name = x.Name)) = true then some ((k : Int), 5) else none) else some ((k : Int), Ze6 x)
theorem ZrM {m : api_Map} (hl : m.Params.length ≤ 200) : loop (t1 (JS m)) 0 = some (Jk Sum.inl (Sum.inr ()) (ZY (g1M m.Params) 0 m.Params)) := by
  refine JK (xs := m.Params) _ _ _ (fun k x hx => ?_) (by simp [JS])
  have hlt := Xh hx
  have hk : i64 ((k : Int) + 1) = (k : Int) + 1 := ZX (by omega) (by omega)
  simp only [JS, hlt, decide_true, if_true, ZE hx, Option.bind_some, hk, Zgf, g1M]
  by_cases h : Ze6 x = 0
  · rw [if_neg (by simp [h]), if_pos h, Zpo (by omega), Option.bind_some, ZmP (l := m.Params.take k) (f := fun z0 => Zbv z0 x) (g := fun q => decide (q.Name = x.Name)) (fun q => rfl) (by rw [List.length_take]; omega), Option.bind_some]
    by_cases ha : ((m.Params.take k).any fun q => decide (q.Name = x.Name)) = true
    · rw [if_pos ha, if_pos ha]; rfl
    · rw [if_neg ha, if_neg ha]; rfl
  · rw [if_pos (Zkw h), if_neg h]; rfl
theorem Zqi {m : api_Map} (hl : m.Params.length ≤ 200) (hs : ZcU m) : loop (t1 (Za2 m)) 0 = some (Jk Sum.inl (Sum.inr ()) (ZY (g1M m.Params) 0 m.Params)) := by
  refine JK (xs := m.Params) _ _ _ (fun k x hx => ?_) (by simp [Za2])
  have hlt := Xh hx
  have hk : i64 ((k : Int) + 1) = (k : Int) + 1 := ZX (by omega) (by omega)
  have hw : ZbF x := hs.2.1.2 x (List.mem_of_getElem? hx)
  simp only [Za2, hlt, decide_true, if_true, ZE hx, Option.bind_some, hk, ZiW x hw, g1M]
  by_cases h : Ze6 x = 0
  · rw [if_neg (by simp [h]), if_pos h, Zpo (by omega), Option.bind_some]
    have hL := Zfd (xs := m.Params.take k) (fun y : api_Param => if y.Name = x.Name then some () else none) (fun _ => (Sum.inl ((k : Int), 5) : (Int × Int) ⊕ Unit)) (Sum.inr ()) (body := Za1 (k : Int) x (m.Params.take k)) (fun j y hy => by
      have hj := Xh hy
      have hj2 : j < 200 := by have := (List.getElem?_eq_some_iff.1 hy).1; rw [List.length_take] at this; omega
      simp only [Za1, hj, decide_true, if_true, ZE hy, Option.bind_some]
      rw [ZX (by omega) (by omega)]
      by_cases hxy : y.Name = x.Name <;> simp [hxy]) (by simp [Za1])
    rw [hL]
    have fnd : ∀ l : List api_Param, ZbS (fun y : api_Param => if y.Name = x.Name then some () else none) l = if (l.any fun q => decide (q.Name = x.Name)) = true then some () else none := by
      intro l
      induction l with
      | nil => rfl
      | cons y l ih => 
        by_cases hy : y.Name = x.Name
        · simp [ZbS, hy]
        · simp [ZbS, hy, ih]
    rw [fnd]
    by_cases ha : ((m.Params.take k).any fun q => decide (q.Name = x.Name)) = true
    · rw [if_pos ha, if_pos ha]; rfl
    · rw [if_neg ha, if_neg ha]; rfl
  · rw [if_pos (Zkw h), if_neg h]; rfl
theorem ZoL {l : List api_Param} (h : ZY (g1M l) 0 l = none) : ∀ x ∈ l, ParOK x := by
  intro x hx
  obtain ⟨k, hk⟩ := List.getElem?_of_mem hx
  have := Zh9 0 l h k x hk
  unfold g1M at this
  by_cases hc : Ze6 x = 0
  · exact Zg6 hc
  · rw [if_neg hc] at this; cases this
theorem Zob {number : Int} {p : api_Param} {out : List api_Cell} {f : Int} : (Zcd number p out f).length = out.length + p.Times.toNat := by simp [Zcd]
theorem Zi8 {number : Int} {p : api_Param} : ∀ (fs : List Int) (out : List api_Cell), (fs.foldl (Zcd number p) out).length = out.length + fs.length * p.Times.toNat
  | [], out => by simp
  | f :: fs, out => by
    rw [List.foldl_cons, Zi8 fs, Zob, List.length_cons, Nat.add_mul]; omega
theorem ZkD (number : Int) (p : api_Param) : (cellsN number p).length = (Jm p).length * p.Times.toNat := by
  unfold cellsN
  rw [Zi8]; simp
theorem ZnH {m : api_Map} (hl : m.Params.length ≤ 200) (hP : ∀ x ∈ m.Params, ParOK x) : ∃ j, loop (t2 (X2 m)) (0, 0) = some (cond (decide ((allC 0 m.Params).length ≤ 4000)) (.inr ()) (.inl (j, 3))) := by
  have key : ∀ (n k : Nat) (c : Nat), k + n = m.Params.length → c ≤ 4000 → ∃ j, loop (t2 (X2 m)) ((c : Int), (k : Int)) = some (cond (decide (c + (allC k (m.Params.drop k)).length ≤ 4000)) (.inr ()) (.inl (j, 3))) := by
    intro n
    induction n with
    | zero =>
      intro k c hk hc
      have : k = m.Params.length := by omega
      subst this
      refine ⟨0, ?_⟩
      rw [ZN]
      simp [X2, allC, hc]
    | succ n ih =>
      intro k c hk hc
      obtain ⟨x, hx⟩ := ZU (xs := m.Params) (k := k) (by omega)
      have hlt := Xh hx
      have hp := hP x (List.mem_of_getElem? hx)
      have hlen := Zav (number := (k : Int)) hp.toPartsOK
      have hE := ZkD (k : Int) x
      obtain ⟨_, _, hT, _⟩ := Xw hp.tim
      have hT' : (x.Times.toNat : Int) = x.Times := by omega
      have e1 : ((Jm x).length : Int) * x.Times = ((cellsN (k : Int) x).length : Int) := by rw [hE]; push_cast; rw [hT']
      rw [ZO hx, ZN]
      simp only [J3, X2, hlt, decide_true, if_true, ZE hx, Option.bind_some, Zj6 hp.toPartsOK, e1, allC, List.length_append]
      rw [ZX (z := ((cellsN (k : Int) x).length : Int)) (by omega) (by omega), ZX (z := (c : Int) + ((cellsN (k : Int) x).length : Int)) (by omega) (by omega), ZX (z := (k : Int) + 1) (by omega) (by omega)]
      by_cases h4 : (4000 : Int) < (c : Int) + ((cellsN (k : Int) x).length : Int)
      · refine ⟨(k : Int), ?_⟩
        have : decide (c + ((cellsN (k : Int) x).length + (allC (k + 1) (m.Params.drop (k + 1))).length) ≤ 4000) = false := by rw [decide_eq_false_iff_not]; omega
        rw [this, if_pos (by simpa using h4)]; rfl
      · obtain ⟨j, hj⟩ := ih (k + 1) (c + (cellsN (k : Int) x).length) (by omega) (by omega)
        refine ⟨j, ?_⟩
        rw [if_neg (by simpa using h4)]
        rw [Nat.add_assoc] at hj
        rw [← hj]
        rfl
  have := key m.Params.length 0 0 (by omega) (by omega)
  simpa using this
theorem ZmX {m : api_Map} (hl : m.Params.length ≤ 200) (hP : ∀ x ∈ m.Params, ParOK x) : ∃ j, loop (t2 (Zaf m)) (0, 0) = some (cond (decide ((allC 0 m.Params).length ≤ 4000)) (.inr ()) (.inl (j, 3))) := by
  have key : ∀ (n k : Nat) (c : Nat), k + n = m.Params.length → c ≤ 4000 → ∃ j, loop (t2 (Zaf m)) ((c : Int), (k : Int)) = some (cond (decide (c + (allC k (m.Params.drop k)).length ≤ 4000)) (.inr ()) (.inl (j, 3))) := by
    intro n
    induction n with
    | zero =>
      intro k c hk hc
      have : k = m.Params.length := by omega
      subst this
      refine ⟨0, ?_⟩
      rw [ZN]
      simp [Zaf, allC, hc]
    | succ n ih =>
      intro k c hk hc
      obtain ⟨x, hx⟩ := ZU (xs := m.Params) (k := k) (by omega)
      have hlt := Xh hx
      have hp := hP x (List.mem_of_getElem? hx)
      have hlen := Zav (number := (k : Int)) hp.toPartsOK
      rw [ZO hx, ZN]
      simp only [J3, Zaf, hlt, decide_true, if_true, ZE hx, Option.bind_some, Zgm hp.toPartsOK, allC, List.length_append]
      rw [ZX (z := (c : Int) + ((cellsN (k : Int) x).length : Int)) (by omega) (by omega), ZX (z := (k : Int) + 1) (by omega) (by omega)]
      by_cases h4 : (4000 : Int) < (c : Int) + ((cellsN (k : Int) x).length : Int)
      · refine ⟨(k : Int), ?_⟩
        have : decide (c + ((cellsN (k : Int) x).length + (allC (k + 1) (m.Params.drop (k + 1))).length) ≤ 4000) = false := by rw [decide_eq_false_iff_not]; omega
        rw [this, if_pos (by simpa using h4)]; rfl
      · obtain ⟨j, hj⟩ := ih (k + 1) (c + (cellsN (k : Int) x).length) (by omega) (by omega)
        refine ⟨j, ?_⟩
        rw [if_neg (by simpa using h4)]
        rw [Nat.add_assoc] at hj
        rw [← hj]
        rfl
  have := key m.Params.length 0 0 (by omega) (by omega)
  simpa using this
theorem Zsl (i3 : Int) {l : List api_Cell} (hl : ZhM l) (o : List (layout_bit × Int)) : ∃ q, loop (t2 (X1 i3 l)) (o, 0) = some (cond (okB (mkeys o) (bitsC l)) (.inr q) (.inl (i3, 5))) ∧ (okB (mkeys o) (bitsC l) = true → mkeys q = mkeys o ++ bitsC l) := by
  have hl0 := hl.1
  have key : ∀ (n k : Nat) (o : List (layout_bit × Int)), k + n = l.length → ∃ q, loop (t2 (X1 i3 l)) (o, (k : Int)) = some (cond (okB (mkeys o) (bitsC (l.drop k))) (.inr q) (.inl (i3, 5))) ∧ (okB (mkeys o) (bitsC (l.drop k)) = true → mkeys q = mkeys o ++ bitsC (l.drop k)) := by
    intro n
    induction n with
    | zero =>
      intro k o hk
      have : k = l.length := by omega
      subst this
      refine ⟨o, ?_, by simp [bitsC]⟩
      rw [ZN]
      simp [X1, okB, bitsC]
    | succ n ih =>
      intro k o hk
      obtain ⟨c, hc⟩ := ZU (xs := l) (k := k) (by omega)
      have hlt := Xh hc
      obtain ⟨hp1, hp2⟩ := hl.2 c (List.mem_of_getElem? hc)
      obtain ⟨q, h1, h2⟩ := Zoe i3 hp1 hp2 o
      have e : bitsC (l.drop k) = Q6 c.Places ++ bitsC (l.drop (k + 1)) := by rw [ZO hc]; simp [bitsC]
      have e2 : ((k : Nat) : Int) + 1 = ((k + 1 : Nat) : Int) := by push_cast; rfl
      rw [e, Zcu, ZN]
      simp only [J3, X1, hlt, decide_true, if_true, ZE hc, Option.bind_some, h1]
      rw [ZX (by omega) (by omega), e2]
      cases hok : okB (mkeys o) (Q6 c.Places) with
      | false => exact ⟨[], rfl, fun h => by cases h⟩
      | true =>
        have h3 := h2 hok
        obtain ⟨q', g1, g2⟩ := ih (k + 1) q (by omega)
        have e3 : mkeys q = mkeys o ++ Q6 c.Places := by rw [h3]; simp [mkeys, Function.comp_def]
        rw [e3] at g1 g2
        refine ⟨q', g1, fun h => ?_⟩
        rw [g2 (by simpa using h)]; simp
  exact key l.length 0 o (by omega)
theorem Zph {m : api_Map} (hl : m.Params.length ≤ 200) (hP : ∀ x ∈ m.Params, ParOK x) : ∃ j, loop (t2 (X5 m)) (([] : List (layout_bit × Int)), 0) = some (cond (okB [] (bitsC (allC 0 m.Params))) (.inr ()) (.inl (j, 5))) := by
  have key : ∀ (n k : Nat) (o : List (layout_bit × Int)), k + n = m.Params.length → ∃ j, loop (t2 (X5 m)) (o, (k : Int)) = some (cond (okB (mkeys o) (bitsC (allC k (m.Params.drop k)))) (.inr ()) (.inl (j, 5))) := by
    intro n
    induction n with
    | zero =>
      intro k o hk
      have : k = m.Params.length := by omega
      subst this
      refine ⟨0, ?_⟩
      rw [ZN]
      simp [X5, allC, okB, bitsC]
    | succ n ih =>
      intro k o hk
      obtain ⟨x, hx⟩ := ZU (xs := m.Params) (k := k) (by omega)
      have hlt := Xh hx
      have hp := hP x (List.mem_of_getElem? hx)
      obtain ⟨q, h1, h2⟩ := Zsl (k : Int) (Zfb (number := (k : Int)) hp.toPartsOK) o
      have e : bitsC (allC k (m.Params.drop k)) = bitsC (cellsN (k : Int) x) ++ bitsC (allC (k + 1) (m.Params.drop (k + 1))) := by rw [ZO hx]; simp [bitsC, allC]
      rw [e, Zcu, ZN]
      simp only [J3, X5, hlt, decide_true, if_true, ZE hx, Option.bind_some, ZjP hp.toPartsOK, h1]
      rw [ZX (z := (k : Int) + 1) (by omega) (by omega)]
      cases hok : okB (mkeys o) (bitsC (cellsN (k : Int) x)) with
      | false => exact ⟨(k : Int), rfl⟩
      | true =>
        obtain ⟨j, hj⟩ := ih (k + 1) q (by omega)
        rw [h2 hok] at hj
        exact ⟨j, hj⟩
  exact key m.Params.length 0 [] (by omega)
theorem ZnQ {m : api_Map} (hl : m.Params.length ≤ 200) (hP : ∀ x ∈ m.Params, ParOK x) : ∃ j, loop (t2 (Zab m)) (([] : RT), 0) = some (cond (okB [] (bitsC (allC 0 m.Params))) (.inr ()) (.inl (j, 5))) := by
  have key : ∀ (n k : Nat) (o : RT) (K : List layout_bit), RK o K → k + n = m.Params.length → ∃ j, loop (t2 (Zab m)) (o, (k : Int)) = some (cond (okB K (bitsC (allC k (m.Params.drop k)))) (.inr ()) (.inl (j, 5))) := by
    intro n
    induction n with
    | zero =>
      intro k o K hK hk
      have : k = m.Params.length := by omega
      subst this
      refine ⟨0, ?_⟩
      rw [ZN]
      simp [Zab, allC, okB, bitsC]
    | succ n ih =>
      intro k o K hK hk
      obtain ⟨x, hx⟩ := ZU (xs := m.Params) (k := k) (by omega)
      have hlt := Xh hx
      have hp := hP x (List.mem_of_getElem? hx)
      obtain ⟨o', ok', h1, h2⟩ := Ziw (Zfb (number := (k : Int)) hp.toPartsOK) o
      obtain ⟨h3, h4⟩ := h2 K hK
      have e : bitsC (allC k (m.Params.drop k)) = bitsC (cellsN (k : Int) x) ++ bitsC (allC (k + 1) (m.Params.drop (k + 1))) := by rw [ZO hx]; simp [bitsC, allC]
      rw [e, Zcu, ZN]
      simp only [J3, Zab, hlt, decide_true, if_true, ZE hx, Option.bind_some, Zgm hp.toPartsOK, h1]
      rw [ZX (z := (k : Int) + 1) (by omega) (by omega), ← h3]
      cases hok : ok' with
      | false => exact ⟨(k : Int), rfl⟩
      | true =>
        obtain ⟨j, hj⟩ := ih (k + 1) o' _ (h4 hok) (by omega)
        exact ⟨j, hj⟩
  exact key m.Params.length 0 [] [] ⟨rfl, fun p hp => by cases hp⟩ (by omega)
def Zcf (m : api_Map) : Int := if wiL m.Version 0 2047 = true then (if m.Params.length ≤ 200 then Jk (fun e => e.2) (if (allC 0 m.Params).length ≤ 4000 then (if okB [] (bitsC (allC 0 m.Params)) = true then 0 else 5) else 3) (ZY (g1M m.Params) 0 m.Params) else 3) else 9
theorem Zh7 (m : api_Map) : ∃ a, JG m = some (a, Zcf m) := by
  unfold JG Zcf
  rw [ZcB, Option.bind_some]
  cases hw : wiL m.Version 0 2047
  · exact ⟨_, rfl⟩
  by_cases h2 : m.Params.length ≤ 200
  · have h2' : ¬ (200 : Int) < (m.Params.length : Int) := by omega
    rw [if_neg (by simp), if_neg (by simpa using h2'), if_pos rfl, if_pos h2, ZrM h2]
    cases hf : ZY (g1M m.Params) 0 m.Params with
    | some e => exact ⟨e.1, rfl⟩
    | none =>
      have hP := ZoL hf
      obtain ⟨j, hj⟩ := ZnH h2 hP
      obtain ⟨i, hi⟩ := Zph h2 hP
      simp only [ZdR, Option.bind_some, Sum.elim_inr, t0]
      rw [hj]
      by_cases h4 : (allC 0 m.Params).length ≤ 4000
      · rw [decide_eq_true h4, if_pos h4]
        simp only [cond_true, Option.bind_some, Sum.elim_inr]
        rw [hi]
        cases okB [] (bitsC (allC 0 m.Params))
        · exact ⟨i, rfl⟩
        · exact ⟨-1, rfl⟩
      · rw [decide_eq_false h4, if_neg h4]
        exact ⟨j, rfl⟩
  · have h2' : (200 : Int) < (m.Params.length : Int) := by omega
    rw [if_neg (by simp), if_pos (by simpa using h2'), if_pos rfl, if_neg h2]
    exact ⟨_, rfl⟩
theorem ZnY (m : api_Map) (hs : ZcU m) : ∃ a, ZcQ m = some (a, Zcf m) := by
  unfold ZcQ Zcf
  rw [ZdT, Option.bind_some]
  cases hw : wiL m.Version 0 2047
  · exact ⟨_, rfl⟩
  by_cases h2 : m.Params.length ≤ 200
  · have h2' : ¬ (200 : Int) < (m.Params.length : Int) := by omega
    rw [if_neg (by simp), if_neg (by simpa using h2'), if_pos rfl, if_pos h2, Zqi h2 hs]
    cases hf : ZY (g1M m.Params) 0 m.Params with
    | some e => exact ⟨e.1, rfl⟩
    | none =>
      have hP := ZoL hf
      obtain ⟨j, hj⟩ := ZmX h2 hP
      obtain ⟨i, hi⟩ := ZnQ h2 hP
      simp only [ZdR, Option.bind_some, Sum.elim_inr, t0]
      rw [hj]
      by_cases h4 : (allC 0 m.Params).length ≤ 4000
      · rw [decide_eq_true h4, if_pos h4]
        simp only [cond_true, Option.bind_some, Sum.elim_inr]
        rw [hi]
        cases okB [] (bitsC (allC 0 m.Params))
        · exact ⟨i, rfl⟩
        · exact ⟨0, rfl⟩
      · rw [decide_eq_false h4, if_neg h4]
        exact ⟨j, rfl⟩
  · have h2' : (200 : Int) < (m.Params.length : Int) := by omega
    rw [if_neg (by simp), if_pos (by simpa using h2'), if_pos rfl, if_neg h2]
    exact ⟨_, rfl⟩
structure MapOK (m : api_Map) : Prop where
  ver : 0 ≤ m.Version ∧ m.Version ≤ 2047
  len : m.Params.length ≤ 200
  par : ∀ x ∈ m.Params, ParOK x
  cnt : (allC 0 m.Params).length ≤ 4000
  uniq : okB [] (bitsC (allC 0 m.Params)) = true
theorem ZeH {m : api_Map} (h : Zcf m = 0) : MapOK m := by
  unfold Zcf at h
  by_cases h1 : wiL m.Version 0 2047 = true
  case neg => rw [if_neg h1] at h; cases h
  rw [if_pos h1] at h
  by_cases h2 : m.Params.length ≤ 200
  case neg => rw [if_neg h2] at h; cases h
  rw [if_pos h2] at h
  cases hf : ZY (g1M m.Params) 0 m.Params with
  | some e =>
    exfalso
    rw [hf] at h
    have key : ∀ (l : List api_Param) (k : Nat) (tl : List api_Param) (e : Int × Int), ZY (g1M l) k tl = some e → e.2 ≠ 0 := by
      intro l k tl
      induction tl generalizing k with
      | nil => intro e h; cases h
      | cons x tl ih =>
        intro e h
        simp only [ZY] at h
        cases hg : g1M l k x with
        | some e' =>
          rw [hg] at h
          cases h
          unfold g1M at hg
          split at hg
          · split at hg
            · cases hg; exact (by decide : (5 : Int) ≠ 0)
            · cases hg
          · rename_i hne; cases hg; exact hne
        | none => rw [hg] at h; exact ih _ _ h
    exact key _ _ _ _ hf h
  | none =>
    rw [hf] at h
    simp only [ZdR] at h
    by_cases h3 : (allC 0 m.Params).length ≤ 4000
    case neg => rw [if_neg h3] at h; cases h
    rw [if_pos h3] at h
    by_cases h4 : okB [] (bitsC (allC 0 m.Params)) = true
    case neg => rw [if_neg h4] at h; cases h
    exact ⟨Zcw.1 h1, h2, ZoL hf, h3, h4⟩
theorem Zfu {m : api_Map} (h : MapOK m) {body : List api_Cell → Int → Option ((List api_Cell × Int) ⊕ List api_Cell)} {f : Int → api_Param → Option (List api_Cell)} (hf : ∀ k x, PartsOK x → f k x = some (cellsN k x))
    (hb : ∀ out i, body out i = if decide (i < (m.Params.length : Int)) = true then (idx m.Params i).bind fun x => (f i x).bind fun y => (app out y).bind fun l => some (.inl (l, (i64 (i + 1)))) else some (.inr out)) : loop (t2 body) ([], 0) = some (allC 0 m.Params) := by
  have hl := h.len
  have := ZeI (xs := m.Params) (body := body) (I := fun out k => out.length + (allC k (m.Params.drop k)).length ≤ 4000) (F := fun out k => out ++ allC k (m.Params.drop k))
    (fun out k x hI hx => by
      have hlt := Xh hx
      have hp := h.par x (List.mem_of_getElem? hx)
      rw [ZO hx] at hI ⊢
      simp only [allC, List.length_append] at hI ⊢
      left
      refine ⟨out ++ cellsN (k : Int) x, ?_, by rw [List.length_append]; omega, by rw [List.append_assoc]⟩
      rw [hb, if_pos (by simpa using hlt), ZE hx, Option.bind_some, hf _ _ hp.toPartsOK, Option.bind_some, Zb0 (by omega), ZX (by omega) (by omega)]
      rfl)
    (fun out hI => by rw [hb, if_neg (by simp)]; simp [allC]) (a0 := []) (by simpa using h.cnt)
  simpa using this
theorem Zj9 {m : api_Map} (h : MapOK m) : ZaC m = some (allC 0 m.Params) := by
  unfold ZaC
  rw [Zfu h (body := Zce m) (f := Xg) (fun k x hx => ZjP hx k) (fun out i => rfl)]; rfl
theorem ZmC {m : api_Map} (h : MapOK m) : Za0 m = some (allC 0 m.Params) := by
  unfold Za0
  rw [Zfu h (body := ZbX m) (f := fun k x => JI x k) (fun k x hx => Zgm hx k) (fun out i => rfl)]; rfl
theorem Zjr : ∀ (k : Nat) (l : List api_Param), (∀ x ∈ l, ParOK x) → ∀ c ∈ allC k l, ∃ (j : Nat) (x : api_Param), l[j]? = some x ∧ c ∈ cellsN ((k + j : Nat) : Int) x
  | _, [], _, c, hc => by cases hc
  | k, x :: tl, h, c, hc => by
    rcases List.mem_append.1 hc with hc | hc
    · exact ⟨0, x, rfl, hc⟩
    · obtain ⟨j, y, h1, h2⟩ := Zjr (k + 1) tl (fun z hz => h z (List.mem_cons_of_mem _ hz)) c hc
      exact ⟨j + 1, y, by simpa using h1, by rwa [show k + (j + 1) = k + 1 + j by omega]⟩
theorem Zjt {m : api_Map} (h : MapOK m) {c : api_Cell} (hc : c ∈ allC 0 m.Params) : ∃ (j : Nat) (x : api_Param), m.Params[j]? = some x ∧ ParOK x ∧ c.Param = (j : Int) ∧ ∃ (f : Int) (t : Nat), f ∈ Jm x ∧ t < x.Times.toNat ∧ c.Frame = f ∧ c.Places = x.Parts.map (Ju x f t) := by
  obtain ⟨j, x, h1, h2⟩ := Zjr 0 _ h.par c hc
  have hx := h.par x (List.mem_of_getElem? h1)
  obtain ⟨i, f, t, h3, h4, rfl⟩ := Zd1 h2
  exact ⟨j, x, h1, hx, by simp [Zbk], f, t, h3, h4, rfl, rfl⟩
theorem Zkf {x : api_Param} (h : ParOK x) {f : Int} (hf : f ∈ Jm x) {t : Nat} (ht : t < x.Times.toNat) {q : api_Place} (hq : q ∈ x.Parts.map (Ju x f t)) :
    (0 ≤ q.Frame ∧ q.Frame ≤ 15) ∧ (4 ≤ q.Word ∧ q.Word ≤ 60) ∧ (0 ≤ q.Low ∧ q.Low ≤ 10) ∧ 1 ≤ q.Bits ∧ q.Bits ≤ 11 - q.Low := by
  obtain ⟨hE, hF, hT, hS, _⟩ := Xw h.tim
  obtain ⟨p, hp, rfl⟩ := List.mem_map.1 hq
  have h1 := JQ.1 (h.len.2 p hp)
  obtain ⟨f0, _, f2⟩ := Zgg (p := x) (by omega) 17 x.First f hF.1 hf
  have h2 := of_decide_eq_true (List.all_eq_true.1 f2 p hp)
  have h3 := h.stp p hp
  simp only [stepOK, Bool.and_eq_true, decide_eq_true_eq] at h3
  have h4 : (t : Int) * x.Step ≤ (x.Times - 1) * x.Step := Int.mul_le_mul_of_nonneg_right (by omega) hS
  have h5 : 0 ≤ (t : Int) * x.Step := Int.mul_nonneg (by omega) hS
  unfold Ju
  simp only
  omega
theorem Zmo (m : api_Map) : JM m = some (if Zcf m = 0 then (allC 0 m.Params, 0) else ([], Zcf m)) := by
  obtain ⟨a, hc⟩ := Zh7 m
  unfold JM
  rw [hc, Option.bind_some]
  by_cases h : Zcf m = 0
  · rw [if_neg (by simp [h]), if_pos h, Zj9 (ZeH h)]; rfl
  · rw [if_pos (Zkw h), if_neg h]
end Go.Vx


namespace Go.Vx
open Go Go.RowKit
end Go.Vx

namespace Go.Vx
open Go Go.RowKit
def dcd : Nat → Nat → Nat
  | 0, _ => 0
  | n + 1, raw => raw % 16 + 10 * dcd n (raw / 16)
def okD : Nat → Nat → Prop
  | 0, _ => True
  | n + 1, raw => raw % 16 < 10 ∧ okD n (raw / 16)
theorem ZlL : ∀ n v, v < 10 ^ n → okD n (bcd n v) ∧ dcd n (bcd n v) = v
  | 0, v, h => by simp at h; simp [bcd, dcd, okD, h]
  | n + 1, v, h => by
    have hm := Nat.mod_lt v (show 0 < 10 by decide)
    obtain ⟨h1, h2⟩ := ZlL n (v / 10) (by rw [Zkr] at h; omega)
    have e1 : bcd (n + 1) v % 16 = v % 10 := by rw [bcd]; omega
    have e2 : bcd (n + 1) v / 16 = bcd n (v / 10) := by rw [bcd]; omega
    refine ⟨⟨by omega, by rw [e2]; exact h1⟩, ?_⟩
    rw [dcd, e1, e2, h2]; omega
theorem Zps (raw m : Nat) : dig (raw : Int) m = ((raw / 16 ^ m % 16 : Nat) : Int) := by
  have e : ((16 ^ m : Nat) : Int) = (2 : Int) ^ (4 * m) := by rw [p16]; push_cast; rfl
  have hp : 0 < 16 ^ m := Nat.pow_pos (by decide)
  rw [Zp1, ← e, Int.fdiv_eq_ediv_of_nonneg _ (by omega)]
  push_cast; rfl
theorem Zqb (raw m : Nat) : raw / 16 / 16 ^ m = raw / 16 ^ (m + 1) := by
  rw [Nat.div_div_eq_div_mul, Nat.pow_succ, Nat.mul_comm]
theorem ZlT : ∀ m raw, dcd (m + 1) raw = dcd m raw + 10 ^ m * (raw / 16 ^ m % 16)
  | 0, raw => by simp [dcd]
  | m + 1, raw => by
    have ih := ZlT m (raw / 16)
    rw [dcd, ih, Zqb, dcd, Zkr, Nat.mul_add, Nat.add_assoc]
    congr 2
    rw [← Nat.mul_assoc, Nat.mul_comm 10]
theorem ZhR : ∀ m raw, okD (m + 1) raw ↔ okD m raw ∧ raw / 16 ^ m % 16 < 10
  | 0, raw => by simp [okD]
  | m + 1, raw => by
    have ih := ZhR m (raw / 16)
    rw [okD, ih, Zqb, okD, and_assoc]
theorem ZkX (raw : Nat) : ∀ (m a : Nat), m ≤ 10 → a < 10 ^ (10 - m) →
    ((Zfr raw m a true).2 = true ↔ okD m raw) ∧ (okD m raw → (Zfr raw m a true).1 = ((a * 10 ^ m + dcd m raw : Nat) : Int))
  | 0, a, _, _ => by simp [Zfr, okD, dcd]
  | m + 1, a, hm, ha => by
    have hle : 10 ^ (10 - (m + 1)) ≤ 10 ^ 10 := Nat.pow_le_pow_right (by decide) (by omega)
    rw [t10] at hle
    have hp : 10 ^ (10 - m) = 10 ^ (10 - (m + 1)) * 10 := by rw [show 10 - m = (10 - (m + 1)) + 1 by omega, Zkr]
    have hd := Nat.mod_lt (raw / 16 ^ m) (show 0 < 16 by decide)
    rw [Zfr, Zps]
    by_cases h9 : raw / 16 ^ m % 16 < 10
    · have e : i64 (i64 ((a : Int) * 10) + ((raw / 16 ^ m % 16 : Nat) : Int)) = ((a * 10 + raw / 16 ^ m % 16 : Nat) : Int) := by
        rw [ZX (z := (a : Int) * 10) (by omega) (by omega), ZX (by omega) (by omega)]; push_cast; rfl
      have e2 : (true && decide (((raw / 16 ^ m % 16 : Nat) : Int) < 10)) = true := by
        rw [Bool.true_and, decide_eq_true_eq]; omega
      rw [e, e2]
      obtain ⟨g1, g2⟩ := ZkX raw m (a * 10 + raw / 16 ^ m % 16) (by omega) (by rw [hp]; omega)
      refine ⟨by rw [g1, ZhR]; simp [h9], fun hok => ?_⟩
      rw [g2 ((ZhR m raw).1 hok).1, ZlT, Zkr]
      congr 1
      rw [Nat.add_mul, Nat.mul_assoc, Nat.mul_comm 10 (10 ^ m), Nat.mul_comm (raw / 16 ^ m % 16)]
      omega
    · have e2 : (true && decide (((raw / 16 ^ m % 16 : Nat) : Int) < 10)) = false := by
        rw [Bool.true_and, decide_eq_false_iff_not]; omega
      rw [e2, ZiH]
      have hn : ¬ okD (m + 1) raw := fun h => h9 ((ZhR m raw).1 h).2
      exact ⟨by simp [hn], fun h => absurd h hn⟩
theorem Zrq {p : api_Param} (h : ParOK p) (h4 : p.Kind = 4) {raw : Nat} (hr : (raw : Int) < 2 * HH p) : (okD (NN p) raw → dec p raw = (((dcd (NN p) raw : Nat) : Int), true)) ∧ (¬ okD (NN p) raw → dec p raw = (0, false)) := by
  obtain ⟨_, _, hN⟩ := Zoo h h4
  have e : dec p raw = clr (Zfr raw (NN p) 0 true) := by simp [dec, h4]
  obtain ⟨g1, g2⟩ := ZkX raw (NN p) 0 hN (Nat.pow_pos (by decide))
  rw [Int.ofNat_zero] at g1 g2
  rw [e]
  unfold clr
  constructor
  · intro hok
    have := g2 hok
    rw [Nat.zero_mul, Nat.zero_add] at this
    rw [if_pos (g1.2 hok)]
    rw [← this]
  · intro hok
    rw [if_neg (fun hh => hok (g1.1 hh))]
theorem ZmW {p : api_Param} (h : ParOK p) {v : Int} (v0 : (lims p).1 ≤ v) (v1 : v ≤ (lims p).2) : 0 ≤ enc p v ∧ enc p v < 2 * HH p ∧ dec p (enc p v) = (v, true) := by
  obtain ⟨hH1, hH2, hH3⟩ := Zij h
  have hk := h.kind
  by_cases k2 : p.Kind = 2
  · have l1 : (lims p).1 = -HH p := by simp [lims, k2]
    have l2 : (lims p).2 = HH p - 1 := by simp [lims, k2]
    rw [l1] at v0; rw [l2] at v1
    by_cases hv : v < 0
    · have e : enc p v = 2 * HH p + v := by simp [enc, k2, hv]
      rw [e]
      refine ⟨by omega, by omega, ?_⟩
      have h1 : HH p ≤ 2 * HH p + v := by omega
      have h2 : 2 * HH p + v - 2 * HH p = v := by omega
      simp [dec, k2, h1, h2]
    · have e : enc p v = v := by simp [enc, k2, hv]
      have h1 : ¬ HH p ≤ v := by omega
      rw [e]
      exact ⟨by omega, by omega, by simp [dec, k2, h1]⟩
  by_cases k3 : p.Kind = 3
  · have l1 : (lims p).1 = 1 - HH p := by simp [lims, k3]
    have l2 : (lims p).2 = HH p - 1 := by simp [lims, k3]
    rw [l1] at v0; rw [l2] at v1
    by_cases hv : v < 0
    · have e : enc p v = HH p - v := by simp [enc, k3, hv]
      rw [e]
      refine ⟨by omega, by omega, ?_⟩
      have h1 : ¬ HH p - v = HH p := by omega
      have h2 : HH p < HH p - v := by omega
      have h3 : HH p - (HH p - v) = v := by omega
      simp [dec, k3, h1, h2, h3]
    · have e : enc p v = v := by simp [enc, k3, hv]
      have h1 : ¬ v = HH p := by omega
      have h2 : ¬ HH p < v := by omega
      rw [e]
      exact ⟨by omega, by omega, by simp [dec, k3, h1, h2]⟩
  by_cases k4 : p.Kind = 4
  · have l1 : (lims p).1 = 0 := by simp [lims, k4]
    have l2 : (lims p).2 = 10 ^ NN p - 1 := by simp [lims, k4]
    rw [l1] at v0; rw [l2] at v1
    obtain ⟨ev, hv, _⟩ := Zmn h k4 v0 v1
    have e : enc p v = (bcd (NN p) v.toNat : Nat) := by simp [enc, k4]
    have hb := Zlj (NN p) v.toNat
    rw [p16] at hb
    have hlt : ((bcd (NN p) v.toNat : Nat) : Int) < 2 * HH p := by
      rw [HH4 h k4]
      have : ((2 ^ (4 * NN p) : Nat) : Int) = (2 : Int) ^ (4 * NN p) := by push_cast; rfl
      omega
    obtain ⟨d1, d2⟩ := ZlL (NN p) v.toNat hv
    rw [e]
    refine ⟨by omega, hlt, ?_⟩
    rw [(Zrq h k4 hlt).1 d1, d2, ← ev]
  have e : enc p v = v := by simp [enc, k2, k3, k4]
  rw [e]
  by_cases k6 : p.Kind = 6
  · obtain ⟨n1, n2, n3⟩ := h.k6 k6
    have l1 : (lims p).1 = 0 := by simp [lims, k6]
    have l2 : (lims p).2 = (p.Names.length : Int) - 1 := by simp [lims, k6]
    rw [l1] at v0; rw [l2] at v1
    rw [hH3] at n3
    have h1 : ¬ (p.Names.length : Int) ≤ v := by omega
    exact ⟨by omega, by omega, by simp [dec, k6, h1]⟩
  by_cases k5 : p.Kind = 5
  · have hb1 := h.k5 k5
    have hHv : HH p = 1 := by unfold HH; rw [hb1]; rfl
    have l1 : (lims p).1 = 0 := by simp [lims, k5]
    have l2 : (lims p).2 = 1 := by simp [lims, k5]
    rw [l1] at v0; rw [l2] at v1
    exact ⟨by omega, by omega, by simp [dec, k5]⟩
  have k1 : p.Kind = 1 := by omega
  have l1 : (lims p).1 = 0 := by simp [lims, k1]
  have l2 : (lims p).2 = 2 * HH p - 1 := by simp [lims, k1]
  rw [l1] at v0; rw [l2] at v1
  exact ⟨by omega, by omega, by simp [dec, k1]⟩
end Go.Vx

namespace Go.Vx
open Go Go.RowKit
def ZiR (b : layout_bit) (x : api_Place) : Bool := ((decide (x.Frame = b.frame) && decide (x.Word = b.word)) && decide (x.Low ≤ b.bit)) && decide (b.bit < x.Low + x.Bits)
theorem Zja {b : layout_bit} {x : api_Place} : b ∈ Zal x ↔ ZiR b x = true := by
  obtain ⟨f, w, t⟩ := b
  simp only [Zal, List.mem_map, List.mem_range, ZiR, Bool.and_eq_true, decide_eq_true_eq]
  constructor
  · rintro ⟨i, hi, he⟩
    simp only [layout_bit.mk.injEq] at he
    omega
  · rintro ⟨⟨⟨h1, h2⟩, h3⟩, h4⟩
    refine ⟨(t - x.Low).toNat, by omega, ?_⟩
    simp only [layout_bit.mk.injEq]
    omega
theorem Zjj : ∀ {K l : List layout_bit}, okB K l = true → ∀ b ∈ l, b ∉ K
  | K, x :: l, h, b, hb => by
    simp only [okB] at h
    split at h
    · cases h
    · rename_i hx
      rcases List.mem_cons.1 hb with rfl | hb
      · exact hx
      · exact fun hk => Zjj h b hb (List.mem_append_left _ hk)
theorem Zli {m : api_Map} (h : MapOK m) {c : api_Cell} (hc : c ∈ allC 0 m.Params) : c.Places.length ≤ 8 ∧ ∀ q ∈ c.Places, (0 ≤ q.Frame ∧ q.Frame ≤ 15) ∧ (4 ≤ q.Word ∧ q.Word ≤ 60) ∧ (0 ≤ q.Low ∧ q.Low ≤ 10) ∧ 1 ≤ q.Bits ∧ q.Bits ≤ 11 - q.Low := by
  obtain ⟨j, x, _, hx, _, f, t, h1, h2, _, h3⟩ := Zjt h hc
  have h8 := hx.len.1
  rw [h3]
  exact ⟨by simpa using h8, fun q hq => Zkf hx h1 h2 hq⟩
end Go.Vx

namespace Go.Vx
open Go Go.RowKit
def sB (l : List api_Place) : Nat := (l.map fun q => q.Bits.toNat).sum
def placeR (q : api_Place) : Prop := (0 ≤ q.Frame ∧ q.Frame ≤ 15) ∧ (4 ≤ q.Word ∧ q.Word ≤ 60) ∧ (0 ≤ q.Low ∧ q.Low ≤ 10) ∧ 1 ≤ q.Bits ∧ q.Bits ≤ 11 - q.Low
theorem Zoa (k : IntKind) (a b : Int) : bor k a b = bor k b a := by unfold bor; rw [BitVec.or_comm]
theorem ZnX {n s : Nat} {q : api_Place} {d : Nat} (hq : placeR q) (hn : n < 2 ^ s) (hs : s + q.Bits.toNat ≤ 40) (hd : d ≤ 2047) :
    shl .i64 (n : Int) q.Bits = some ((2 ^ q.Bits.toNat * n : Nat) : Int) ∧ shr .i64 (d : Int) q.Low = some ((d / 2 ^ q.Low.toNat : Nat) : Int) ∧ shl .i64 1 q.Bits = some ((2 ^ q.Bits.toNat : Nat) : Int) ∧
    bor .i64 ((2 ^ q.Bits.toNat * n : Nat) : Int) (XJ .i64 ((d / 2 ^ q.Low.toNat : Nat) : Int) (i64 (((2 ^ q.Bits.toNat : Nat) : Int) - 1))) = ((n * 2 ^ q.Bits.toNat + d / 2 ^ q.Low.toNat % 2 ^ q.Bits.toNat : Nat) : Int) ∧
    rem ((d / 2 ^ q.Low.toNat : Nat) : Int) ((2 ^ q.Bits.toNat : Nat) : Int) = some ((d / 2 ^ q.Low.toNat % 2 ^ q.Bits.toNat : Nat) : Int) ∧
    i64 (((2 ^ q.Bits.toNat * n : Nat) : Int) + ((d / 2 ^ q.Low.toNat % 2 ^ q.Bits.toNat : Nat) : Int)) = ((n * 2 ^ q.Bits.toNat + d / 2 ^ q.Low.toNat % 2 ^ q.Bits.toNat : Nat) : Int) ∧ n * 2 ^ q.Bits.toNat + d / 2 ^ q.Low.toNat % 2 ^ q.Bits.toNat < 2 ^ (s + q.Bits.toNat) := by
  obtain ⟨_, _, h3, h4, h5⟩ := hq
  have hb1 : q.Bits.toNat ≤ 11 := by omega
  have hp := Nat.two_pow_pos q.Bits.toNat
  have hm : d / 2 ^ q.Low.toNat % 2 ^ q.Bits.toNat < 2 ^ q.Bits.toNat := Nat.mod_lt _ hp
  have h1 : (n + 1) * 2 ^ q.Bits.toNat ≤ 2 ^ s * 2 ^ q.Bits.toNat := Nat.mul_le_mul_right _ hn
  rw [← Nat.pow_add, Nat.add_mul, Nat.one_mul] at h1
  have h40 : 2 ^ (s + q.Bits.toNat) ≤ 2 ^ 40 := Nat.pow_le_pow_right (by decide) hs
  rw [show (2 : Nat) ^ 40 = 1099511627776 by decide] at h40
  have hcm : 2 ^ q.Bits.toNat * n = n * 2 ^ q.Bits.toNat := Nat.mul_comm _ _
  have eb : min q.Bits.toNat IntKind.i64.bits = q.Bits.toNat := by
    have : IntKind.i64.bits = 64 := rfl
    omega
  have el : min q.Low.toNat IntKind.i64.bits = q.Low.toNat := by
    have : IntKind.i64.bits = 64 := rfl
    omega
  have ep : ((2 ^ q.Bits.toNat : Nat) : Int) = (2 : Int) ^ q.Bits.toNat := by push_cast; rfl
  have epl : ((2 ^ q.Low.toNat : Nat) : Int) = (2 : Int) ^ q.Low.toNat := by push_cast; rfl
  have hpl := Nat.two_pow_pos q.Low.toNat
  refine ⟨?_, ?_, ?_, ?_, ?_, ?_, by omega⟩
  · unfold shl
    rw [if_neg (by omega), eb, ← ep]
    congr 1
    have : (n : Int) * ((2 ^ q.Bits.toNat : Nat) : Int) = ((n * 2 ^ q.Bits.toNat : Nat) : Int) := by push_cast; rfl
    rw [this, hcm]
    exact ZX (by omega) (by omega)
  · unfold shr
    rw [if_neg (by omega), el, ← epl, Int.fdiv_eq_ediv_of_nonneg _ (by omega)]
    rfl
  · rw [Zo7 (by omega) (by omega), ep]
  · have hmask : i64 (((2 ^ q.Bits.toNat : Nat) : Int) - 1) = (2 : Int) ^ q.Bits.toNat - 1 := by
      have : 2 ^ q.Bits.toNat ≤ 2 ^ 11 := Nat.pow_le_pow_right (by decide) hb1
      rw [show (2 : Nat) ^ 11 = 2048 by decide] at this
      rw [ZX (by omega) (by omega), ep]
    rw [hmask, Zbr (by omega), ← ep, Zoa]
    have e2 : ((d / 2 ^ q.Low.toNat : Nat) : Int) % ((2 ^ q.Bits.toNat : Nat) : Int) = ((d / 2 ^ q.Low.toNat % 2 ^ q.Bits.toNat : Nat) : Int) := by push_cast; rfl
    rw [e2, Zot hm (by rw [t62]; omega)]
    congr 1; omega
  · unfold rem
    rw [if_neg (by omega), Int.tmod_eq_emod_of_nonneg (Int.natCast_nonneg _)]; rfl
  · rw [ZX (by omega) (by omega)]; push_cast; rw [Int.mul_comm]
end Go.Vx

namespace Go.Vx
open Go Go.RowKit
def ZaO (l : Vector (List Int) 16) (q : api_Place) : Nat := ((l.toList.getD q.Frame.toNat []).getD (q.Word - 3).toNat 0).toNat
def Zh2 (l : Vector (List Int) 16) : Nat → List api_Place → Nat
  | n, [] => n
  | n, q :: tl => Zh2 l (n * 2 ^ q.Bits.toNat + ZaO l q / 2 ^ q.Low.toNat % 2 ^ q.Bits.toNat) tl
theorem Zl3 (l : Vector (List Int) 16) : ∀ (ps : List api_Place) (n s : Nat), n < 2 ^ s → Zh2 l n ps < 2 ^ (s + sB ps)
  | [], n, s, h => by simpa [Zh2, sB] using h
  | q :: tl, n, s, h => by
    have hm : ZaO l q / 2 ^ q.Low.toNat % 2 ^ q.Bits.toNat < 2 ^ q.Bits.toNat := Nat.mod_lt _ (Nat.two_pow_pos _)
    have h1 : (n + 1) * 2 ^ q.Bits.toNat ≤ 2 ^ s * 2 ^ q.Bits.toNat := Nat.mul_le_mul_right _ h
    rw [← Nat.pow_add, Nat.add_mul, Nat.one_mul] at h1
    have := Zl3 l tl (n * 2 ^ q.Bits.toNat + ZaO l q / 2 ^ q.Low.toNat % 2 ^ q.Bits.toNat) (s + q.Bits.toNat) (by omega)
    have e : s + sB (q :: tl) = s + q.Bits.toNat + sB tl := by simp [sB]; omega
    rw [e, Zh2]; exact this
def DatOK (l : Vector (List Int) 16) : Prop := ∀ x ∈ l.toList, x.length = 58 ∧ ∀ d ∈ x, 0 ≤ d ∧ d ≤ 2047
theorem Zqe {l : Vector (List Int) 16} (hl : DatOK l) {q : api_Place} (hq : placeR q) : ∃ x, ZI l q.Frame = some x ∧ idx x (i64 (q.Word - 3)) = some (ZaO l q : Int) ∧ ZaO l q ≤ 2047 := by
  obtain ⟨h1, h2, _⟩ := hq
  have h16 : l.toList.length = 16 := by simp
  obtain ⟨x, hx⟩ := ZU (xs := l.toList) (k := q.Frame.toNat) (by omega)
  obtain ⟨hx1, hx2⟩ := hl x (List.mem_of_getElem? hx)
  obtain ⟨d, hd⟩ := ZU (xs := x) (k := (q.Word - 3).toNat) (by omega)
  have hd2 := hx2 d (List.mem_of_getElem? hd)
  have e1 : l.toList.getD q.Frame.toNat [] = x := by rw [List.getD_eq_getElem?_getD, hx]; rfl
  have e2 : x.getD (q.Word - 3).toNat 0 = d := by rw [List.getD_eq_getElem?_getD, hd]; rfl
  have e3 : ((ZaO l q : Nat) : Int) = d := by unfold ZaO; rw [e1, e2]; omega
  refine ⟨x, ?_, ?_, by omega⟩
  · unfold ZI; rw [if_pos h1.1, hx]
  · rw [ZX (by omega) (by omega), e3]; unfold idx; rw [if_pos (by omega), hd]
theorem Zjq {α : Type} {n : Nat} {l : Vector α n} {k : Nat} {x : α} (h : l.toList[k]? = some x) : ZI l (k : Int) = some x := by
  unfold ZI; rw [if_pos (by omega), Int.toNat_natCast, h]
theorem Zlt {m : api_Map} (h : MapOK m) (l : Vector (List Int) 16) {c : api_Cell} (hc : c ∈ allC 0 m.Params) : ∃ x, idx m.Params c.Param = some x ∧ m.Params[c.Param.toNat]? = some x ∧ ParOK x ∧ c.Places.length ≤ 8 ∧ (∀ q ∈ c.Places, placeR q) ∧ sB c.Places ≤ 40 ∧ ((Zh2 l 0 c.Places : Nat) : Int) < 2 * HH x := by
  obtain ⟨j, x, h1, hx, h2, f, t, h3, h4, _, h5⟩ := Zjt h hc
  obtain ⟨p8, pin⟩ := Zli h hc
  have hb := hx.bits
  have hsB : (sB c.Places : Int) = bitsN x := by
    have key : ∀ ps : List api_Part, (∀ y ∈ ps, ZbD y = true) → ((sB (ps.map (Ju x f t)) : Nat) : Int) = (ps.map (·.Bits)).sum := by
      intro ps
      induction ps with
      | nil => intro _; rfl
      | cons y ps ih =>
        intro hy
        have := JQ.1 (hy y List.mem_cons_self)
        have ih := ih fun z hz => hy z (List.mem_cons_of_mem _ hz)
        have e : sB ((y :: ps).map (Ju x f t)) = y.Bits.toNat + sB (ps.map (Ju x f t)) := by simp [sB, Ju]
        rw [e, List.map_cons, List.sum_cons]
        push_cast
        omega
    rw [h5]
    exact key _ hx.len.2
  have hlt := Zl3 l c.Places 0 0 (by simp)
  rw [Nat.zero_add] at hlt
  have e2 : (bitsN x).toNat = sB c.Places := by omega
  refine ⟨x, ?_, ?_, hx, p8, pin, by omega, ?_⟩
  · rw [h2]; exact ZE h1
  · rw [h2, Int.toNat_natCast]; exact h1
  · rw [← (Zij hx).2.2, e2]
    have : ((2 ^ sB c.Places : Nat) : Int) = (2 : Int) ^ sB c.Places := by push_cast; rfl
    omega
end Go.Vx

namespace Go.Vx
open Go Go.RowKit
def chunk (l : Vector (List Int) 16) (q : api_Place) : Nat := ZaO l q / 2 ^ q.Low.toNat % 2 ^ q.Bits.toNat
end Go.Vx

namespace Go.Vx
open Go Go.RowKit
end Go.Vx

namespace Go.Vx
open Go Go.RowKit
theorem Zg3 {d lo n : Nat} (h : d / 2 ^ lo % 2 ^ n = 0) : d = 2 ^ (lo + n) * (d / 2 ^ (lo + n)) + d % 2 ^ lo := by
  have h1 := Nat.mod_mul (a := 2 ^ lo) (b := 2 ^ n) (x := d)
  rw [h, Nat.mul_zero, Nat.add_zero, ← Nat.pow_add] at h1
  have h2 := Nat.div_add_mod d (2 ^ (lo + n))
  omega
theorem Zlz {d lo n v : Nat} (h : d / 2 ^ lo % 2 ^ n = 0) (hv : v < 2 ^ n) : d ||| 2 ^ lo * v = d + 2 ^ lo * v ∧ 2 ^ lo * v + d % 2 ^ lo < 2 ^ (lo + n) := by
  have hs := Zg3 h
  have hl : d % 2 ^ lo < 2 ^ lo := Nat.mod_lt _ (Nat.two_pow_pos _)
  have hx : 2 ^ lo * v + d % 2 ^ lo < 2 ^ (lo + n) := by
    have h1 : 2 ^ lo * (v + 1) ≤ 2 ^ lo * 2 ^ n := Nat.mul_le_mul_left _ hv
    rw [← Nat.pow_add, Nat.mul_add, Nat.mul_one] at h1
    omega
  refine ⟨?_, hx⟩
  have e1 := Nat.two_pow_add_eq_or_of_lt (i := lo + n) (b := d % 2 ^ lo) (by omega) (d / 2 ^ (lo + n))
  have e2 := Nat.two_pow_add_eq_or_of_lt (i := lo) (b := d % 2 ^ lo) hl v
  have e3 := Nat.two_pow_add_eq_or_of_lt (i := lo + n) (b := 2 ^ lo * v + d % 2 ^ lo) hx (d / 2 ^ (lo + n))
  have : d ||| 2 ^ lo * v = 2 ^ (lo + n) * (d / 2 ^ (lo + n)) ||| (2 ^ lo * v + d % 2 ^ lo) := by
    rw [e2, Nat.or_comm (2 ^ lo * v), ← Nat.or_assoc, ← e1, ← hs]
  rw [this, ← e3]
  omega
theorem Zn0 {d lo n v : Nat} (h : d / 2 ^ lo % 2 ^ n = 0) (hv : v < 2 ^ n) (hd : d ≤ 2047) (hln : lo + n ≤ 11) : d + 2 ^ lo * v ≤ 2047 := by
  have hs := Zg3 h
  have hx := (Zlz h hv).2
  have e : 2 ^ 11 = 2 ^ (lo + n) * 2 ^ (11 - (lo + n)) := by rw [← Nat.pow_add]; congr 1; omega
  have h1 : d / 2 ^ (lo + n) < 2 ^ (11 - (lo + n)) := by
    rw [Nat.div_lt_iff_lt_mul (Nat.two_pow_pos _), Nat.mul_comm, ← e]; omega
  have h2 : 2 ^ (lo + n) * (d / 2 ^ (lo + n) + 1) ≤ 2 ^ (lo + n) * 2 ^ (11 - (lo + n)) := Nat.mul_le_mul_left _ h1
  rw [← e, Nat.mul_add, Nat.mul_one] at h2
  omega
theorem ZnW {d lo n v : Nat} (h : d / 2 ^ lo % 2 ^ n = 0) (hv : v < 2 ^ n) : (d + 2 ^ lo * v) / 2 ^ lo % 2 ^ n = v := by
  rw [Nat.add_mul_div_left _ _ (Nat.two_pow_pos _), Nat.add_mod, h, Nat.zero_add, Nat.mod_mod, Nat.mod_eq_of_lt hv]
theorem ZmN {d lo n v lo' n' : Nat} (h : d / 2 ^ lo % 2 ^ n = 0) (hv : v < 2 ^ n) (hd : lo + n ≤ lo' ∨ lo' + n' ≤ lo) : (d + 2 ^ lo * v) / 2 ^ lo' % 2 ^ n' = d / 2 ^ lo' % 2 ^ n' := by
  rcases hd with hd | hd
  · have hs := Zg3 h
    have hx := (Zlz h hv).2
    have hl : d % 2 ^ lo < 2 ^ (lo + n) := by omega
    have e : 2 ^ lo' = 2 ^ (lo + n) * 2 ^ (lo' - (lo + n)) := by rw [← Nat.pow_add]; congr 1; omega
    have e1 : (d + 2 ^ lo * v) / 2 ^ (lo + n) = d / 2 ^ (lo + n) := by
      have : d + 2 ^ lo * v = (2 ^ lo * v + d % 2 ^ lo) + 2 ^ (lo + n) * (d / 2 ^ (lo + n)) := by omega
      rw [this, Nat.add_mul_div_left _ _ (Nat.two_pow_pos _), Nat.div_eq_of_lt hx, Nat.zero_add]
    rw [e, ← Nat.div_div_eq_div_mul, e1, Nat.div_div_eq_div_mul]
  · have e : 2 ^ lo * v = 2 ^ lo' * (2 ^ n' * (2 ^ (lo - lo' - n') * v)) := by
      rw [← Nat.mul_assoc, ← Nat.mul_assoc, ← Nat.pow_add, ← Nat.pow_add]; congr 2; omega
    rw [e, Nat.add_mul_div_left _ _ (Nat.two_pow_pos _), Nat.add_mul_mod_self_left]
def Zhl (l : Vector (List Int) 16) (q : api_Place) : List Int := l.toList.getD q.Frame.toNat []
def wr (l : Vector (List Int) 16) (w : api_Place × Nat) : Vector (List Int) 16 := Qd l w.1.Frame ((Zhl l w.1).set (w.1.Word - 3).toNat ((ZaO l w.1 + 2 ^ w.1.Low.toNat * w.2 : Nat) : Int))
theorem ZlF {l : Vector (List Int) 16} {q : api_Place} {v : Nat} (hq : placeR q) (k : Nat) : (wr l (q, v)).toList[k]? = if k = q.Frame.toNat then some ((Zhl l q).set (q.Word - 3).toNat ((ZaO l q + 2 ^ q.Low.toNat * v : Nat) : Int)) else l.toList[k]? := by
  obtain ⟨hf, _⟩ := hq
  have h16 : l.toList.length = 16 := by simp
  have e : (wr l (q, v)).toList = l.toList.set q.Frame.toNat ((Zhl l q).set (q.Word - 3).toNat ((ZaO l q + 2 ^ q.Low.toNat * v : Nat) : Int)) := by simp [wr, Qd]
  rw [e, List.getElem?_set]
  by_cases h : k = q.Frame.toNat
  · subst h; rw [if_pos rfl, if_pos (by omega), if_pos rfl]
  · rw [if_neg (fun hh => h hh.symm), if_neg h]
theorem ZgC {l : Vector (List Int) 16} {q : api_Place} (hq : placeR q) : l.toList[q.Frame.toNat]? = some (Zhl l q) := by
  obtain ⟨hf, _⟩ := hq
  have h16 : l.toList.length = 16 := by simp
  obtain ⟨x, hx⟩ := ZU (xs := l.toList) (k := q.Frame.toNat) (by omega)
  unfold Zhl
  rw [List.getD_eq_getElem?_getD, hx]; rfl
theorem Zou {l : Vector (List Int) 16} (hl : DatOK l) {q q' : api_Place} {v : Nat} (hq : placeR q) (hq' : placeR q') :
    ZaO (wr l (q, v)) q' = if q'.Frame = q.Frame ∧ q'.Word = q.Word then ZaO l q + 2 ^ q.Low.toNat * v else ZaO l q' := by
  obtain ⟨h58, _⟩ := hl _ (List.mem_of_getElem? (ZgC (l := l) hq))
  have e0 : ZaO (wr l (q, v)) q' = ((((wr l (q, v)).toList[q'.Frame.toNat]?).getD []).getD (q'.Word - 3).toNat 0).toNat := by unfold ZaO; rw [List.getD_eq_getElem?_getD (l := (wr l (q, v)).toList)]
  have e00 : ZaO l q' = (((l.toList[q'.Frame.toNat]?).getD []).getD (q'.Word - 3).toNat 0).toNat := by unfold ZaO; rw [List.getD_eq_getElem?_getD (l := l.toList)]
  rw [e0, e00, ZlF hq]
  obtain ⟨a1, a2, _⟩ := hq
  obtain ⟨b1, b2, _⟩ := hq'
  by_cases hf : q'.Frame = q.Frame
  · have hf' : q'.Frame.toNat = q.Frame.toNat := by omega
    rw [if_pos hf']
    simp only [Option.getD_some]
    by_cases hw2 : q'.Word = q.Word
    · rw [if_pos ⟨hf, hw2⟩, hw2, List.getD_eq_getElem?_getD, List.getElem?_set_self (by omega)]
      simp
      exact Int.toNat_natCast _
    · have hw3 : (q'.Word - 3).toNat ≠ (q.Word - 3).toNat := by omega
      rw [if_neg (fun h => hw2 h.2), List.getD_eq_getElem?_getD, List.getElem?_set_ne (fun h => hw3 h.symm), ← List.getD_eq_getElem?_getD, hf']
      unfold Zhl
      rw [List.getD_eq_getElem?_getD (l := l.toList)]
  · have hf' : ¬ q'.Frame.toNat = q.Frame.toNat := by omega
    rw [if_neg hf', if_neg (fun h => hf h.1)]
def disj (a b : api_Place) : Prop := ∀ x, ZiR x a = true → ZiR x b = false
theorem Zoj {l : Vector (List Int) 16} (hl : DatOK l) {q : api_Place} {v : Nat} (hq : placeR q) (h0 : chunk l q = 0) (hv : v < 2 ^ q.Bits.toNat) : DatOK (wr l (q, v)) ∧ chunk (wr l (q, v)) q = v ∧ ∀ q', placeR q' → disj q q' → chunk (wr l (q, v)) q' = chunk l q' := by
  have hm := ZgC (l := l) hq
  obtain ⟨h58, hd⟩ := hl _ (List.mem_of_getElem? hm)
  have hdat : ZaO l q ≤ 2047 := by obtain ⟨_, _, _, h⟩ := Zqe hl hq; exact h
  refine ⟨?_, ?_, ?_⟩
  · intro y hy
    obtain ⟨k, hk⟩ := List.getElem?_of_mem hy
    rw [ZlF hq] at hk
    split at hk
    · cases hk
      refine ⟨by simpa using h58, fun d hdm => ?_⟩
      rcases List.mem_or_eq_of_mem_set hdm with h | rfl
      · exact hd d h
      · have := Zn0 h0 hv hdat (by obtain ⟨_, _, h3, h4, h5⟩ := hq; omega)
        omega
    · exact hl y (List.mem_of_getElem? hk)
  · unfold chunk
    rw [Zou hl hq hq, if_pos ⟨rfl, rfl⟩]
    exact ZnW h0 hv
  · intro q' hq' hdis
    unfold chunk
    rw [Zou hl hq hq']
    split
    · rename_i h
      have e : ZaO l q' = ZaO l q := by unfold ZaO; rw [h.1, h.2]
      rw [e]
      refine ZmN h0 hv ?_
      obtain ⟨_, _, h3, h4, h5⟩ := hq
      obtain ⟨_, _, g3, g4, g5⟩ := hq'
      rcases Nat.lt_or_ge q'.Low.toNat (q.Low.toNat + q.Bits.toNat) with c1 | c1
      · rcases Nat.lt_or_ge q.Low.toNat (q'.Low.toNat + q'.Bits.toNat) with c2 | c2
        · exfalso
          by_cases hle : q.Low ≤ q'.Low
          · have := hdis ⟨q.Frame, q.Word, q'.Low⟩ (by simp [ZiR]; omega)
            simp [ZiR, h.1, h.2] at this
            omega
          · have := hdis ⟨q.Frame, q.Word, q.Low⟩ (by simp [ZiR]; omega)
            simp [ZiR, h.1, h.2] at this
            omega
        · exact .inr c2
      · exact .inl c1
    · rfl
end Go.Vx

namespace Go.Vx
open Go Go.RowKit
abbrev WL := List (api_Place × Nat)
structure Pre (out : Vector (List Int) 16) (W : WL) (ver : Int) : Prop where
  dat : DatOK out
  pl : ∀ w ∈ W, placeR w.1 ∧ w.2 < 2 ^ w.1.Bits.toNat ∧ chunk out w.1 = 0
  dis : W.Pairwise fun a b => disj a.1 b.1
  ver : ∀ x ∈ out.toList, x.getD 0 0 = ver
theorem ZqL {l : Vector (List Int) 16} {ver : Int} (h : ∀ x ∈ l.toList, x.getD 0 0 = ver) {q : api_Place} {v : Nat} (hq : placeR q) : ∀ x ∈ (wr l (q, v)).toList, x.getD 0 0 = ver := by
  intro x hx
  obtain ⟨k, hk⟩ := List.getElem?_of_mem hx
  rw [ZlF hq] at hk
  split at hk
  · cases hk
    have := h _ (List.mem_of_getElem? (ZgC (l := l) hq))
    obtain ⟨_, a, _⟩ := hq
    rw [List.getD_eq_getElem?_getD, List.getElem?_set_ne (by omega), ← List.getD_eq_getElem?_getD]
    exact this
  · exact h x (List.mem_of_getElem? hk)
theorem Pre.step {out : Vector (List Int) 16} {w : api_Place × Nat} {W : WL} {ver : Int} (h : Pre out (w :: W) ver) : Pre (wr out w) W ver := by
  obtain ⟨q, v⟩ := w
  obtain ⟨h1, h2, h3⟩ := h.pl _ List.mem_cons_self
  obtain ⟨g1, g2, g3⟩ := Zoj h.dat h1 h3 h2
  have hd := List.pairwise_cons.1 h.dis
  refine ⟨g1, fun w hw => ?_, hd.2, ZqL h.ver h1⟩
  obtain ⟨a1, a2, a3⟩ := h.pl w (List.mem_cons_of_mem _ hw)
  exact ⟨a1, a2, by rw [g3 _ a1 (hd.1 w hw)]; exact a3⟩
def wrF : Vector (List Int) 16 → WL → Vector (List Int) 16
  | out, [] => out
  | out, w :: W => wrF (wr out w) W
theorem Pre.app {ver : Int} : ∀ {W1 W2 : WL} {out : Vector (List Int) 16}, Pre out (W1 ++ W2) ver → Pre (wrF out W1) W2 ver
  | [], _, _, h => h
  | w :: W1, W2, out, h => Pre.app (W1 := W1) (Pre.step (by simpa using h))
theorem ZlQ : ∀ (W1 W2 : WL) (out : Vector (List Int) 16), wrF out (W1 ++ W2) = wrF (wrF out W1) W2
  | [], _, _ => rfl
  | w :: W1, W2, out => ZlQ W1 W2 (wr out w)
theorem Pre.left {ver : Int} {W1 W2 : WL} {out : Vector (List Int) 16} (h : Pre out (W1 ++ W2) ver) : Pre out W1 ver :=
  ⟨h.dat, fun w hw => h.pl w (List.mem_append_left _ hw), (List.pairwise_append.1 h.dis).1, h.ver⟩
theorem ZkN {ver : Int} : ∀ {W : WL} {out : Vector (List Int) 16}, Pre out W ver → ∀ q', placeR q' → (∀ w ∈ W, disj w.1 q') → chunk (wrF out W) q' = chunk out q'
  | [], _, _, _, _, _ => rfl
  | (q, v) :: W, out, h, q', hq', hd => by
    obtain ⟨h1, h2, h3⟩ := h.pl _ List.mem_cons_self
    rw [wrF, ZkN h.step q' hq' (fun w hw => hd w (List.mem_cons_of_mem _ hw))]
    exact (Zoj h.dat h1 h3 h2).2.2 q' hq' (hd _ List.mem_cons_self)
theorem Zmq {ver : Int} : ∀ {W : WL} {out : Vector (List Int) 16}, Pre out W ver → ∀ w ∈ W, chunk (wrF out W) w.1 = w.2
  | (q, v) :: W, out, h, w, hw => by
    obtain ⟨h1, h2, h3⟩ := h.pl _ List.mem_cons_self
    have hd := List.pairwise_cons.1 h.dis
    rcases List.mem_cons.1 hw with rfl | hw
    · rw [wrF, ZkN h.step q h1 (fun w hw x hx => by
        cases hq : ZiR x q with
        | false => rfl
        | true => have := hd.1 w hw x hq; rw [hx] at this; cases this)]
      exact (Zoj h.dat h1 h3 h2).2.1
    · exact Zmq h.step w hw
def wc (e : Nat) : List api_Place → WL
  | [] => []
  | q :: tl => (q, e / 2 ^ sB tl % 2 ^ q.Bits.toNat) :: wc e tl
theorem Zok (e : Nat) : ∀ ps : List api_Place, (wc e ps).map (·.1) = ps
  | [] => rfl
  | q :: tl => by simp [wc, Zok e tl]
theorem ZqA (a b : List api_Place) : sB (a ++ b) = sB a + sB b := by simp [sB]
theorem ZjM (q : api_Place) (tl : List api_Place) : sB (q :: tl) = q.Bits.toNat + sB tl := by simp [sB]
theorem ZlY {l : Vector (List Int) 16} (e : Nat) : ∀ (ps : List api_Place) (n : Nat), (∀ w ∈ wc e ps, chunk l w.1 = w.2) → Zh2 l n ps = n * 2 ^ sB ps + e % 2 ^ sB ps
  | [], n, _ => by simp [Zh2, sB, Nat.mod_one]
  | q :: tl, n, h => by
    have h0 : chunk l q = e / 2 ^ sB tl % 2 ^ q.Bits.toNat := h (q, e / 2 ^ sB tl % 2 ^ q.Bits.toNat) List.mem_cons_self
    unfold chunk at h0
    rw [Zh2, h0, ZlY e tl _ (fun w hw => h w (List.mem_cons_of_mem _ hw)), ZjM, Nat.add_comm q.Bits.toNat, Nat.pow_add, Nat.mod_mul, Nat.add_mul, Nat.mul_assoc, Nat.mul_comm (2 ^ q.Bits.toNat), Nat.mul_comm (e / 2 ^ sB tl % 2 ^ q.Bits.toNat)]
    omega
theorem ZoK {out : Vector (List Int) 16} {q : api_Place} {e r : Nat} (hq : placeR q) (hl : DatOK out) (h0 : chunk out q = 0) (hr : r ≤ 40) (he : e < 2 ^ 40) :
    ∃ row, ZI out q.Frame = some row ∧ idx row (i64 (q.Word - 3)) = some (ZaO out q : Int) ∧ shr .i64 (e : Int) (r : Int) = some ((e / 2 ^ r : Nat) : Int) ∧ shl .i64 1 q.Bits = some ((2 ^ q.Bits.toNat : Nat) : Int) ∧
      XJ .i64 ((e / 2 ^ r : Nat) : Int) (i64 (((2 ^ q.Bits.toNat : Nat) : Int) - 1)) = ((e / 2 ^ r % 2 ^ q.Bits.toNat : Nat) : Int) ∧ rem ((e / 2 ^ r : Nat) : Int) ((2 ^ q.Bits.toNat : Nat) : Int) = some ((e / 2 ^ r % 2 ^ q.Bits.toNat : Nat) : Int) ∧
      shl .i64 ((e / 2 ^ r % 2 ^ q.Bits.toNat : Nat) : Int) q.Low = some ((2 ^ q.Low.toNat * (e / 2 ^ r % 2 ^ q.Bits.toNat) : Nat) : Int) ∧
      Qd out q.Frame (row.set (i64 (q.Word - 3)).toNat (bor .i64 (ZaO out q : Int) ((2 ^ q.Low.toNat * (e / 2 ^ r % 2 ^ q.Bits.toNat) : Nat) : Int))) = wr out (q, e / 2 ^ r % 2 ^ q.Bits.toNat) ∧
      Qd out q.Frame (row.set (i64 (q.Word - 3)).toNat (i64 ((ZaO out q : Int) + ((2 ^ q.Low.toNat * (e / 2 ^ r % 2 ^ q.Bits.toNat) : Nat) : Int)))) = wr out (q, e / 2 ^ r % 2 ^ q.Bits.toNat) := by
  obtain ⟨row, d1, d2, d3⟩ := Zqe hl hq
  have hrow : row = Zhl out q := by
    have := ZgC (l := out) hq
    obtain ⟨hf, _⟩ := hq
    unfold ZI at d1
    rw [if_pos hf.1, this] at d1
    exact (Option.some.inj d1).symm
  have hq' := hq
  obtain ⟨a1, a2, h3, h4, h5⟩ := hq
  have hb1 : q.Bits.toNat ≤ 11 := by omega
  have hp := Nat.two_pow_pos q.Bits.toNat
  have hv : e / 2 ^ r % 2 ^ q.Bits.toNat < 2 ^ q.Bits.toNat := Nat.mod_lt _ hp
  have hbits : 2 ^ q.Bits.toNat ≤ 2 ^ 11 := Nat.pow_le_pow_right (by decide) hb1
  rw [show (2 : Nat) ^ 11 = 2048 by decide] at hbits
  have hbd := Zn0 h0 hv d3 (by omega)
  obtain ⟨hor, _⟩ := Zlz h0 hv
  have er : min ((r : Int)).toNat IntKind.i64.bits = r := by
    have : IntKind.i64.bits = 64 := rfl
    rw [Int.toNat_natCast]; omega
  have el : min q.Low.toNat IntKind.i64.bits = q.Low.toNat := by
    have : IntKind.i64.bits = 64 := rfl
    omega
  have ep : ((2 ^ q.Bits.toNat : Nat) : Int) = (2 : Int) ^ q.Bits.toNat := by push_cast; rfl
  have epl : ((2 ^ q.Low.toNat : Nat) : Int) = (2 : Int) ^ q.Low.toNat := by push_cast; rfl
  have epr : ((2 ^ r : Nat) : Int) = (2 : Int) ^ r := by push_cast; rfl
  have h62 : (2 : Nat) ^ 64 = 18446744073709551616 := by decide
  have hw3 : i64 (q.Word - 3) = q.Word - 3 := ZX (by omega) (by omega)
  generalize hV : e / 2 ^ r % 2 ^ q.Bits.toNat = V at *
  refine ⟨row, d1, d2, ?_, ?_, ?_, ?_, ?_, ?_, ?_⟩
  · unfold shr
    rw [if_neg (by omega), er, ← epr, Int.fdiv_eq_ediv_of_nonneg _ (Int.natCast_nonneg _)]; rfl
  · rw [Zo7 (by omega) (by omega), ep]
  · have hmask : i64 (((2 ^ q.Bits.toNat : Nat) : Int) - 1) = (2 : Int) ^ q.Bits.toNat - 1 := by
      rw [ZX (by omega) (by omega), ep]
    rw [hmask, Zbr (by omega), ← ep, ← hV]
    push_cast; rfl
  · unfold rem
    rw [if_neg (by omega), Int.tmod_eq_emod_of_nonneg (Int.natCast_nonneg _), ← hV]; rfl
  · unfold shl
    rw [if_neg (by omega), el, ← epl]
    congr 1
    have : ((V : Nat) : Int) * ((2 ^ q.Low.toNat : Nat) : Int) = ((2 ^ q.Low.toNat * V : Nat) : Int) := by push_cast; rw [Int.mul_comm]
    rw [this]
    exact ZX (by omega) (by omega)
  · have hbor : bor .i64 (ZaO out q : Int) ((2 ^ q.Low.toNat * V : Nat) : Int) = ((ZaO out q + 2 ^ q.Low.toNat * V : Nat) : Int) := by
      unfold bor
      have e0 : IntKind.i64.bits = 64 := rfl
      have e1 : (BitVec.ofInt 64 ((ZaO out q : Nat) : Int)).toNat = ZaO out q := by
        rw [BitVec.ofInt_natCast, BitVec.toNat_ofNat]; exact Nat.mod_eq_of_lt (by omega)
      have e2 : (BitVec.ofInt 64 ((2 ^ q.Low.toNat * V : Nat) : Int)).toNat = 2 ^ q.Low.toNat * V := by
        rw [BitVec.ofInt_natCast, BitVec.toNat_ofNat]; exact Nat.mod_eq_of_lt (by omega)
      rw [e0, BitVec.toNat_or, e1, e2, hor]
      exact ZX (by omega) (by omega)
    rw [hbor, hw3, hrow]; rfl
  · rw [hw3, ZX (by omega) (by omega), hrow]
    rfl
theorem Zll {c : api_Cell} {e : Nat} {ver : Int} (h8 : c.Places.length ≤ 8) (hb : sB c.Places ≤ 40) (he : e < 2 ^ 40) {body : Vector (List Int) 16 → Int → Int → Option ((Vector (List Int) 16 × Int × Int) ⊕ Vector (List Int) 16)}
    (hstep : ∀ (out : Vector (List Int) 16) (k r : Nat) (q : api_Place), c.Places[k]? = some q → placeR q → DatOK out → chunk out q = 0 → r + q.Bits.toNat ≤ 40 →
      body out ((r + q.Bits.toNat : Nat) : Int) (k : Int) = some (.inl (wr out (q, e / 2 ^ r % 2 ^ q.Bits.toNat), (r : Int), (k : Int) + 1)))
    (hend : ∀ out r, body out r c.Places.length = some (.inr out)) (out : Vector (List Int) 16) (hP : Pre out (wc e c.Places) ver) : loop (t3 body) (out, ((sB c.Places : Nat) : Int), 0) = some (wrF out (wc e c.Places)) := by
  have key : ∀ (n k : Nat) (out : Vector (List Int) 16), k + n = c.Places.length → Pre out (wc e (c.Places.drop k)) ver → loop (t3 body) (out, ((sB (c.Places.drop k) : Nat) : Int), (k : Int)) = some (wrF out (wc e (c.Places.drop k))) := by
    intro n
    induction n with
    | zero =>
      intro k out hk _
      have : k = c.Places.length := by omega
      subst this
      rw [ZN, Zgz, hend, List.drop_length]; rfl
    | succ n ih =>
      intro k out hk hP
      obtain ⟨q, hq⟩ := ZU (xs := c.Places) (k := k) (by omega)
      rw [ZO hq] at hP ⊢
      rw [wc] at hP ⊢
      obtain ⟨p1, p2, p3⟩ := hP.pl _ List.mem_cons_self
      have hs : sB (c.Places.drop (k + 1)) + q.Bits.toNat ≤ 40 := by
        have e1 : sB c.Places = sB (c.Places.take k) + sB (c.Places.drop k) := by
          rw [← ZqA, List.take_append_drop]
        rw [ZO hq, ZjM] at e1
        omega
      have e2 : ((sB (q :: c.Places.drop (k + 1)) : Nat) : Int) = ((sB (c.Places.drop (k + 1)) + q.Bits.toNat : Nat) : Int) := by rw [ZjM, Nat.add_comm]
      have e3 : ((k : Nat) : Int) + 1 = ((k + 1 : Nat) : Int) := by push_cast; rfl
      rw [e2, ZN, Zgz, hstep out k _ q hq p1 hP.dat p3 hs, e3]
      exact ih (k + 1) _ (by omega) hP.step
  exact key c.Places.length 0 out (by omega) hP
theorem Zrb {r b : Nat} {q : api_Place} (hq : placeR q) (hb : q.Bits.toNat = b) (hr : r + b ≤ 40) : i64 (((r + b : Nat) : Int) - q.Bits) = (r : Int) := by
  obtain ⟨_, _, _, h, _⟩ := hq
  rw [ZX (by omega) (by omega)]; omega
theorem Zq0 {c : api_Cell} {e : Nat} {ver : Int} (h8 : c.Places.length ≤ 8) (hb : sB c.Places ≤ 40) (he : e < 2 ^ 40) (out : Vector (List Int) 16) (hP : Pre out (wc e c.Places) ver) : loop (t3 (Zap c (e : Int))) (out, ((sB c.Places : Nat) : Int), 0) = some (wrF out (wc e c.Places)) := by
  refine Zll h8 hb he (fun out k r q hq hp hl h0 hr => ?_) (fun out r => by simp [Zap]) out hP
  have hlt := Xh hq
  obtain ⟨row, s1, s2, s3, s4, s5, s6, s7, s8, s9⟩ := ZoK (e := e) (r := r) hp hl h0 (by omega) he
  simp only [Zap, hlt, decide_true, if_true, ZE hq, Option.bind_some, s1, s2, Zrb hp rfl hr, s3, s4, s5, s7, s8]
  rw [ZX (by omega) (by omega)]
end Go.Vx
