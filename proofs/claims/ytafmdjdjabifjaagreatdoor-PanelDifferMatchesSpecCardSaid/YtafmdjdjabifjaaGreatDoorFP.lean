/- A text of the proof: a verified executor of the program form, or the contracts of the functions that the law reaches. -/
import Derived.Test.YtafmdjdjabifjaaGreatDoorPA
import Derived.Test.YtafmdjdjabifjaaGreatDoorShT
set_option linter.all false
namespace Go.Vx
open Go Go.RowKit
def cloop {σ ρ : Type} (b : σ → Option (σ ⊕ ρ)) (s : σ) : Option ρ :=
  Nat.rec (motive := fun _ => σ → Option ρ) (fun _ => none) (fun _ ih s => match b s with | none => none | some (.inl s') => ih s' | some (.inr r) => some r) 1000000 s
def Le {α : Type} (a b : Option α) : Prop := ∀ r, a = some r → b = some r
theorem Le.refl {α : Type} (a : Option α) : Le a a := fun _ h => h
section
variable {α β γ δ ε ζ η θ ι κ σ ρ : Type}
theorem Le.bind {a b : Option α} {f g : α → Option β} (h : Le a b) (hf : ∀ x, Le (f x) (g x)) : Le (a.bind f) (b.bind g) := by
  intro r hr
  cases ha : a with
  | none => rw [ha] at hr; cases hr
  | some x => rw [ha] at hr; rw [h x ha]; exact hf x r hr
theorem Le.ite {c : Prop} [Decidable c] {a b a' b' : Option α} (h1 : Le a a') (h2 : Le b b') : Le (if c then a else b) (if c then a' else b') := by
  split
  · exact h1
  · exact h2
theorem Le.gd {g : Bool} {d : α} {a b : Option α} (h : Le a b) : Le (gd g d a) (gd g d b) := by
  cases g
  · exact fun r hr => hr
  · exact h
theorem Le.loop {b b' : σ → Option (σ ⊕ ρ)} {s : σ} (h : ∀ s, Le (b s) (b' s)) : Le (cloop b s) (loop b' s) := by
  have key : ∀ n s r, Nat.rec (motive := fun _ => σ → Option ρ) (fun _ => none) (fun _ ih s => match b s with | none => none | some (.inl s') => ih s' | some (.inr r) => some r) n s = some r → iter b' n s = some r := by
    intro n
    induction n with
    | zero => intro s r hr; cases hr
    | succ n ih =>
      intro s r hr
      simp only at hr
      cases hb : b s with
      | none => rw [hb] at hr; cases hr
      | some o =>
        rw [hb] at hr
        simp only [iter, h s o hb, Option.bind_some]
        cases o with
        | inl s' => exact ih s' r hr
        | inr r' => exact hr
  intro r hr
  exact loop_of (key 1000000 s r hr)
theorem Le.t0 {f g : Option κ} {p : Unit} (h : Le f g) : Le (t0 f p) (t0 g p) := h
theorem Le.t1 {f g : α → Option κ} {p : α} (h : ∀ a, Le (f a) (g a)) : Le (t1 f p) (t1 g p) := h _
theorem Le.t2 {f g : α → β → Option κ} {p : α × β} (h : ∀ a b, Le (f a b) (g a b)) : Le (t2 f p) (t2 g p) := h _ _
theorem Le.t3 {f g : α → β → γ → Option κ} {p : α × β × γ} (h : ∀ a b c, Le (f a b c) (g a b c)) : Le (t3 f p) (t3 g p) := h _ _ _
theorem Le.t4 {f g : α → β → γ → δ → Option κ} {p : α × β × γ × δ} (h : ∀ a b c d, Le (f a b c d) (g a b c d)) : Le (t4 f p) (t4 g p) := h _ _ _ _
theorem Le.t5 {f g : α → β → γ → δ → ε → Option κ} {p : α × β × γ × δ × ε} (h : ∀ a b c d e, Le (f a b c d e) (g a b c d e)) : Le (t5 f p) (t5 g p) := h _ _ _ _ _
theorem Le.t6 {f g : α → β → γ → δ → ε → ζ → Option κ} {p : α × β × γ × δ × ε × ζ} (h : ∀ a b c d e x, Le (f a b c d e x) (g a b c d e x)) : Le (t6 f p) (t6 g p) := h _ _ _ _ _ _
theorem Le.t7 {f g : α → β → γ → δ → ε → ζ → η → Option κ} {p : α × β × γ × δ × ε × ζ × η} (h : ∀ a b c d e x y, Le (f a b c d e x y) (g a b c d e x y)) : Le (t7 f p) (t7 g p) := h _ _ _ _ _ _ _
theorem Le.t8 {f g : α → β → γ → δ → ε → ζ → η → θ → Option κ} {p : α × β × γ × δ × ε × ζ × η × θ} (h : ∀ a b c d e x y z, Le (f a b c d e x y z) (g a b c d e x y z)) : Le (t8 f p) (t8 g p) := h _ _ _ _ _ _ _ _
theorem Le.elim {f f' : α → Option κ} {g g' : β → Option κ} {s : α ⊕ β} (h1 : ∀ a, Le (f a) (f' a)) (h2 : ∀ b, Le (g b) (g' b)) : Le (Sum.elim f g s) (Sum.elim f' g' s) := by
  cases s with
  | inl a => exact h1 a
  | inr b => exact h2 b
end
end Go.Vx

namespace Go.Vx
open Go Go.RowKit
set_option linter.unusedVariables false

def panel_within_c (n : Int) (low : Int) (high : Int) : Option Bool :=
  some ((decide (low ≤ n)) && (decide (n ≤ high)))
theorem le_panel_within (n : Int) (low : Int) (high : Int) : Le (panel_within_c n low high) (panel_within n low high) := by
  unfold panel_within_c panel_within
  repeat' (first | with_reducible exact Le.refl _ | with_reducible apply Le.bind | with_reducible apply Le.ite | with_reducible apply Le.gd | with_reducible apply Le.loop | with_reducible apply Le.t0 | with_reducible apply Le.t1 | with_reducible apply Le.t2 | with_reducible apply Le.t3 | with_reducible apply Le.t4 | with_reducible apply Le.t5 | with_reducible apply Le.t6 | with_reducible apply Le.t7 | with_reducible apply Le.t8 | with_reducible apply Le.elim | intro _)

def strings_trimRightByte_L1_c (c_ : Int) (s3 : Str) : Option ((Str) ⊕ (Str)) :=
  (gd ((decide (0 < (s3.length : Int))) == true) 0 (sidx s3 (i64 ((s3.length : Int) - 1)))).bind fun b =>
  if ((decide (0 < (s3.length : Int))) && (decide (b = c_))) = true then
  (slc s3 0 (i64 ((s3.length : Int) - 1))).bind fun s4 =>
  some (.inl s4)
  else
  some (.inr s3)
theorem le_strings_trimRightByte_L1 (c_ : Int) (s3 : Str) : Le (strings_trimRightByte_L1_c c_ s3) (strings_trimRightByte_L1 c_ s3) := by
  unfold strings_trimRightByte_L1_c strings_trimRightByte_L1
  repeat' (first | with_reducible exact Le.refl _ | with_reducible apply Le.bind | with_reducible apply Le.ite | with_reducible apply Le.gd | with_reducible apply Le.loop | with_reducible apply Le.t0 | with_reducible apply Le.t1 | with_reducible apply Le.t2 | with_reducible apply Le.t3 | with_reducible apply Le.t4 | with_reducible apply Le.t5 | with_reducible apply Le.t6 | with_reducible apply Le.t7 | with_reducible apply Le.t8 | with_reducible apply Le.elim | intro _)

def strings_trimRightByte_c (s : Str) (c_ : Int) : Option Str :=
  ((cloop (t1 (strings_trimRightByte_L1_c c_)) s) : Option ((Str))).bind (t1 fun (s2 : Str) =>
  some s2)
theorem le_strings_trimRightByte (s : Str) (c_ : Int) : Le (strings_trimRightByte_c s c_) (strings_trimRightByte s c_) := by
  unfold strings_trimRightByte_c strings_trimRightByte
  repeat' (first | with_reducible exact Le.refl _ | with_reducible apply Le.bind | with_reducible apply Le.ite | with_reducible apply Le.gd | with_reducible apply Le.loop | with_reducible apply Le.t0 | with_reducible apply Le.t1 | with_reducible apply Le.t2 | with_reducible apply Le.t3 | with_reducible apply Le.t4 | with_reducible apply Le.t5 | with_reducible apply Le.t6 | with_reducible apply Le.t7 | with_reducible apply Le.t8 | with_reducible apply Le.elim | with_reducible apply le_strings_trimRightByte_L1 | intro _)

def strings_trimLeftByte_L1_c (c_ : Int) (s3 : Str) : Option ((Str) ⊕ (Str)) :=
  (gd ((decide (0 < (s3.length : Int))) == true) 0 (sidx s3 0)).bind fun b =>
  if ((decide (0 < (s3.length : Int))) && (decide (b = c_))) = true then
  (slc s3 1 (s3.length : Int)).bind fun s4 =>
  some (.inl s4)
  else
  some (.inr s3)
theorem le_strings_trimLeftByte_L1 (c_ : Int) (s3 : Str) : Le (strings_trimLeftByte_L1_c c_ s3) (strings_trimLeftByte_L1 c_ s3) := by
  unfold strings_trimLeftByte_L1_c strings_trimLeftByte_L1
  repeat' (first | with_reducible exact Le.refl _ | with_reducible apply Le.bind | with_reducible apply Le.ite | with_reducible apply Le.gd | with_reducible apply Le.loop | with_reducible apply Le.t0 | with_reducible apply Le.t1 | with_reducible apply Le.t2 | with_reducible apply Le.t3 | with_reducible apply Le.t4 | with_reducible apply Le.t5 | with_reducible apply Le.t6 | with_reducible apply Le.t7 | with_reducible apply Le.t8 | with_reducible apply Le.elim | intro _)

def strings_trimLeftByte_c (s : Str) (c_ : Int) : Option Str :=
  ((cloop (t1 (strings_trimLeftByte_L1_c c_)) s) : Option ((Str))).bind (t1 fun (s2 : Str) =>
  some s2)
theorem le_strings_trimLeftByte (s : Str) (c_ : Int) : Le (strings_trimLeftByte_c s c_) (strings_trimLeftByte s c_) := by
  unfold strings_trimLeftByte_c strings_trimLeftByte
  repeat' (first | with_reducible exact Le.refl _ | with_reducible apply Le.bind | with_reducible apply Le.ite | with_reducible apply Le.gd | with_reducible apply Le.loop | with_reducible apply Le.t0 | with_reducible apply Le.t1 | with_reducible apply Le.t2 | with_reducible apply Le.t3 | with_reducible apply Le.t4 | with_reducible apply Le.t5 | with_reducible apply Le.t6 | with_reducible apply Le.t7 | with_reducible apply Le.t8 | with_reducible apply Le.elim | with_reducible apply le_strings_trimLeftByte_L1 | intro _)

def strings_makeASCIISet_L1_c (chars : Str) (as_2 : Vector Bool 256) (i : Int) : Option (((Vector Bool 256) × Int) ⊕ ((Vector Bool 256) × Bool) ⊕ ((Vector Bool 256))) :=
  if (decide (i < (chars.length : Int))) = true then
  (sidx chars i).bind fun b =>
  if (decide (128 ≤ b)) = true then
  some (.inr (.inl (as_2, false)))
  else
  (vidx as_2 b).bind fun x =>
  some (.inl ((vset as_2 b true), (i64 (i + 1))))
  else
  some (.inr (.inr as_2))
theorem le_strings_makeASCIISet_L1 (chars : Str) (as_2 : Vector Bool 256) (i : Int) : Le (strings_makeASCIISet_L1_c chars as_2 i) (strings_makeASCIISet_L1 chars as_2 i) := by
  unfold strings_makeASCIISet_L1_c strings_makeASCIISet_L1
  repeat' (first | with_reducible exact Le.refl _ | with_reducible apply Le.bind | with_reducible apply Le.ite | with_reducible apply Le.gd | with_reducible apply Le.loop | with_reducible apply Le.t0 | with_reducible apply Le.t1 | with_reducible apply Le.t2 | with_reducible apply Le.t3 | with_reducible apply Le.t4 | with_reducible apply Le.t5 | with_reducible apply Le.t6 | with_reducible apply Le.t7 | with_reducible apply Le.t8 | with_reducible apply Le.elim | intro _)

def strings_makeASCIISet_c (chars : Str) : Option ((Vector Bool 256) × Bool) :=
  ((cloop (t2 (strings_makeASCIISet_L1_c chars)) ((Vector.replicate 256 false), 0)) : Option (((Vector Bool 256) × Bool) ⊕ ((Vector Bool 256)))).bind (Sum.elim (fun v => some v) (t1 fun (as_ : Vector Bool 256) =>
  some (as_, true)))
theorem le_strings_makeASCIISet (chars : Str) : Le (strings_makeASCIISet_c chars) (strings_makeASCIISet chars) := by
  unfold strings_makeASCIISet_c strings_makeASCIISet
  repeat' (first | with_reducible exact Le.refl _ | with_reducible apply Le.bind | with_reducible apply Le.ite | with_reducible apply Le.gd | with_reducible apply Le.loop | with_reducible apply Le.t0 | with_reducible apply Le.t1 | with_reducible apply Le.t2 | with_reducible apply Le.t3 | with_reducible apply Le.t4 | with_reducible apply Le.t5 | with_reducible apply Le.t6 | with_reducible apply Le.t7 | with_reducible apply Le.t8 | with_reducible apply Le.elim | with_reducible apply le_strings_makeASCIISet_L1 | intro _)

def strings_asciiSet_contains_c (as_ : Vector Bool 256) (c_ : Int) : Option Bool :=
  (vidx as_ c_).bind fun x =>
  some x
theorem le_strings_asciiSet_contains (as_ : Vector Bool 256) (c_ : Int) : Le (strings_asciiSet_contains_c as_ c_) (strings_asciiSet_contains as_ c_) := by
  unfold strings_asciiSet_contains_c strings_asciiSet_contains
  repeat' (first | with_reducible exact Le.refl _ | with_reducible apply Le.bind | with_reducible apply Le.ite | with_reducible apply Le.gd | with_reducible apply Le.loop | with_reducible apply Le.t0 | with_reducible apply Le.t1 | with_reducible apply Le.t2 | with_reducible apply Le.t3 | with_reducible apply Le.t4 | with_reducible apply Le.t5 | with_reducible apply Le.t6 | with_reducible apply Le.t7 | with_reducible apply Le.t8 | with_reducible apply Le.elim | intro _)

def strings_trimRightASCII_L1_c (as_ : Vector Bool 256) (s3 : Str) : Option ((Str) ⊕ (Str)) :=
  if (decide (0 < (s3.length : Int))) = true then
  (sidx s3 (i64 ((s3.length : Int) - 1))).bind fun b =>
  (strings_asciiSet_contains_c as_ b).bind fun y =>
  if (!y) = true then
  some (.inr s3)
  else
  (slc s3 0 (i64 ((s3.length : Int) - 1))).bind fun s4 =>
  some (.inl s4)
  else
  some (.inr s3)
theorem le_strings_trimRightASCII_L1 (as_ : Vector Bool 256) (s3 : Str) : Le (strings_trimRightASCII_L1_c as_ s3) (strings_trimRightASCII_L1 as_ s3) := by
  unfold strings_trimRightASCII_L1_c strings_trimRightASCII_L1
  repeat' (first | with_reducible exact Le.refl _ | with_reducible apply Le.bind | with_reducible apply Le.ite | with_reducible apply Le.gd | with_reducible apply Le.loop | with_reducible apply Le.t0 | with_reducible apply Le.t1 | with_reducible apply Le.t2 | with_reducible apply Le.t3 | with_reducible apply Le.t4 | with_reducible apply Le.t5 | with_reducible apply Le.t6 | with_reducible apply Le.t7 | with_reducible apply Le.t8 | with_reducible apply Le.elim | with_reducible apply le_strings_asciiSet_contains | intro _)

def strings_trimRightASCII_c (s : Str) (as_ : Vector Bool 256) : Option Str :=
  ((cloop (t1 (strings_trimRightASCII_L1_c as_)) s) : Option ((Str))).bind (t1 fun (s2 : Str) =>
  some s2)
theorem le_strings_trimRightASCII (s : Str) (as_ : Vector Bool 256) : Le (strings_trimRightASCII_c s as_) (strings_trimRightASCII s as_) := by
  unfold strings_trimRightASCII_c strings_trimRightASCII
  repeat' (first | with_reducible exact Le.refl _ | with_reducible apply Le.bind | with_reducible apply Le.ite | with_reducible apply Le.gd | with_reducible apply Le.loop | with_reducible apply Le.t0 | with_reducible apply Le.t1 | with_reducible apply Le.t2 | with_reducible apply Le.t3 | with_reducible apply Le.t4 | with_reducible apply Le.t5 | with_reducible apply Le.t6 | with_reducible apply Le.t7 | with_reducible apply Le.t8 | with_reducible apply Le.elim | with_reducible apply le_strings_trimRightASCII_L1 | intro _)

def strings_trimLeftASCII_L1_c (as_ : Vector Bool 256) (s3 : Str) : Option ((Str) ⊕ (Str)) :=
  if (decide (0 < (s3.length : Int))) = true then
  (sidx s3 0).bind fun b =>
  (strings_asciiSet_contains_c as_ b).bind fun y =>
  if (!y) = true then
  some (.inr s3)
  else
  (slc s3 1 (s3.length : Int)).bind fun s4 =>
  some (.inl s4)
  else
  some (.inr s3)
theorem le_strings_trimLeftASCII_L1 (as_ : Vector Bool 256) (s3 : Str) : Le (strings_trimLeftASCII_L1_c as_ s3) (strings_trimLeftASCII_L1 as_ s3) := by
  unfold strings_trimLeftASCII_L1_c strings_trimLeftASCII_L1
  repeat' (first | with_reducible exact Le.refl _ | with_reducible apply Le.bind | with_reducible apply Le.ite | with_reducible apply Le.gd | with_reducible apply Le.loop | with_reducible apply Le.t0 | with_reducible apply Le.t1 | with_reducible apply Le.t2 | with_reducible apply Le.t3 | with_reducible apply Le.t4 | with_reducible apply Le.t5 | with_reducible apply Le.t6 | with_reducible apply Le.t7 | with_reducible apply Le.t8 | with_reducible apply Le.elim | with_reducible apply le_strings_asciiSet_contains | intro _)

def strings_trimLeftASCII_c (s : Str) (as_ : Vector Bool 256) : Option Str :=
  ((cloop (t1 (strings_trimLeftASCII_L1_c as_)) s) : Option ((Str))).bind (t1 fun (s2 : Str) =>
  some s2)
theorem le_strings_trimLeftASCII (s : Str) (as_ : Vector Bool 256) : Le (strings_trimLeftASCII_c s as_) (strings_trimLeftASCII s as_) := by
  unfold strings_trimLeftASCII_c strings_trimLeftASCII
  repeat' (first | with_reducible exact Le.refl _ | with_reducible apply Le.bind | with_reducible apply Le.ite | with_reducible apply Le.gd | with_reducible apply Le.loop | with_reducible apply Le.t0 | with_reducible apply Le.t1 | with_reducible apply Le.t2 | with_reducible apply Le.t3 | with_reducible apply Le.t4 | with_reducible apply Le.t5 | with_reducible apply Le.t6 | with_reducible apply Le.t7 | with_reducible apply Le.t8 | with_reducible apply Le.elim | with_reducible apply le_strings_trimLeftASCII_L1 | intro _)

def utf8_RuneStart_c (b : Int) : Option Bool :=
  some (!decide ((band .u8 b 192) = 128))
theorem le_utf8_RuneStart (b : Int) : Le (utf8_RuneStart_c b) (utf8_RuneStart b) := by
  unfold utf8_RuneStart_c utf8_RuneStart
  repeat' (first | with_reducible exact Le.refl _ | with_reducible apply Le.bind | with_reducible apply Le.ite | with_reducible apply Le.gd | with_reducible apply Le.loop | with_reducible apply Le.t0 | with_reducible apply Le.t1 | with_reducible apply Le.t2 | with_reducible apply Le.t3 | with_reducible apply Le.t4 | with_reducible apply Le.t5 | with_reducible apply Le.t6 | with_reducible apply Le.t7 | with_reducible apply Le.t8 | with_reducible apply Le.elim | intro _)

def utf8_DecodeLastRuneInString_L1_c (s : Str) (start2 : Int) : Option ((Int) ⊕ (Int)) :=
  if (decide ((max (i64 ((s.length : Int) - 4)) 0) ≤ start2)) = true then
  (sidx s start2).bind fun b2 =>
  (utf8_RuneStart_c b2).bind fun y =>
  if y = true then
  some (.inr start2)
  else
  some (.inl (i64 (start2 - 1)))
  else
  some (.inr start2)
theorem le_utf8_DecodeLastRuneInString_L1 (s : Str) (start2 : Int) : Le (utf8_DecodeLastRuneInString_L1_c s start2) (utf8_DecodeLastRuneInString_L1 s start2) := by
  unfold utf8_DecodeLastRuneInString_L1_c utf8_DecodeLastRuneInString_L1
  repeat' (first | with_reducible exact Le.refl _ | with_reducible apply Le.bind | with_reducible apply Le.ite | with_reducible apply Le.gd | with_reducible apply Le.loop | with_reducible apply Le.t0 | with_reducible apply Le.t1 | with_reducible apply Le.t2 | with_reducible apply Le.t3 | with_reducible apply Le.t4 | with_reducible apply Le.t5 | with_reducible apply Le.t6 | with_reducible apply Le.t7 | with_reducible apply Le.t8 | with_reducible apply Le.elim | with_reducible apply le_utf8_RuneStart | intro _)

def utf8_decodeRuneInStringSlow_c (s : Str) : Option (Int × Int) :=
  if (decide ((s.length : Int) < 1)) = true then
  some (65533, 0)
  else
  (sidx s 0).bind fun b =>
  none
theorem le_utf8_decodeRuneInStringSlow (s : Str) : Le (utf8_decodeRuneInStringSlow_c s) (utf8_decodeRuneInStringSlow s) := by
  unfold utf8_decodeRuneInStringSlow_c utf8_decodeRuneInStringSlow
  repeat' (first | with_reducible exact Le.refl _ | with_reducible apply Le.bind | with_reducible apply Le.ite | with_reducible apply Le.gd | with_reducible apply Le.loop | with_reducible apply Le.t0 | with_reducible apply Le.t1 | with_reducible apply Le.t2 | with_reducible apply Le.t3 | with_reducible apply Le.t4 | with_reducible apply Le.t5 | with_reducible apply Le.t6 | with_reducible apply Le.t7 | with_reducible apply Le.t8 | with_reducible apply Le.elim | intro _)

def utf8_DecodeRuneInString_c (s : Str) : Option (Int × Int) :=
  (gd ((!decide (s = [])) == true) 0 (sidx s 0)).bind fun b =>
  if ((!decide (s = [])) && (decide (b < 128))) = true then
  (sidx s 0).bind fun b2 =>
  some ((i32 b2), 1)
  else
  (utf8_decodeRuneInStringSlow_c s).bind fun y =>
  some (y.1, y.2)
theorem le_utf8_DecodeRuneInString (s : Str) : Le (utf8_DecodeRuneInString_c s) (utf8_DecodeRuneInString s) := by
  unfold utf8_DecodeRuneInString_c utf8_DecodeRuneInString
  repeat' (first | with_reducible exact Le.refl _ | with_reducible apply Le.bind | with_reducible apply Le.ite | with_reducible apply Le.gd | with_reducible apply Le.loop | with_reducible apply Le.t0 | with_reducible apply Le.t1 | with_reducible apply Le.t2 | with_reducible apply Le.t3 | with_reducible apply Le.t4 | with_reducible apply Le.t5 | with_reducible apply Le.t6 | with_reducible apply Le.t7 | with_reducible apply Le.t8 | with_reducible apply Le.elim | with_reducible apply le_utf8_decodeRuneInStringSlow | intro _)

def utf8_DecodeLastRuneInString_c (s : Str) : Option (Int × Int) :=
  if (decide ((s.length : Int) = 0)) = true then
  some (65533, 0)
  else
  (sidx s (i64 ((s.length : Int) - 1))).bind fun b =>
  if (decide ((i32 b) < 128)) = true then
  some ((i32 b), 1)
  else
  ((cloop (t1 (utf8_DecodeLastRuneInString_L1_c s)) (i64 ((i64 ((s.length : Int) - 1)) - 1))) : Option ((Int))).bind (t1 fun (start : Int) =>
  ((if (decide (start < 0)) = true then
  some 0
  else
  some start) : Option ((Int))).bind (t1 fun (start3 : Int) =>
  (slc s start3 (s.length : Int)).bind fun s2 =>
  (utf8_DecodeRuneInString_c s2).bind fun y2 =>
  if (!decide ((i64 (start3 + y2.2)) = (s.length : Int))) = true then
  some (65533, 1)
  else
  some (y2.1, y2.2)))
theorem le_utf8_DecodeLastRuneInString (s : Str) : Le (utf8_DecodeLastRuneInString_c s) (utf8_DecodeLastRuneInString s) := by
  unfold utf8_DecodeLastRuneInString_c utf8_DecodeLastRuneInString
  repeat' (first | with_reducible exact Le.refl _ | with_reducible apply Le.bind | with_reducible apply Le.ite | with_reducible apply Le.gd | with_reducible apply Le.loop | with_reducible apply Le.t0 | with_reducible apply Le.t1 | with_reducible apply Le.t2 | with_reducible apply Le.t3 | with_reducible apply Le.t4 | with_reducible apply Le.t5 | with_reducible apply Le.t6 | with_reducible apply Le.t7 | with_reducible apply Le.t8 | with_reducible apply Le.elim | with_reducible apply le_utf8_DecodeLastRuneInString_L1 | with_reducible apply le_utf8_DecodeRuneInString | intro _)

def strings_ContainsRune_c (s : Str) (r_ : Int) : Option Bool :=
  none
theorem le_strings_ContainsRune (s : Str) (r_ : Int) : Le (strings_ContainsRune_c s r_) (strings_ContainsRune s r_) := by
  unfold strings_ContainsRune_c strings_ContainsRune
  repeat' (first | with_reducible exact Le.refl _ | with_reducible apply Le.bind | with_reducible apply Le.ite | with_reducible apply Le.gd | with_reducible apply Le.loop | with_reducible apply Le.t0 | with_reducible apply Le.t1 | with_reducible apply Le.t2 | with_reducible apply Le.t3 | with_reducible apply Le.t4 | with_reducible apply Le.t5 | with_reducible apply Le.t6 | with_reducible apply Le.t7 | with_reducible apply Le.t8 | with_reducible apply Le.elim | intro _)

def strings_trimRightUnicode_L1_c (cutset : Str) (s3 : Str) : Option ((Str) ⊕ (Str)) :=
  if (decide (0 < (s3.length : Int))) = true then
  (sidx s3 (i64 ((s3.length : Int) - 1))).bind fun b =>
  ((if (decide (128 ≤ (i32 b))) = true then
  (utf8_DecodeLastRuneInString_c s3).bind fun y =>
  some (y.1, y.2)
  else
  some ((i32 b), 1)) : Option ((Int × Int))).bind (t2 fun (r_ : Int) (n : Int) =>
  (strings_ContainsRune_c cutset r_).bind fun y2 =>
  if (!y2) = true then
  some (.inr s3)
  else
  (slc s3 0 (i64 ((s3.length : Int) - n))).bind fun s4 =>
  some (.inl s4))
  else
  some (.inr s3)
theorem le_strings_trimRightUnicode_L1 (cutset : Str) (s3 : Str) : Le (strings_trimRightUnicode_L1_c cutset s3) (strings_trimRightUnicode_L1 cutset s3) := by
  unfold strings_trimRightUnicode_L1_c strings_trimRightUnicode_L1
  repeat' (first | with_reducible exact Le.refl _ | with_reducible apply Le.bind | with_reducible apply Le.ite | with_reducible apply Le.gd | with_reducible apply Le.loop | with_reducible apply Le.t0 | with_reducible apply Le.t1 | with_reducible apply Le.t2 | with_reducible apply Le.t3 | with_reducible apply Le.t4 | with_reducible apply Le.t5 | with_reducible apply Le.t6 | with_reducible apply Le.t7 | with_reducible apply Le.t8 | with_reducible apply Le.elim | with_reducible apply le_utf8_DecodeLastRuneInString | with_reducible apply le_strings_ContainsRune | intro _)

def strings_trimRightUnicode_c (s : Str) (cutset : Str) : Option Str :=
  ((cloop (t1 (strings_trimRightUnicode_L1_c cutset)) s) : Option ((Str))).bind (t1 fun (s2 : Str) =>
  some s2)
theorem le_strings_trimRightUnicode (s : Str) (cutset : Str) : Le (strings_trimRightUnicode_c s cutset) (strings_trimRightUnicode s cutset) := by
  unfold strings_trimRightUnicode_c strings_trimRightUnicode
  repeat' (first | with_reducible exact Le.refl _ | with_reducible apply Le.bind | with_reducible apply Le.ite | with_reducible apply Le.gd | with_reducible apply Le.loop | with_reducible apply Le.t0 | with_reducible apply Le.t1 | with_reducible apply Le.t2 | with_reducible apply Le.t3 | with_reducible apply Le.t4 | with_reducible apply Le.t5 | with_reducible apply Le.t6 | with_reducible apply Le.t7 | with_reducible apply Le.t8 | with_reducible apply Le.elim | with_reducible apply le_strings_trimRightUnicode_L1 | intro _)

def strings_trimLeftUnicode_L1_c (cutset : Str) (s3 : Str) : Option ((Str) ⊕ (Str)) :=
  if (decide (0 < (s3.length : Int))) = true then
  (utf8_DecodeRuneInString_c s3).bind fun y =>
  (strings_ContainsRune_c cutset y.1).bind fun y2 =>
  if (!y2) = true then
  some (.inr s3)
  else
  (slc s3 y.2 (s3.length : Int)).bind fun s4 =>
  some (.inl s4)
  else
  some (.inr s3)
theorem le_strings_trimLeftUnicode_L1 (cutset : Str) (s3 : Str) : Le (strings_trimLeftUnicode_L1_c cutset s3) (strings_trimLeftUnicode_L1 cutset s3) := by
  unfold strings_trimLeftUnicode_L1_c strings_trimLeftUnicode_L1
  repeat' (first | with_reducible exact Le.refl _ | with_reducible apply Le.bind | with_reducible apply Le.ite | with_reducible apply Le.gd | with_reducible apply Le.loop | with_reducible apply Le.t0 | with_reducible apply Le.t1 | with_reducible apply Le.t2 | with_reducible apply Le.t3 | with_reducible apply Le.t4 | with_reducible apply Le.t5 | with_reducible apply Le.t6 | with_reducible apply Le.t7 | with_reducible apply Le.t8 | with_reducible apply Le.elim | with_reducible apply le_utf8_DecodeRuneInString | with_reducible apply le_strings_ContainsRune | intro _)

def strings_trimLeftUnicode_c (s : Str) (cutset : Str) : Option Str :=
  ((cloop (t1 (strings_trimLeftUnicode_L1_c cutset)) s) : Option ((Str))).bind (t1 fun (s2 : Str) =>
  some s2)
theorem le_strings_trimLeftUnicode (s : Str) (cutset : Str) : Le (strings_trimLeftUnicode_c s cutset) (strings_trimLeftUnicode s cutset) := by
  unfold strings_trimLeftUnicode_c strings_trimLeftUnicode
  repeat' (first | with_reducible exact Le.refl _ | with_reducible apply Le.bind | with_reducible apply Le.ite | with_reducible apply Le.gd | with_reducible apply Le.loop | with_reducible apply Le.t0 | with_reducible apply Le.t1 | with_reducible apply Le.t2 | with_reducible apply Le.t3 | with_reducible apply Le.t4 | with_reducible apply Le.t5 | with_reducible apply Le.t6 | with_reducible apply Le.t7 | with_reducible apply Le.t8 | with_reducible apply Le.elim | with_reducible apply le_strings_trimLeftUnicode_L1 | intro _)

def strings_Trim_c (s : Str) (cutset : Str) : Option Str :=
  if ((decide (s = [])) || (decide (cutset = []))) = true then
  some s
  else
  (gd ((decide ((cutset.length : Int) = 1)) == true) 0 (sidx cutset 0)).bind fun b =>
  if ((decide ((cutset.length : Int) = 1)) && (decide (b < 128))) = true then
  (sidx cutset 0).bind fun b2 =>
  (strings_trimRightByte_c s b2).bind fun y =>
  (sidx cutset 0).bind fun b3 =>
  (strings_trimLeftByte_c y b3).bind fun y2 =>
  some y2
  else
  (strings_makeASCIISet_c cutset).bind fun y3 =>
  if y3.2 = true then
  (strings_trimRightASCII_c s y3.1).bind fun y4 =>
  (strings_trimLeftASCII_c y4 y3.1).bind fun y5 =>
  some y5
  else
  (strings_trimRightUnicode_c s cutset).bind fun y6 =>
  (strings_trimLeftUnicode_c y6 cutset).bind fun y7 =>
  some y7
theorem le_strings_Trim (s : Str) (cutset : Str) : Le (strings_Trim_c s cutset) (strings_Trim s cutset) := by
  unfold strings_Trim_c strings_Trim
  repeat' (first | with_reducible exact Le.refl _ | with_reducible apply Le.bind | with_reducible apply Le.ite | with_reducible apply Le.gd | with_reducible apply Le.loop | with_reducible apply Le.t0 | with_reducible apply Le.t1 | with_reducible apply Le.t2 | with_reducible apply Le.t3 | with_reducible apply Le.t4 | with_reducible apply Le.t5 | with_reducible apply Le.t6 | with_reducible apply Le.t7 | with_reducible apply Le.t8 | with_reducible apply Le.elim | with_reducible apply le_strings_trimRightByte | with_reducible apply le_strings_trimLeftByte | with_reducible apply le_strings_makeASCIISet | with_reducible apply le_strings_trimRightASCII | with_reducible apply le_strings_trimLeftASCII | with_reducible apply le_strings_trimRightUnicode | with_reducible apply le_strings_trimLeftUnicode | intro _)

def panel_isName_c (s : Str) : Option Bool :=
  (panel_within_c (s.length : Int) 1 30).bind fun y =>
  (gd (y == true) [] (strings_Trim_c s [97, 98, 99, 100, 101, 102, 103, 104, 105, 106, 107, 108, 109, 110, 111, 112, 113, 114, 115, 116, 117, 118, 119, 120, 121, 122, 48, 49, 50, 51, 52, 53, 54, 55, 56, 57, 45])).bind fun y2 =>
  some (y && (decide (y2 = [])))
theorem le_panel_isName (s : Str) : Le (panel_isName_c s) (panel_isName s) := by
  unfold panel_isName_c panel_isName
  repeat' (first | with_reducible exact Le.refl _ | with_reducible apply Le.bind | with_reducible apply Le.ite | with_reducible apply Le.gd | with_reducible apply Le.loop | with_reducible apply Le.t0 | with_reducible apply Le.t1 | with_reducible apply Le.t2 | with_reducible apply Le.t3 | with_reducible apply Le.t4 | with_reducible apply Le.t5 | with_reducible apply Le.t6 | with_reducible apply Le.t7 | with_reducible apply Le.t8 | with_reducible apply Le.elim | with_reducible apply le_panel_within | with_reducible apply le_strings_Trim | intro _)

def slices_Index_int_int_L1_c (s : List Int) (v : Int) (i : Int) : Option ((Int) ⊕ (Int) ⊕ (Unit)) :=
  if (decide (i < (s.length : Int))) = true then
  (idx s i).bind fun x =>
  if (decide (v = x)) = true then
  some (.inr (.inl i))
  else
  some (.inl (i64 (i + 1)))
  else
  some (.inr (.inr ()))
theorem le_slices_Index_int_int_L1 (s : List Int) (v : Int) (i : Int) : Le (slices_Index_int_int_L1_c s v i) (slices_Index_int_int_L1 s v i) := by
  unfold slices_Index_int_int_L1_c slices_Index_int_int_L1
  repeat' (first | with_reducible exact Le.refl _ | with_reducible apply Le.bind | with_reducible apply Le.ite | with_reducible apply Le.gd | with_reducible apply Le.loop | with_reducible apply Le.t0 | with_reducible apply Le.t1 | with_reducible apply Le.t2 | with_reducible apply Le.t3 | with_reducible apply Le.t4 | with_reducible apply Le.t5 | with_reducible apply Le.t6 | with_reducible apply Le.t7 | with_reducible apply Le.t8 | with_reducible apply Le.elim | intro _)

def slices_Index_int_int_c (s : List Int) (v : Int) : Option Int :=
  ((cloop (t1 (slices_Index_int_int_L1_c s v)) 0) : Option ((Int) ⊕ (Unit))).bind (Sum.elim (fun v => some v) (t0 (some (-1))))
theorem le_slices_Index_int_int (s : List Int) (v : Int) : Le (slices_Index_int_int_c s v) (slices_Index_int_int s v) := by
  unfold slices_Index_int_int_c slices_Index_int_int
  repeat' (first | with_reducible exact Le.refl _ | with_reducible apply Le.bind | with_reducible apply Le.ite | with_reducible apply Le.gd | with_reducible apply Le.loop | with_reducible apply Le.t0 | with_reducible apply Le.t1 | with_reducible apply Le.t2 | with_reducible apply Le.t3 | with_reducible apply Le.t4 | with_reducible apply Le.t5 | with_reducible apply Le.t6 | with_reducible apply Le.t7 | with_reducible apply Le.t8 | with_reducible apply Le.elim | with_reducible apply le_slices_Index_int_int_L1 | intro _)

def slices_Contains_int_int_c (s : List Int) (v : Int) : Option Bool :=
  (slices_Index_int_int_c s v).bind fun y =>
  some (decide (0 ≤ y))
theorem le_slices_Contains_int_int (s : List Int) (v : Int) : Le (slices_Contains_int_int_c s v) (slices_Contains_int_int s v) := by
  unfold slices_Contains_int_int_c slices_Contains_int_int
  repeat' (first | with_reducible exact Le.refl _ | with_reducible apply Le.bind | with_reducible apply Le.ite | with_reducible apply Le.gd | with_reducible apply Le.loop | with_reducible apply Le.t0 | with_reducible apply Le.t1 | with_reducible apply Le.t2 | with_reducible apply Le.t3 | with_reducible apply Le.t4 | with_reducible apply Le.t5 | with_reducible apply Le.t6 | with_reducible apply Le.t7 | with_reducible apply Le.t8 | with_reducible apply Le.elim | with_reducible apply le_slices_Index_int_int | intro _)

def panel_unused_1_c (l : List Int) (c0 : api_Instrument) : Option Bool :=
  (slices_Contains_int_int_c l c0.Kind).bind fun y =>
  some y
theorem le_panel_unused_1 (l : List Int) (c0 : api_Instrument) : Le (panel_unused_1_c l c0) (panel_unused_1 l c0) := by
  unfold panel_unused_1_c panel_unused_1
  repeat' (first | with_reducible exact Le.refl _ | with_reducible apply Le.bind | with_reducible apply Le.ite | with_reducible apply Le.gd | with_reducible apply Le.loop | with_reducible apply Le.t0 | with_reducible apply Le.t1 | with_reducible apply Le.t2 | with_reducible apply Le.t3 | with_reducible apply Le.t4 | with_reducible apply Le.t5 | with_reducible apply Le.t6 | with_reducible apply Le.t7 | with_reducible apply Le.t8 | with_reducible apply Le.elim | with_reducible apply le_slices_Contains_int_int | intro _)

def panel_unused_c (i : api_Instrument) : Option Bool :=
  (gd ((!decide (i.Places = 0)) == true) false (panel_unused_1_c ([1, 4, 6] : List Int) i)).bind fun y =>
  (gd ((((!decide (i.Places = 0)) && (!y)) == false) && (((((!decide (i.Low = 0)) || (!decide (i.High = 0))) || (!decide (i.Steps = 0))) || (decide (0 < (i.Zones.length : Int)))) == true)) false (panel_unused_1_c ([2] : List Int) i)).bind fun y2 =>
  (gd (((((!decide (i.Places = 0)) && (!y)) || (((((!decide (i.Low = 0)) || (!decide (i.High = 0))) || (!decide (i.Steps = 0))) || (decide (0 < (i.Zones.length : Int)))) && (!y2))) == false) && (((!decide (i.Op = 0)) || (!decide (i.N = 0))) == true)) false (panel_unused_1_c ([3, 5] : List Int) i)).bind fun y3 =>
  (gd ((((((!decide (i.Places = 0)) && (!y)) || (((((!decide (i.Low = 0)) || (!decide (i.High = 0))) || (!decide (i.Steps = 0))) || (decide (0 < (i.Zones.length : Int)))) && (!y2))) || (((!decide (i.Op = 0)) || (!decide (i.N = 0))) && (!y3))) == false) && (i.Latch == true)) false (panel_unused_1_c ([3] : List Int) i)).bind fun y4 =>
  (gd (((((((!decide (i.Places = 0)) && (!y)) || (((((!decide (i.Low = 0)) || (!decide (i.High = 0))) || (!decide (i.Steps = 0))) || (decide (0 < (i.Zones.length : Int)))) && (!y2))) || (((!decide (i.Op = 0)) || (!decide (i.N = 0))) && (!y3))) || (i.Latch && (!y4))) == false) && ((!decide (i.Size = 0)) == true)) false (panel_unused_1_c ([6] : List Int) i)).bind fun y5 =>
  some ((((((!decide (i.Places = 0)) && (!y)) || (((((!decide (i.Low = 0)) || (!decide (i.High = 0))) || (!decide (i.Steps = 0))) || (decide (0 < (i.Zones.length : Int)))) && (!y2))) || (((!decide (i.Op = 0)) || (!decide (i.N = 0))) && (!y3))) || (i.Latch && (!y4))) || ((!decide (i.Size = 0)) && (!y5)))
theorem le_panel_unused (i : api_Instrument) : Le (panel_unused_c i) (panel_unused i) := by
  unfold panel_unused_c panel_unused
  repeat' (first | with_reducible exact Le.refl _ | with_reducible apply Le.bind | with_reducible apply Le.ite | with_reducible apply Le.gd | with_reducible apply Le.loop | with_reducible apply Le.t0 | with_reducible apply Le.t1 | with_reducible apply Le.t2 | with_reducible apply Le.t3 | with_reducible apply Le.t4 | with_reducible apply Le.t5 | with_reducible apply Le.t6 | with_reducible apply Le.t7 | with_reducible apply Le.t8 | with_reducible apply Le.elim | with_reducible apply le_panel_unused_1 | intro _)

def panel_number_c (n : Int) : Option Bool :=
  (panel_within_c n (-1125899906842624) 1125899906842624).bind fun y =>
  some y
theorem le_panel_number (n : Int) : Le (panel_number_c n) (panel_number n) := by
  unfold panel_number_c panel_number
  repeat' (first | with_reducible exact Le.refl _ | with_reducible apply Le.bind | with_reducible apply Le.ite | with_reducible apply Le.gd | with_reducible apply Le.loop | with_reducible apply Le.t0 | with_reducible apply Le.t1 | with_reducible apply Le.t2 | with_reducible apply Le.t3 | with_reducible apply Le.t4 | with_reducible apply Le.t5 | with_reducible apply Le.t6 | with_reducible apply Le.t7 | with_reducible apply Le.t8 | with_reducible apply Le.elim | with_reducible apply le_panel_within | intro _)

def panel_checkDial_L1_c (i : api_Instrument) (i2 : Int) : Option ((Int) ⊕ (Int) ⊕ (Unit)) :=
  if (decide (i2 < (i.Zones.length : Int))) = true then
  (idx i.Zones i2).bind fun x =>
  (panel_isName_c x.Name).bind fun y4 =>
  if (!y4) = true then
  some (.inr (.inl 8))
  else
  if (decide (x.To < x.From)) = true then
  some (.inr (.inl 9))
  else
  (gd ((decide (0 < i2)) == true) (api_Zone.mk 0 0 []) (idx i.Zones (i64 (i2 - 1)))).bind fun x2 =>
  if ((decide (0 < i2)) && (decide (x.From ≤ x2.To))) = true then
  some (.inr (.inl 10))
  else
  some (.inl (i64 (i2 + 1)))
  else
  some (.inr (.inr ()))
theorem le_panel_checkDial_L1 (i : api_Instrument) (i2 : Int) : Le (panel_checkDial_L1_c i i2) (panel_checkDial_L1 i i2) := by
  unfold panel_checkDial_L1_c panel_checkDial_L1
  repeat' (first | with_reducible exact Le.refl _ | with_reducible apply Le.bind | with_reducible apply Le.ite | with_reducible apply Le.gd | with_reducible apply Le.loop | with_reducible apply Le.t0 | with_reducible apply Le.t1 | with_reducible apply Le.t2 | with_reducible apply Le.t3 | with_reducible apply Le.t4 | with_reducible apply Le.t5 | with_reducible apply Le.t6 | with_reducible apply Le.t7 | with_reducible apply Le.t8 | with_reducible apply Le.elim | with_reducible apply le_panel_isName | intro _)

def panel_checkDial_c (i : api_Instrument) : Option Int :=
  (gd ((decide (i.High ≤ i.Low)) == false) false (panel_number_c i.Low)).bind fun y =>
  (gd (((decide (i.High ≤ i.Low)) || (!y)) == false) false (panel_number_c i.High)).bind fun y2 =>
  (gd ((((decide (i.High ≤ i.Low)) || (!y)) || (!y2)) == false) false (panel_within_c i.Steps 1 1000)).bind fun y3 =>
  if ((((decide (i.High ≤ i.Low)) || (!y)) || (!y2)) || (!y3)) = true then
  some 9
  else
  if (decide (10 < (i.Zones.length : Int))) = true then
  some 3
  else
  ((cloop (t1 (panel_checkDial_L1_c i)) 0) : Option ((Int) ⊕ (Unit))).bind (Sum.elim (fun v => some v) (t0 (some 0)))
theorem le_panel_checkDial (i : api_Instrument) : Le (panel_checkDial_c i) (panel_checkDial i) := by
  unfold panel_checkDial_c panel_checkDial
  repeat' (first | with_reducible exact Le.refl _ | with_reducible apply Le.bind | with_reducible apply Le.ite | with_reducible apply Le.gd | with_reducible apply Le.loop | with_reducible apply Le.t0 | with_reducible apply Le.t1 | with_reducible apply Le.t2 | with_reducible apply Le.t3 | with_reducible apply Le.t4 | with_reducible apply Le.t5 | with_reducible apply Le.t6 | with_reducible apply Le.t7 | with_reducible apply Le.t8 | with_reducible apply Le.elim | with_reducible apply le_panel_number | with_reducible apply le_panel_within | with_reducible apply le_panel_checkDial_L1 | intro _)

def panel_CheckInstrument_c (i : api_Instrument) : Option Int :=
  (panel_within_c i.Kind 1 6).bind fun y =>
  if (!y) = true then
  some 7
  else
  (panel_isName_c i.Name).bind fun y2 =>
  (gd ((!y2) == false) false (panel_within_c (i.Track.length : Int) 1 30)).bind fun y3 =>
  if ((!y2) || (!y3)) = true then
  some 8
  else
  (panel_unused_c i).bind fun y4 =>
  if y4 = true then
  some 2
  else
  (panel_within_c i.Places 0 6).bind fun y5 =>
  if (!y5) = true then
  some 9
  else
  if (decide (i.Kind = 2)) = true then
  (panel_checkDial_c i).bind fun y6 =>
  some y6
  else
  ((if (decide (i.Kind = 3)) = true then
  some (decide (i.Kind = 3))
  else
  some (decide (i.Kind = 5))) : Option ((Bool))).bind (t1 fun (v : Bool) =>
  if v = true then
  (panel_within_c i.Op 1 6).bind fun y7 =>
  if (!y7) = true then
  some 7
  else
  (panel_number_c i.N).bind fun y8 =>
  if (!y8) = true then
  some 9
  else
  some 0
  else
  if (decide (i.Kind = 6)) = true then
  (panel_within_c i.Size 1 50).bind fun y9 =>
  if (!y9) = true then
  some 9
  else
  some 0
  else
  some 0)
theorem le_panel_CheckInstrument (i : api_Instrument) : Le (panel_CheckInstrument_c i) (panel_CheckInstrument i) := by
  unfold panel_CheckInstrument_c panel_CheckInstrument
  repeat' (first | with_reducible exact Le.refl _ | with_reducible apply Le.bind | with_reducible apply Le.ite | with_reducible apply Le.gd | with_reducible apply Le.loop | with_reducible apply Le.t0 | with_reducible apply Le.t1 | with_reducible apply Le.t2 | with_reducible apply Le.t3 | with_reducible apply Le.t4 | with_reducible apply Le.t5 | with_reducible apply Le.t6 | with_reducible apply Le.t7 | with_reducible apply Le.t8 | with_reducible apply Le.elim | with_reducible apply le_panel_within | with_reducible apply le_panel_isName | with_reducible apply le_panel_unused | with_reducible apply le_panel_checkDial | with_reducible apply le_panel_number | intro _)

def slices_IndexFunc_api_Instrument_api_Instrument_L1_c (s : List api_Instrument) (f : api_Instrument → Option Bool) (i : Int) : Option ((Int) ⊕ (Int) ⊕ (Unit)) :=
  if (decide (i < (s.length : Int))) = true then
  (idx s i).bind fun x =>
  (f x).bind fun y =>
  if y = true then
  some (.inr (.inl i))
  else
  some (.inl (i64 (i + 1)))
  else
  some (.inr (.inr ()))
theorem le_slices_IndexFunc_api_Instrument_api_Instrument_L1 (s : List api_Instrument) (f : api_Instrument → Option Bool) (i : Int) (f' : api_Instrument → Option Bool) (h_f : ∀ z0, Le (f z0) (f' z0)) : Le (slices_IndexFunc_api_Instrument_api_Instrument_L1_c s f i) (slices_IndexFunc_api_Instrument_api_Instrument_L1 s f' i) := by
  unfold slices_IndexFunc_api_Instrument_api_Instrument_L1_c slices_IndexFunc_api_Instrument_api_Instrument_L1
  repeat' (first | with_reducible exact Le.refl _ | with_reducible apply Le.bind | with_reducible apply Le.ite | with_reducible apply Le.gd | with_reducible apply Le.loop | with_reducible apply Le.t0 | with_reducible apply Le.t1 | with_reducible apply Le.t2 | with_reducible apply Le.t3 | with_reducible apply Le.t4 | with_reducible apply Le.t5 | with_reducible apply Le.t6 | with_reducible apply Le.t7 | with_reducible apply Le.t8 | with_reducible apply Le.elim | with_reducible apply h_f | intro _)

def slices_IndexFunc_api_Instrument_api_Instrument_c (s : List api_Instrument) (f : api_Instrument → Option Bool) : Option Int :=
  ((cloop (t1 (slices_IndexFunc_api_Instrument_api_Instrument_L1_c s f)) 0) : Option ((Int) ⊕ (Unit))).bind (Sum.elim (fun v => some v) (t0 (some (-1))))
theorem le_slices_IndexFunc_api_Instrument_api_Instrument (s : List api_Instrument) (f : api_Instrument → Option Bool) (f' : api_Instrument → Option Bool) (h_f : ∀ z0, Le (f z0) (f' z0)) : Le (slices_IndexFunc_api_Instrument_api_Instrument_c s f) (slices_IndexFunc_api_Instrument_api_Instrument s f') := by
  unfold slices_IndexFunc_api_Instrument_api_Instrument_c slices_IndexFunc_api_Instrument_api_Instrument
  repeat' (first | with_reducible exact Le.refl _ | with_reducible apply Le.bind | with_reducible apply Le.ite | with_reducible apply Le.gd | with_reducible apply Le.loop | with_reducible apply Le.t0 | with_reducible apply Le.t1 | with_reducible apply Le.t2 | with_reducible apply Le.t3 | with_reducible apply Le.t4 | with_reducible apply Le.t5 | with_reducible apply Le.t6 | with_reducible apply Le.t7 | with_reducible apply Le.t8 | with_reducible apply Le.elim | with_reducible apply le_slices_IndexFunc_api_Instrument_api_Instrument_L1 | with_reducible apply h_f | intro _)

def slices_ContainsFunc_api_Instrument_api_Instrument_c (s : List api_Instrument) (f : api_Instrument → Option Bool) : Option Bool :=
  (slices_IndexFunc_api_Instrument_api_Instrument_c s f).bind fun y =>
  some (decide (0 ≤ y))
theorem le_slices_ContainsFunc_api_Instrument_api_Instrument (s : List api_Instrument) (f : api_Instrument → Option Bool) (f' : api_Instrument → Option Bool) (h_f : ∀ z0, Le (f z0) (f' z0)) : Le (slices_ContainsFunc_api_Instrument_api_Instrument_c s f) (slices_ContainsFunc_api_Instrument_api_Instrument s f') := by
  unfold slices_ContainsFunc_api_Instrument_api_Instrument_c slices_ContainsFunc_api_Instrument_api_Instrument
  repeat' (first | with_reducible exact Le.refl _ | with_reducible apply Le.bind | with_reducible apply Le.ite | with_reducible apply Le.gd | with_reducible apply Le.loop | with_reducible apply Le.t0 | with_reducible apply Le.t1 | with_reducible apply Le.t2 | with_reducible apply Le.t3 | with_reducible apply Le.t4 | with_reducible apply Le.t5 | with_reducible apply Le.t6 | with_reducible apply Le.t7 | with_reducible apply Le.t8 | with_reducible apply Le.elim | with_reducible apply le_slices_IndexFunc_api_Instrument_api_Instrument | with_reducible apply h_f | intro _)

def panel_Check_1_c (x : api_Instrument) (c0 : api_Instrument) : Option Bool :=
  some (decide (x.Name = c0.Name))
theorem le_panel_Check_1 (x : api_Instrument) (c0 : api_Instrument) : Le (panel_Check_1_c x c0) (panel_Check_1 x c0) := by
  unfold panel_Check_1_c panel_Check_1
  repeat' (first | with_reducible exact Le.refl _ | with_reducible apply Le.bind | with_reducible apply Le.ite | with_reducible apply Le.gd | with_reducible apply Le.loop | with_reducible apply Le.t0 | with_reducible apply Le.t1 | with_reducible apply Le.t2 | with_reducible apply Le.t3 | with_reducible apply Le.t4 | with_reducible apply Le.t5 | with_reducible apply Le.t6 | with_reducible apply Le.t7 | with_reducible apply Le.t8 | with_reducible apply Le.elim | intro _)

def panel_Check_L1_c (p : api_Panel) (i : Int) : Option ((Int) ⊕ (Int) ⊕ (Unit)) :=
  if (decide (i < (p.Instruments.length : Int))) = true then
  (idx p.Instruments i).bind fun x =>
  (panel_CheckInstrument_c x).bind fun y =>
  if (!decide (y = 0)) = true then
  some (.inr (.inl y))
  else
  (slc p.Instruments 0 i).bind fun l =>
  (slices_ContainsFunc_api_Instrument_api_Instrument_c l (fun z0 => panel_Check_1_c z0 x)).bind fun y2 =>
  if y2 = true then
  some (.inr (.inl 5))
  else
  some (.inl (i64 (i + 1)))
  else
  some (.inr (.inr ()))
theorem le_panel_Check_L1 (p : api_Panel) (i : Int) : Le (panel_Check_L1_c p i) (panel_Check_L1 p i) := by
  unfold panel_Check_L1_c panel_Check_L1
  repeat' (first | with_reducible exact Le.refl _ | with_reducible apply Le.bind | with_reducible apply Le.ite | with_reducible apply Le.gd | with_reducible apply Le.loop | with_reducible apply Le.t0 | with_reducible apply Le.t1 | with_reducible apply Le.t2 | with_reducible apply Le.t3 | with_reducible apply Le.t4 | with_reducible apply Le.t5 | with_reducible apply Le.t6 | with_reducible apply Le.t7 | with_reducible apply Le.t8 | with_reducible apply Le.elim | with_reducible apply le_panel_CheckInstrument | with_reducible apply le_slices_ContainsFunc_api_Instrument_api_Instrument | with_reducible apply le_panel_Check_1 | intro _)

def panel_Check_c (p : api_Panel) : Option Int :=
  if (decide (100 < (p.Instruments.length : Int))) = true then
  some 3
  else
  ((cloop (t1 (panel_Check_L1_c p)) 0) : Option ((Int) ⊕ (Unit))).bind (Sum.elim (fun v => some v) (t0 (some 0)))
theorem le_panel_Check (p : api_Panel) : Le (panel_Check_c p) (panel_Check p) := by
  unfold panel_Check_c panel_Check
  repeat' (first | with_reducible exact Le.refl _ | with_reducible apply Le.bind | with_reducible apply Le.ite | with_reducible apply Le.gd | with_reducible apply Le.loop | with_reducible apply Le.t0 | with_reducible apply Le.t1 | with_reducible apply Le.t2 | with_reducible apply Le.t3 | with_reducible apply Le.t4 | with_reducible apply Le.t5 | with_reducible apply Le.t6 | with_reducible apply Le.t7 | with_reducible apply Le.t8 | with_reducible apply Le.elim | with_reducible apply le_panel_Check_L1 | intro _)

def event_within_c (n : Int) (low : Int) (high : Int) : Option Bool :=
  some ((decide (low ≤ n)) && (decide (n ≤ high)))
theorem le_event_within (n : Int) (low : Int) (high : Int) : Le (event_within_c n low high) (event_within n low high) := by
  unfold event_within_c event_within
  repeat' (first | with_reducible exact Le.refl _ | with_reducible apply Le.bind | with_reducible apply Le.ite | with_reducible apply Le.gd | with_reducible apply Le.loop | with_reducible apply Le.t0 | with_reducible apply Le.t1 | with_reducible apply Le.t2 | with_reducible apply Le.t3 | with_reducible apply Le.t4 | with_reducible apply Le.t5 | with_reducible apply Le.t6 | with_reducible apply Le.t7 | with_reducible apply Le.t8 | with_reducible apply Le.elim | intro _)

def event_isWord_c (s : Str) : Option Bool :=
  ((if (decide (s = [112, 104, 97, 115, 101])) = true then
  some (decide (s = [112, 104, 97, 115, 101]))
  else
  if (decide (s = [109, 111, 118, 101])) = true then
  some (decide (s = [109, 111, 118, 101]))
  else
  if (decide (s = [114, 117, 108, 101])) = true then
  some (decide (s = [114, 117, 108, 101]))
  else
  if (decide (s = [105, 102])) = true then
  some (decide (s = [105, 102]))
  else
  if (decide (s = [111, 114])) = true then
  some (decide (s = [111, 114]))
  else
  if (decide (s = [97, 110, 100])) = true then
  some (decide (s = [97, 110, 100]))
  else
  if (decide (s = [116, 114, 117, 101])) = true then
  some (decide (s = [116, 114, 117, 101]))
  else
  if (decide (s = [102, 97, 108, 115, 101])) = true then
  some (decide (s = [102, 97, 108, 115, 101]))
  else
  if (decide (s = [115, 116, 101, 97, 100, 121])) = true then
  some (decide (s = [115, 116, 101, 97, 100, 121]))
  else
  if (decide (s = [110, 111, 116])) = true then
  some (decide (s = [110, 111, 116]))
  else
  if (decide (s = [102, 111, 114])) = true then
  some (decide (s = [102, 111, 114]))
  else
  if (decide (s = [119, 105, 116, 104, 105, 110])) = true then
  some (decide (s = [119, 105, 116, 104, 105, 110]))
  else
  if (decide (s = [99, 111, 117, 110, 116])) = true then
  some (decide (s = [99, 111, 117, 110, 116]))
  else
  if (decide (s = [111, 102])) = true then
  some (decide (s = [111, 102]))
  else
  if (decide (s = [114, 105, 115, 101, 115])) = true then
  some (decide (s = [114, 105, 115, 101, 115]))
  else
  some (decide (s = [115, 105, 110, 99, 101]))) : Option ((Bool))).bind (t1 fun (v : Bool) =>
  if v = true then
  some true
  else
  some false)
theorem le_event_isWord (s : Str) : Le (event_isWord_c s) (event_isWord s) := by
  unfold event_isWord_c event_isWord
  repeat' (first | with_reducible exact Le.refl _ | with_reducible apply Le.bind | with_reducible apply Le.ite | with_reducible apply Le.gd | with_reducible apply Le.loop | with_reducible apply Le.t0 | with_reducible apply Le.t1 | with_reducible apply Le.t2 | with_reducible apply Le.t3 | with_reducible apply Le.t4 | with_reducible apply Le.t5 | with_reducible apply Le.t6 | with_reducible apply Le.t7 | with_reducible apply Le.t8 | with_reducible apply Le.elim | intro _)

def event_nameByte_c (c_ : Int) : Option Bool :=
  some ((((decide (97 ≤ c_)) && (decide (c_ ≤ 122))) || ((decide (48 ≤ c_)) && (decide (c_ ≤ 57)))) || (decide (c_ = 45)))
theorem le_event_nameByte (c_ : Int) : Le (event_nameByte_c c_) (event_nameByte c_) := by
  unfold event_nameByte_c event_nameByte
  repeat' (first | with_reducible exact Le.refl _ | with_reducible apply Le.bind | with_reducible apply Le.ite | with_reducible apply Le.gd | with_reducible apply Le.loop | with_reducible apply Le.t0 | with_reducible apply Le.t1 | with_reducible apply Le.t2 | with_reducible apply Le.t3 | with_reducible apply Le.t4 | with_reducible apply Le.t5 | with_reducible apply Le.t6 | with_reducible apply Le.t7 | with_reducible apply Le.t8 | with_reducible apply Le.elim | intro _)

def event_isName_L1_c (s : Str) (i : Int) : Option ((Int) ⊕ (Bool) ⊕ (Unit)) :=
  if (decide (i < (s.length : Int))) = true then
  (sidx s i).bind fun b3 =>
  (event_nameByte_c b3).bind fun y3 =>
  if (!y3) = true then
  some (.inr (.inl false))
  else
  some (.inl (i64 (i + 1)))
  else
  some (.inr (.inr ()))
theorem le_event_isName_L1 (s : Str) (i : Int) : Le (event_isName_L1_c s i) (event_isName_L1 s i) := by
  unfold event_isName_L1_c event_isName_L1
  repeat' (first | with_reducible exact Le.refl _ | with_reducible apply Le.bind | with_reducible apply Le.ite | with_reducible apply Le.gd | with_reducible apply Le.loop | with_reducible apply Le.t0 | with_reducible apply Le.t1 | with_reducible apply Le.t2 | with_reducible apply Le.t3 | with_reducible apply Le.t4 | with_reducible apply Le.t5 | with_reducible apply Le.t6 | with_reducible apply Le.t7 | with_reducible apply Le.t8 | with_reducible apply Le.elim | with_reducible apply le_event_nameByte | intro _)

def event_isName_c (s : Str) : Option Bool :=
  (event_within_c (s.length : Int) 1 30).bind fun y =>
  (gd ((!y) == false) 0 (sidx s 0)).bind fun b =>
  (gd (((!y) || (decide (b < 97))) == false) 0 (sidx s 0)).bind fun b2 =>
  (gd ((((!y) || (decide (b < 97))) || (decide (122 < b2))) == false) false (event_isWord_c s)).bind fun y2 =>
  if ((((!y) || (decide (b < 97))) || (decide (122 < b2))) || y2) = true then
  some false
  else
  ((cloop (t1 (event_isName_L1_c s)) 0) : Option ((Bool) ⊕ (Unit))).bind (Sum.elim (fun v => some v) (t0 (some true)))
theorem le_event_isName (s : Str) : Le (event_isName_c s) (event_isName s) := by
  unfold event_isName_c event_isName
  repeat' (first | with_reducible exact Le.refl _ | with_reducible apply Le.bind | with_reducible apply Le.ite | with_reducible apply Le.gd | with_reducible apply Le.loop | with_reducible apply Le.t0 | with_reducible apply Le.t1 | with_reducible apply Le.t2 | with_reducible apply Le.t3 | with_reducible apply Le.t4 | with_reducible apply Le.t5 | with_reducible apply Le.t6 | with_reducible apply Le.t7 | with_reducible apply Le.t8 | with_reducible apply Le.elim | with_reducible apply le_event_within | with_reducible apply le_event_isWord | with_reducible apply le_event_isName_L1 | intro _)

def slices_IndexFunc_api_Track_api_Track_L1_c (s : List api_Track) (f : api_Track → Option Bool) (i : Int) : Option ((Int) ⊕ (Int) ⊕ (Unit)) :=
  if (decide (i < (s.length : Int))) = true then
  (idx s i).bind fun x =>
  (f x).bind fun y =>
  if y = true then
  some (.inr (.inl i))
  else
  some (.inl (i64 (i + 1)))
  else
  some (.inr (.inr ()))
theorem le_slices_IndexFunc_api_Track_api_Track_L1 (s : List api_Track) (f : api_Track → Option Bool) (i : Int) (f' : api_Track → Option Bool) (h_f : ∀ z0, Le (f z0) (f' z0)) : Le (slices_IndexFunc_api_Track_api_Track_L1_c s f i) (slices_IndexFunc_api_Track_api_Track_L1 s f' i) := by
  unfold slices_IndexFunc_api_Track_api_Track_L1_c slices_IndexFunc_api_Track_api_Track_L1
  repeat' (first | with_reducible exact Le.refl _ | with_reducible apply Le.bind | with_reducible apply Le.ite | with_reducible apply Le.gd | with_reducible apply Le.loop | with_reducible apply Le.t0 | with_reducible apply Le.t1 | with_reducible apply Le.t2 | with_reducible apply Le.t3 | with_reducible apply Le.t4 | with_reducible apply Le.t5 | with_reducible apply Le.t6 | with_reducible apply Le.t7 | with_reducible apply Le.t8 | with_reducible apply Le.elim | with_reducible apply h_f | intro _)

def slices_IndexFunc_api_Track_api_Track_c (s : List api_Track) (f : api_Track → Option Bool) : Option Int :=
  ((cloop (t1 (slices_IndexFunc_api_Track_api_Track_L1_c s f)) 0) : Option ((Int) ⊕ (Unit))).bind (Sum.elim (fun v => some v) (t0 (some (-1))))
theorem le_slices_IndexFunc_api_Track_api_Track (s : List api_Track) (f : api_Track → Option Bool) (f' : api_Track → Option Bool) (h_f : ∀ z0, Le (f z0) (f' z0)) : Le (slices_IndexFunc_api_Track_api_Track_c s f) (slices_IndexFunc_api_Track_api_Track s f') := by
  unfold slices_IndexFunc_api_Track_api_Track_c slices_IndexFunc_api_Track_api_Track
  repeat' (first | with_reducible exact Le.refl _ | with_reducible apply Le.bind | with_reducible apply Le.ite | with_reducible apply Le.gd | with_reducible apply Le.loop | with_reducible apply Le.t0 | with_reducible apply Le.t1 | with_reducible apply Le.t2 | with_reducible apply Le.t3 | with_reducible apply Le.t4 | with_reducible apply Le.t5 | with_reducible apply Le.t6 | with_reducible apply Le.t7 | with_reducible apply Le.t8 | with_reducible apply Le.elim | with_reducible apply le_slices_IndexFunc_api_Track_api_Track_L1 | with_reducible apply h_f | intro _)

def slices_ContainsFunc_api_Track_api_Track_c (s : List api_Track) (f : api_Track → Option Bool) : Option Bool :=
  (slices_IndexFunc_api_Track_api_Track_c s f).bind fun y =>
  some (decide (0 ≤ y))
theorem le_slices_ContainsFunc_api_Track_api_Track (s : List api_Track) (f : api_Track → Option Bool) (f' : api_Track → Option Bool) (h_f : ∀ z0, Le (f z0) (f' z0)) : Le (slices_ContainsFunc_api_Track_api_Track_c s f) (slices_ContainsFunc_api_Track_api_Track s f') := by
  unfold slices_ContainsFunc_api_Track_api_Track_c slices_ContainsFunc_api_Track_api_Track
  repeat' (first | with_reducible exact Le.refl _ | with_reducible apply Le.bind | with_reducible apply Le.ite | with_reducible apply Le.gd | with_reducible apply Le.loop | with_reducible apply Le.t0 | with_reducible apply Le.t1 | with_reducible apply Le.t2 | with_reducible apply Le.t3 | with_reducible apply Le.t4 | with_reducible apply Le.t5 | with_reducible apply Le.t6 | with_reducible apply Le.t7 | with_reducible apply Le.t8 | with_reducible apply Le.elim | with_reducible apply le_slices_IndexFunc_api_Track_api_Track | with_reducible apply h_f | intro _)

def event_CheckTracks_1_c (x : api_Track) (c0 : api_Track) : Option Bool :=
  some (decide (x.Name = c0.Name))
theorem le_event_CheckTracks_1 (x : api_Track) (c0 : api_Track) : Le (event_CheckTracks_1_c x c0) (event_CheckTracks_1 x c0) := by
  unfold event_CheckTracks_1_c event_CheckTracks_1
  repeat' (first | with_reducible exact Le.refl _ | with_reducible apply Le.bind | with_reducible apply Le.ite | with_reducible apply Le.gd | with_reducible apply Le.loop | with_reducible apply Le.t0 | with_reducible apply Le.t1 | with_reducible apply Le.t2 | with_reducible apply Le.t3 | with_reducible apply Le.t4 | with_reducible apply Le.t5 | with_reducible apply Le.t6 | with_reducible apply Le.t7 | with_reducible apply Le.t8 | with_reducible apply Le.elim | intro _)

def series_within_c (n : Int) (low : Int) (high : Int) : Option Bool :=
  some ((decide (low ≤ n)) && (decide (n ≤ high)))
theorem le_series_within (n : Int) (low : Int) (high : Int) : Le (series_within_c n low high) (series_within n low high) := by
  unfold series_within_c series_within
  repeat' (first | with_reducible exact Le.refl _ | with_reducible apply Le.bind | with_reducible apply Le.ite | with_reducible apply Le.gd | with_reducible apply Le.loop | with_reducible apply Le.t0 | with_reducible apply Le.t1 | with_reducible apply Le.t2 | with_reducible apply Le.t3 | with_reducible apply Le.t4 | with_reducible apply Le.t5 | with_reducible apply Le.t6 | with_reducible apply Le.t7 | with_reducible apply Le.t8 | with_reducible apply Le.elim | intro _)

def series_check_L1_c (s : api_Series) (i : Int) : Option ((Int) ⊕ (Int × Int) ⊕ (Unit)) :=
  if (decide (i < (s.Samples.length : Int))) = true then
  (idx s.Samples i).bind fun x =>
  (series_within_c x.At 0 1099511627776).bind fun y2 =>
  (gd ((!y2) == false) false (series_within_c x.N (-1125899906842624) 1125899906842624)).bind fun y3 =>
  (gd (((!y2) || (!y3)) == false) false (series_within_c x.Mark 0 4)).bind fun y4 =>
  if (((!y2) || (!y3)) || (!y4)) = true then
  some (.inr (.inl (i, 9)))
  else
  if ((!decide (x.N = 0)) && (decide (x.Mark ≤ 1))) = true then
  some (.inr (.inl (i, 2)))
  else
  (gd ((decide (0 < i)) == true) (api_Sample.mk 0 0 0) (idx s.Samples (i64 (i - 1)))).bind fun x2 =>
  if ((decide (0 < i)) && (decide (x.At ≤ x2.At))) = true then
  some (.inr (.inl (i, 10)))
  else
  some (.inl (i64 (i + 1)))
  else
  some (.inr (.inr ()))
theorem le_series_check_L1 (s : api_Series) (i : Int) : Le (series_check_L1_c s i) (series_check_L1 s i) := by
  unfold series_check_L1_c series_check_L1
  repeat' (first | with_reducible exact Le.refl _ | with_reducible apply Le.bind | with_reducible apply Le.ite | with_reducible apply Le.gd | with_reducible apply Le.loop | with_reducible apply Le.t0 | with_reducible apply Le.t1 | with_reducible apply Le.t2 | with_reducible apply Le.t3 | with_reducible apply Le.t4 | with_reducible apply Le.t5 | with_reducible apply Le.t6 | with_reducible apply Le.t7 | with_reducible apply Le.t8 | with_reducible apply Le.elim | with_reducible apply le_series_within | intro _)

def series_check_c (s : api_Series) : Option (Int × Int) :=
  (series_within_c s.Den 1 1000000).bind fun y =>
  if (!y) = true then
  some ((-1), 9)
  else
  if (decide (20000 < (s.Samples.length : Int))) = true then
  some ((-1), 3)
  else
  ((cloop (t1 (series_check_L1_c s)) 0) : Option ((Int × Int) ⊕ (Unit))).bind (Sum.elim (fun v => some v) (t0 (some ((-1), 0))))
theorem le_series_check (s : api_Series) : Le (series_check_c s) (series_check s) := by
  unfold series_check_c series_check
  repeat' (first | with_reducible exact Le.refl _ | with_reducible apply Le.bind | with_reducible apply Le.ite | with_reducible apply Le.gd | with_reducible apply Le.loop | with_reducible apply Le.t0 | with_reducible apply Le.t1 | with_reducible apply Le.t2 | with_reducible apply Le.t3 | with_reducible apply Le.t4 | with_reducible apply Le.t5 | with_reducible apply Le.t6 | with_reducible apply Le.t7 | with_reducible apply Le.t8 | with_reducible apply Le.elim | with_reducible apply le_series_within | with_reducible apply le_series_check_L1 | intro _)

def series_Check_c (s : api_Series) : Option Int :=
  (series_check_c s).bind fun y =>
  some y.2
theorem le_series_Check (s : api_Series) : Le (series_Check_c s) (series_Check s) := by
  unfold series_Check_c series_Check
  repeat' (first | with_reducible exact Le.refl _ | with_reducible apply Le.bind | with_reducible apply Le.ite | with_reducible apply Le.gd | with_reducible apply Le.loop | with_reducible apply Le.t0 | with_reducible apply Le.t1 | with_reducible apply Le.t2 | with_reducible apply Le.t3 | with_reducible apply Le.t4 | with_reducible apply Le.t5 | with_reducible apply Le.t6 | with_reducible apply Le.t7 | with_reducible apply Le.t8 | with_reducible apply Le.elim | with_reducible apply le_series_check | intro _)

def event_CheckTracks_L1_c (l : List api_Track) (i : Int) : Option ((Int) ⊕ (Int) ⊕ (Unit)) :=
  if (decide (i < (l.length : Int))) = true then
  (idx l i).bind fun x =>
  (event_isName_c x.Name).bind fun y =>
  if (!y) = true then
  some (.inr (.inl 8))
  else
  (slc l 0 i).bind fun l2 =>
  (slices_ContainsFunc_api_Track_api_Track_c l2 (fun z0 => event_CheckTracks_1_c z0 x)).bind fun y2 =>
  if y2 = true then
  some (.inr (.inl 5))
  else
  (series_Check_c x.Series).bind fun y3 =>
  if (!decide (y3 = 0)) = true then
  some (.inr (.inl y3))
  else
  (event_within_c x.Long 0 1099511627776).bind fun y4 =>
  if (!y4) = true then
  some (.inr (.inl 9))
  else
  some (.inl (i64 (i + 1)))
  else
  some (.inr (.inr ()))
theorem le_event_CheckTracks_L1 (l : List api_Track) (i : Int) : Le (event_CheckTracks_L1_c l i) (event_CheckTracks_L1 l i) := by
  unfold event_CheckTracks_L1_c event_CheckTracks_L1
  repeat' (first | with_reducible exact Le.refl _ | with_reducible apply Le.bind | with_reducible apply Le.ite | with_reducible apply Le.gd | with_reducible apply Le.loop | with_reducible apply Le.t0 | with_reducible apply Le.t1 | with_reducible apply Le.t2 | with_reducible apply Le.t3 | with_reducible apply Le.t4 | with_reducible apply Le.t5 | with_reducible apply Le.t6 | with_reducible apply Le.t7 | with_reducible apply Le.t8 | with_reducible apply Le.elim | with_reducible apply le_event_isName | with_reducible apply le_slices_ContainsFunc_api_Track_api_Track | with_reducible apply le_event_CheckTracks_1 | with_reducible apply le_series_Check | with_reducible apply le_event_within | intro _)

def event_CheckTracks_c (l : List api_Track) : Option Int :=
  if (decide (50 < (l.length : Int))) = true then
  some 3
  else
  ((cloop (t1 (event_CheckTracks_L1_c l)) 0) : Option ((Int) ⊕ (Unit))).bind (Sum.elim (fun v => some v) (t0 (some 0)))
theorem le_event_CheckTracks (l : List api_Track) : Le (event_CheckTracks_c l) (event_CheckTracks l) := by
  unfold event_CheckTracks_c event_CheckTracks
  repeat' (first | with_reducible exact Le.refl _ | with_reducible apply Le.bind | with_reducible apply Le.ite | with_reducible apply Le.gd | with_reducible apply Le.loop | with_reducible apply Le.t0 | with_reducible apply Le.t1 | with_reducible apply Le.t2 | with_reducible apply Le.t3 | with_reducible apply Le.t4 | with_reducible apply Le.t5 | with_reducible apply Le.t6 | with_reducible apply Le.t7 | with_reducible apply Le.t8 | with_reducible apply Le.elim | with_reducible apply le_event_CheckTracks_L1 | intro _)

def panel_trackOf_1_c (t : api_Track) (c0 : api_Instrument) : Option Bool :=
  some (decide (t.Name = c0.Track))
theorem le_panel_trackOf_1 (t : api_Track) (c0 : api_Instrument) : Le (panel_trackOf_1_c t c0) (panel_trackOf_1 t c0) := by
  unfold panel_trackOf_1_c panel_trackOf_1
  repeat' (first | with_reducible exact Le.refl _ | with_reducible apply Le.bind | with_reducible apply Le.ite | with_reducible apply Le.gd | with_reducible apply Le.loop | with_reducible apply Le.t0 | with_reducible apply Le.t1 | with_reducible apply Le.t2 | with_reducible apply Le.t3 | with_reducible apply Le.t4 | with_reducible apply Le.t5 | with_reducible apply Le.t6 | with_reducible apply Le.t7 | with_reducible apply Le.t8 | with_reducible apply Le.elim | intro _)

def panel_trackOf_c (l : List api_Track) (i : api_Instrument) : Option Int :=
  (slices_IndexFunc_api_Track_api_Track_c l (fun z0 => panel_trackOf_1_c z0 i)).bind fun y =>
  some y
theorem le_panel_trackOf (l : List api_Track) (i : api_Instrument) : Le (panel_trackOf_c l i) (panel_trackOf l i) := by
  unfold panel_trackOf_c panel_trackOf
  repeat' (first | with_reducible exact Le.refl _ | with_reducible apply Le.bind | with_reducible apply Le.ite | with_reducible apply Le.gd | with_reducible apply Le.loop | with_reducible apply Le.t0 | with_reducible apply Le.t1 | with_reducible apply Le.t2 | with_reducible apply Le.t3 | with_reducible apply Le.t4 | with_reducible apply Le.t5 | with_reducible apply Le.t6 | with_reducible apply Le.t7 | with_reducible apply Le.t8 | with_reducible apply Le.elim | with_reducible apply le_slices_IndexFunc_api_Track_api_Track | with_reducible apply le_panel_trackOf_1 | intro _)

def panel_checkBoth_1_c (i : api_Instrument) (c0 : List api_Track) : Option Bool :=
  (panel_trackOf_c c0 i).bind fun y =>
  some (decide (y < 0))
theorem le_panel_checkBoth_1 (i : api_Instrument) (c0 : List api_Track) : Le (panel_checkBoth_1_c i c0) (panel_checkBoth_1 i c0) := by
  unfold panel_checkBoth_1_c panel_checkBoth_1
  repeat' (first | with_reducible exact Le.refl _ | with_reducible apply Le.bind | with_reducible apply Le.ite | with_reducible apply Le.gd | with_reducible apply Le.loop | with_reducible apply Le.t0 | with_reducible apply Le.t1 | with_reducible apply Le.t2 | with_reducible apply Le.t3 | with_reducible apply Le.t4 | with_reducible apply Le.t5 | with_reducible apply Le.t6 | with_reducible apply Le.t7 | with_reducible apply Le.t8 | with_reducible apply Le.elim | with_reducible apply le_panel_trackOf | intro _)

def panel_checkBoth_c (p : api_Panel) (l : List api_Track) : Option Int :=
  (panel_Check_c p).bind fun y =>
  if (!decide (y = 0)) = true then
  some y
  else
  (event_CheckTracks_c l).bind fun y2 =>
  if (!decide (y2 = 0)) = true then
  some y2
  else
  (slices_ContainsFunc_api_Instrument_api_Instrument_c p.Instruments (fun z0 => panel_checkBoth_1_c z0 l)).bind fun y3 =>
  if y3 = true then
  some 4
  else
  some 0
theorem le_panel_checkBoth (p : api_Panel) (l : List api_Track) : Le (panel_checkBoth_c p l) (panel_checkBoth p l) := by
  unfold panel_checkBoth_c panel_checkBoth
  repeat' (first | with_reducible exact Le.refl _ | with_reducible apply Le.bind | with_reducible apply Le.ite | with_reducible apply Le.gd | with_reducible apply Le.loop | with_reducible apply Le.t0 | with_reducible apply Le.t1 | with_reducible apply Le.t2 | with_reducible apply Le.t3 | with_reducible apply Le.t4 | with_reducible apply Le.t5 | with_reducible apply Le.t6 | with_reducible apply Le.t7 | with_reducible apply Le.t8 | with_reducible apply Le.elim | with_reducible apply le_panel_Check | with_reducible apply le_event_CheckTracks | with_reducible apply le_slices_ContainsFunc_api_Instrument_api_Instrument | with_reducible apply le_panel_checkBoth_1 | intro _)

def panel_copyPanel_L1_c (y : List api_Instrument) (Instruments2 : List api_Instrument) (i : Int) : Option (((List api_Instrument) × Int) ⊕ ((List api_Instrument))) :=
  if (decide (i < (y.length : Int))) = true then
  (idx Instruments2 i).bind fun x =>
  (clone x.Zones).bind fun y2 =>
  (idx Instruments2 i).bind fun x2 =>
  some (.inl ((Instruments2.set i.toNat (api_Instrument.mk x2.Kind x2.Name x2.Track x2.Places x2.Low x2.High x2.Steps y2 x2.Op x2.N x2.Latch x2.Size)), (i64 (i + 1))))
  else
  some (.inr Instruments2)
theorem le_panel_copyPanel_L1 (y : List api_Instrument) (Instruments2 : List api_Instrument) (i : Int) : Le (panel_copyPanel_L1_c y Instruments2 i) (panel_copyPanel_L1 y Instruments2 i) := by
  unfold panel_copyPanel_L1_c panel_copyPanel_L1
  repeat' (first | with_reducible exact Le.refl _ | with_reducible apply Le.bind | with_reducible apply Le.ite | with_reducible apply Le.gd | with_reducible apply Le.loop | with_reducible apply Le.t0 | with_reducible apply Le.t1 | with_reducible apply Le.t2 | with_reducible apply Le.t3 | with_reducible apply Le.t4 | with_reducible apply Le.t5 | with_reducible apply Le.t6 | with_reducible apply Le.t7 | with_reducible apply Le.t8 | with_reducible apply Le.elim | intro _)

def panel_copyPanel_c (p : api_Panel) : Option api_Panel :=
  (clone p.Instruments).bind fun y =>
  ((cloop (t2 (panel_copyPanel_L1_c y)) (y, 0)) : Option (((List api_Instrument)))).bind (t1 fun (Instruments : List api_Instrument) =>
  some (api_Panel.mk Instruments))
theorem le_panel_copyPanel (p : api_Panel) : Le (panel_copyPanel_c p) (panel_copyPanel p) := by
  unfold panel_copyPanel_c panel_copyPanel
  repeat' (first | with_reducible exact Le.refl _ | with_reducible apply Le.bind | with_reducible apply Le.ite | with_reducible apply Le.gd | with_reducible apply Le.loop | with_reducible apply Le.t0 | with_reducible apply Le.t1 | with_reducible apply Le.t2 | with_reducible apply Le.t3 | with_reducible apply Le.t4 | with_reducible apply Le.t5 | with_reducible apply Le.t6 | with_reducible apply Le.t7 | with_reducible apply Le.t8 | with_reducible apply Le.elim | with_reducible apply le_panel_copyPanel_L1 | intro _)

def panel_copyTracks_L1_c (y : List api_Track) (out2 : List api_Track) (i : Int) : Option (((List api_Track) × Int) ⊕ ((List api_Track))) :=
  if (decide (i < (y.length : Int))) = true then
  (idx out2 i).bind fun x =>
  (clone x.Series.Samples).bind fun y2 =>
  (idx out2 i).bind fun x2 =>
  some (.inl ((out2.set i.toNat (api_Track.mk x2.Name (api_Series.mk x2.Series.Den y2) x2.Long)), (i64 (i + 1))))
  else
  some (.inr out2)
theorem le_panel_copyTracks_L1 (y : List api_Track) (out2 : List api_Track) (i : Int) : Le (panel_copyTracks_L1_c y out2 i) (panel_copyTracks_L1 y out2 i) := by
  unfold panel_copyTracks_L1_c panel_copyTracks_L1
  repeat' (first | with_reducible exact Le.refl _ | with_reducible apply Le.bind | with_reducible apply Le.ite | with_reducible apply Le.gd | with_reducible apply Le.loop | with_reducible apply Le.t0 | with_reducible apply Le.t1 | with_reducible apply Le.t2 | with_reducible apply Le.t3 | with_reducible apply Le.t4 | with_reducible apply Le.t5 | with_reducible apply Le.t6 | with_reducible apply Le.t7 | with_reducible apply Le.t8 | with_reducible apply Le.elim | intro _)

def panel_copyTracks_c (l : List api_Track) : Option (List api_Track) :=
  (clone l).bind fun y =>
  ((cloop (t2 (panel_copyTracks_L1_c y)) (y, 0)) : Option (((List api_Track)))).bind (t1 fun (out : List api_Track) =>
  some out)
theorem le_panel_copyTracks (l : List api_Track) : Le (panel_copyTracks_c l) (panel_copyTracks l) := by
  unfold panel_copyTracks_c panel_copyTracks
  repeat' (first | with_reducible exact Le.refl _ | with_reducible apply Le.bind | with_reducible apply Le.ite | with_reducible apply Le.gd | with_reducible apply Le.loop | with_reducible apply Le.t0 | with_reducible apply Le.t1 | with_reducible apply Le.t2 | with_reducible apply Le.t3 | with_reducible apply Le.t4 | with_reducible apply Le.t5 | with_reducible apply Le.t6 | with_reducible apply Le.t7 | with_reducible apply Le.t8 | with_reducible apply Le.elim | with_reducible apply le_panel_copyTracks_L1 | intro _)

def panel_first_c (p : api_Panel) : Option api_PanelState :=
  (mks (p.Instruments.length : Int) (api_Memo.mk false false 0 0 [])).bind fun l =>
  some (api_PanelState.mk (-1) l)
theorem le_panel_first (p : api_Panel) : Le (panel_first_c p) (panel_first p) := by
  unfold panel_first_c panel_first
  repeat' (first | with_reducible exact Le.refl _ | with_reducible apply Le.bind | with_reducible apply Le.ite | with_reducible apply Le.gd | with_reducible apply Le.loop | with_reducible apply Le.t0 | with_reducible apply Le.t1 | with_reducible apply Le.t2 | with_reducible apply Le.t3 | with_reducible apply Le.t4 | with_reducible apply Le.t5 | with_reducible apply Le.t6 | with_reducible apply Le.t7 | with_reducible apply Le.t8 | with_reducible apply Le.elim | intro _)

def panel_New_c (p : api_Panel) (l : List api_Track) (keep : Int) : Option ((Int) ⊕ (panel_Replay × Int)) :=
  (panel_checkBoth_c p l).bind fun y =>
  if (!decide (y = 0)) = true then
  some (Sum.inl y)
  else
  (panel_within_c keep 1 1000).bind fun y2 =>
  if (!y2) = true then
  some (Sum.inl 9)
  else
  (panel_copyPanel_c p).bind fun y3 =>
  (panel_copyTracks_c l).bind fun y4 =>
  (panel_first_c p).bind fun y5 =>
  some (Sum.inr ((panel_Replay.mk y3 y4 keep y5 [] []), 0))
theorem le_panel_New (p : api_Panel) (l : List api_Track) (keep : Int) : Le (panel_New_c p l keep) (panel_New p l keep) := by
  unfold panel_New_c panel_New
  repeat' (first | with_reducible exact Le.refl _ | with_reducible apply Le.bind | with_reducible apply Le.ite | with_reducible apply Le.gd | with_reducible apply Le.loop | with_reducible apply Le.t0 | with_reducible apply Le.t1 | with_reducible apply Le.t2 | with_reducible apply Le.t3 | with_reducible apply Le.t4 | with_reducible apply Le.t5 | with_reducible apply Le.t6 | with_reducible apply Le.t7 | with_reducible apply Le.t8 | with_reducible apply Le.elim | with_reducible apply le_panel_checkBoth | with_reducible apply le_panel_within | with_reducible apply le_panel_copyPanel | with_reducible apply le_panel_copyTracks | with_reducible apply le_panel_first | intro _)

def slices_BinarySearchFunc_api_Sample_api_Sample_int_L1_c (x : List api_Sample) (target : Int) (cmp : api_Sample → Int → Option Int) (i2 : Int) (j : Int) : Option ((Int × Int) ⊕ (Int)) :=
  if (decide (i2 < j)) = true then
  (shr .u64 (u64 (i64 (i2 + j))) 1).bind fun q =>
  (idx x (i64 q)).bind fun x2 =>
  (cmp x2 target).bind fun y =>
  if (decide (y < 0)) = true then
  some (.inl ((i64 ((i64 q) + 1)), j))
  else
  some (.inl (i2, (i64 q)))
  else
  some (.inr i2)
theorem le_slices_BinarySearchFunc_api_Sample_api_Sample_int_L1 (x : List api_Sample) (target : Int) (cmp : api_Sample → Int → Option Int) (i2 : Int) (j : Int) (cmp' : api_Sample → Int → Option Int) (h_cmp : ∀ z0 z1, Le (cmp z0 z1) (cmp' z0 z1)) : Le (slices_BinarySearchFunc_api_Sample_api_Sample_int_L1_c x target cmp i2 j) (slices_BinarySearchFunc_api_Sample_api_Sample_int_L1 x target cmp' i2 j) := by
  unfold slices_BinarySearchFunc_api_Sample_api_Sample_int_L1_c slices_BinarySearchFunc_api_Sample_api_Sample_int_L1
  repeat' (first | with_reducible exact Le.refl _ | with_reducible apply Le.bind | with_reducible apply Le.ite | with_reducible apply Le.gd | with_reducible apply Le.loop | with_reducible apply Le.t0 | with_reducible apply Le.t1 | with_reducible apply Le.t2 | with_reducible apply Le.t3 | with_reducible apply Le.t4 | with_reducible apply Le.t5 | with_reducible apply Le.t6 | with_reducible apply Le.t7 | with_reducible apply Le.t8 | with_reducible apply Le.elim | with_reducible apply h_cmp | intro _)

def slices_BinarySearchFunc_api_Sample_api_Sample_int_c (x : List api_Sample) (target : Int) (cmp : api_Sample → Int → Option Int) : Option (Int × Bool) :=
  ((cloop (t2 (slices_BinarySearchFunc_api_Sample_api_Sample_int_L1_c x target cmp)) (0, (x.length : Int))) : Option ((Int))).bind (t1 fun (i : Int) =>
  (gd ((decide (i < (x.length : Int))) == true) (api_Sample.mk 0 0 0) (idx x i)).bind fun x3 =>
  (gd ((decide (i < (x.length : Int))) == true) 0 (cmp x3 target)).bind fun y2 =>
  some (i, ((decide (i < (x.length : Int))) && (decide (y2 = 0)))))
theorem le_slices_BinarySearchFunc_api_Sample_api_Sample_int (x : List api_Sample) (target : Int) (cmp : api_Sample → Int → Option Int) (cmp' : api_Sample → Int → Option Int) (h_cmp : ∀ z0 z1, Le (cmp z0 z1) (cmp' z0 z1)) : Le (slices_BinarySearchFunc_api_Sample_api_Sample_int_c x target cmp) (slices_BinarySearchFunc_api_Sample_api_Sample_int x target cmp') := by
  unfold slices_BinarySearchFunc_api_Sample_api_Sample_int_c slices_BinarySearchFunc_api_Sample_api_Sample_int
  repeat' (first | with_reducible exact Le.refl _ | with_reducible apply Le.bind | with_reducible apply Le.ite | with_reducible apply Le.gd | with_reducible apply Le.loop | with_reducible apply Le.t0 | with_reducible apply Le.t1 | with_reducible apply Le.t2 | with_reducible apply Le.t3 | with_reducible apply Le.t4 | with_reducible apply Le.t5 | with_reducible apply Le.t6 | with_reducible apply Le.t7 | with_reducible apply Le.t8 | with_reducible apply Le.elim | with_reducible apply le_slices_BinarySearchFunc_api_Sample_api_Sample_int_L1 | with_reducible apply h_cmp | intro _)

def series_latest_1_c (x : api_Sample) (at_ : Int) : Option Int :=
  some (i64 (x.At - at_))
theorem le_series_latest_1 (x : api_Sample) (at_ : Int) : Le (series_latest_1_c x at_) (series_latest_1 x at_) := by
  unfold series_latest_1_c series_latest_1
  repeat' (first | with_reducible exact Le.refl _ | with_reducible apply Le.bind | with_reducible apply Le.ite | with_reducible apply Le.gd | with_reducible apply Le.loop | with_reducible apply Le.t0 | with_reducible apply Le.t1 | with_reducible apply Le.t2 | with_reducible apply Le.t3 | with_reducible apply Le.t4 | with_reducible apply Le.t5 | with_reducible apply Le.t6 | with_reducible apply Le.t7 | with_reducible apply Le.t8 | with_reducible apply Le.elim | intro _)

def series_latest_c (s : api_Series) (at_ : Int) : Option Int :=
  (slices_BinarySearchFunc_api_Sample_api_Sample_int_c s.Samples at_ (fun z0 z1 => series_latest_1_c z0 z1)).bind fun y =>
  if y.2 = true then
  some y.1
  else
  some (i64 (y.1 - 1))
theorem le_series_latest (s : api_Series) (at_ : Int) : Le (series_latest_c s at_) (series_latest s at_) := by
  unfold series_latest_c series_latest
  repeat' (first | with_reducible exact Le.refl _ | with_reducible apply Le.bind | with_reducible apply Le.ite | with_reducible apply Le.gd | with_reducible apply Le.loop | with_reducible apply Le.t0 | with_reducible apply Le.t1 | with_reducible apply Le.t2 | with_reducible apply Le.t3 | with_reducible apply Le.t4 | with_reducible apply Le.t5 | with_reducible apply Le.t6 | with_reducible apply Le.t7 | with_reducible apply Le.t8 | with_reducible apply Le.elim | with_reducible apply le_slices_BinarySearchFunc_api_Sample_api_Sample_int | with_reducible apply le_series_latest_1 | intro _)

def series_solid_c (x : api_Sample) : Option Bool :=
  some (decide (3 ≤ x.Mark))
theorem le_series_solid (x : api_Sample) : Le (series_solid_c x) (series_solid x) := by
  unfold series_solid_c series_solid
  repeat' (first | with_reducible exact Le.refl _ | with_reducible apply Le.bind | with_reducible apply Le.ite | with_reducible apply Le.gd | with_reducible apply Le.loop | with_reducible apply Le.t0 | with_reducible apply Le.t1 | with_reducible apply Le.t2 | with_reducible apply Le.t3 | with_reducible apply Le.t4 | with_reducible apply Le.t5 | with_reducible apply Le.t6 | with_reducible apply Le.t7 | with_reducible apply Le.t8 | with_reducible apply Le.elim | intro _)

def series_hold_c (s : api_Series) (at_ : Int) (long : Int) : Option (api_Sample × Bool) :=
  (series_latest_c s at_).bind fun y =>
  (gd ((decide (y < 0)) == false) (api_Sample.mk 0 0 0) (idx s.Samples y)).bind fun x =>
  (gd ((decide (y < 0)) == false) false (series_solid_c x)).bind fun y2 =>
  (gd (((decide (y < 0)) || (!y2)) == false) (api_Sample.mk 0 0 0) (idx s.Samples y)).bind fun x2 =>
  if (((decide (y < 0)) || (!y2)) || (decide (long < (i64 (at_ - x2.At))))) = true then
  some ((api_Sample.mk 0 0 0), false)
  else
  (idx s.Samples y).bind fun x3 =>
  some (x3, true)
theorem le_series_hold (s : api_Series) (at_ : Int) (long : Int) : Le (series_hold_c s at_ long) (series_hold s at_ long) := by
  unfold series_hold_c series_hold
  repeat' (first | with_reducible exact Le.refl _ | with_reducible apply Le.bind | with_reducible apply Le.ite | with_reducible apply Le.gd | with_reducible apply Le.loop | with_reducible apply Le.t0 | with_reducible apply Le.t1 | with_reducible apply Le.t2 | with_reducible apply Le.t3 | with_reducible apply Le.t4 | with_reducible apply Le.t5 | with_reducible apply Le.t6 | with_reducible apply Le.t7 | with_reducible apply Le.t8 | with_reducible apply Le.elim | with_reducible apply le_series_latest | with_reducible apply le_series_solid | intro _)

def series_Held_c (s : api_Series) (at_ : Int) (long : Int) : Option (api_Sample × Bool) :=
  (series_hold_c s at_ long).bind fun y =>
  some (y.1, y.2)
theorem le_series_Held (s : api_Series) (at_ : Int) (long : Int) : Le (series_Held_c s at_ long) (series_Held s at_ long) := by
  unfold series_Held_c series_Held
  repeat' (first | with_reducible exact Le.refl _ | with_reducible apply Le.bind | with_reducible apply Le.ite | with_reducible apply Le.gd | with_reducible apply Le.loop | with_reducible apply Le.t0 | with_reducible apply Le.t1 | with_reducible apply Le.t2 | with_reducible apply Le.t3 | with_reducible apply Le.t4 | with_reducible apply Le.t5 | with_reducible apply Le.t6 | with_reducible apply Le.t7 | with_reducible apply Le.t8 | with_reducible apply Le.elim | with_reducible apply le_series_hold | intro _)

def panel_value_c (t : api_Track) (frame : Int) : Option (api_Sample × Bool) :=
  (series_Held_c t.Series (i64 ((i64 ((i64 (64 * frame)) + 64)) - 1)) t.Long).bind fun y =>
  some (y.1, y.2)
theorem le_panel_value (t : api_Track) (frame : Int) : Le (panel_value_c t frame) (panel_value t frame) := by
  unfold panel_value_c panel_value
  repeat' (first | with_reducible exact Le.refl _ | with_reducible apply Le.bind | with_reducible apply Le.ite | with_reducible apply Le.gd | with_reducible apply Le.loop | with_reducible apply Le.t0 | with_reducible apply Le.t1 | with_reducible apply Le.t2 | with_reducible apply Le.t3 | with_reducible apply Le.t4 | with_reducible apply Le.t5 | with_reducible apply Le.t6 | with_reducible apply Le.t7 | with_reducible apply Le.t8 | with_reducible apply Le.elim | with_reducible apply le_series_Held | intro _)

def panel_holds_c (op : Int) (a : Int) (b : Int) : Option Bool :=
  if (decide (op = 1)) = true then
  some (decide (a < b))
  else
  if (decide (op = 2)) = true then
  some (decide (a ≤ b))
  else
  if (decide (op = 3)) = true then
  some (decide (a = b))
  else
  if (decide (op = 4)) = true then
  some (!decide (a = b))
  else
  if (decide (op = 5)) = true then
  some (decide (b ≤ a))
  else
  some (decide (b < a))
theorem le_panel_holds (op : Int) (a : Int) (b : Int) : Le (panel_holds_c op a b) (panel_holds op a b) := by
  unfold panel_holds_c panel_holds
  repeat' (first | with_reducible exact Le.refl _ | with_reducible apply Le.bind | with_reducible apply Le.ite | with_reducible apply Le.gd | with_reducible apply Le.loop | with_reducible apply Le.t0 | with_reducible apply Le.t1 | with_reducible apply Le.t2 | with_reducible apply Le.t3 | with_reducible apply Le.t4 | with_reducible apply Le.t5 | with_reducible apply Le.t6 | with_reducible apply Le.t7 | with_reducible apply Le.t8 | with_reducible apply Le.elim | intro _)

def panel_shifted_L1_c (out2 : List Int) (i : Int) : Option (((List Int) × Int) ⊕ ((List Int))) :=
  if (decide ((i64 (i + 2)) ≤ (out2.length : Int))) = true then
  (slp out2 i (i64 (i + 2))).bind fun u =>
  (ck (decide (2 ≤ Int.toNat ((i64 (i + 2)) - i)))).bind fun u2 =>
  (ck (decide ((0 : Int) ≤ 1) && decide (1 < (2 : Int)))).bind fun u3 =>
  (idx out2 (i + 1)).bind fun x =>
  (ck (decide ((0 : Int) ≤ 0) && decide (0 < (2 : Int)))).bind fun u4 =>
  (idx out2 (i + 0)).bind fun x2 =>
  some (.inl ((out2.set (i + 0).toNat x), (i64 (i + 1))))
  else
  some (.inr out2)
theorem le_panel_shifted_L1 (out2 : List Int) (i : Int) : Le (panel_shifted_L1_c out2 i) (panel_shifted_L1 out2 i) := by
  unfold panel_shifted_L1_c panel_shifted_L1
  repeat' (first | with_reducible exact Le.refl _ | with_reducible apply Le.bind | with_reducible apply Le.ite | with_reducible apply Le.gd | with_reducible apply Le.loop | with_reducible apply Le.t0 | with_reducible apply Le.t1 | with_reducible apply Le.t2 | with_reducible apply Le.t3 | with_reducible apply Le.t4 | with_reducible apply Le.t5 | with_reducible apply Le.t6 | with_reducible apply Le.t7 | with_reducible apply Le.t8 | with_reducible apply Le.elim | intro _)

def panel_shifted_c (tape : List Int) (size : Int) (n : Int) : Option (List Int) :=
  (clone tape).bind fun y =>
  (app y ([n] : List Int)).bind fun l =>
  if (decide ((l.length : Int) ≤ size)) = true then
  some l
  else
  ((cloop (t2 (panel_shifted_L1_c)) (l, 0)) : Option (((List Int)))).bind (t1 fun (out : List Int) =>
  (slc out 0 (i64 ((out.length : Int) - 1))).bind fun l2 =>
  some l2)
theorem le_panel_shifted (tape : List Int) (size : Int) (n : Int) : Le (panel_shifted_c tape size n) (panel_shifted tape size n) := by
  unfold panel_shifted_c panel_shifted
  repeat' (first | with_reducible exact Le.refl _ | with_reducible apply Le.bind | with_reducible apply Le.ite | with_reducible apply Le.gd | with_reducible apply Le.loop | with_reducible apply Le.t0 | with_reducible apply Le.t1 | with_reducible apply Le.t2 | with_reducible apply Le.t3 | with_reducible apply Le.t4 | with_reducible apply Le.t5 | with_reducible apply Le.t6 | with_reducible apply Le.t7 | with_reducible apply Le.t8 | with_reducible apply Le.elim | with_reducible apply le_panel_shifted_L1 | intro _)

def panel_advancedMemo_c (i : api_Instrument) (m : api_Memo) (n : Int) (known : Bool) : Option api_Memo :=
  (gd ((known && ((decide (i.Kind = 3)) || (decide (i.Kind = 5)))) == true) false (panel_holds_c i.Op n i.N)).bind fun y =>
  ((if (decide (i.Kind = 3)) = true then
  some (api_Memo.mk (((known && ((decide (i.Kind = 3)) || (decide (i.Kind = 5)))) && y) || (i.Latch && m.Lit)) m.Some m.N m.Count m.Tape)
  else
  if (decide (i.Kind = 5)) = true then
  if (((known && ((decide (i.Kind = 3)) || (decide (i.Kind = 5)))) && y) && (!m.Lit)) = true then
  some (api_Memo.mk ((known && ((decide (i.Kind = 3)) || (decide (i.Kind = 5)))) && y) m.Some m.N (i64 (m.Count + 1)) m.Tape)
  else
  some (api_Memo.mk ((known && ((decide (i.Kind = 3)) || (decide (i.Kind = 5)))) && y) m.Some m.N m.Count m.Tape)
  else
  if ((decide (i.Kind = 4)) && known) = true then
  ((if m.Some = true then
  some (max n m.N)
  else
  some n) : Option ((Int))).bind (t1 fun (n2 : Int) =>
  some (api_Memo.mk m.Lit true n2 m.Count m.Tape))
  else
  if ((decide (i.Kind = 6)) && known) = true then
  (panel_shifted_c m.Tape i.Size n).bind fun y2 =>
  some (api_Memo.mk m.Lit m.Some m.N m.Count y2)
  else
  some m) : Option ((api_Memo))).bind (t1 fun (m2 : api_Memo) =>
  some m2)
theorem le_panel_advancedMemo (i : api_Instrument) (m : api_Memo) (n : Int) (known : Bool) : Le (panel_advancedMemo_c i m n known) (panel_advancedMemo i m n known) := by
  unfold panel_advancedMemo_c panel_advancedMemo
  repeat' (first | with_reducible exact Le.refl _ | with_reducible apply Le.bind | with_reducible apply Le.ite | with_reducible apply Le.gd | with_reducible apply Le.loop | with_reducible apply Le.t0 | with_reducible apply Le.t1 | with_reducible apply Le.t2 | with_reducible apply Le.t3 | with_reducible apply Le.t4 | with_reducible apply Le.t5 | with_reducible apply Le.t6 | with_reducible apply Le.t7 | with_reducible apply Le.t8 | with_reducible apply Le.elim | with_reducible apply le_panel_holds | with_reducible apply le_panel_shifted | intro _)

def panel_advance_L1_c (p : api_Panel) (l : List api_Track) (s : api_PanelState) (Memos2 : List api_Memo) (i : Int) : Option (((List api_Memo) × Int) ⊕ ((List api_Memo))) :=
  if (decide (i < (p.Instruments.length : Int))) = true then
  (idx p.Instruments i).bind fun x =>
  (panel_trackOf_c l x).bind fun y =>
  (idx l y).bind fun x2 =>
  (panel_value_c x2 (i64 (s.Frame + 1))).bind fun y2 =>
  (idx s.Memos i).bind fun x3 =>
  (clone x3.Tape).bind fun y3 =>
  (panel_advancedMemo_c x (api_Memo.mk x3.Lit x3.Some x3.N x3.Count y3) y2.1.N y2.2).bind fun y4 =>
  (app Memos2 ([y4] : List api_Memo)).bind fun l2 =>
  some (.inl (l2, (i64 (i + 1))))
  else
  some (.inr Memos2)
theorem le_panel_advance_L1 (p : api_Panel) (l : List api_Track) (s : api_PanelState) (Memos2 : List api_Memo) (i : Int) : Le (panel_advance_L1_c p l s Memos2 i) (panel_advance_L1 p l s Memos2 i) := by
  unfold panel_advance_L1_c panel_advance_L1
  repeat' (first | with_reducible exact Le.refl _ | with_reducible apply Le.bind | with_reducible apply Le.ite | with_reducible apply Le.gd | with_reducible apply Le.loop | with_reducible apply Le.t0 | with_reducible apply Le.t1 | with_reducible apply Le.t2 | with_reducible apply Le.t3 | with_reducible apply Le.t4 | with_reducible apply Le.t5 | with_reducible apply Le.t6 | with_reducible apply Le.t7 | with_reducible apply Le.t8 | with_reducible apply Le.elim | with_reducible apply le_panel_trackOf | with_reducible apply le_panel_value | with_reducible apply le_panel_advancedMemo | intro _)

def panel_advance_c (p : api_Panel) (l : List api_Track) (s : api_PanelState) : Option api_PanelState :=
  ((cloop (t2 (panel_advance_L1_c p l s)) ([], 0)) : Option (((List api_Memo)))).bind (t1 fun (Memos : List api_Memo) =>
  some (api_PanelState.mk (i64 (s.Frame + 1)) Memos))
theorem le_panel_advance (p : api_Panel) (l : List api_Track) (s : api_PanelState) : Le (panel_advance_c p l s) (panel_advance p l s) := by
  unfold panel_advance_c panel_advance
  repeat' (first | with_reducible exact Le.refl _ | with_reducible apply Le.bind | with_reducible apply Le.ite | with_reducible apply Le.gd | with_reducible apply Le.loop | with_reducible apply Le.t0 | with_reducible apply Le.t1 | with_reducible apply Le.t2 | with_reducible apply Le.t3 | with_reducible apply Le.t4 | with_reducible apply Le.t5 | with_reducible apply Le.t6 | with_reducible apply Le.t7 | with_reducible apply Le.t8 | with_reducible apply Le.elim | with_reducible apply le_panel_advance_L1 | intro _)

def slices_BinarySearchFunc_api_PanelState_api_PanelState_int_L1_c (x : List api_PanelState) (target : Int) (cmp : api_PanelState → Int → Option Int) (i2 : Int) (j : Int) : Option ((Int × Int) ⊕ (Int)) :=
  if (decide (i2 < j)) = true then
  (shr .u64 (u64 (i64 (i2 + j))) 1).bind fun q =>
  (idx x (i64 q)).bind fun x2 =>
  (cmp x2 target).bind fun y =>
  if (decide (y < 0)) = true then
  some (.inl ((i64 ((i64 q) + 1)), j))
  else
  some (.inl (i2, (i64 q)))
  else
  some (.inr i2)
theorem le_slices_BinarySearchFunc_api_PanelState_api_PanelState_int_L1 (x : List api_PanelState) (target : Int) (cmp : api_PanelState → Int → Option Int) (i2 : Int) (j : Int) (cmp' : api_PanelState → Int → Option Int) (h_cmp : ∀ z0 z1, Le (cmp z0 z1) (cmp' z0 z1)) : Le (slices_BinarySearchFunc_api_PanelState_api_PanelState_int_L1_c x target cmp i2 j) (slices_BinarySearchFunc_api_PanelState_api_PanelState_int_L1 x target cmp' i2 j) := by
  unfold slices_BinarySearchFunc_api_PanelState_api_PanelState_int_L1_c slices_BinarySearchFunc_api_PanelState_api_PanelState_int_L1
  repeat' (first | with_reducible exact Le.refl _ | with_reducible apply Le.bind | with_reducible apply Le.ite | with_reducible apply Le.gd | with_reducible apply Le.loop | with_reducible apply Le.t0 | with_reducible apply Le.t1 | with_reducible apply Le.t2 | with_reducible apply Le.t3 | with_reducible apply Le.t4 | with_reducible apply Le.t5 | with_reducible apply Le.t6 | with_reducible apply Le.t7 | with_reducible apply Le.t8 | with_reducible apply Le.elim | with_reducible apply h_cmp | intro _)

def slices_BinarySearchFunc_api_PanelState_api_PanelState_int_c (x : List api_PanelState) (target : Int) (cmp : api_PanelState → Int → Option Int) : Option (Int × Bool) :=
  ((cloop (t2 (slices_BinarySearchFunc_api_PanelState_api_PanelState_int_L1_c x target cmp)) (0, (x.length : Int))) : Option ((Int))).bind (t1 fun (i : Int) =>
  (gd ((decide (i < (x.length : Int))) == true) (api_PanelState.mk 0 []) (idx x i)).bind fun x3 =>
  (gd ((decide (i < (x.length : Int))) == true) 0 (cmp x3 target)).bind fun y2 =>
  some (i, ((decide (i < (x.length : Int))) && (decide (y2 = 0)))))
theorem le_slices_BinarySearchFunc_api_PanelState_api_PanelState_int (x : List api_PanelState) (target : Int) (cmp : api_PanelState → Int → Option Int) (cmp' : api_PanelState → Int → Option Int) (h_cmp : ∀ z0 z1, Le (cmp z0 z1) (cmp' z0 z1)) : Le (slices_BinarySearchFunc_api_PanelState_api_PanelState_int_c x target cmp) (slices_BinarySearchFunc_api_PanelState_api_PanelState_int x target cmp') := by
  unfold slices_BinarySearchFunc_api_PanelState_api_PanelState_int_c slices_BinarySearchFunc_api_PanelState_api_PanelState_int
  repeat' (first | with_reducible exact Le.refl _ | with_reducible apply Le.bind | with_reducible apply Le.ite | with_reducible apply Le.gd | with_reducible apply Le.loop | with_reducible apply Le.t0 | with_reducible apply Le.t1 | with_reducible apply Le.t2 | with_reducible apply Le.t3 | with_reducible apply Le.t4 | with_reducible apply Le.t5 | with_reducible apply Le.t6 | with_reducible apply Le.t7 | with_reducible apply Le.t8 | with_reducible apply Le.elim | with_reducible apply le_slices_BinarySearchFunc_api_PanelState_api_PanelState_int_L1 | with_reducible apply h_cmp | intro _)

def panel_Replay_keptAt_1_c (s : api_PanelState) (frame : Int) : Option Int :=
  some (i64 (s.Frame - frame))
theorem le_panel_Replay_keptAt_1 (s : api_PanelState) (frame : Int) : Le (panel_Replay_keptAt_1_c s frame) (panel_Replay_keptAt_1 s frame) := by
  unfold panel_Replay_keptAt_1_c panel_Replay_keptAt_1
  repeat' (first | with_reducible exact Le.refl _ | with_reducible apply Le.bind | with_reducible apply Le.ite | with_reducible apply Le.gd | with_reducible apply Le.loop | with_reducible apply Le.t0 | with_reducible apply Le.t1 | with_reducible apply Le.t2 | with_reducible apply Le.t3 | with_reducible apply Le.t4 | with_reducible apply Le.t5 | with_reducible apply Le.t6 | with_reducible apply Le.t7 | with_reducible apply Le.t8 | with_reducible apply Le.elim | intro _)

def panel_Replay_keptAt_c (r_ : panel_Replay) (frame : Int) : Option (Int × Bool) :=
  (slices_BinarySearchFunc_api_PanelState_api_PanelState_int_c r_.kept frame (fun z0 z1 => panel_Replay_keptAt_1_c z0 z1)).bind fun y =>
  some (y.1, y.2)
theorem le_panel_Replay_keptAt (r_ : panel_Replay) (frame : Int) : Le (panel_Replay_keptAt_c r_ frame) (panel_Replay_keptAt r_ frame) := by
  unfold panel_Replay_keptAt_c panel_Replay_keptAt
  repeat' (first | with_reducible exact Le.refl _ | with_reducible apply Le.bind | with_reducible apply Le.ite | with_reducible apply Le.gd | with_reducible apply Le.loop | with_reducible apply Le.t0 | with_reducible apply Le.t1 | with_reducible apply Le.t2 | with_reducible apply Le.t3 | with_reducible apply Le.t4 | with_reducible apply Le.t5 | with_reducible apply Le.t6 | with_reducible apply Le.t7 | with_reducible apply Le.t8 | with_reducible apply Le.elim | with_reducible apply le_slices_BinarySearchFunc_api_PanelState_api_PanelState_int | with_reducible apply le_panel_Replay_keptAt_1 | intro _)

def panel_copyState_L1_c (y : List api_Memo) (Memos2 : List api_Memo) (i : Int) : Option (((List api_Memo) × Int) ⊕ ((List api_Memo))) :=
  if (decide (i < (y.length : Int))) = true then
  (idx Memos2 i).bind fun x =>
  (clone x.Tape).bind fun y2 =>
  (idx Memos2 i).bind fun x2 =>
  some (.inl ((Memos2.set i.toNat (api_Memo.mk x2.Lit x2.Some x2.N x2.Count y2)), (i64 (i + 1))))
  else
  some (.inr Memos2)
theorem le_panel_copyState_L1 (y : List api_Memo) (Memos2 : List api_Memo) (i : Int) : Le (panel_copyState_L1_c y Memos2 i) (panel_copyState_L1 y Memos2 i) := by
  unfold panel_copyState_L1_c panel_copyState_L1
  repeat' (first | with_reducible exact Le.refl _ | with_reducible apply Le.bind | with_reducible apply Le.ite | with_reducible apply Le.gd | with_reducible apply Le.loop | with_reducible apply Le.t0 | with_reducible apply Le.t1 | with_reducible apply Le.t2 | with_reducible apply Le.t3 | with_reducible apply Le.t4 | with_reducible apply Le.t5 | with_reducible apply Le.t6 | with_reducible apply Le.t7 | with_reducible apply Le.t8 | with_reducible apply Le.elim | intro _)

def panel_copyState_c (s : api_PanelState) : Option api_PanelState :=
  (clone s.Memos).bind fun y =>
  ((cloop (t2 (panel_copyState_L1_c y)) (y, 0)) : Option (((List api_Memo)))).bind (t1 fun (Memos : List api_Memo) =>
  some (api_PanelState.mk s.Frame Memos))
theorem le_panel_copyState (s : api_PanelState) : Le (panel_copyState_c s) (panel_copyState s) := by
  unfold panel_copyState_c panel_copyState
  repeat' (first | with_reducible exact Le.refl _ | with_reducible apply Le.bind | with_reducible apply Le.ite | with_reducible apply Le.gd | with_reducible apply Le.loop | with_reducible apply Le.t0 | with_reducible apply Le.t1 | with_reducible apply Le.t2 | with_reducible apply Le.t3 | with_reducible apply Le.t4 | with_reducible apply Le.t5 | with_reducible apply Le.t6 | with_reducible apply Le.t7 | with_reducible apply Le.t8 | with_reducible apply Le.elim | with_reducible apply le_panel_copyState_L1 | intro _)

def slices_Insert_api_PanelState_api_PanelState_c (s : List api_PanelState) (i : Int) (v : List api_PanelState) : Option (List api_PanelState) :=
  (slc s i (s.length : Int)).bind fun l =>
  if (decide ((v.length : Int) = 0)) = true then
  some s
  else
  if (decide (i = (s.length : Int))) = true then
  (app s v).bind fun l2 =>
  some l2
  else
  none
theorem le_slices_Insert_api_PanelState_api_PanelState (s : List api_PanelState) (i : Int) (v : List api_PanelState) : Le (slices_Insert_api_PanelState_api_PanelState_c s i v) (slices_Insert_api_PanelState_api_PanelState s i v) := by
  unfold slices_Insert_api_PanelState_api_PanelState_c slices_Insert_api_PanelState_api_PanelState
  repeat' (first | with_reducible exact Le.refl _ | with_reducible apply Le.bind | with_reducible apply Le.ite | with_reducible apply Le.gd | with_reducible apply Le.loop | with_reducible apply Le.t0 | with_reducible apply Le.t1 | with_reducible apply Le.t2 | with_reducible apply Le.t3 | with_reducible apply Le.t4 | with_reducible apply Le.t5 | with_reducible apply Le.t6 | with_reducible apply Le.t7 | with_reducible apply Le.t8 | with_reducible apply Le.elim | intro _)

def panel_Replay_advance_v1_L1_c (r_ : panel_Replay) (n : Int) (state : api_PanelState) (kept : List api_PanelState) (i : Int) : Option ((api_PanelState × (List api_PanelState) × Int) ⊕ (panel_Replay)) :=
  if (decide (i < n)) = true then
  (((panel_advance_c r_.p r_.l state).bind fun y =>
  (rem y.Frame r_.keep).bind fun q =>
  if (!decide (q = (i64 (r_.keep - 1)))) = true then
  some (y.Frame, y.Memos, kept)
  else
  (panel_Replay_keptAt_c (panel_Replay.mk r_.p r_.l r_.keep y kept r_.marks) y.Frame).bind fun y2 =>
  if (!y2.2) = true then
  (panel_copyState_c y).bind fun y3 =>
  (slices_Insert_api_PanelState_api_PanelState_c kept y2.1 ([y3] : List api_PanelState)).bind fun y4 =>
  some (y.Frame, y.Memos, y4)
  else
  some (y.Frame, y.Memos, kept)) : Option ((Int × (List api_Memo) × (List api_PanelState)))).bind (t3 fun (Frame : Int) (Memos : List api_Memo) (kept2 : List api_PanelState) =>
  some (.inl ((api_PanelState.mk Frame Memos), kept2, (i64 (i + 1)))))
  else
  some (.inr (panel_Replay.mk r_.p r_.l r_.keep state kept r_.marks))
theorem le_panel_Replay_advance_v1_L1 (r_ : panel_Replay) (n : Int) (state : api_PanelState) (kept : List api_PanelState) (i : Int) : Le (panel_Replay_advance_v1_L1_c r_ n state kept i) (panel_Replay_advance_v1_L1 r_ n state kept i) := by
  unfold panel_Replay_advance_v1_L1_c panel_Replay_advance_v1_L1
  repeat' (first | with_reducible exact Le.refl _ | with_reducible apply Le.bind | with_reducible apply Le.ite | with_reducible apply Le.gd | with_reducible apply Le.loop | with_reducible apply Le.t0 | with_reducible apply Le.t1 | with_reducible apply Le.t2 | with_reducible apply Le.t3 | with_reducible apply Le.t4 | with_reducible apply Le.t5 | with_reducible apply Le.t6 | with_reducible apply Le.t7 | with_reducible apply Le.t8 | with_reducible apply Le.elim | with_reducible apply le_panel_advance | with_reducible apply le_panel_Replay_keptAt | with_reducible apply le_panel_copyState | with_reducible apply le_slices_Insert_api_PanelState_api_PanelState | intro _)

def panel_Replay_advance_v1_c (r_ : panel_Replay) (n : Int) : Option panel_Replay :=
  cloop (t3 (panel_Replay_advance_v1_L1_c r_ n)) (r_.state, r_.kept, 0)
theorem le_panel_Replay_advance_v1 (r_ : panel_Replay) (n : Int) : Le (panel_Replay_advance_v1_c r_ n) (panel_Replay_advance_v1 r_ n) := by
  unfold panel_Replay_advance_v1_c panel_Replay_advance_v1
  repeat' (first | with_reducible exact Le.refl _ | with_reducible apply Le.bind | with_reducible apply Le.ite | with_reducible apply Le.gd | with_reducible apply Le.loop | with_reducible apply Le.t0 | with_reducible apply Le.t1 | with_reducible apply Le.t2 | with_reducible apply Le.t3 | with_reducible apply Le.t4 | with_reducible apply Le.t5 | with_reducible apply Le.t6 | with_reducible apply Le.t7 | with_reducible apply Le.t8 | with_reducible apply Le.elim | with_reducible apply le_panel_Replay_advance_v1_L1 | intro _)

def panel_Replay_Step_v1_c (r_ : panel_Replay) (n : Int) : Option (Int × panel_Replay) :=
  if ((decide (n < 0)) || (decide ((i64 (19999 - r_.state.Frame)) < n))) = true then
  some (9, r_)
  else
  (panel_Replay_advance_v1_c r_ n).bind fun y =>
  some (0, y)
theorem le_panel_Replay_Step_v1 (r_ : panel_Replay) (n : Int) : Le (panel_Replay_Step_v1_c r_ n) (panel_Replay_Step_v1 r_ n) := by
  unfold panel_Replay_Step_v1_c panel_Replay_Step_v1
  repeat' (first | with_reducible exact Le.refl _ | with_reducible apply Le.bind | with_reducible apply Le.ite | with_reducible apply Le.gd | with_reducible apply Le.loop | with_reducible apply Le.t0 | with_reducible apply Le.t1 | with_reducible apply Le.t2 | with_reducible apply Le.t3 | with_reducible apply Le.t4 | with_reducible apply Le.t5 | with_reducible apply Le.t6 | with_reducible apply Le.t7 | with_reducible apply Le.t8 | with_reducible apply Le.elim | with_reducible apply le_panel_Replay_advance_v1 | intro _)

def panel_digits_L1_c (places : Int) (scale2 : Int) (i : Int) : Option ((Int × Int) ⊕ (Int)) :=
  if (decide (i < places)) = true then
  some (.inl ((i64 (scale2 * 10)), (i64 (i + 1))))
  else
  some (.inr scale2)
theorem le_panel_digits_L1 (places : Int) (scale2 : Int) (i : Int) : Le (panel_digits_L1_c places scale2 i) (panel_digits_L1 places scale2 i) := by
  unfold panel_digits_L1_c panel_digits_L1
  repeat' (first | with_reducible exact Le.refl _ | with_reducible apply Le.bind | with_reducible apply Le.ite | with_reducible apply Le.gd | with_reducible apply Le.loop | with_reducible apply Le.t0 | with_reducible apply Le.t1 | with_reducible apply Le.t2 | with_reducible apply Le.t3 | with_reducible apply Le.t4 | with_reducible apply Le.t5 | with_reducible apply Le.t6 | with_reducible apply Le.t7 | with_reducible apply Le.t8 | with_reducible apply Le.elim | intro _)

def panel_digits_c (n : Int) (den : Int) (places : Int) : Option Str :=
  (quo .i64 (max n (i64 (-n))) den).bind fun q =>
  ((cloop (t2 (panel_digits_L1_c places)) (1, 0)) : Option ((Int))).bind (t1 fun (scale : Int) =>
  (rem (max n (i64 (-n))) den).bind fun q2 =>
  (quo .i64 (i64 ((i64 ((i64 (q2 * scale)) * 2)) + den)) (i64 (2 * den))).bind fun q3 =>
  ((if (decide (q3 = scale)) = true then
  some ((i64 (q + 1)), 0)
  else
  some (q, q3)) : Option ((Int × Int))).bind (t2 fun (whole : Int) (part : Int) =>
  (itoa whole).bind fun y =>
  ((if (decide (0 < places)) = true then
  (itoa (i64 (scale + part))).bind fun y2 =>
  (slc y2 1 (y2.length : Int)).bind fun s =>
  (cat [46] s).bind fun s2 =>
  (cat y s2).bind fun s3 =>
  some s3
  else
  some y) : Option ((Str))).bind (t1 fun (out : Str) =>
  if ((decide (n < 0)) && ((decide (0 < whole)) || (decide (0 < part)))) = true then
  (cat [45] out).bind fun s4 =>
  some s4
  else
  some out)))
theorem le_panel_digits (n : Int) (den : Int) (places : Int) : Le (panel_digits_c n den places) (panel_digits n den places) := by
  unfold panel_digits_c panel_digits
  repeat' (first | with_reducible exact Le.refl _ | with_reducible apply Le.bind | with_reducible apply Le.ite | with_reducible apply Le.gd | with_reducible apply Le.loop | with_reducible apply Le.t0 | with_reducible apply Le.t1 | with_reducible apply Le.t2 | with_reducible apply Le.t3 | with_reducible apply Le.t4 | with_reducible apply Le.t5 | with_reducible apply Le.t6 | with_reducible apply Le.t7 | with_reducible apply Le.t8 | with_reducible apply Le.elim | with_reducible apply le_panel_digits_L1 | intro _)

def panel_needle_c (i : api_Instrument) (n : Int) : Option Int :=
  if (decide (n ≤ i.Low)) = true then
  some 0
  else
  if (decide (i.High ≤ n)) = true then
  some i.Steps
  else
  (quo .i64 (i64 ((i64 (n - i.Low)) * i.Steps)) (i64 (i.High - i.Low))).bind fun q =>
  some q
theorem le_panel_needle (i : api_Instrument) (n : Int) : Le (panel_needle_c i n) (panel_needle i n) := by
  unfold panel_needle_c panel_needle
  repeat' (first | with_reducible exact Le.refl _ | with_reducible apply Le.bind | with_reducible apply Le.ite | with_reducible apply Le.gd | with_reducible apply Le.loop | with_reducible apply Le.t0 | with_reducible apply Le.t1 | with_reducible apply Le.t2 | with_reducible apply Le.t3 | with_reducible apply Le.t4 | with_reducible apply Le.t5 | with_reducible apply Le.t6 | with_reducible apply Le.t7 | with_reducible apply Le.t8 | with_reducible apply Le.elim | intro _)

def panel_zoneOf_L1_c (i : api_Instrument) (n : Int) (i2 : Int) : Option ((Int) ⊕ (Str) ⊕ (Unit)) :=
  if (decide (i2 < (i.Zones.length : Int))) = true then
  (idx i.Zones i2).bind fun x =>
  (panel_within_c n x.From x.To).bind fun y =>
  if y = true then
  some (.inr (.inl x.Name))
  else
  some (.inl (i64 (i2 + 1)))
  else
  some (.inr (.inr ()))
theorem le_panel_zoneOf_L1 (i : api_Instrument) (n : Int) (i2 : Int) : Le (panel_zoneOf_L1_c i n i2) (panel_zoneOf_L1 i n i2) := by
  unfold panel_zoneOf_L1_c panel_zoneOf_L1
  repeat' (first | with_reducible exact Le.refl _ | with_reducible apply Le.bind | with_reducible apply Le.ite | with_reducible apply Le.gd | with_reducible apply Le.loop | with_reducible apply Le.t0 | with_reducible apply Le.t1 | with_reducible apply Le.t2 | with_reducible apply Le.t3 | with_reducible apply Le.t4 | with_reducible apply Le.t5 | with_reducible apply Le.t6 | with_reducible apply Le.t7 | with_reducible apply Le.t8 | with_reducible apply Le.elim | with_reducible apply le_panel_within | intro _)

def panel_zoneOf_c (i : api_Instrument) (n : Int) : Option Str :=
  ((cloop (t1 (panel_zoneOf_L1_c i n)) 0) : Option ((Str) ⊕ (Unit))).bind (Sum.elim (fun v => some v) (t0 (some [])))
theorem le_panel_zoneOf (i : api_Instrument) (n : Int) : Le (panel_zoneOf_c i n) (panel_zoneOf i n) := by
  unfold panel_zoneOf_c panel_zoneOf
  repeat' (first | with_reducible exact Le.refl _ | with_reducible apply Le.bind | with_reducible apply Le.ite | with_reducible apply Le.gd | with_reducible apply Le.loop | with_reducible apply Le.t0 | with_reducible apply Le.t1 | with_reducible apply Le.t2 | with_reducible apply Le.t3 | with_reducible apply Le.t4 | with_reducible apply Le.t5 | with_reducible apply Le.t6 | with_reducible apply Le.t7 | with_reducible apply Le.t8 | with_reducible apply Le.elim | with_reducible apply le_panel_zoneOf_L1 | intro _)

def panel_face_L1_c (i : api_Instrument) (m : api_Memo) (den : Int) (l2 : List Str) (i2 : Int) : Option (((List Str) × Int) ⊕ ((List Str))) :=
  if (decide (i2 < (m.Tape.length : Int))) = true then
  (idx m.Tape i2).bind fun x2 =>
  (panel_digits_c x2 den i.Places).bind fun y6 =>
  (app l2 ([y6] : List Str)).bind fun l3 =>
  some (.inl (l3, (i64 (i2 + 1))))
  else
  some (.inr l2)
theorem le_panel_face_L1 (i : api_Instrument) (m : api_Memo) (den : Int) (l2 : List Str) (i2 : Int) : Le (panel_face_L1_c i m den l2 i2) (panel_face_L1 i m den l2 i2) := by
  unfold panel_face_L1_c panel_face_L1
  repeat' (first | with_reducible exact Le.refl _ | with_reducible apply Le.bind | with_reducible apply Le.ite | with_reducible apply Le.gd | with_reducible apply Le.loop | with_reducible apply Le.t0 | with_reducible apply Le.t1 | with_reducible apply Le.t2 | with_reducible apply Le.t3 | with_reducible apply Le.t4 | with_reducible apply Le.t5 | with_reducible apply Le.t6 | with_reducible apply Le.t7 | with_reducible apply Le.t8 | with_reducible apply Le.elim | with_reducible apply le_panel_digits | intro _)

def panel_face_c (i : api_Instrument) (m : api_Memo) (den : Int) (x : api_Sample) (known : Bool) : Option api_Face :=
  ((if (decide (i.Kind = 1)) = true then
  if known = true then
  (panel_digits_c x.N den i.Places).bind fun y =>
  some (api_Face.mk y 0 m.Lit x.Mark)
  else
  some (api_Face.mk [45, 45, 45] 0 m.Lit x.Mark)
  else
  if (decide (i.Kind = 2)) = true then
  if known = true then
  (panel_needle_c i x.N).bind fun y2 =>
  (panel_zoneOf_c i x.N).bind fun y3 =>
  some (api_Face.mk y3 y2 m.Lit x.Mark)
  else
  some (api_Face.mk [45, 45, 45] 0 m.Lit x.Mark)
  else
  if (decide (i.Kind = 3)) = true then
  if m.Lit = true then
  some (api_Face.mk [111, 110] 0 m.Lit x.Mark)
  else
  if known = true then
  some (api_Face.mk [111, 102, 102] 0 m.Lit x.Mark)
  else
  some (api_Face.mk [45, 45, 45] 0 m.Lit x.Mark)
  else
  if (decide (i.Kind = 4)) = true then
  if m.Some = true then
  (panel_digits_c m.N den i.Places).bind fun y4 =>
  some (api_Face.mk y4 0 m.Lit x.Mark)
  else
  some (api_Face.mk [45, 45, 45] 0 m.Lit x.Mark)
  else
  if (decide (i.Kind = 5)) = true then
  (itoa m.Count).bind fun y5 =>
  some (api_Face.mk y5 0 m.Lit x.Mark)
  else
  if (decide (i.Kind = 6)) = true then
  ((cloop (t2 (panel_face_L1_c i m den)) ([], 0)) : Option (((List Str)))).bind (t1 fun (l : List Str) =>
  if (decide (0 < (l.length : Int))) = true then
  (sjoin l [32]).bind fun y7 =>
  some (api_Face.mk y7 0 m.Lit x.Mark)
  else
  some (api_Face.mk [45, 45, 45] 0 m.Lit x.Mark))
  else
  some (api_Face.mk [45, 45, 45] 0 m.Lit x.Mark)) : Option ((api_Face))).bind (t1 fun (out : api_Face) =>
  some out)
theorem le_panel_face (i : api_Instrument) (m : api_Memo) (den : Int) (x : api_Sample) (known : Bool) : Le (panel_face_c i m den x known) (panel_face i m den x known) := by
  unfold panel_face_c panel_face
  repeat' (first | with_reducible exact Le.refl _ | with_reducible apply Le.bind | with_reducible apply Le.ite | with_reducible apply Le.gd | with_reducible apply Le.loop | with_reducible apply Le.t0 | with_reducible apply Le.t1 | with_reducible apply Le.t2 | with_reducible apply Le.t3 | with_reducible apply Le.t4 | with_reducible apply Le.t5 | with_reducible apply Le.t6 | with_reducible apply Le.t7 | with_reducible apply Le.t8 | with_reducible apply Le.elim | with_reducible apply le_panel_digits | with_reducible apply le_panel_needle | with_reducible apply le_panel_zoneOf | with_reducible apply le_panel_face_L1 | intro _)

def panel_faces_L1_c (p : api_Panel) (l : List api_Track) (s : api_PanelState) (out2 : List api_Face) (i : Int) : Option (((List api_Face) × Int) ⊕ ((List api_Face))) :=
  if (decide (i < (p.Instruments.length : Int))) = true then
  (idx p.Instruments i).bind fun x =>
  (panel_trackOf_c l x).bind fun y =>
  (idx l y).bind fun x2 =>
  ((if (decide (0 ≤ s.Frame)) = true then
  (panel_value_c x2 s.Frame).bind fun y2 =>
  some (y2.1, y2.2)
  else
  some ((api_Sample.mk 0 0 0), false)) : Option ((api_Sample × Bool))).bind (t2 fun (x3 : api_Sample) (known : Bool) =>
  (idx s.Memos i).bind fun x4 =>
  (panel_face_c x x4 x2.Series.Den x3 known).bind fun y3 =>
  (app out2 ([y3] : List api_Face)).bind fun l2 =>
  some (.inl (l2, (i64 (i + 1)))))
  else
  some (.inr out2)
theorem le_panel_faces_L1 (p : api_Panel) (l : List api_Track) (s : api_PanelState) (out2 : List api_Face) (i : Int) : Le (panel_faces_L1_c p l s out2 i) (panel_faces_L1 p l s out2 i) := by
  unfold panel_faces_L1_c panel_faces_L1
  repeat' (first | with_reducible exact Le.refl _ | with_reducible apply Le.bind | with_reducible apply Le.ite | with_reducible apply Le.gd | with_reducible apply Le.loop | with_reducible apply Le.t0 | with_reducible apply Le.t1 | with_reducible apply Le.t2 | with_reducible apply Le.t3 | with_reducible apply Le.t4 | with_reducible apply Le.t5 | with_reducible apply Le.t6 | with_reducible apply Le.t7 | with_reducible apply Le.t8 | with_reducible apply Le.elim | with_reducible apply le_panel_trackOf | with_reducible apply le_panel_value | with_reducible apply le_panel_face | intro _)

def panel_faces_c (p : api_Panel) (l : List api_Track) (s : api_PanelState) : Option (List api_Face) :=
  ((cloop (t2 (panel_faces_L1_c p l s)) ([], 0)) : Option (((List api_Face)))).bind (t1 fun (out : List api_Face) =>
  some out)
theorem le_panel_faces (p : api_Panel) (l : List api_Track) (s : api_PanelState) : Le (panel_faces_c p l s) (panel_faces p l s) := by
  unfold panel_faces_c panel_faces
  repeat' (first | with_reducible exact Le.refl _ | with_reducible apply Le.bind | with_reducible apply Le.ite | with_reducible apply Le.gd | with_reducible apply Le.loop | with_reducible apply Le.t0 | with_reducible apply Le.t1 | with_reducible apply Le.t2 | with_reducible apply Le.t3 | with_reducible apply Le.t4 | with_reducible apply Le.t5 | with_reducible apply Le.t6 | with_reducible apply Le.t7 | with_reducible apply Le.t8 | with_reducible apply Le.elim | with_reducible apply le_panel_faces_L1 | intro _)

def panel_Replay_Faces_c (r_ : panel_Replay) : Option (List api_Face) :=
  (panel_faces_c r_.p r_.l r_.state).bind fun y =>
  some y
theorem le_panel_Replay_Faces (r_ : panel_Replay) : Le (panel_Replay_Faces_c r_) (panel_Replay_Faces r_) := by
  unfold panel_Replay_Faces_c panel_Replay_Faces
  repeat' (first | with_reducible exact Le.refl _ | with_reducible apply Le.bind | with_reducible apply Le.ite | with_reducible apply Le.gd | with_reducible apply Le.loop | with_reducible apply Le.t0 | with_reducible apply Le.t1 | with_reducible apply Le.t2 | with_reducible apply Le.t3 | with_reducible apply Le.t4 | with_reducible apply Le.t5 | with_reducible apply Le.t6 | with_reducible apply Le.t7 | with_reducible apply Le.t8 | with_reducible apply Le.elim | with_reducible apply le_panel_faces | intro _)

def law8_shown_c : Option Bool :=
  (panel_New_c (api_Panel.mk ([(api_Instrument.mk 1 [97] [116] 1 0 0 0 [] 0 0 false 0)] : List api_Instrument)) ([(api_Track.mk [116] (api_Series.mk 2 ([(api_Sample.mk 70 (-3) 4)] : List api_Sample)) 100)] : List api_Track) 1).bind (Sum.elim (fun y =>
  (gd ((!decide (y = 0)) == false) () (none : Option Unit)).bind fun u =>
  if ((!decide (y = 0)) || (!decide (0 = 0))) = true then
  some false
  else
  none) (fun y =>
  ((if ((!decide (y.2 = 0)) == false) = true then
  (panel_Replay_Step_v1_c y.1 2).bind fun y2 =>
  if (false || (!decide (y2.1 = 0))) = true then
  some (.inl false)
  else
  some (.inr (y2.2.p, y2.2.l, y2.2.keep, y2.2.state, y2.2.kept, y2.2.marks))
  else
  (gd (true == false) () (none : Option Unit)).bind fun u2 =>
  if (true || false) = true then
  some (.inl false)
  else
  some (.inr (y.1.p, y.1.l, y.1.keep, y.1.state, y.1.kept, y.1.marks))) : Option ((Bool) ⊕ (api_Panel × (List api_Track) × Int × api_PanelState × (List api_PanelState) × (List api_Bookmark)))).bind (Sum.elim (fun v => some v) (t6 fun (p : api_Panel) (l : List api_Track) (keep : Int) (state : api_PanelState) (kept : List api_PanelState) (marks : List api_Bookmark) =>
  (panel_Replay_Faces_c (panel_Replay.mk p l keep state kept marks)).bind fun y3 =>
  (gd ((decide ((y3.length : Int) = 1)) == true) (api_Face.mk [] 0 false 0) (idx y3 0)).bind fun x =>
  some ((decide ((y3.length : Int) = 1)) && (decide (x.Text = [45, 49, 46, 53]) && (decide (x.Needle = 0) && ((x.Lit == false) && (decide (x.Mark = 4) && true)))))))))
theorem le_law8_shown : Le (law8_shown_c ) (law8_shown ) := by
  unfold law8_shown_c law8_shown
  repeat' (first | with_reducible exact Le.refl _ | with_reducible apply Le.bind | with_reducible apply Le.ite | with_reducible apply Le.gd | with_reducible apply Le.loop | with_reducible apply Le.t0 | with_reducible apply Le.t1 | with_reducible apply Le.t2 | with_reducible apply Le.t3 | with_reducible apply Le.t4 | with_reducible apply Le.t5 | with_reducible apply Le.t6 | with_reducible apply Le.t7 | with_reducible apply Le.t8 | with_reducible apply Le.elim | with_reducible apply le_panel_New | with_reducible apply le_panel_Replay_Step_v1 | with_reducible apply le_panel_Replay_Faces | intro _)
end Go.Vx

namespace Go.Vx
open Go Go.RowKit
theorem shown_c : law8_shown_c = some true := by decide +kernel
theorem shown_s : law8_shown = some true := le_law8_shown true shown_c
end Go.Vx
