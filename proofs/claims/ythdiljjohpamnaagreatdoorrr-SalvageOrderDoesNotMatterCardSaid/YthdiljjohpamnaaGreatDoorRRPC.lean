/- A text of the proof: a verified executor of the program form, or the contracts of the functions that the law reaches. -/
import Derived.Test.YthdiljjohpamnaaGreatDoorRRPB
import Derived.Test.YthdiljjohpamnaaGreatDoorRRPA
set_option linter.all false
namespace Go.Vx
open Go Go.RowKit
theorem ZkE {V : Type} {k x : Int} {a : V} : ∀ {m : List (Int × V)}, ZbU kqI (Z0 kqI m k a) x = if x = k then some a else ZbU kqI m x
  | [] => by rw [ZgW, Zag]
  | (c, v) :: m => by
    rw [ZaP]
    by_cases h : k = c
    · subst h
      rw [if_pos rfl, Zag, Zag]
      by_cases hx : x = k
      · rw [if_pos hx, if_pos hx]
      · rw [if_neg hx, if_neg hx, if_neg hx]
    · rw [if_neg h, Zag, Zag, ZkE]
      by_cases hx : x = c
      · rw [if_pos hx, if_pos hx, if_neg (fun e => h (by rw [← e, hx]))]
      · rw [if_neg hx, if_neg hx]
def grp (l : List api_Rest) (n : Int) : List api_Rest := l.filter fun r => decide (r.Number = n)
theorem Zov {l : List api_Rest} {k : Nat} {x : api_Rest} (hx : l[k]? = some x) (n : Int) : grp (l.take (k + 1)) n = grp (l.take k) n ++ (if x.Number = n then [x] else []) := by
  unfold grp
  rw [List.take_succ, hx, List.filter_append]
  congr 1
  by_cases h : x.Number = n <;> simp [h]
theorem ZeL {l : List api_Rest} {n : Int} {r : api_Rest} : r ∈ grp l n ↔ r ∈ l ∧ r.Number = n := by unfold grp; simp
structure LOK (l : List api_Rest) : Prop where
  len : l.length ≤ 1000000000
  nar : ∀ r ∈ l, ∀ i, 0 ≤ wd r.Frame i ∧ wd r.Frame i ≤ 4095
  cop : ∀ r ∈ l, 0 ≤ r.Copies ∧ r.Copies ≤ 1000000000
theorem LOK.grp {l : List api_Rest} (h : LOK l) {n : Int} (hn : Go.Vx.grp l n ≠ []) : MOK n (Go.Vx.grp l n) :=
  ⟨hn, Nat.le_trans (List.length_filter_le _ _) h.len, fun _ hr => (ZeL.1 hr).2, fun r hr => h.nar r (ZeL.1 hr).1, fun r hr => h.cop r (ZeL.1 hr).1⟩
def ZmU (l : List api_Rest) (k : Nat) (g : List (Int × List api_Rest)) : Prop := ∀ n, ZbU kqI g n = if grp (l.take k) n = [] then none else some (grp (l.take k) n)
def Zmn (l : List api_Rest) (k : Nat) (y : List Int) : Prop := ∀ n, n ∈ y ↔ ∃ r ∈ l.take k, r.Number = n
theorem ZjN {l : List api_Rest} {n : Int} : grp l n = [] ↔ ¬ ∃ r ∈ l, r.Number = n := by
  constructor
  · rintro h ⟨r, hr, hn⟩
    have := ZeL.2 ⟨hr, hn⟩
    rw [h] at this; exact List.not_mem_nil this
  · intro h
    exact List.eq_nil_iff_forall_not_mem.2 fun r hr => h ⟨r, ZeL.1 hr⟩
theorem Zia {l : List api_Rest} {k : Nat} {x : api_Rest} (hx : l[k]? = some x) {g : List (Int × List api_Rest)} (h : ZmU l k g) : ZmU l (k + 1) (Z0 kqI g x.Number (grp (l.take k) x.Number ++ [x])) := by
  intro n
  rw [ZkE, Zov hx]
  by_cases hn : n = x.Number
  · subst hn; rw [if_pos rfl, if_pos rfl, if_neg (by simp)]
  · rw [if_neg hn, if_neg (Ne.symm hn), List.append_nil]; exact h n
theorem ZgV {l : List api_Rest} {k : Nat} {x : api_Rest} (hx : l[k]? = some x) {y y' : List Int} (h : Zmn l k y) (hy : ∀ n, n ∈ y' ↔ n ∈ y ∨ n = x.Number) : Zmn l (k + 1) y' := by
  intro n
  rw [hy, h n]
  constructor
  · rintro (⟨r, hr, e⟩ | rfl)
    · exact ⟨r, (ZH hx).2 (.inl hr), e⟩
    · exact ⟨x, (ZH hx).2 (.inr rfl), rfl⟩
  · rintro ⟨r, hr, e⟩
    rcases (ZH hx).1 hr with h' | rfl
    · exact .inl ⟨r, h', e⟩
    · exact .inr e.symm
theorem Zo3 (l : List api_Rest) : ZmU l 0 [] := fun n => by rw [List.take_zero]; rfl
theorem ZoJ (l : List api_Rest) : Zmn l 0 [] := fun n => by rw [List.take_zero]; simp
def GR (l : List api_Rest) (out : List api_Rest) : Prop :=
  ∃ y : List Int, y.Pairwise (· < ·) ∧ (∀ n, n ∈ y ↔ ∃ r ∈ l, r.Number = n) ∧ out.length = y.length ∧ ∀ (i : Nat) n o, y[i]? = some n → out[i]? = some o → MG n (grp l n) o
theorem Zjg : ∀ {a b : List Int}, a.Pairwise (· < ·) → b.Pairwise (· < ·) → (∀ n, n ∈ a ↔ n ∈ b) → a = b
  | [], [], _, _, _ => rfl
  | [], b :: _, _, _, h => by have := (h b).2 (by simp); cases this
  | a :: _, [], _, _, h => by have := (h a).1 (by simp); cases this
  | a :: ta, b :: tb, ha, hb, h => by
    rw [List.pairwise_cons] at ha hb
    have e : a = b := by
      rcases List.mem_cons.1 ((h a).1 (by simp)) with e | h1
      · exact e
      · rcases List.mem_cons.1 ((h b).2 (by simp)) with e | h2
        · exact e.symm
        · have := ha.1 b h2; have := hb.1 a h1; omega
    subst e
    rw [Zjg ha.2 hb.2 fun n => ?_]
    constructor
    · intro hn
      rcases List.mem_cons.1 ((h n).1 (List.mem_cons_of_mem _ hn)) with e | h'
      · have := ha.1 n hn; omega
      · exact h'
    · intro hn
      rcases List.mem_cons.1 ((h n).2 (List.mem_cons_of_mem _ hn)) with e | h'
      · have := hb.1 n hn; omega
      · exact h'
theorem ZnH {l l' : List api_Rest} (h : l.Perm l') : sumC l = sumC l' := by
  unfold sumC
  induction h with
  | nil => rfl
  | cons x _ ih => simp [ih]
  | swap x y l => simp only [List.map_cons, List.sum_cons]; omega
  | trans _ _ ih1 ih2 => exact ih1.trans ih2
theorem GR.uniq {l l' : List api_Rest} (hp : l.Perm l') {o o' : List api_Rest} (h : GR l o) (h' : GR l' o') : o = o' := by
  obtain ⟨y, h1, h2, h3, h4⟩ := h
  obtain ⟨y', g1, g2, g3, g4⟩ := h'
  have hy : y = y' := Zjg h1 g1 fun n => by rw [h2, g2]; simp only [hp.mem_iff]
  subst hy
  refine List.ext_getElem? fun i => ?_
  by_cases hi : i < y.length
  · obtain ⟨n, hn⟩ := ZT hi
    obtain ⟨a, ha⟩ := ZT (xs := o) (k := i) (by omega)
    obtain ⟨b, hb⟩ := ZT (xs := o') (k := i) (by omega)
    rw [ha, hb]
    have hpg : (grp l n).Perm (grp l' n) := hp.filter _
    rw [(h4 i n a hn ha).uniq (fun r => hpg.mem_iff) (ZnH hpg) (g4 i n b hn hb)]
  · rw [List.getElem?_eq_none (by omega), List.getElem?_eq_none (by omega)]
theorem Zk0 {α : Type} {o : Option α} (h : o = none) : ZiP o = .inl () := by rw [h]; rfl
theorem Zg2 {α : Type} {o : Option α} {x : α} (h : o = some x) : ZiP o = .inr x := by rw [h]; rfl
theorem Zld {l : List api_Rest} (hl : LOK l) {y : List Int} (hy : y.Pairwise (· < ·)) (hm : Zmn l l.length y) (hlen : y.length ≤ 1000000000) {body : List api_Rest → Int → Option ((List api_Rest × Int) ⊕ List api_Rest)} {mrg : List api_Rest → Option api_Rest}
    (hmrg : ∀ n m, MOK n m → ∃ o, mrg m = some o ∧ MG n m o)
    (hstep : ∀ (out : List api_Rest) (k : Nat) n, y[k]? = some n → grp l n ≠ [] → body out (k : Int) = (mrg (grp l n)).bind fun o => (app out [o]).bind fun l5 => some (.inl (l5, (k : Int) + 1)))
    (hend : ∀ out, body out (y.length : Int) = some (.inr out)) : ∃ out, loop (t2 body) ([], 0) = some out ∧ GR l out := by
  have hmem : ∀ n, n ∈ y ↔ ∃ r ∈ l, r.Number = n := fun n => by have := hm n; rwa [List.take_length] at this
  obtain ⟨out, e1, e2, e3⟩ := Jg (body := body) (N := y.length) (fun k out => out.length = k ∧ ∀ (i : Nat) n o, y[i]? = some n → out[i]? = some o → MG n (grp l n) o) (fun out => out.length = y.length ∧ ∀ (i : Nat) n o, y[i]? = some n → out[i]? = some o → MG n (grp l n) o)
    (by
      rintro k out hk ⟨h1, h2⟩
      obtain ⟨n, hn⟩ := ZT hk
      have hne : grp l n ≠ [] := fun e => ZjN.1 e ((hmem n).1 (List.mem_of_getElem? hn))
      obtain ⟨o, g1, g2⟩ := hmrg n _ (hl.grp hne)
      left
      rw [hstep out k n hn hne, g1, Option.bind_some, XP (by simp; omega), Option.bind_some]
      refine ⟨_, rfl, by simp [h1], fun i n' o' hi ho => ?_⟩
      by_cases hik : i < out.length
      · rw [List.getElem?_append_left hik] at ho; exact h2 i n' o' hi ho
      · rw [List.getElem?_append_right (by omega)] at ho
        have : i - out.length = 0 := by
          have := (List.getElem?_eq_some_iff.1 ho).1
          simp at this; omega
        rw [this] at ho
        have hio : i = k := by omega
        subst hio
        cases ho
        rw [hn] at hi; cases hi
        exact g2) (fun out h => ⟨out, hend out, h⟩) (s0 := []) ⟨rfl, fun i n o _ ho => by simp at ho⟩
  exact ⟨out, e1, y, hy, hmem, e2, e3⟩
theorem Zn4 {l : List api_Rest} (hl : LOK l) : ∃ out, QO l = some out ∧ GR l out := by
  have hlen := hl.len
  obtain ⟨r, e1, g, y, rfl, h1, h2, h3, h4⟩ := ZdA (body := Q6 l) (N := l.length) (fun k g y => ZmU l k g ∧ Zmn l k y ∧ y.Nodup ∧ y.length ≤ k)
    (fun r => ∃ g y, r = (g, y) ∧ ZmU l l.length g ∧ Zmn l l.length y ∧ y.Nodup ∧ y.length ≤ l.length)
    (by
      rintro k g y hk ⟨h1, h2, h3, h4⟩
      obtain ⟨x, hx⟩ := ZT hk
      left
      unfold Q6
      rw [if_pos (by simp; omega), Z2 hx, Option.bind_some, XO hk (by omega)]
      have hg := h1 x.Number
      by_cases hn : grp (l.take k) x.Number = []
      · rw [if_pos hn] at hg
        rw [Zk0 hg, Option.bind_some, Sum.elim_inl, if_pos rfl, XP (by simp; omega), Option.bind_some, Option.bind_some, QN, Option.bind_some, Sum.elim_inl, XP (by simp), Option.bind_some, Option.bind_some, Zc8]
        have hnm : x.Number ∉ y := fun hm => ZjN.1 hn ((h2 _).1 hm)
        refine ⟨_, _, rfl, ?_, ZgV hx h2 (fun n => by simp), ?_, by simp; omega⟩
        · have := Zia hx h1
          rw [hn] at this; exact this
        · exact List.nodup_append.2 ⟨h3, by simp, fun a ha b hb e => hnm (by rw [List.mem_singleton] at hb; rw [← hb, ← e]; exact ha)⟩
      · rw [if_neg hn] at hg
        have hpos : 0 < (grp (l.take k) x.Number).length := List.length_pos_iff.2 hn
        have hgl : (grp (l.take k) x.Number).length ≤ l.length := Nat.le_trans (List.length_filter_le _ _) (by rw [List.length_take]; omega)
        have hxm : x.Number ∈ y := by
          obtain ⟨r, hr⟩ := List.exists_mem_of_ne_nil _ hn
          exact (h2 _).2 ⟨r, ZeL.1 hr⟩
        rw [Zg2 hg, Option.bind_some, Sum.elim_inr]
        have hck : ck (decide (0 < (grp (l.take k) x.Number).length)) = some () := by unfold ck; rw [if_pos (by simpa using hpos)]
        rw [hck, Option.bind_some, if_neg (by simp), Option.bind_some, QN, Option.bind_some, Sum.elim_inr, XP (by simp; omega), Option.bind_some, Option.bind_some, Zc8]
        exact ⟨_, _, rfl, Zia hx h1, ZgV hx h2 (fun n => ⟨.inl, fun h => h.elim id fun e => by rw [e]; exact hxm⟩), h3, by omega⟩)
    (by
      rintro g y ⟨h1, h2, h3, h4⟩
      exact ⟨_, by unfold Q6; rw [if_neg (by simp)], g, y, rfl, h1, h2, h3, h4⟩) (a0 := []) (b0 := []) ⟨Zo3 l, ZoJ l, List.nodup_nil, Nat.le_refl _⟩
  unfold QO
  rw [e1, Option.bind_some, Zc8]
  have hp := List.mergeSort_perm y (fun x z => decide (x ≤ z))
  have hs := List.pairwise_mergeSort (le := fun x z => decide ((x : Int) ≤ z)) (fun a b c h1 h2 => by simp only [decide_eq_true_iff] at *; omega) (fun a b => by simp only [Bool.or_eq_true, decide_eq_true_iff]; omega) y
  have hj : Zhl y = some (y.mergeSort fun x z => decide (x ≤ z)) := by unfold Zhl; rw [if_pos (by omega)]
  rw [hj, Option.bind_some]
  generalize y.mergeSort (fun x z => decide (x ≤ z)) = z at hp hs
  have hnd : z.Nodup := hp.symm.nodup h3
  have hst : z.Pairwise (· < ·) := by
    have := List.Pairwise.and hs hnd
    exact this.imp fun ⟨a, b⟩ => by simp only [decide_eq_true_iff] at a; omega
  have hzl : z.length = y.length := hp.length_eq
  obtain ⟨out, o1, o2⟩ := Zld hl hst (y := z) (fun n => by rw [hp.mem_iff]; exact h2 n) (by omega) (body := Q0 g z) (mrg := XX) (fun n m hm => ZpX hm)
    (fun out k n hn hne => by
      unfold Q0
      have hkl := (List.getElem?_eq_some_iff.1 hn).1
      have hg := h1 n
      rw [List.take_length, if_neg hne] at hg
      rw [if_pos (by simp; omega), Z2 hn, Option.bind_some, Zg2 hg, Option.bind_some, Sum.elim_inr, XO hkl (by omega)])
    (fun out => by unfold Q0; rw [if_neg (by simp)])
  rw [o1, Option.bind_some, QN]
  exact ⟨out, rfl, o2⟩
end Go.Vx

namespace Go.Vx
open Go Go.RowKit
theorem Zq6 {o : List Int} {at_ : Nat} (h : at_ ≤ o.length) (n : Int) :
    (cpy (o ++ [0]) (at_ + 1) ((o.length + 1) - (at_ + 1)) at_ ((o.length + 1) - at_)).set at_ n = o.take at_ ++ n :: o.drop at_ := by
  have hl : (o ++ [(0 : Int)]).length = o.length + 1 := by simp
  have h1 : (at_ + 1) + ((o.length + 1) - (at_ + 1)) ≤ (o ++ [(0 : Int)]).length := by omega
  have h2 : at_ + ((o.length + 1) - at_) ≤ (o ++ [(0 : Int)]).length := by omega
  refine List.ext_getElem? fun i => ?_
  by_cases hi : i < o.length + 1
  · by_cases hia : i = at_
    · subst hia
      rw [List.getElem?_set_self (by rw [JI h1 h2]; omega), List.getElem?_append_right (by simp; omega)]
      simp [Nat.min_eq_left h]
    · rw [List.getElem?_set_ne (Ne.symm hia), Zng h1 h2 (by omega)]
      by_cases hlt : i < at_
      · rw [if_neg (by omega), List.getElem?_append_left (by omega), List.getElem?_append_left (by simp; omega), List.getElem?_take_of_lt hlt]
      · rw [if_pos (by omega), List.getElem?_append_left (by omega), List.getElem?_append_right (by simp; omega)]
        have e : i - (o.take at_).length = (i - at_ - 1) + 1 := by simp; omega
        rw [e, List.getElem?_cons_succ, List.getElem?_drop]
        congr 1
  · rw [List.getElem?_eq_none (by rw [List.length_set, JI h1 h2]; omega), List.getElem?_eq_none (by simp; omega)]
theorem Zri {o : List Int} (ho : o.Pairwise (· < ·)) (hl : o.length ≤ 1000000000) {n : Int} (hn : n ∉ o) {body : Int → Option (Int ⊕ Int)}
    (hb : ∀ k : Nat, k ≤ o.length → body (k : Int) = (gd ((decide ((0 : Int) < (k : Int))) == true) 0 (idx o (i64 ((k : Int) - 1)))).bind fun x2 => if ((decide ((0 : Int) < (k : Int))) && (decide (n < x2))) = true then some (.inl (i64 ((k : Int) - 1))) else some (.inr (k : Int))) :
    ∃ at_ : Nat, loop (t1 body) (o.length : Int) = some (at_ : Int) ∧ at_ ≤ o.length ∧ (∀ i x, i < at_ → o[i]? = some x → x < n) ∧ ∀ i x, at_ ≤ i → o[i]? = some x → n < x := by
  obtain ⟨r, e1, at_, rfl, e2⟩ := Zeq (body := t1 body) (fun s => ∃ k : Nat, s = k ∧ k ≤ o.length ∧ ∀ i x, k ≤ i → o[i]? = some x → n < x) (fun s => s.toNat)
    (fun r => ∃ at_ : Nat, r = (at_ : Int) ∧ at_ ≤ o.length ∧ (∀ i x, i < at_ → o[i]? = some x → x < n) ∧ ∀ i x, at_ ≤ i → o[i]? = some x → n < x)
    (by
      rintro s ⟨k, rfl, hk, h1⟩
      rw [QN, hb k hk]
      by_cases h0 : 0 < k
      · obtain ⟨x, hx⟩ := ZT (xs := o) (k := k - 1) (by omega)
        have e : i64 ((k : Int) - 1) = ((k - 1 : Nat) : Int) := by rw [Z7 (by omega) (by omega)]; omega
        rw [show decide ((0 : Int) < (k : Int)) = true by simp; omega, Zcu, e, Z2 hx, Option.bind_some]
        by_cases hlt : n < x
        · left
          refine ⟨_, by rw [if_pos (by simp [hlt])], ⟨k - 1, rfl, by omega, fun i y hi hy => ?_⟩, by simp only [Int.toNat_natCast]; omega⟩
          by_cases hik : i = k - 1
          · subst hik; rw [hx] at hy; cases hy; exact hlt
          · exact h1 i y (by omega) hy
        · right
          refine ⟨_, by rw [if_neg (by simp; omega)], k, rfl, hk, fun i y hi hy => ?_, h1⟩
          have hxn : x < n := by
            have : x ≠ n := fun e => hn (by rw [← e]; exact List.mem_of_getElem? hx)
            omega
          by_cases hik : i = k - 1
          · subst hik; rw [hx] at hy; cases hy; exact hxn
          · obtain ⟨hil, hy'⟩ := List.getElem?_eq_some_iff.1 hy
            obtain ⟨hxl, hx'⟩ := List.getElem?_eq_some_iff.1 hx
            have := List.pairwise_iff_getElem.1 ho i (k - 1) hil hxl (by omega)
            rw [hy', hx'] at this
            omega
      · right
        refine ⟨_, by rw [show decide ((0 : Int) < (k : Int)) = false by simp; omega]; rfl, k, rfl, hk, fun i y hi => by omega, h1⟩) _ ⟨o.length, rfl, Nat.le_refl _, fun i x hi hx => by have := (List.getElem?_eq_some_iff.1 hx).1; omega⟩
  exact ⟨at_, e1, e2⟩
theorem Zm8 {o : List Int} (ho : o.Pairwise (· < ·)) {n : Int} {at_ : Nat} (h1 : ∀ i x, i < at_ → o[i]? = some x → x < n) (h2 : ∀ i x, at_ ≤ i → o[i]? = some x → n < x) : (o.take at_ ++ n :: o.drop at_).Pairwise (· < ·) := by
  have ha : ∀ x ∈ o.take at_, x < n := fun x hx => by
    obtain ⟨i, hi⟩ := List.getElem?_of_mem hx
    have hil : i < at_ := by have := (List.getElem?_eq_some_iff.1 hi).1; simp at this; omega
    rw [List.getElem?_take_of_lt hil] at hi
    exact h1 i x hil hi
  have hb : ∀ x ∈ o.drop at_, n < x := fun x hx => by
    obtain ⟨i, hi⟩ := List.getElem?_of_mem hx
    rw [List.getElem?_drop] at hi
    exact h2 _ x (by omega) hi
  refine List.pairwise_append.2 ⟨ho.sublist (List.take_sublist _ _), List.pairwise_cons.2 ⟨hb, ho.sublist (List.drop_sublist _ _)⟩, fun x hx y hy => ?_⟩
  rcases List.mem_cons.1 hy with rfl | hy
  · exact ha x hx
  · have := ha x hx; have := hb y hy; omega
theorem ZmJ {l : List api_Rest} (hl : LOK l) : ∃ out, XW l = some out ∧ GR l out := by
  have hlen := hl.len
  obtain ⟨r, e1, y, g, rfl, h1, h2, h3, h4⟩ := ZdA (body := JM l) (N := l.length) (fun k y g => ZmU l k g ∧ Zmn l k y ∧ y.Pairwise (· < ·) ∧ y.length ≤ k)
    (fun r => ∃ y g, r = (y, g) ∧ ZmU l l.length g ∧ Zmn l l.length y ∧ y.Pairwise (· < ·) ∧ y.length ≤ l.length)
    (by
      rintro k y g hk ⟨h1, h2, h3, h4⟩
      obtain ⟨x, hx⟩ := ZT hk
      left
      unfold JM
      rw [if_pos (by simp; omega), Z2 hx, Option.bind_some, XO hk (by omega)]
      have hg := h1 x.Number
      by_cases hn : grp (l.take k) x.Number = []
      · rw [if_pos hn] at hg
        have hnm : x.Number ∉ y := fun hm => ZjN.1 hn ((h2 _).1 hm)
        obtain ⟨at_, f1, f2, f3, f4⟩ := Zri h3 (by omega) hnm (body := ZaW y x) (fun k _ => by unfold ZaW; rfl)
        rw [Zk0 hg, Option.bind_some, Sum.elim_inl, if_pos (by simp), f1, Option.bind_some, QN, XP (by simp; omega), Option.bind_some]
        have hl2 : (y ++ [(0 : Int)]).length = y.length + 1 := by simp
        have ea : i64 ((at_ : Int) + 1) = ((at_ + 1 : Nat) : Int) := by rw [Z7 (by omega) (by omega)]; omega
        have hs1 : slq (y ++ [(0 : Int)]) ((at_ + 1 : Nat) : Int) ((y ++ [(0 : Int)]).length : Int) = some () := by
          unfold slq ck; rw [if_pos (by simp; omega)]
        have hs2 : slq (y ++ [(0 : Int)]) (at_ : Int) ((y ++ [(0 : Int)]).length : Int) = some () := by
          unfold slq ck; rw [if_pos (by simp; omega)]
        rw [ea, hs1, Option.bind_some, hs2, Option.bind_some]
        have t1' : Int.toNat (((y ++ [(0 : Int)]).length : Int) - ((at_ + 1 : Nat) : Int)) = (y.length + 1) - (at_ + 1) := by rw [hl2]; omega
        have t2' : Int.toNat (((y ++ [(0 : Int)]).length : Int) - (at_ : Int)) = (y.length + 1) - at_ := by rw [hl2]; omega
        rw [t1', t2', Int.toNat_natCast, Int.toNat_natCast]
        obtain ⟨z, hz⟩ := ZT (xs := cpy (y ++ [(0 : Int)]) (at_ + 1) ((y.length + 1) - (at_ + 1)) at_ ((y.length + 1) - at_)) (k := at_) (by rw [JI (by omega) (by omega)]; omega)
        rw [Z2 hz, Option.bind_some, Option.bind_some, QN, Option.bind_some, Sum.elim_inl, XP (by simp), Option.bind_some, Option.bind_some, Zc8, Zq6 f2]
        refine ⟨_, _, rfl, ?_, ZgV hx h2 (fun n => ?_), Zm8 h3 f3 f4, by simp; omega⟩
        · have := Zia hx h1
          rw [hn] at this; exact this
        · rw [List.mem_append, List.mem_cons]
          have : n ∈ y ↔ n ∈ y.take at_ ∨ n ∈ y.drop at_ := by rw [← List.mem_append, List.take_append_drop]
          rw [this]
          constructor
          · rintro (h | h | h)
            · exact .inl (.inl h)
            · exact .inr h
            · exact .inl (.inr h)
          · rintro ((h | h) | h)
            · exact .inl h
            · exact .inr (.inr h)
            · exact .inr (.inl h)
      · rw [if_neg hn] at hg
        have hpos : 0 < (grp (l.take k) x.Number).length := List.length_pos_iff.2 hn
        have hgl : (grp (l.take k) x.Number).length ≤ l.length := Nat.le_trans (List.length_filter_le _ _) (by rw [List.length_take]; omega)
        have hxm : x.Number ∈ y := by
          obtain ⟨r, hr⟩ := List.exists_mem_of_ne_nil _ hn
          exact (h2 _).2 ⟨r, ZeL.1 hr⟩
        rw [Zg2 hg, Option.bind_some, Sum.elim_inr, if_neg (by simp; omega), Option.bind_some, QN, Option.bind_some, Sum.elim_inr, XP (by simp; omega), Option.bind_some, Option.bind_some, Zc8]
        exact ⟨_, _, rfl, Zia hx h1, ZgV hx h2 (fun n => ⟨.inl, fun h => h.elim id fun e => by rw [e]; exact hxm⟩), h3, by omega⟩)
    (by
      rintro y g ⟨h1, h2, h3, h4⟩
      exact ⟨_, by unfold JM; rw [if_neg (by simp)], y, g, rfl, h1, h2, h3, h4⟩) (a0 := []) (b0 := []) ⟨Zo3 l, ZoJ l, List.Pairwise.nil, Nat.le_refl _⟩
  unfold XW
  rw [e1, Option.bind_some, Zc8]
  obtain ⟨out, o1, o2⟩ := Zld hl h3 h2 (by omega) (body := JP y g) (mrg := Zcn) (fun n m hm => Zpr hm)
    (fun out k n hn hne => by
      unfold JP
      have hkl := (List.getElem?_eq_some_iff.1 hn).1
      have hg := h1 n
      rw [List.take_length, if_neg hne] at hg
      rw [if_pos (by simp; omega), Z2 hn, Option.bind_some, Zg2 hg, Option.bind_some, Sum.elim_inr, XO hkl (by omega)])
    (fun out => by unfold JP; rw [if_neg (by simp)])
  rw [o1, Option.bind_some, QN]
  exact ⟨out, rfl, o2⟩
theorem Zil {l l' : List api_Rest} (hl : LOK l) (hp : l.Perm l') : ∃ out, QO l = some out ∧ XW l' = some out ∧ GR l out := by
  have hl' : LOK l' := ⟨by rw [← hp.length_eq]; exact hl.len, fun r hr => hl.nar r (hp.mem_iff.2 hr), fun r hr => hl.cop r (hp.mem_iff.2 hr)⟩
  obtain ⟨o, h1, h2⟩ := Zn4 hl
  obtain ⟨o', h3, h4⟩ := ZmJ hl'
  exact ⟨o, h1, by rw [h3, GR.uniq hp h2 h4], h2⟩
end Go.Vx

namespace Go.Vx
open Go Go.RowKit
structure COK (H : List Int) (C : List api_Found) : Prop where
  ord : C.Pairwise fun a b => a.At < b.At
  mem : ∀ x ∈ C, ∃ k : Nat, (k : Int) < H.length ∧ x = api_Found.mk (k : Int) (frW H (k : Int)).1
  len : C.length ≤ 400000
  hl : H.length ≤ 400000
  hh : hL H
theorem Zl5 (l : List api_Found) : ∀ n, n ≤ l.length → (Zkz l n).Sublist (l.take n)
  | 0, _ => by simp [Zkz]
  | n + 1, h => by
    obtain ⟨x, hx⟩ := ZT (xs := l) (k := n) (by omega)
    rw [ZgX, List.take_succ, hx]
    refine List.Sublist.append (Zl5 l n (by omega)) ?_
    unfold Zm7
    split
    · rw [ZiS hx]; exact List.Sublist.refl _
    · exact List.nil_sublist _
theorem cok {H : List Int} (h : hL H) (hl : H.length ≤ 400000) : COK H (ZiG (scL H (H.length - 191))) := by
  have hs : (ZiG (scL H (H.length - 191))).Sublist (scL H (H.length - 191)) := by
    have := Zl5 (scL H (H.length - 191)) _ (Nat.le_refl _)
    rwa [List.take_length] at this
  refine ⟨(ZhA H _).sublist hs, fun x hx => ?_, ?_, hl, h⟩
  · obtain ⟨k, hk, e, _⟩ := ZlB (hs.subset hx)
    exact ⟨k, by omega, e⟩
  · have := hs.length_le
    have := Zh0 H (H.length - 191)
    omega
theorem COK.at_ {H : List Int} {C : List api_Found} (h : COK H C) {k : Nat} {x : api_Found} (hx : C[k]? = some x) : 0 ≤ x.At ∧ x.At < H.length ∧ x.At ≤ 400000 := by
  obtain ⟨j, hj, rfl⟩ := h.mem x (List.mem_of_getElem? hx)
  have := h.hl
  simp only
  omega
theorem COK.lt {H : List Int} {C : List api_Found} (h : COK H C) {i j : Nat} {x y : api_Found} (hij : i < j) (hx : C[i]? = some x) (hy : C[j]? = some y) : x.At < y.At := by
  obtain ⟨hi, rfl⟩ := List.getElem?_eq_some_iff.1 hx
  obtain ⟨hj, rfl⟩ := List.getElem?_eq_some_iff.1 hy
  exact List.pairwise_iff_getElem.1 h.ord i j hi hj hij
theorem COK.fU {H : List Int} {C : List api_Found} (h : COK H C) {k : Nat} {x : api_Found} (hx : C[k]? = some x) : Go.Vx.fU x.Frame ∧ ∀ i, 0 ≤ wd x.Frame i ∧ wd x.Frame i ≤ 4095 := by
  obtain ⟨j, hj, rfl⟩ := h.mem x (List.mem_of_getElem? hx)
  exact ⟨Zmo h.hh _, Zeo h.hh _⟩
def dst (a p : Int) : Int := if a < p then p - a else a - p
theorem Zik {a p : Int} (h1 : -1000000 ≤ a ∧ a ≤ 1000000) (h2 : -1000000 ≤ p ∧ p ≤ 1000000) : Q2 a p = some (dst a p) := by
  unfold Q2 dst
  by_cases h : a < p
  · rw [if_pos (by simp [h]), if_pos h, Z7 (by omega) (by omega)]
  · rw [if_neg (by simp; omega), if_neg h, Z7 (by omega) (by omega)]
theorem Zoz {a p : Int} (h1 : -1000000 ≤ a ∧ a ≤ 1000000) (h2 : -1000000 ≤ p ∧ p ≤ 1000000) : J4 (i64 (a - p)) = some (dst a p) := by
  unfold J4 dst
  rw [Z7 (z := a - p) (by omega) (by omega), Z7 (by omega) (by omega)]
  congr 1
  split <;> omega
def ZaF (C : List api_Found) (q : Nat → Prop) (p : Int) (n : Nat) (best : Int) : Prop :=
  (best = -1 ∧ ∀ j, j < n → ¬ q j) ∨ ∃ (b : Nat) (x : api_Found), best = b ∧ b < n ∧ q b ∧ C[b]? = some x ∧ ∀ j y, j < n → q j → C[j]? = some y → (j < b → dst x.At p < dst y.At p) ∧ (b < j → dst x.At p ≤ dst y.At p)
theorem Zm2 (C : List api_Found) (q : Nat → Prop) (p : Int) : ZaF C q p 0 (-1) := .inl ⟨rfl, fun j h => by omega⟩
theorem ZgZ {C : List api_Found} {q : Nat → Prop} {p : Int} {n : Nat} {best : Int} (hq : ¬ q n) (h : ZaF C q p n best) : ZaF C q p (n + 1) best := by
  rcases h with ⟨h1, h2⟩ | ⟨b, x, h1, h2, h3, h4, h5⟩
  · refine .inl ⟨h1, fun j hj hqj => ?_⟩
    by_cases e : j = n
    · subst e; exact hq hqj
    · exact h2 j (by omega) hqj
  · refine .inr ⟨b, x, h1, by omega, h3, h4, fun j y hj hqj hy => ?_⟩
    by_cases e : j = n
    · subst e; exact (hq hqj).elim
    · exact h5 j y (by omega) hqj hy
theorem ZhC {C : List api_Found} {q : Nat → Prop} {p : Int} {n : Nat} {y : api_Found} (hq : q n) (hy : C[n]? = some y) (h : ZaF C q p n (-1)) : ZaF C q p (n + 1) n := by
  rcases h with ⟨_, h2⟩ | ⟨b, x, h1, _⟩
  · refine .inr ⟨n, y, rfl, by omega, hq, hy, fun j z hj hqj hz => ?_⟩
    by_cases e : j = n
    · omega
    · exact (h2 j (by omega) hqj).elim
  · omega
theorem Zi0 {C : List api_Found} {q : Nat → Prop} {p : Int} {n b : Nat} {x y : api_Found} (hq : q n) (hy : C[n]? = some y) (hx : C[b]? = some x) (h : ZaF C q p n b) : ZaF C q p (n + 1) (if dst y.At p < dst x.At p then (n : Int) else b) := by
  rcases h with ⟨h1, _⟩ | ⟨b', x', h1, h2, h3, h4, h5⟩
  · omega
  · have : b' = b := by omega
    subst this
    rw [hx] at h4
    cases h4
    split
    · rename_i hlt
      refine .inr ⟨n, y, rfl, by omega, hq, hy, fun j z hj hqj hz => ?_⟩
      refine ⟨fun hjn => ?_, fun hjn => by omega⟩
      have := h5 j z hjn hqj hz
      by_cases e : j = b'
      · subst e; rw [hx] at hz; cases hz; exact hlt
      · rcases Nat.lt_or_ge j b' with hl | hl
        · have := this.1 hl; omega
        · have := this.2 (by omega); omega
    · rename_i hge
      refine .inr ⟨b', x, rfl, by omega, h3, hx, fun j z hj hqj hz => ?_⟩
      by_cases e : j = n
      · subst e; rw [hy] at hz; cases hz; exact ⟨fun hh => by omega, fun _ => by omega⟩
      · exact h5 j z (by omega) hqj hz
theorem ZiJ {C : List api_Found} {q : Nat → Prop} {p : Int} {n : Nat} {b b' : Int} (h : ZaF C q p n b) (h' : ZaF C q p n b') : b = b' := by
  rcases h with ⟨h1, h2⟩ | ⟨k, x, h1, h2, h3, h4, h5⟩ <;> rcases h' with ⟨g1, g2⟩ | ⟨k', x', g1, g2, g3, g4, g5⟩
  · omega
  · exact (h2 k' g2 g3).elim
  · exact (g2 k h2 h3).elim
  · rcases Nat.lt_trichotomy k k' with h | h | h
    · have := (h5 k' x' g2 g3 g4).2 h
      have := (g5 k x h2 h3 h4).1 h
      omega
    · omega
    · have := (h5 k' x' g2 g3 g4).1 h
      have := (g5 k x h2 h3 h4).2 h
      omega
abbrev Zju : Nat → Prop := fun _ => True
theorem ZpW {H : List Int} {C : List api_Found} (hC : COK H C) {p : Int} (hp : -1000000 ≤ p ∧ p ≤ 1000000) : ∃ b, ZbG C p = some b ∧ ZaF C Zju p C.length b := by
  have hlen := hC.len
  obtain ⟨r, e1, e2⟩ := Jg (body := ZaS C p) (N := C.length) (fun k best => ZaF C Zju p k best) (fun r => ZaF C Zju p C.length r)
    (fun k best hk hI => by
      obtain ⟨y, hy⟩ := ZT hk
      have hya := hC.at_ hy
      left
      unfold ZaS
      rw [if_pos (by simp; omega), Z2 hy, Option.bind_some, XO hk (by omega)]
      rcases hI with ⟨rfl, h2⟩ | ⟨b, x, rfl, h2, h3, h4, h5⟩
      · exact ⟨k, by simp [gd], ZhC trivial hy (.inl ⟨rfl, h2⟩)⟩
      · have hxa := hC.at_ h4
        refine ⟨_, ?_, Zi0 trivial hy h4 (.inr ⟨b, x, rfl, h2, h3, h4, h5⟩)⟩
        rw [show decide ((b : Int) < 0) = false by simp, Zik (by omega) hp, Z2 h4]
        simp only [show (false == false) = true from rfl, Zcu, Option.bind_some, Bool.false_or]
        simp only [Zdm, Option.bind_some]
        rw [Zik (by omega) hp, Option.bind_some]
        by_cases hd : dst y.At p < dst x.At p
        · rw [if_pos (by simp [hd]), if_pos hd]
        · rw [if_neg (by simp; omega), if_neg hd])
    (fun best hI => ⟨best, by unfold ZaS; rw [if_neg (by simp)], hI⟩) (Zm2 C Zju p)
  exact ⟨r, by unfold ZbG; rw [e1]; rfl, e2⟩
theorem Zl6 {H : List Int} {C : List api_Found} (hC : COK H C) (p : Int) : ∀ n, n ≤ C.length → ∃ c, c ≤ n ∧ (∀ k x, k < c → C[k]? = some x → x.At < p) ∧ ∀ k x, c ≤ k → k < n → C[k]? = some x → p ≤ x.At
  | 0, _ => ⟨0, Nat.le_refl _, fun k x h => by omega, fun k x h h' => by omega⟩
  | n + 1, h => by
    obtain ⟨c, h1, h2, h3⟩ := Zl6 hC p n (by omega)
    obtain ⟨y, hy⟩ := ZT (xs := C) (k := n) (by omega)
    by_cases hlt : y.At < p
    · refine ⟨n + 1, Nat.le_refl _, fun k x hk hx => ?_, fun k x h h' => by omega⟩
      by_cases e : k = n
      · subst e; rw [hy] at hx; cases hx; exact hlt
      · have := hC.lt (by omega : k < n) hx hy; omega
    · refine ⟨c, by omega, h2, fun k x hk hk' hx => ?_⟩
      by_cases e : k = n
      · subst e; rw [hy] at hx; cases hx; omega
      · exact h3 k x hk (by omega) hx
theorem ZrL {i j : Nat} (h : i + j < 4611686018427387904) : shr .u64 (u64 (i64 ((i : Int) + j))) 1 = some (((i + j) / 2 : Nat) : Int) := by
  rw [Z7 (by omega) (by omega)]
  unfold u64
  rw [Zrj (by omega) (by omega), shr, if_neg (by decide)]
  have : min (1 : Int).toNat IntKind.u64.bits = 1 := by decide
  rw [this]
  congr 1
  rw [Int.fdiv_eq_ediv_of_nonneg _ (by decide)]
  omega
theorem ZkP {ρ : Type} {body : Int → Int → Option ((Int × Int) ⊕ ρ)} (n c : Nat) (F : Nat → ρ) (hc : c ≤ n) (hn : n ≤ 4611686018427387904)
    (hstep : ∀ (i j m : Nat), i < j → j ≤ n → m = (i + j) / 2 → (m < c → body i j = some (.inl ((m : Int) + 1, j))) ∧ (c ≤ m → body i j = some (.inl (i, (m : Int)))))
    (hend : ∀ i : Nat, body i i = some (.inr (F i))) : loop (t2 body) (0, (n : Int)) = some (F c) := by
  refine Zdv (body := t2 body) (fun p => ∃ i j : Nat, p = ((i : Int), (j : Int)) ∧ i ≤ c ∧ c ≤ j ∧ j ≤ n) (fun p => (p.2 - p.1).toNat) (fun _ => F c) ?_ _ ⟨0, n, rfl, Nat.zero_le _, hc, Nat.le_refl _⟩
  rintro _ ⟨i, j, rfl, h1, h2, h3⟩
  simp only [Zc8]
  rcases Nat.lt_or_ge i j with h | h
  · obtain ⟨g1, g2⟩ := hstep i j ((i + j) / 2) h h3 rfl
    rcases Nat.lt_or_ge ((i + j) / 2) c with h4 | h4
    · exact .inl ⟨_, g1 h4, ⟨(i + j) / 2 + 1, j, by push_cast; rfl, h4, h2, h3⟩, by simp only; omega, by trivial⟩
    · exact .inl ⟨_, g2 h4, ⟨i, (i + j) / 2, rfl, h1, h4, by omega⟩, by simp only; omega, by trivial⟩
  · have e1 : i = c := by omega
    have e2 : j = c := by omega
    subst e1; subst e2
    exact .inr (hend _)
theorem ZnO {H : List Int} {C : List api_Found} (hC : COK H C) {p : Int} (hp : -1000000 ≤ p ∧ p ≤ 1000000) :
    ∃ (c : Nat) (b : Bool), ZM C p (fun z0 z1 => Qe z0 z1) = some ((c : Int), b) ∧ c ≤ C.length ∧ (∀ k x, k < c → C[k]? = some x → x.At < p) ∧ ∀ k x, c ≤ k → C[k]? = some x → p ≤ x.At := by
  have hlen := hC.len
  obtain ⟨c, hcl, hc1, hc2⟩ := Zl6 hC p C.length (Nat.le_refl _)
  have hc2 : ∀ k x, c ≤ k → C[k]? = some x → p ≤ x.At := fun k x h hx => hc2 k x h (List.getElem?_eq_some_iff.1 hx).1 hx
  have hcmp : ∀ (k : Nat) x, C[k]? = some x → Qe x p = some (x.At - p) := fun k x hx => by
    have := hC.at_ hx
    unfold Qe
    rw [Z7 (by omega) (by omega)]
  have hl : loop (t2 (ZK C p (fun z0 z1 => Qe z0 z1))) (0, (C.length : Int)) = some ((c : Nat) : Int) := by
    refine ZkP C.length c (fun k => (k : Int)) hcl (by omega) (fun i j m hij hj hm => ?_) (fun i => ?_)
    · obtain ⟨x, hx⟩ := ZT (xs := C) (k := m) (by omega)
      have h2 : (i : Int) < j := by omega
      have hm' : shr .u64 (u64 (i64 ((i : Int) + j))) 1 = some (m : Int) := by rw [ZrL (by omega), hm]
      have hmi : i64 (m : Int) = m := Z7 (by omega) (by omega)
      simp only [ZK, h2, decide_true, if_true, hm', Option.bind_some, hmi, Z2 hx, hcmp m x hx]
      refine ⟨fun h => ?_, fun h => ?_⟩
      · have := hc1 m x h hx
        simp [show x.At - p < 0 by omega, Z7 (show -9223372036854775808 ≤ (m : Int) + 1 by omega) (by omega)]
      · have := hc2 m x h hx
        simp [show ¬ x.At - p < 0 by omega]
    · simp [ZK]
  simp only [ZM, hl, Option.bind_some, t1]
  rcases Nat.lt_or_ge c C.length with h | h
  · obtain ⟨x, hx⟩ := ZT h
    have h' : ((c : Nat) : Int) < C.length := by omega
    refine ⟨c, _, by rw [decide_eq_true h', Z2 hx, Zcu, Option.bind_some, hcmp _ x hx, Zcu, Option.bind_some], hcl, hc1, hc2⟩
  · have h' : ¬ ((c : Nat) : Int) < C.length := by omega
    exact ⟨c, false, by rw [decide_eq_false h']; simp [gd], hcl, hc1, hc2⟩
theorem Zrn {H : List Int} {C : List api_Found} (hC : COK H C) (hne : C ≠ []) {N : List Int} {p : Int} (hp : -1000000 ≤ p ∧ p ≤ 1000000) : ∃ b, Qv ⟨H, C, N, ()⟩ p = some b ∧ ZaF C Zju p C.length b := by
  have hlen := hC.len
  have hpos : 0 < C.length := List.length_pos_iff.2 hne
  obtain ⟨c, b, e1, hcl, hc1, hc2⟩ := ZnO hC hp
  unfold Qv
  rw [show (⟨H, C, N, ()⟩ : salvage_finder).certain = C from rfl, e1, Option.bind_some]
  simp only
  by_cases hce : c = C.length
  · subst hce
    refine ⟨i64 ((C.length : Int) - 1), by simp [gd], .inr ?_⟩
    obtain ⟨x, hx⟩ := ZT (xs := C) (k := C.length - 1) (by omega)
    refine ⟨C.length - 1, x, by rw [Z7 (by omega) (by omega)]; omega, by omega, trivial, hx, fun j y hj _ hy => ⟨fun hlt => ?_, fun hlt => by omega⟩⟩
    have := hc1 _ x (by omega) hx
    have := hC.lt hlt hy hx
    unfold dst
    omega
  · obtain ⟨y, hy⟩ := ZT (xs := C) (k := c) (by omega)
    have hya := hC.at_ hy
    have hyp := hc2 c y (Nat.le_refl _) hy
    rw [decide_eq_false (show ¬ ((c : Int) = (C.length : Int)) by omega), Z2 hy]
    by_cases h0 : 0 < c
    · obtain ⟨x, hx⟩ := ZT (xs := C) (k := c - 1) (by omega)
      have hxa := hC.at_ hx
      have hxp := hc1 (c - 1) x (by omega) hx
      have hxy := hC.lt (by omega : c - 1 < c) hx hy
      have e : i64 ((c : Int) - 1) = ((c - 1 : Nat) : Int) := by rw [Z7 (by omega) (by omega)]; omega
      rw [decide_eq_true (show (0 : Int) < (c : Int) by omega), e, Z2 hx]
      simp only [show (false == false) = true from rfl, show (true == true) = true from rfl, Bool.true_and, Bool.false_or, Zdm, Option.bind_some]
      rw [Z7 (z := p - x.At) (by omega) (by omega), Z7 (z := y.At - p) (by omega) (by omega)]
      by_cases hd : p - x.At ≤ y.At - p
      · refine ⟨_, by rw [if_pos (by simpa using hd)], .inr ⟨c - 1, x, rfl, by omega, trivial, hx, fun j z hj _ hz => ?_⟩⟩
        refine ⟨fun hlt => ?_, fun hlt => ?_⟩
        · have := hC.lt hlt hz hx; unfold dst; omega
        · have := hc2 j z (by omega) hz
          have : y.At ≤ z.At := by
            by_cases e : j = c
            · subst e; rw [hy] at hz; cases hz; omega
            · have := hC.lt (by omega : c < j) hy hz; omega
          unfold dst
          omega
      · refine ⟨_, by rw [if_neg (by simpa using hd)], .inr ⟨c, y, rfl, by omega, trivial, hy, fun j z hj _ hz => ?_⟩⟩
        refine ⟨fun hlt => ?_, fun hlt => ?_⟩
        · have : z.At ≤ x.At := by
            by_cases e : j = c - 1
            · subst e; rw [hx] at hz; cases hz; omega
            · have := hC.lt (by omega : j < c - 1) hz hx; omega
          unfold dst
          omega
        · have := hC.lt hlt hy hz; unfold dst; omega
    · have h0' : c = 0 := by omega
      subst h0'
      refine ⟨_, by simp [gd], .inr ⟨0, y, rfl, by omega, trivial, hy, fun j z hj _ hz => ⟨fun h => by omega, fun hlt => ?_⟩⟩⟩
      have := hC.lt hlt hy hz
      unfold dst
      omega
end Go.Vx

namespace Go.Vx
open Go Go.RowKit
def wb (w : Vector Bool 64) (i : Nat) : Bool := w.toList.getD i false
theorem ZiN (w : Vector Bool 64) {i : Nat} (hi : i < 64) : ZA w (i : Int) = some (wb w i) := by
  unfold ZA wb
  rw [if_pos (by omega)]
  obtain ⟨x, hx⟩ := ZT (xs := w.toList) (k := ((i : Int)).toNat) (by simp; omega)
  rw [hx, List.getD_eq_getElem?_getD]
  simp only [Int.toNat_natCast] at hx
  rw [hx]; rfl
theorem ZhZ {n : Int} (h : 0 ≤ n) : 0 ≤ Xa n ∧ Xa n ≤ 4095 := by
  have := ZqJ n h
  unfold ZhB at this
  simp only [Bool.or_eq_true, decide_eq_true_eq] at this
  omega
theorem ZhP (f : Vector Int 64) : 0 ≤ (Ze8 f).1 ∧ (Ze8 f).1 < 4194304 := by
  unfold Ze8
  have := ZjH f
  split <;> simp only <;> omega
theorem ZmR {n : Int} (h1 : 0 ≤ n) (h2 : n < 4194304) : Zah n = some (Xa n, 0) ∧ Zcv n = some (Xa n, 0) := by
  have hb := ZhZ h1
  constructor
  · unfold Zah
    rw [if_neg (by simp; omega), (Zfw h1).1, Option.bind_some, (Zfw h1).2, Option.bind_some, Z7 (by omega) (by omega)]
  · unfold Zcv
    rw [if_neg (by simp; omega), Zj2 h1, Option.bind_some]
noncomputable def ZkI (f : Vector Int 64) (w : Vector Bool 64) : Int × Bool := if (wb w 0 && wb w 1 && wb w 2) = true then ((Ze8 f).1, (Ze8 f).2 && decide (wd f 0 = Xa (Ze8 f).1)) else (0, false)
theorem Zqy {f : Vector Int 64} (h : fU f) (hn : ∀ i, 0 ≤ wd f i ∧ wd f i ≤ 4095) (w : Vector Bool 64) : Zbx f w = some (ZkI f w) ∧ Zan f w = some (ZkI f w) := by
  have v0 : ZA w 0 = some (wb w 0) := ZiN w (i := 0) (by decide)
  have v1 : ZA w 1 = some (wb w 1) := ZiN w (i := 1) (by decide)
  have v2 : ZA w 2 = some (wb w 2) := ZiN w (i := 2) (by decide)
  have f0 : ZA f 0 = some (wd f 0) := Z8 f (i := 0) (by decide)
  obtain ⟨n1, n2⟩ := Zh9 h (hn 1).2 (hn 2).2
  have hb := ZhP f
  obtain ⟨s1, s2⟩ := ZmR hb.1 hb.2
  have hs := ZhZ hb.1
  have h0 := hn 0
  unfold Zbx Zan ZkI
  rw [v0, v1, v2, n1, n2]
  cases hw0 : wb w 0
  · exact ⟨rfl, rfl⟩
  cases hw1 : wb w 1
  · exact ⟨rfl, rfl⟩
  cases hw2 : wb w 2
  · exact ⟨rfl, rfl⟩
  have e : ¬ (((!true) || (!true)) || (!true)) = true := by decide
  have g : ∀ (α : Type) (d : α) (o : Option α), gd ((!true) == false) d o = o := fun _ _ _ => rfl
  have g2 : ∀ (α : Type) (d : α) (o : Option α), gd (((!true) || (!true)) == false) d o = o := fun _ _ _ => rfl
  simp only [Option.bind_some, g, g2]
  rw [if_neg e, if_neg e, if_pos (by rfl)]
  rw [s1, s2]
  have hn0 : (Ze8 f).2 = false → (Ze8 f).1 = 0 := by
    unfold Ze8
    split
    · intro hh; cases hh
    · intro _; rfl
  cases hok : (Ze8 f).2
  · simp [hn0 hok, gd]
  · simp only [Option.bind_some, Zcu, f0, Bool.true_and]
    rw [Zfs (n := Xa (Ze8 f).1) (by omega), Z7 (z := wd f 0) (by omega) (by omega)]
    exact ⟨rfl, rfl⟩
def qO (C : List api_Found) (i : Nat) (xi : api_Found) : Nat → Prop := fun j => j ≠ i ∧ ∃ x, C[j]? = some x ∧ (x.At - xi.At).tmod 194 = 0
theorem ZoW (z : Int) : rem z 194 = some (z.tmod 194) := by unfold rem; rw [if_neg (by decide)]
theorem Zoq {H : List Int} {C : List api_Found} (hC : COK H C) {i : Nat} {xi : api_Found} (hi : C[i]? = some xi) {p : Int} (hp : -1000000 ≤ p ∧ p ≤ 1000000) : ∃ b, loop (t2 (XL C (i : Int) p)) ((-1), 0) = some b ∧ ZaF C (qO C i xi) p C.length b := by
  have hlen := hC.len
  have hia := hC.at_ hi
  obtain ⟨r, e1, e2⟩ := Jg (body := XL C (i : Int) p) (N := C.length) (fun k best => ZaF C (qO C i xi) p k best) (fun r => ZaF C (qO C i xi) p C.length r)
    (fun k best hk hI => by
      obtain ⟨y, hy⟩ := ZT hk
      have hya := hC.at_ hy
      left
      unfold XL
      rw [if_pos (by simp; omega), Z2 hy, Option.bind_some, XO hk (by omega), Z2 hi]
      by_cases hki : k = i
      · subst hki
        exact ⟨best, by simp [gd], ZgZ (fun hq => hq.1 rfl) hI⟩
      rw [decide_eq_false (show ¬ ((k : Int) = (i : Int)) by omega), show (false == false) = true from rfl, Zdm, Option.bind_some, Zdm, Z7 (z := y.At - xi.At) (by omega) (by omega), ZoW, Option.bind_some]
      by_cases hm : (y.At - xi.At).tmod 194 = 0
      · have hq : qO C i xi k := ⟨hki, y, hy, hm⟩
        rw [decide_eq_true hm, if_neg (by decide)]
        rcases hI with ⟨rfl, h2⟩ | ⟨b, x, rfl, h2, h3, h4, h5⟩
        · exact ⟨k, by simp [gd], ZhC hq hy (.inl ⟨rfl, h2⟩)⟩
        · have hxa := hC.at_ h4
          refine ⟨_, ?_, Zi0 hq hy h4 (.inr ⟨b, x, rfl, h2, h3, h4, h5⟩)⟩
          rw [show decide ((b : Int) < 0) = false by simp, Zik (by omega) hp, Z2 h4]
          simp only [show (false == false) = true from rfl, Zdm, Option.bind_some, Bool.false_or]
          rw [Zik (by omega) hp, Option.bind_some]
          by_cases hd : dst y.At p < dst x.At p
          · rw [if_pos (by simp [hd]), if_pos hd]
          · rw [if_neg (by simp; omega), if_neg hd]
      · rw [decide_eq_false hm, if_pos (by decide)]
        exact ⟨best, rfl, ZgZ (fun ⟨_, x, hx, he⟩ => by rw [hy] at hx; cases hx; exact hm he) hI⟩)
    (fun best hI => ⟨best, by unfold XL; rw [if_neg (by simp)], hI⟩) (Zm2 C _ p)
  exact ⟨r, e1, e2⟩
theorem Zp7 {H : List Int} {C : List api_Found} {N : List Int} (hC : COK H C) {i : Nat} {xi : api_Found} (hi : C[i]? = some xi) {p : Int} (hp : -1000000 ≤ p ∧ p ≤ 1000000) : ∃ b, QM ⟨H, C, N, ()⟩ (i : Int) p = some b ∧ ZaF C (qO C i xi) p C.length b := by
  have hlen := hC.len
  have hia := hC.at_ hi
  obtain ⟨r, e1, e2⟩ := ZdA (body := QH ⟨H, C, N, ()⟩ (i : Int) p) (N := C.length)
    (fun k best least => ZaF C (qO C i xi) p k best ∧ ∀ (b : Nat) x, best = b → C[b]? = some x → least = dst x.At p) (fun r => ZaF C (qO C i xi) p C.length r)
    (fun k best least hk hI => by
      obtain ⟨hI, hL⟩ := hI
      obtain ⟨y, hy⟩ := ZT hk
      have hya := hC.at_ hy
      left
      unfold QH
      rw [show (⟨H, C, N, ()⟩ : salvage_finder).certain = C from rfl, if_pos (by simp; omega), Z2 hy, Option.bind_some, XO hk (by omega), Z2 hi]
      by_cases hki : k = i
      · subst hki
        exact ⟨best, least, by simp [gd], ZgZ (fun hq => hq.1 rfl) hI, hL⟩
      rw [decide_eq_false (show ¬ ((k : Int) = (i : Int)) by omega), show (false == false) = true from rfl, Zdm, Option.bind_some, Zdm, Z7 (z := y.At - xi.At) (by omega) (by omega), ZoW, Option.bind_some]
      by_cases hm : (y.At - xi.At).tmod 194 = 0
      · have hq : qO C i xi k := ⟨hki, y, hy, hm⟩
        rw [decide_eq_true hm, if_neg (by decide), Zoz (by omega) hp, Option.bind_some]
        have hnew : ∀ (b : Nat) x, (k : Int) = b → C[b]? = some x → dst y.At p = dst x.At p := fun b x e hx => by
          have : b = k := by omega
          subst this; rw [hy] at hx; cases hx; rfl
        rcases hI with ⟨rfl, h2⟩ | ⟨b, x, rfl, h2, h3, h4, h5⟩
        · exact ⟨k, dst y.At p, by simp, ZhC hq hy (.inl ⟨rfl, h2⟩), hnew⟩
        · have hxa := hC.at_ h4
          have hl := hL b x rfl h4
          subst hl
          have hn := Zi0 hq hy h4 (.inr ⟨b, x, rfl, h2, h3, h4, h5⟩)
          by_cases hd : dst y.At p < dst x.At p
          · rw [if_pos hd] at hn
            exact ⟨k, dst y.At p, by rw [if_pos (by simp [hd])], hn, hnew⟩
          · rw [if_neg hd] at hn
            exact ⟨b, dst x.At p, by rw [if_neg (by simp; omega)], hn, hL⟩
      · rw [decide_eq_false hm, if_pos (by decide)]
        exact ⟨best, least, rfl, ZgZ (fun ⟨_, x, hx, he⟩ => by rw [hy] at hx; cases hx; exact hm he) hI, hL⟩)
    (fun best least hI => ⟨best, by unfold QH; rw [show (⟨H, C, N, ()⟩ : salvage_finder).certain = C from rfl, if_neg (by simp)], hI.1⟩) (a0 := -1) (b0 := 0) ⟨Zm2 C _ p, fun b x e => by omega⟩
  exact ⟨r, by unfold QM; rw [e1]; rfl, e2⟩
theorem Zp4 {d t : Int} (hd : d ≠ 0) : 0 < t ↔ d * t ≠ 0 ∧ (0 < d * t ↔ 0 < d) := by
  rcases Int.lt_trichotomy t 0 with h | h | h
  · rcases Int.lt_or_gt_of_ne hd with h' | h'
    · have := Int.mul_pos_of_neg_of_neg h' h; omega
    · have := Int.mul_neg_of_pos_of_neg h' h; omega
  · subst h; simp
  · rcases Int.lt_or_gt_of_ne hd with h' | h'
    · have := Int.mul_neg_of_neg_of_pos h' h; omega
    · have := Int.mul_pos h' h; omega
theorem Zkk {a b : Int} (hb : b ≠ 0) (ha : -1000000000000 ≤ a ∧ a ≤ 1000000000000) : quo .i64 a b = some (a.tdiv b) ∧ (a.tdiv b).natAbs ≤ a.natAbs := by
  have h := Int.natAbs_tdiv_le_natAbs a b
  refine ⟨?_, h⟩
  unfold quo
  rw [if_neg hb, w64 (by omega) (by omega)]
noncomputable def nm (x : api_Found) : Int := (Ze8 x.Frame).1
end Go.Vx

namespace Go.Vx
open Go Go.RowKit
noncomputable def fnd (H : List Int) (C : List api_Found) : salvage_finder := ⟨H, C, C.map nm, ()⟩
theorem Zmx {H : List Int} (h : hL H) (hl : H.length ≤ 400000) : XI H = some (fnd H (ZiG (scL H (H.length - 191)))) := by
  have hC := cok h hl
  generalize hCe : ZiG (scL H (H.length - 191)) = C at hC
  have hlen := hC.len
  unfold XI
  rw [(Zlf h (by omega)).1, hCe, Option.bind_some]
  obtain ⟨r, e1, e2⟩ := ZdA (body := Q8 C) (N := C.length) (fun k numbers _ => numbers = (C.take k).map nm) (fun r => r.1 = C.map nm)
    (fun k numbers at_ hk hI => by
      obtain ⟨y, hy⟩ := ZT hk
      obtain ⟨u, w⟩ := hC.fU hy
      left
      refine ⟨numbers ++ [nm y], Z0 kqI at_ y.At (k : Int), ?_, by rw [hI, List.take_succ, hy]; simp⟩
      unfold Q8
      rw [if_pos (by simp; omega), Z2 hy, Option.bind_some, (Zh9 u (w 1).2 (w 2).2).1, Option.bind_some, XP (by rw [hI]; simp; omega), XO hk (by omega)]
      rfl)
    (fun numbers at_ hI => ⟨_, by unfold Q8; rw [if_neg (by simp)], by rw [hI, List.take_length]⟩) (a0 := []) (b0 := ([] : List (Int × Int))) (by simp)
  obtain ⟨r1, r2⟩ := r
  simp only at e2
  subst e2
  rw [e1, Option.bind_some, Zc8]; rfl
theorem ZmE {H : List Int} {C : List api_Found} (hC : COK H C) {i : Nat} {xi : api_Found} (hi : C[i]? = some xi) {p : Int} (hp : -1000000 ≤ p ∧ p ≤ 1000000) (w : Vector Bool 64) {f : Vector Int 64} (hf : fU f) (hn : ∀ i, 0 ≤ wd f i ∧ wd f i ≤ 4095) :
    ∃ (n : Int) (ok : Bool), QS (fnd H C) (i : Int) p f w = some (n, ok) ∧
      ((if (!(ZkI f w).2) = true then (Jp C (i : Int) p).bind fun y9 => some (y9.1, y9.2) else some ((ZkI f w).1, (ZkI f w).2)) : Option (Int × Bool)) = some (n, ok) ∧ (ok = true → 0 ≤ n ∧ n < 4194304) ∧ (-9223372036854775808 ≤ n ∧ n ≤ 9223372036854775807) := by
  have hlen := hC.len
  have hia := hC.at_ hi
  unfold QS
  rw [(Zqy hf hn w).1, Option.bind_some]
  cases ho : (ZkI f w).2
  rotate_left
  · have hb : 0 ≤ (ZkI f w).1 ∧ (ZkI f w).1 < 4194304 := by
      unfold ZkI
      split
      · exact ZhP f
      · simp only; omega
    exact ⟨_, true, by rw [if_pos rfl], by rw [if_neg (by decide)], fun _ => hb, by omega⟩
  rw [if_neg (by decide), if_pos (by decide)]
  obtain ⟨b, e1, e2⟩ := Zp7 (N := C.map nm) hC hi hp
  obtain ⟨b', e1', e2'⟩ := Zoq hC hi hp
  have := ZiJ e2 e2'
  subst this
  unfold Jp
  rw [show QM (fnd H C) (i : Int) p = some b from e1, Option.bind_some, e1', Option.bind_some, QN]
  rcases e2 with ⟨rfl, _⟩ | ⟨k, x, rfl, h2, ⟨hki, x', hx', hm⟩, h4, _⟩
  · exact ⟨0, false, rfl, rfl, (fun h => by cases h), by omega⟩
  rw [h4] at hx'; cases hx'
  have hka := hC.at_ h4
  have hN : ∀ {j : Nat} {z : api_Found}, C[j]? = some z → idx (fnd H C).numbers (j : Int) = some (nm z) := fun {j z} hz => Z2 (by
    show (C.map nm)[j]? = _
    rw [List.getElem?_map, hz]; rfl)
  have hR : ∀ {j : Nat} {z : api_Found}, C[j]? = some z → X2 z.Frame = some (nm z) := fun {j z} hz => by
    obtain ⟨u, w⟩ := hC.fU hz
    exact Zif u (w 1).2 (w 2).2
  have hb1 : 0 ≤ nm x ∧ nm x < 4194304 := ZhP _
  have hb2 : 0 ≤ nm xi ∧ nm xi < 4194304 := ZhP _
  rw [show (fnd H C).certain = C from rfl, hN h4, hN hi]
  simp only [decide_eq_false (show ¬ ((k : Int) < 0) by omega), Bool.false_eq_true, if_false, Z2 hi, Z2 h4, Option.bind_some, hR h4, hR hi]
  rw [Z7 (z := p - xi.At) (by omega) (by omega), Z7 (z := x.At - xi.At) (by omega) (by omega), Z7 (z := nm x - nm xi) (by omega) (by omega)]
  obtain ⟨q1, q1b⟩ := Zkk (a := p - xi.At) (b := 194) (by decide) (by omega)
  obtain ⟨q2, q2b⟩ := Zkk (a := x.At - xi.At) (b := 194) (by decide) (by omega)
  have hq1 : ((p - xi.At).tdiv 194).natAbs ≤ 10000 := by
    have := Int.mul_tdiv_add_tmod (p - xi.At) 194
    have := Int.tmod_lt_of_pos (p - xi.At) (show (0 : Int) < 194 by decide)
    have := Int.lt_tmod_of_pos (p - xi.At) (show (0 : Int) < 194 by decide)
    omega
  generalize (p - xi.At).tdiv 194 = q at q1 q1b hq1
  have hne : x.At ≠ xi.At := fun e => by
    rcases Nat.lt_or_gt_of_ne hki with h | h
    · have := hC.lt h h4 hi; omega
    · have := hC.lt h hi h4; omega
  have hd0 : (x.At - xi.At).tdiv 194 ≠ 0 := fun e => by
    have := Int.mul_tdiv_add_tmod (x.At - xi.At) 194
    rw [e, hm] at this
    omega
  generalize (x.At - xi.At).tdiv 194 = d at q2 q2b hd0
  rw [q1, Option.bind_some, q2, Option.bind_some]
  generalize hΔ : nm x - nm xi = Δ
  have hΔb : -4194304 < Δ ∧ Δ < 4194304 := by omega
  obtain ⟨q3, q3b⟩ := Zkk (a := Δ) (b := d) hd0 (by omega)
  have hrem : rem Δ d = some (Δ.tmod d) := by unfold rem; rw [if_neg hd0]
  have hsum := Int.mul_tdiv_add_tmod Δ d
  rw [hrem]
  simp only [Option.bind_some, q3, hrem]
  by_cases hr : Δ.tmod d = 0
  · rw [hr] at hsum ⊢
    have hs := Zp4 (t := Δ.tdiv d) hd0
    rw [show d * Δ.tdiv d = Δ by omega] at hs
    generalize Δ.tdiv d = t at q3b hs
    simp only [decide_true, Bool.not_true, show (false == false) = true from rfl, Zdm, Option.bind_some, Bool.false_or, Bool.or_false]
    by_cases ht : 0 < t
    · obtain ⟨hΔ0, hsg⟩ := hs.1 ht
      have hc : (decide (Δ = 0) || !((decide (0 < Δ)) == (decide (0 < d)))) = false := by
        rw [decide_eq_false hΔ0, Bool.false_or, Bool.not_eq_false']
        by_cases h : 0 < d
        · rw [decide_eq_true h, decide_eq_true (hsg.2 h)]; rfl
        · rw [decide_eq_false h, decide_eq_false (fun h' => h (hsg.1 h'))]; rfl
      rw [hc]
      have m1 := Int.mul_le_mul_of_nonneg_right (show q ≤ 10000 by omega) (show 0 ≤ t by omega)
      have m2 := Int.mul_le_mul_of_nonneg_right (show -10000 ≤ q by omega) (show 0 ≤ t by omega)
      rw [Z7 (z := q * t) (by omega) (by omega), Z7 (z := nm xi + q * t) (by omega) (by omega)]
      refine ⟨nm xi + q * t, decide (0 ≤ nm xi + q * t) && decide (nm xi + q * t < 4194304), ?_, ?_, ?_, by omega⟩
      · rw [if_neg (by simpa using ht)]
        unfold Zar
        rw [Option.bind_some]
        have : decide (nm xi + q * t ≤ 4194303) = decide (nm xi + q * t < 4194304) := by rw [decide_eq_decide]; omega
        rw [this]
      · simp [gd]
      · intro h
        simpa using h
    · have hc : (decide (Δ = 0) || !((decide (0 < Δ)) == (decide (0 < d)))) = true := by
        by_cases h0 : Δ = 0
        · rw [decide_eq_true h0]; rfl
        · rw [decide_eq_false h0, Bool.false_or]
          by_cases h : 0 < d
          · rw [decide_eq_true h, decide_eq_false (fun h' => ht (hs.2 ⟨h0, ⟨fun _ => h, fun _ => h'⟩⟩))]; rfl
          · rw [decide_eq_false h]
            by_cases h' : 0 < Δ
            · rw [decide_eq_true h']; rfl
            · exact (ht (hs.2 ⟨h0, ⟨fun a => (h' a).elim, fun a => (h a).elim⟩⟩)).elim
      rw [hc]
      exact ⟨0, false, by rw [if_pos (by simpa using ht)], by simp [gd], (fun h => by cases h), by omega⟩
  · rw [decide_eq_false hr]
    refine ⟨0, false, by simp [gd], ?_, (fun h => by cases h), by omega⟩
    have : ∀ c : Bool, ((gd (c == false) 0 (some (Δ.tmod d))).bind fun q4 => if (c || !decide (q4 = 0)) = true then some ((0 : Int), false) else (some (Δ.tdiv d)).bind fun q5 => some (i64 (nm xi + i64 (q * q5)), decide (0 ≤ i64 (nm xi + i64 (q * q5))) && decide (i64 (nm xi + i64 (q * q5)) < 4194304))) = some ((0 : Int), false) := fun c => by
      cases c
      · simp [gd, hr]
      · simp [gd]
    have := this (decide (Δ = 0) || !((decide (0 < Δ)) == (decide (0 < d))))
    simp only [Option.bind_some] at this ⊢
    rw [this, Option.bind_some]
end Go.Vx

namespace Go.Vx
open Go Go.RowKit
noncomputable def rg (f : Vector Int 64) (w : Vector Bool 64) (n s : Int) (i : Nat) : Bool :=
  if i = 0 then wb w i && decide (wd f i = s) else
  if i = 1 then wb w i && (Zcf (wd f i) && decide (wd f i % 2048 = n.tmod 2048)) else
  if i = 2 then wb w i && (Zcf (wd f i) && decide (wd f i % 2048 = n.tdiv 2048)) else wb w i && Zcf (wd f i)
structure RSk (f : Vector Int 64) (w : Vector Bool 64) (n s : Int) (k : Nat) (r : api_Rest) : Prop where
  num : r.Number = n
  snd : r.Sound = false
  cop : r.Copies = 0
  con : r.Conflict = false
  fr : ∀ i, wd r.Frame i = if i < k ∧ rg f w n s i = true then wd f i else 0
  st : ∀ i, wd r.States i = if i < k ∧ rg f w n s i = true then 1 else 0
theorem Zr2 (f : Vector Int 64) (w : Vector Bool 64) (n s : Int) : RSk f w n s 0 ⟨n, Vector.replicate 64 0, Vector.replicate 64 0, false, 0, false⟩ :=
  ⟨rfl, rfl, rfl, rfl, fun i => by rw [if_neg (by omega)]; exact ZbC i, fun i => by rw [if_neg (by omega)]; exact ZbC i⟩
theorem Zol {f : Vector Int 64} {w : Vector Bool 64} {n s : Int} {k : Nat} {r : api_Rest} (hk : k < 64) (h : RSk f w n s k r) (hr : rg f w n s k = true) :
    RSk f w n s (k + 1) ⟨r.Number, Qp r.Frame (k : Int) (wd f k), Qp r.States (k : Int) 1, r.Sound, r.Copies, r.Conflict⟩ := by
  refine ⟨h.num, h.snd, h.cop, h.con, fun i => ?_, fun i => ?_⟩ <;> simp only <;> rw [X6 _ hk]
  · by_cases e : k = i
    · subst e; rw [if_pos rfl, if_pos ⟨by omega, hr⟩]
    · rw [if_neg e, h.fr i]
      by_cases hi : i < k
      · simp [hi, show i < k + 1 by omega]
      · simp [hi, show ¬ i < k + 1 by omega]
  · by_cases e : k = i
    · subst e; rw [if_pos rfl, if_pos ⟨by omega, hr⟩]
    · rw [if_neg e, h.st i]
      by_cases hi : i < k
      · simp [hi, show i < k + 1 by omega]
      · simp [hi, show ¬ i < k + 1 by omega]
theorem ZqC {f : Vector Int 64} {w : Vector Bool 64} {n s : Int} {k : Nat} {r : api_Rest} (h : RSk f w n s k r) (hr : rg f w n s k = false) : RSk f w n s (k + 1) r := by
  refine ⟨h.num, h.snd, h.cop, h.con, fun i => ?_, fun i => ?_⟩
  · rw [h.fr i]
    by_cases e : i = k
    · subst e; simp [hr]
    · simp [show i < k + 1 ↔ i < k by omega]
  · rw [h.st i]
    by_cases e : i = k
    · subst e; simp [hr]
    · simp [show i < k + 1 ↔ i < k by omega]
theorem ZpO {f : Vector Int 64} {w : Vector Bool 64} {n s : Int} {k : Nat} {r r' : api_Rest} (h : RSk f w n s k r) (h' : RSk f w n s k r') : r = r' := by
  obtain ⟨a, b, c, d, e, g⟩ := r
  obtain ⟨a', b', c', d', e', g'⟩ := r'
  have h1 := h.num; have h2 := h'.num; have h3 := h.snd; have h4 := h'.snd; have h5 := h.cop; have h6 := h'.cop; have h7 := h.con; have h8 := h'.con
  simp only at h1 h2 h3 h4 h5 h6 h7 h8
  subst h1 h3 h5 h7 h2 h4 h6 h8
  have e1 : b = b' := ZeJ fun i _ => by rw [h.fr i, h'.fr i]
  have e2 : c = c' := ZeJ fun i _ => by rw [h.st i, h'.st i]
  rw [e1, e2]
theorem ZpK {x : Int} (h : 0 ≤ x ∧ x ≤ 4095) : Zac x = some (Zcf x) := by
  unfold Zac
  rw [decide_eq_true h.2, Zcu, Z7 (by omega) (by omega), (Zkx h).2, Option.bind_some, Bool.true_and]
theorem Zqg {f : Vector Int 64} {w : Vector Bool 64} (hn : ∀ i, 0 ≤ wd f i ∧ wd f i ≤ 4095) {n : Int} (h1 : 0 ≤ n) (h2 : n < 4194304) {k : Nat} (hk : k < 64) :
    ∃ b, gd (wb w k == true) false (Xm (wd f k) (k : Int) n) = some b ∧ (wb w k && b) = rg f w n (Xa n) k := by
  cases hw : wb w k
  · refine ⟨false, rfl, ?_⟩
    unfold rg
    rw [hw]
    simp
  · have hx := hn k
    have hb := ZhZ h1
    have hd : i64 (Jq .u16 (wd f k) 2047) = wd f k % 2048 := by
      have := ZfH (x := wd f k) (by omega)
      unfold Xn at this
      exact Option.some.inj this
    have hm : i64 (Jq .i64 n 2047) = n.tmod 2048 := by
      have := Zgu (v := n) (n := 11) (by decide)
      rw [show ((2 : Int) ^ 11 - 1) = 2047 by decide, show (2 : Int) ^ 11 = 2048 by decide] at this
      rw [this, Int.tmod_eq_emod_of_nonneg h1, Z7 (by omega) (by omega)]
    have hm' : Jq .i64 n 2047 = n.tmod 2048 := by
      have := Zgu (v := n) (n := 11) (by decide)
      rw [show ((2 : Int) ^ 11 - 1) = 2047 by decide, show (2 : Int) ^ 11 = 2048 by decide] at this
      rw [this, Int.tmod_eq_emod_of_nonneg h1]
    have hq : shr .i64 n 11 = some (n.tdiv 2048) := by
      have := Zlu n (k := 11) (by decide)
      rw [show ((11 : Nat) : Int) = 11 from rfl, show (2 : Int) ^ 11 = 2048 by decide] at this
      rw [this, Int.tdiv_eq_ediv_of_nonneg h1]
    unfold Xm Zct rg
    rw [hw, (Zkx hx).1, (ZmR h1 h2).1]
    simp only [Option.bind_some, hd, hm', hq, Zcu, Bool.true_and]
    by_cases k0 : k = 0
    · subst k0
      refine ⟨_, by rw [if_pos (by decide)], ?_⟩
      rw [if_pos rfl, Zfs (by omega)]
    · rw [if_neg (by simp; omega), if_neg k0]
      by_cases k1 : k = 1
      · subst k1
        exact ⟨_, by rw [if_pos (by decide)], by rw [if_pos rfl]⟩
      · rw [if_neg (by simp; omega), if_neg k1]
        by_cases k2 : k = 2
        · subst k2
          rw [if_pos (by decide), if_pos rfl]
          cases Zcf (wd f 2)
          · exact ⟨false, rfl, rfl⟩
          · exact ⟨_, rfl, rfl⟩
        · exact ⟨_, by rw [if_neg (by simp; omega)], by rw [if_neg k2]⟩
theorem Zlk {f : Vector Int 64} {w : Vector Bool 64} (hn : ∀ i, 0 ≤ wd f i ∧ wd f i ≤ 4095) {n : Int} (h1 : 0 ≤ n) (h2 : n < 4194304) :
    ∃ r, loop (t2 (Qn (f, w) (n, true))) (⟨n, Vector.replicate 64 0, Vector.replicate 64 0, false, 0, false⟩, 0) = some r ∧ RSk f w n (Xa n) 64 r :=
  Jg (N := 64) (fun k r => RSk f w n (Xa n) k r) _ (fun k r hk hI => by
    left
    obtain ⟨b, e1, e2⟩ := Zqg (w := w) hn h1 h2 hk
    unfold Qn
    simp only
    rw [if_pos (by simp; omega), Z8 f hk, Option.bind_some, ZiN w hk, Option.bind_some, e1, Option.bind_some, e2, XO hk (by omega)]
    cases hr : rg f w n (Xa n) k
    · exact ⟨r, rfl, ZqC hI hr⟩
    · exact ⟨_, by rw [if_pos rfl, Z8 r.Frame hk, Option.bind_some, Z8 r.States hk, Option.bind_some], Zol hk hI hr⟩)
    (fun r hI => ⟨r, by unfold Qn; rw [if_neg (by simp)], hI⟩) (Zr2 f w n _)
theorem Zof (n : Int) : ∃ y, Zcv n = some y ∧ (0 ≤ n → n < 4194304 → y.1 = Xa n) := by
  by_cases h : 0 ≤ n ∧ n < 4194304
  · exact ⟨_, (ZmR h.1 h.2).2, fun _ _ => rfl⟩
  · exact ⟨(0, 9), by unfold Zcv; rw [if_pos (by simp; omega)], fun a b => (h ⟨a, b⟩).elim⟩
theorem Zmk {f : Vector Int 64} {w : Vector Bool 64} (hn : ∀ i, 0 ≤ wd f i ∧ wd f i ≤ 4095) (n : Int) (hnb : -9223372036854775808 ≤ n ∧ n ≤ 9223372036854775807) :
    ∃ r s, ZaG f w n = some r ∧ RSk f w n s 64 r ∧ (0 ≤ n → n < 4194304 → s = Xa n) := by
  obtain ⟨y, hy, hs⟩ := Zof n
  have hr2 : rem n 2048 = some (n.tmod 2048) := by unfold rem; rw [if_neg (by decide)]
  have hq2 : quo .i64 n 2048 = some (n.tdiv 2048) := by
    have := Int.natAbs_tdiv_le_natAbs n 2048
    have h3 := Int.mul_tdiv_add_tmod n 2048
    have h4 := Int.tmod_lt_of_pos n (show (0 : Int) < 2048 by decide)
    have h5 := Int.lt_tmod_of_pos n (show (0 : Int) < 2048 by decide)
    unfold quo
    rw [if_neg (by decide), w64 (by omega) (by omega)]
  obtain ⟨r, e1, e2⟩ := Jg (body := Zbh f w n y) (N := 64) (fun k r => RSk f w n y.1 k r) (fun r => RSk f w n y.1 64 r) (fun k r hk hI => by
    left
    have hx := hn k
    have hb : ((if (decide ((k : Int) = 0)) = true then (ZA w (k : Int)).bind fun x3 => (gd (x3 == true) 0 (ZA f (k : Int))).bind fun x4 => some (x3 && (decide ((i64 x4) = y.1)))
      else if (decide ((k : Int) = 1)) = true then
        (gd ((wb w k && (wb w k && Zcf (wd f k))) == true) 0 (ZA f (k : Int))).bind fun x5 => (gd ((wb w k && (wb w k && Zcf (wd f k))) == true) 0 (rem (i64 x5) 2048)).bind fun q => (gd ((wb w k && (wb w k && Zcf (wd f k))) == true) 0 (rem n 2048)).bind fun q2 => some ((wb w k && (wb w k && Zcf (wd f k))) && (decide (q = q2)))
      else if (decide ((k : Int) = 2)) = true then
        (gd ((wb w k && (wb w k && Zcf (wd f k))) == true) 0 (ZA f (k : Int))).bind fun x6 => (gd ((wb w k && (wb w k && Zcf (wd f k))) == true) 0 (rem (i64 x6) 2048)).bind fun q3 => (gd ((wb w k && (wb w k && Zcf (wd f k))) == true) 0 (quo .i64 n 2048)).bind fun q4 => some ((wb w k && (wb w k && Zcf (wd f k))) && (decide (q3 = q4)))
      else some (wb w k && (wb w k && Zcf (wd f k)))) : Option Bool) = some (rg f w n y.1 k) := by
      rw [Z8 f hk, ZiN w hk, hr2, hq2]
      unfold rg
      have hi : i64 (wd f k) = wd f k := Z7 (by omega) (by omega)
      by_cases k0 : k = 0
      · subst k0
        rw [if_pos (by decide), if_pos rfl]
        cases wb w 0
        · rfl
        · simp only [Option.bind_some, Zcu, hi]
      rw [if_neg (by simp; omega), if_neg k0]
      by_cases k1 : k = 1
      · subst k1
        rw [if_pos (by decide), if_pos rfl]
        cases wb w 1
        · rfl
        cases Zcf (wd f 1)
        · rfl
        · simp only [Bool.and_true, Zcu, Option.bind_some, hi, Zfm hx.1 2048 (by decide), Bool.true_and]
      rw [if_neg (by simp; omega), if_neg k1]
      by_cases k2 : k = 2
      · subst k2
        rw [if_pos (by decide), if_pos rfl]
        cases wb w 2
        · rfl
        cases Zcf (wd f 2)
        · rfl
        · simp only [Bool.and_true, Zcu, Option.bind_some, hi, Zfm hx.1 2048 (by decide), Bool.true_and]
      rw [if_neg (by simp; omega), if_neg k2]
      cases wb w k <;> rfl
    have hc : ∃ y2, gd (wb w k == true) 0 (ZA f (k : Int)) = some (if wb w k = true then wd f k else 0) ∧ gd (wb w k == true) false (Zac (if wb w k = true then wd f k else 0)) = some y2 ∧ y2 = (wb w k && Zcf (wd f k)) := by
      rw [Z8 f hk]
      cases wb w k
      · exact ⟨_, rfl, rfl, rfl⟩
      · exact ⟨_, rfl, ZpK hx, rfl⟩
    obtain ⟨y2, c1, c2, rfl⟩ := hc
    unfold Zbh
    rw [if_pos (by simp; omega)]
    have hv := ZiN w hk
    rw [show (ZA w (k : Int)).bind = (some (wb w k)).bind by rw [hv], Option.bind_some, c1, Option.bind_some, c2, Option.bind_some, hb, Option.bind_some, QN, XO hk (by omega)]
    cases hr : rg f w n y.1 k
    · exact ⟨r, rfl, ZqC hI hr⟩
    · exact ⟨_, by rw [if_pos rfl, Z8 f hk, Option.bind_some, Z8 r.Frame hk, Option.bind_some, Z8 r.States hk, Option.bind_some], Zol hk hI hr⟩)
    (fun r hI => ⟨r, by unfold Zbh; rw [if_neg (by simp)], hI⟩) (Zr2 f w n _)
  exact ⟨r, y.1, by unfold ZaG; rw [hy, Option.bind_some, e1]; rfl, e2, hs⟩
theorem Zor (r : api_Rest) : ∃ b, Jj r 0 = some b ∧ JD r = some b := by
  refine ⟨_, Zpc r 0, ?_⟩
  unfold JD
  rw [zV]
  congr 1
  rw [Bool.eq_iff_iff, decide_eq_true_eq, Bool.not_eq_true', ← Bool.not_eq_true, Zna]
  constructor
  · rintro h ⟨i, hi, hg⟩
    rw [h, ZbC] at hg
    simp at hg
  · intro h
    refine ZeJ fun i hi => ?_
    rw [ZbC]
    by_cases e : wd r.States i = 0
    · exact e
    · exact (h ⟨i, hi, by simpa using e⟩).elim
end Go.Vx

namespace Go.Vx
open Go Go.RowKit
noncomputable def Zqh (h_ : List Int) (y2 : List api_Found) (i3 : Int) (at_ : Int) (out6 : List api_Rest) : Option (List api_Rest) :=
  (ZaM h_ at_).bind fun y7 =>
  (Zan y7.1 y7.2).bind fun y8 =>
  ((if (!y8.2) = true then
  (Jp y2 i3 at_).bind fun y9 =>
  some (y9.1, y9.2)
  else
  some (y8.1, y8.2)) : Option ((Int × Bool))).bind (t2 fun (n : Int) (ok : Bool) =>
  (ZaG y7.1 y7.2 n).bind fun y10 =>
  (gd (ok == true) false (JD y10)).bind fun y11 =>
  if (ok && (!y11)) = true then
  (app out6 ([y10] : List api_Rest)).bind fun l2 =>
  some l2
  else
  some out6)
def Bes (H : List Int) (C : List api_Found) (i : Nat) (p : Int) (o : Option api_Rest) : Prop :=
  (∃ r, Qr (fnd H C) (i : Int) p = some (r, o.isSome) ∧ ∀ r', o = some r' → r = r') ∧
  (∀ acc : List api_Rest, acc.length ≤ 1000000000 → Zqh H C (i : Int) p acc = some (acc ++ o.toList)) ∧
  ∀ r, o = some r → (∀ j, 0 ≤ wd r.Frame j ∧ wd r.Frame j ≤ 4095) ∧ 0 ≤ r.Copies ∧ r.Copies ≤ 1000000000
theorem Zrq {H : List Int} {C : List api_Found} (hC : COK H C) {i : Nat} {xi : api_Found} (hi : C[i]? = some xi) {p : Int} (hp : -1000000 ≤ p ∧ p ≤ 1000000) : ∃ o, Bes H C i p o := by
  have hH := hC.hl
  have hfw := Zeo hC.hh p
  have hfu := Zmo hC.hh p
  obtain ⟨n, ok, e1, e2, e3, e4⟩ := ZmE hC hi hp (frW H p).2 hfu hfw
  have h1 : Xg (fnd H C).h_ p = some (frW H p) := Zj0 hC.hh hp (by show H.length ≤ _; omega)
  have h2 := Zko hC.hh hp (show H.length ≤ 1000000 by omega)
  have h3 := (Zqy hfu hfw (frW H p).2).2
  unfold Bes
  have hS : Qr (fnd H C) (i : Int) p = (some (n, ok)).bind fun y2 => if (!y2.2) = true then
      some ((api_Rest.mk 0 (Vector.replicate 64 0) (Vector.replicate 64 0) false 0 false), false) else
      ((loop (t2 (Qn (frW H p) y2)) ((api_Rest.mk y2.1 (Vector.replicate 64 0) (Vector.replicate 64 0) false 0 false), 0)) : Option ((api_Rest))).bind (t1 fun (r_ : api_Rest) =>
      (Jj r_ 0).bind fun y4 => some (r_, (!y4))) := by
    unfold Qr
    rw [h1, Option.bind_some, e1]
  have hR : ∀ acc : List api_Rest, Zqh H C (i : Int) p acc = (ZaG (frW H p).1 (frW H p).2 n).bind fun y10 =>
      (gd (ok == true) false (JD y10)).bind fun y11 => if (ok && (!y11)) = true then (app acc ([y10] : List api_Rest)).bind fun l2 => some l2 else some acc := fun acc => by
    unfold Zqh
    rw [h2, Option.bind_some, h3, Option.bind_some, e2, Option.bind_some, Zc8]
  cases ok
  · refine ⟨none, ⟨_, by rw [hS]; rfl, fun r' h => by cases h⟩, fun acc _ => ?_, fun r h => by cases h⟩
    obtain ⟨r, hr⟩ : ∃ r, ZaG (frW H p).1 (frW H p).2 n = some r := by
      obtain ⟨r, s, hr, _⟩ := Zmk (w := (frW H p).2) hfw n e4
      exact ⟨r, hr⟩
    rw [hR, hr]
    simp [gd]
  · obtain ⟨n1, n2⟩ := e3 rfl
    obtain ⟨r, g1, g2⟩ := Zlk (w := (frW H p).2) hfw n1 n2
    obtain ⟨r', s, g3, g4, g5⟩ := Zmk (w := (frW H p).2) hfw n (by omega)
    rw [g5 n1 n2] at g4
    have := ZpO g2 g4
    subst this
    obtain ⟨b, l1, l2⟩ := Zor r
    refine ⟨if b = true then none else some r, ⟨r, ?_, fun r' h => ?_⟩, fun acc hacc => ?_, fun r' h => ?_⟩
    · rw [hS, Option.bind_some, if_neg (by simp)]
      simp only
      rw [g1, Option.bind_some, QN, l1, Option.bind_some]
      cases b <;> rfl
    · cases b
      · exact Option.some.inj h
      · cases h
    · rw [hR, g3, Option.bind_some, Zcu, l2, Option.bind_some]
      cases b
      · rw [if_pos (by rfl), XP (by simp; omega)]; rfl
      · rw [if_neg (by decide)]; simp
    · have hr' : r = r' := by
        cases b
        · exact Option.some.inj h
        · cases h
      subst hr'
      refine ⟨fun j => ?_, by rw [g2.cop]; omega, by rw [g2.cop]; omega⟩
      rw [g2.fr j]
      split
      · exact hfw j
      · omega
noncomputable def bes (H : List Int) (C : List api_Found) (i : Nat) (p : Int) : Option api_Rest := Classical.epsilon (Bes H C i p)
theorem Znx {H : List Int} {C : List api_Found} (hC : COK H C) {i : Nat} {xi : api_Found} (hi : C[i]? = some xi) {p : Int} (hp : -1000000 ≤ p ∧ p ≤ 1000000) : Bes H C i p (bes H C i p) := Classical.epsilon_spec (Zrq hC hi hp)
end Go.Vx

namespace Go.Vx
open Go Go.RowKit
def inb (H : List Int) (p : Int) : Prop := -192 < p ∧ p < H.length
def Pl (H : List Int) (C : List api_Found) (i : Nat) (xi : api_Found) (p : Int) : Prop := inb H p ∧ ZaF C Zju p C.length (i : Int) ∧ 192 ≤ dst xi.At p
theorem Zla {H : List Int} {C : List api_Found} (hC : COK H C) {i : Nat} {xi : api_Found} (hi : C[i]? = some xi) {p p' : Int} (h : ZaF C Zju p C.length (i : Int)) (hb : (p ≤ p' ∧ p' ≤ xi.At) ∨ (xi.At ≤ p' ∧ p' ≤ p)) : ZaF C Zju p' C.length (i : Int) := by
  rcases h with ⟨h1, _⟩ | ⟨b, x, h1, h2, h3, h4, h5⟩
  · omega
  have : b = i := by omega
  subst this
  rw [hi] at h4; cases h4
  refine .inr ⟨b, xi, rfl, h2, trivial, hi, fun j y hj _ hy => ?_⟩
  obtain ⟨g1, g2⟩ := h5 j y hj trivial hy
  refine ⟨fun hlt => ?_, fun hlt => ?_⟩
  · have := g1 hlt
    have := hC.lt hlt hy hi
    unfold dst at *
    omega
  · have := g2 hlt
    have := hC.lt hlt hi hy
    unfold dst at *
    omega
theorem Znz {H : List Int} {C : List api_Found} (hC : COK H C) {i : Nat} {xi : api_Found} (hi : C[i]? = some xi) {f : Nat → Int} {s : Int} (hs : s = 194 ∨ s = -194)
    (hf : ∀ k, f k = xi.At + s * ((k : Int) + 1)) (acc : List Int) (hacc : acc.length ≤ 10000) :
    ∃ a, loop (t2 (Qy (fnd H C) (i : Int) s)) (acc, f 0) = some (acc ++ (List.range a).map f) ∧ (∀ k, k < a → Pl H C i xi (f k)) ∧ ¬ (inb H (f a) ∧ ZaF C Zju (f a) C.length (i : Int)) ∧ a ≤ 2100 := by
  have hlen := hC.len
  have hH := hC.hl
  have hia := hC.at_ hi
  have hne : C ≠ [] := fun e => by rw [e] at hi; simp at hi
  have hkb : ∀ k, inb H (f k) → k < 2100 := fun k ⟨h1, h2⟩ => by
    rw [hf] at h1 h2
    rcases hs with rfl | rfl <;> omega
  have hfs : ∀ k, f (k + 1) = f k + s := fun k => by
    rw [hf, hf]
    rcases hs with rfl | rfl <;> push_cast <;> omega
  have hds : ∀ k, 192 ≤ dst xi.At (f k) := fun k => by
    rw [hf]
    unfold dst
    rcases hs with rfl | rfl <;> split <;> omega
  obtain ⟨r, e1, a, rfl, e2⟩ := Zeq (body := t2 (Qy (fnd H C) (i : Int) s))
    (fun q => ∃ k : Nat, q = (acc ++ (List.range k).map f, f k) ∧ (∀ j, j < k → Pl H C i xi (f j)) ∧ k ≤ 2100)
    (fun q => acc.length + 3000 - q.1.length)
    (fun r => ∃ a : Nat, r = acc ++ (List.range a).map f ∧ (∀ k, k < a → Pl H C i xi (f k)) ∧ ¬ (inb H (f a) ∧ ZaF C Zju (f a) C.length (i : Int)) ∧ a ≤ 2100)
    (by
      rintro _ ⟨k, rfl, hk, hkl⟩
      rw [Zc8]
      unfold Qy
      by_cases hin : inb H (f k)
      · have hkb' := hkb k hin
        have hi1 := hin.1
        have hi2 := hin.2
        rw [show (fnd H C).h_ = H from rfl, if_pos (by simp; exact ⟨hi1, hi2⟩)]
        obtain ⟨b, b1, b2⟩ := Zrn (N := C.map nm) hC hne (p := f k) (by omega)
        rw [show Qv (fnd H C) (f k) = some b from b1, Option.bind_some]
        by_cases hbi : b = i
        · subst hbi
          have hP : Pl H C i xi (f k) := ⟨hin, b2, hds k⟩
          rw [if_neg (by simp), show (fnd H C).certain = C from rfl, Z2 hi, Option.bind_some, Zoz (by omega) (by omega), Option.bind_some, if_pos (by simpa using hds k), XP (by simp; omega)]
          left
          refine ⟨(acc ++ (List.range (k + 1)).map f, f (k + 1)), ?_, ⟨k + 1, rfl, fun j hj => ?_, by omega⟩, by simp; omega⟩
          · simp only [Option.bind_some, Sum.elim_inr, QN]
            rw [Z7 (by omega) (by omega), hfs, List.range_succ, List.map_append, List.append_assoc]; rfl
          · by_cases e : j = k
            · subst e; exact hP
            · exact hk j (by omega)
        · right
          exact ⟨_, by rw [if_pos (by simpa using hbi)]; rfl, k, rfl, hk, fun h => hbi (ZiJ b2 h.2), hkl⟩
      · right
        refine ⟨_, by rw [show (fnd H C).h_ = H from rfl, if_neg (fun h => hin (show -192 < f k ∧ f k < (H.length : Int) by simpa using h))], k, rfl, hk, fun h => hin h.1, hkl⟩) (acc, f 0) ⟨0, by simp, fun j hj => by omega, by omega⟩
  exact ⟨a, e1, e2⟩
def fD (x : api_Found) (k : Nat) : Int := x.At + (-194) * ((k : Int) + 1)
def fU' (x : api_Found) (k : Nat) : Int := x.At + 194 * ((k : Int) + 1)
theorem ZoB {H : List Int} {C : List api_Found} (hC : COK H C) {i : Nat} {xi : api_Found} (hi : C[i]? = some xi) :
    ∃ a b, QE (fnd H C) (i : Int) = some ((List.range a).map (fD xi) ++ (List.range b).map (fU' xi)) ∧
      ((∀ k, k < a → Pl H C i xi (fD xi k)) ∧ ¬ (inb H (fD xi a) ∧ ZaF C Zju (fD xi a) C.length (i : Int)) ∧ a ≤ 2100) ∧
      ((∀ k, k < b → Pl H C i xi (fU' xi k)) ∧ ¬ (inb H (fU' xi b) ∧ ZaF C Zju (fU' xi b) C.length (i : Int)) ∧ b ≤ 2100) := by
  have hia := hC.at_ hi
  obtain ⟨a, a1, a2⟩ := Znz hC hi (f := fD xi) (s := -194) (.inr rfl) (fun k => rfl) [] (by simp)
  obtain ⟨b, b1, b2⟩ := Znz hC hi (f := fU' xi) (s := 194) (.inl rfl) (fun k => rfl) ((List.range a).map (fD xi)) (by simp; omega)
  refine ⟨a, b, ?_, a2, b2⟩
  unfold QE
  rw [show (fnd H C).certain = C from rfl, Z2 hi, Option.bind_some]
  obtain ⟨r, e1, e2⟩ := Jg (body := QB (fnd H C) (i : Int) xi) (N := 2)
    (fun k out => out = if k = 0 then [] else if k = 1 then (List.range a).map (fD xi) else (List.range a).map (fD xi) ++ (List.range b).map (fU' xi)) (fun r => r = (List.range a).map (fD xi) ++ (List.range b).map (fU' xi))
    (fun k out hk hI => by
      left
      unfold QB
      rw [if_pos (by simp; omega), XO hk (by omega)]
      by_cases k0 : k = 0
      · subst k0
        rw [if_pos rfl] at hI
        subst hI
        refine ⟨_, ?_, by rw [if_neg (by omega), if_pos rfl]⟩
        rw [show idx ([(-194), 194] : List Int) ((0 : Nat) : Int) = some (-194) from rfl, Option.bind_some, Z7 (by omega) (by omega)]
        have : xi.At + -194 = fD xi 0 := by unfold fD; simp
        rw [this, a1, Option.bind_some, QN]; rfl
      · have k1 : k = 1 := by omega
        subst k1
        rw [if_neg (by omega), if_pos rfl] at hI
        subst hI
        refine ⟨_, ?_, by rw [if_neg (by omega), if_neg (by omega)]⟩
        rw [show idx ([(-194), 194] : List Int) ((1 : Nat) : Int) = some 194 from rfl, Option.bind_some, Z7 (by omega) (by omega)]
        have : xi.At + 194 = fU' xi 0 := by unfold fU'; simp
        rw [this, b1, Option.bind_some, QN])
    (fun out hI => ⟨out, by unfold QB; rw [if_neg (by simp)], by rw [hI, if_neg (by omega), if_neg (by omega)]⟩) (by rw [if_pos rfl])
  rw [e1, Option.bind_some, QN, e2]
noncomputable def plB (H : List Int) (C : List api_Found) (i : Nat) (xi : api_Found) (p : Int) : Bool := @decide (Pl H C i xi p) (Classical.propDecidable _)
theorem Zd3 {H : List Int} {C : List api_Found} {i : Nat} {xi : api_Found} {p : Int} : plB H C i xi p = true ↔ Pl H C i xi p := by unfold plB; exact @decide_eq_true_iff _ (Classical.propDecidable _)
def gC (x : api_Found) (k : Nat) : Int := x.At % 194 - 194 + 194 * (k : Int)
noncomputable def KC (H : List Int) (C : List api_Found) (i : Nat) (xi : api_Found) (n : Nat) : List Int := ((List.range n).map (gC xi)).filter (plB H C i xi)
theorem ZiZ {f : Nat → Int} (hf : ∀ i j, f i = f j → i = j) (n : Nat) : ((List.range n).map f).Nodup := by
  unfold List.Nodup
  rw [List.pairwise_map]
  exact List.Pairwise.imp (fun {a b} h e => h (hf a b e)) List.nodup_range
theorem Zmc {H : List Int} {C : List api_Found} (hC : COK H C) {i : Nat} {xi : api_Found} (hi : C[i]? = some xi) :
    ∃ ps, QE (fnd H C) (i : Int) = some ps ∧ ps.Perm (KC H C i xi 2100) := by
  have hia := hC.at_ hi
  have hH := hC.hl
  obtain ⟨a, b, e1, ⟨a1, a2, a3⟩, ⟨b1, b2, b3⟩⟩ := ZoB hC hi
  refine ⟨_, e1, (List.perm_ext_iff_of_nodup ?_ ?_).2 fun p => ?_⟩
  · rw [List.nodup_append]
    refine ⟨ZiZ (fun i j h => by unfold fD at h; omega) a, ZiZ (fun i j h => by unfold fU' at h; omega) b, fun x hx y hy => ?_⟩
    obtain ⟨k, _, rfl⟩ := List.mem_map.1 hx
    obtain ⟨k', _, rfl⟩ := List.mem_map.1 hy
    unfold fD fU'
    omega
  · exact (ZiZ (fun i j h => by unfold gC at h; omega) 2100).sublist List.filter_sublist
  · unfold KC
    simp only [List.mem_append, List.mem_map, List.mem_range, List.mem_filter, Zd3]
    constructor
    · rintro (⟨k, hk, rfl⟩ | ⟨k, hk, rfl⟩)
      · have hP := a1 k hk
        have h1 := hP.1.1
        refine ⟨⟨(xi.At / 194 - k).toNat, ?_, ?_⟩, hP⟩
        · omega
        · unfold gC fD at *; omega
      · have hP := b1 k hk
        have h1 := hP.1.2
        refine ⟨⟨(xi.At / 194 + 2 + k).toNat, ?_, ?_⟩, hP⟩
        · unfold fU' at h1; omega
        · unfold gC fU' at *; omega
    · rintro ⟨⟨k, hk, rfl⟩, hP⟩
      obtain ⟨⟨h1, h2⟩, h3, h4⟩ := hP
      rcases Int.lt_trichotomy (gC xi k) xi.At with h | h | h
      · left
        refine ⟨(xi.At / 194 - k).toNat, ?_, ?_⟩
        · apply Classical.byContradiction
          intro hge
          refine a2 ⟨⟨?_, ?_⟩, Zla hC hi h3 (.inl ⟨?_, ?_⟩)⟩ <;> unfold fD gC at * <;> omega
        · unfold fD gC at *; omega
      · rw [h] at h4
        unfold dst at h4
        omega
      · right
        refine ⟨(k - xi.At / 194 - 2).toNat, ?_, ?_⟩
        · apply Classical.byContradiction
          intro hge
          refine b2 ⟨⟨?_, ?_⟩, Zla hC hi h3 (.inr ⟨?_, ?_⟩)⟩ <;> unfold fU' gC at * <;> omega
        · unfold fU' gC at *; omega
end Go.Vx

namespace Go.Vx
open Go Go.RowKit
noncomputable def ZiK (x : api_Found) : api_Rest := ⟨nm x, x.Frame, Vector.replicate 64 3, true, 1, false⟩
noncomputable def ZjR (H : List Int) (C : List api_Found) (i : Nat) : List api_Rest := (KC H C i (C.getD i fz) 2100).filterMap (bes H C i)
noncomputable def RA (H : List Int) (C : List api_Found) (k : Nat) : List api_Rest := (C.take k).map ZiK ++ (List.range k).flatMap (ZjR H C)
theorem Zm0 (H : List Int) (C : List api_Found) (i : Nat) (x : api_Found) (n : Nat) : (KC H C i x n).length ≤ n := by
  unfold KC
  exact Nat.le_trans (List.length_filter_le _ _) (by simp)
theorem Zmy (H : List Int) (C : List api_Found) (i : Nat) : (ZjR H C i).length ≤ 2100 := Nat.le_trans (List.length_filterMap_le _ _) (Zm0 _ _ _ _ _)
theorem ZlO {F : Nat → List api_Rest} (hF : ∀ i, (F i).length ≤ 2100) : ∀ k, ((List.range k).flatMap F).length ≤ 2100 * k
  | 0 => by simp
  | k + 1 => by
    rw [List.range_succ, List.flatMap_append, List.length_append]
    have := ZlO hF k
    have := hF k
    simp only [List.flatMap_cons, List.flatMap_nil, List.append_nil]
    omega
theorem Zo4 (H : List Int) (C : List api_Found) (k : Nat) : (RA H C k).length ≤ 2101 * k := by
  have := ZlO (Zmy H C) k
  unfold RA
  rw [List.length_append, List.length_map, List.length_take]
  omega
theorem Zp1 {H : List Int} {C : List api_Found} {k : Nat} {x : api_Found} (hx : C[k]? = some x) {l ps : List api_Rest} (hl : l.Perm (RA H C k)) (hp : ps.Perm (ZjR H C k)) : (l ++ [ZiK x] ++ ps).Perm (RA H C (k + 1)) := by
  have h1 : RA H C (k + 1) = (C.take k).map ZiK ++ ([ZiK x] ++ ((List.range k).flatMap (ZjR H C) ++ ZjR H C k)) := by
    unfold RA
    rw [List.take_succ, hx, List.range_succ, List.flatMap_append]
    simp
  rw [h1]
  refine ((hl.append_right [ZiK x]).append hp).trans ?_
  unfold RA
  rw [List.append_assoc, List.append_assoc]
  refine List.Perm.append_left _ ?_
  rw [← List.append_assoc, ← List.append_assoc]
  exact List.Perm.append_right _ List.perm_append_comm
theorem Zsb {H : List Int} {C : List api_Found} (hC : COK H C) {i : Nat} {xi : api_Found} (hi : C[i]? = some xi) {ps : List Int} (hb : ∀ p ∈ ps, -1000000 ≤ p ∧ p ≤ 1000000) (acc : List api_Rest) (hacc : acc.length + ps.length ≤ 1000000000) :
    loop (t2 (Xx (fnd H C) (i : Int) ps)) (acc, 0) = some (acc ++ ps.filterMap (bes H C i)) := by
  obtain ⟨r, e1, e2⟩ := Jg (body := Xx (fnd H C) (i : Int) ps) (N := ps.length) (fun k out => out = acc ++ (ps.take k).filterMap (bes H C i)) (fun r => r = acc ++ ps.filterMap (bes H C i))
    (fun k out hk hI => by
      left
      obtain ⟨p, hp⟩ := ZT hk
      obtain ⟨⟨r, h1, h2⟩, _, _⟩ := Znx hC hi (hb p (List.mem_of_getElem? hp))
      have hlen : out.length ≤ acc.length + k := by
        rw [hI, List.length_append]
        have := List.length_filterMap_le (bes H C i) (ps.take k)
        rw [List.length_take] at this
        omega
      unfold Xx
      rw [if_pos (by simp; omega), Z2 hp, Option.bind_some, h1, Option.bind_some, XO hk (by omega)]
      have ht : (ps.take (k + 1)).filterMap (bes H C i) = (ps.take k).filterMap (bes H C i) ++ (bes H C i p).toList := by
        rw [List.take_succ, hp, List.filterMap_append]
        congr 1
      cases ho : bes H C i p with
      | none => exact ⟨out, rfl, by rw [ht, ho, hI]; simp⟩
      | some r' =>
        have := h2 r' ho
        subst this
        refine ⟨out ++ [r], ?_, by rw [ht, ho, hI]; simp⟩
        rw [if_pos (by rfl), XP (by simp; omega)]; rfl)
    (fun out hI => ⟨out, by unfold Xx; rw [if_neg (by simp)], by rw [hI, List.take_length]⟩) (s0 := acc) (by simp)
  rw [e1, e2]
theorem ZpQ {H : List Int} {C : List api_Found} (hC : COK H C) : ∃ l, loop (t2 (Xs (fnd H C))) ([], 0) = some l ∧ l.Perm (RA H C C.length) := by
  have hlen := hC.len
  have hH := hC.hl
  refine Jg (body := Xs (fnd H C)) (N := C.length) (fun k (l : List api_Rest) => l.Perm (RA H C k)) (fun l => l.Perm (RA H C C.length)) (fun k l hk hI => ?_) (fun l hI => ⟨l, by unfold Xs; rw [show (fnd H C).certain = C from rfl, if_neg (by simp)], hI⟩) (by unfold RA; simp)
  left
  obtain ⟨x, hx⟩ := ZT hk
  obtain ⟨ps, p1, p2⟩ := Zmc hC hx
  have hl := hI.length_eq
  have hRA := Zo4 H C k
  have hpl : ps.length ≤ 2100 := by rw [p2.length_eq]; exact Zm0 _ _ _ _ _
  have hg : C.getD k fz = x := ZiS hx
  have hb : ∀ p ∈ ps, -1000000 ≤ p ∧ p ≤ 1000000 := fun p hp => by
    have := p2.mem_iff.1 hp
    unfold KC at this
    have := (Zd3.1 (List.mem_filter.1 this).2).1
    unfold inb at this
    omega
  refine ⟨(l ++ [ZiK x]) ++ ps.filterMap (bes H C k), ?_, Zp1 hx hI ?_⟩
  · unfold Xs
    have hn : idx (fnd H C).numbers (k : Int) = some (nm x) := Z2 (by
      show (C.map nm)[k]? = _
      rw [List.getElem?_map, hx]; rfl)
    rw [show (fnd H C).certain = C from rfl, if_pos (by simp; omega), Z2 hx, Option.bind_some, hn, Option.bind_some, Zj9, Option.bind_some, XP (by simp; omega), Option.bind_some, p1, Option.bind_some]
    have := Zsb hC hx hb (l ++ [ZiK x]) (by simp; omega)
    unfold ZiK at this
    rw [this, Option.bind_some, QN, XO hk (by omega)]; rfl
  · unfold ZjR
    rw [hg]
    exact p2.filterMap _
theorem Zlq (H : List Int) (C : List api_Found) (i : Nat) (x : api_Found) (n : Nat) : KC H C i x (n + 1) = KC H C i x n ++ (if plB H C i x (gC x n) = true then [gC x n] else []) := by
  unfold KC
  rw [List.range_succ, List.map_append, List.filter_append]
  congr 1
  simp only [List.map_cons, List.map_nil, List.filter_cons, List.filter_nil]
theorem Zoy {H : List Int} {C : List api_Found} {i : Nat} {x : api_Found} {n : Nat} (hn : (H.length : Int) ≤ gC x n) : ∀ m, KC H C i x (n + m) = KC H C i x n
  | 0 => rfl
  | m + 1 => by
    rw [← Nat.add_assoc, Zlq, Zoy hn m, if_neg, List.append_nil]
    intro h
    have := (Zd3.1 h).1.2
    unfold gC at *
    omega
theorem Zr4 {H : List Int} {C : List api_Found} (hC : COK H C) {i : Nat} {xi : api_Found} (hi : C[i]? = some xi) (acc : List api_Rest) (hacc : acc.length ≤ 900000000) :
    loop (t2 (Zb4 H C (i : Int))) (acc, gC xi 0) = some (acc ++ ZjR H C i) := by
  have hia := hC.at_ hi
  have hH := hC.hl
  have hlen := hC.len
  have hg : C.getD i fz = xi := ZiS hi
  obtain ⟨r, e1, e2⟩ := Zeq (body := t2 (Zb4 H C (i : Int))) (fun q => ∃ k : Nat, q = (acc ++ (KC H C i xi k).filterMap (bes H C i), gC xi k) ∧ k ≤ 2100)
    (fun q => (1000000 - q.2).toNat) (fun r => r = acc ++ ZjR H C i)
    (by
      rintro _ ⟨k, rfl, hk⟩
      rw [Zc8]
      unfold Zb4
      by_cases hin : gC xi k < (H.length : Int)
      · left
        have hk' : k < 2100 := by unfold gC at hin; omega
        have hp : -1000000 ≤ gC xi k ∧ gC xi k ≤ 1000000 := by unfold gC at *; omega
        have hout : (acc ++ (KC H C i xi k).filterMap (bes H C i)).length ≤ 1000000000 := by
          have := List.length_filterMap_le (bes H C i) (KC H C i xi k)
          have := Zm0 H C i xi k
          rw [List.length_append]; omega
        refine ⟨(acc ++ (KC H C i xi (k + 1)).filterMap (bes H C i), gC xi (k + 1)), ?_, ⟨k + 1, rfl, hk'⟩, by unfold gC; simp only; omega⟩
        rw [if_pos (by simpa using hin)]
        have hgn : i64 (gC xi k + 194) = gC xi (k + 1) := by rw [Z7 (by omega) (by omega)]; unfold gC; push_cast; omega
        have hstep : ∀ o : List api_Rest, plB H C i xi (gC xi k) = false → (o = acc ++ (KC H C i xi k).filterMap (bes H C i)) → (some o : Option (List api_Rest)).bind (t1 fun (out7 : List api_Rest) => (some (.inl (out7, (i64 (gC xi k + 194)))) : Option ((List api_Rest × Int) ⊕ List api_Rest))) = some (.inl (acc ++ (KC H C i xi (k + 1)).filterMap (bes H C i), gC xi (k + 1))) := fun o h1 h2 => by
          rw [Option.bind_some, QN, hgn, Zlq, h1, if_neg (by decide), List.append_nil, h2]
        by_cases hlow : gC xi k < -191
        · rw [decide_eq_true hlow]
          refine hstep _ ?_ rfl
          rw [← Bool.not_eq_true, Zd3]
          intro h
          have := h.1.1
          omega
        · rw [decide_eq_false hlow]
          obtain ⟨b, b1, b2⟩ := ZpW hC hp
          simp only [show (false == false) = true from rfl, Zdm, Bool.false_or, b1, Option.bind_some]
          by_cases hbi : b = i
          · subst hbi
            rw [decide_eq_true rfl]
            simp only [Bool.not_true, show (false == false) = true from rfl, Zdm, Option.bind_some, Bool.false_or, Z2 hi]
            rw [Zik (by omega) hp, Option.bind_some]
            by_cases hd : dst xi.At (gC xi k) < 192
            · rw [if_pos (by simpa using hd)]
              refine hstep _ ?_ rfl
              rw [← Bool.not_eq_true, Zd3]
              intro h
              have := h.2.2
              omega
            · rw [if_neg (by simpa using hd)]
              have hP : plB H C i xi (gC xi k) = true := Zd3.2 ⟨⟨by omega, hin⟩, b2, by omega⟩
              obtain ⟨_, h2, _⟩ := Znx hC hi hp
              have h2 := h2 _ hout
              unfold Zqh at h2
              rw [h2, Option.bind_some, QN, hgn, Zlq, hP, if_pos rfl, List.filterMap_append, List.append_assoc]
              congr 5
          · rw [decide_eq_false hbi]
            refine hstep _ ?_ (by simp [gd])
            rw [← Bool.not_eq_true, Zd3]
            exact fun h => hbi (ZiJ b2 h.2.1)
      · right
        refine ⟨_, by rw [if_neg (by simpa using hin)], ?_⟩
        unfold ZjR
        rw [hg, show 2100 = k + (2100 - k) by omega, Zoy (by omega)])
    (acc, gC xi 0) ⟨0, by simp [KC], by omega⟩
  rw [e1, e2]
theorem Zpw {H : List Int} (h : hL H) (hl : H.length ≤ 400000) : Zcp H = some (RA H (ZiG (scL H (H.length - 191))) (ZiG (scL H (H.length - 191))).length) := by
  have hC := cok h hl
  unfold Zcp
  rw [(Zoi h (by omega)).2, Option.bind_some, (Zlf h (by omega)).2, Option.bind_some]
  generalize ZiG (scL H (H.length - 191)) = C at hC
  have hlen := hC.len
  obtain ⟨r, e1, rfl⟩ := Jg (body := ZbY C) (N := C.length) (fun k l => l = (C.take k).map ZiK) (fun r => r = C.map ZiK) (fun k l hk hI => by
    left
    obtain ⟨x, hx⟩ := ZT hk
    obtain ⟨u, w⟩ := hC.fU hx
    refine ⟨l ++ [ZiK x], ?_, by rw [hI, List.take_succ, hx]; simp⟩
    have hfill : loop (t2 (ZaY)) ((Vector.replicate 64 0), 0) = some (Vector.replicate 64 3) := Znd (body := ZaY) 3 (fun v j hj => by
      unfold ZaY
      rw [if_pos (by simp; omega), Z8 v hj, Option.bind_some, XO hj (by omega)]) (fun v => by unfold ZaY; rw [if_neg (by simp)]) _
    have hll : l.length ≤ 400000 := by rw [hI]; simp; omega
    unfold ZbY
    rw [if_pos (by simp; omega), Z2 hx, Option.bind_some, Zif u (w 1).2 (w 2).2, Option.bind_some, hfill, Option.bind_some, QN, XP (by simp; omega), Option.bind_some, XO hk (by omega)]
    rfl) (fun l hI => ⟨l, by unfold ZbY; rw [if_neg (by simp)], by rw [hI, List.take_length]⟩) (s0 := []) (by simp)
  rw [e1, Option.bind_some, QN]
  obtain ⟨r, e2, rfl⟩ := Jg (body := ZbZ H C) (N := C.length) (fun k l => l = C.map ZiK ++ (List.range k).flatMap (ZjR H C)) (fun r => r = RA H C C.length) (fun k l hk hI => by
    left
    obtain ⟨x, hx⟩ := ZT hk
    have hia := hC.at_ hx
    have hH := hC.hl
    have hq : quo .i64 x.At 194 = some (x.At / 194) := by
      rw [(Zkk (by decide) (by omega)).1, Int.tdiv_eq_ediv_of_nonneg hia.1]
    refine ⟨l ++ ZjR H C k, ?_, by rw [hI, List.range_succ, List.flatMap_append]; simp⟩
    have hll : l.length ≤ 900000000 := by
      have := ZlO (Zmy H C) k
      rw [hI, List.length_append, List.length_map]; omega
    unfold ZbZ
    rw [if_pos (by simp; omega), Z2 hx, Option.bind_some, hq, Option.bind_some, Z7 (z := x.At / 194 * 194) (by omega) (by omega), Z7 (z := x.At - x.At / 194 * 194) (by omega) (by omega), Z7 (z := x.At - x.At / 194 * 194 - 194) (by omega) (by omega)]
    have : x.At - x.At / 194 * 194 - 194 = gC x 0 := by unfold gC; omega
    rw [this, Zr4 hC hx l hll, Option.bind_some, QN, XO hk (by omega)])
    (fun l hI => ⟨l, by unfold ZbZ; rw [if_neg (by simp)], by rw [hI]; unfold RA; rw [List.take_length]⟩) (s0 := C.map ZiK) (by simp)
  rw [e2]; rfl
theorem ZrI {H : List Int} {C : List api_Found} (hC : COK H C) : LOK (RA H C C.length) := by
  have hlen := hC.len
  have key : ∀ r ∈ RA H C C.length, (∀ i, 0 ≤ wd r.Frame i ∧ wd r.Frame i ≤ 4095) ∧ 0 ≤ r.Copies ∧ r.Copies ≤ 1000000000 := fun r hr => by
    unfold RA at hr
    rcases List.mem_append.1 hr with hr | hr
    · obtain ⟨x, hx, rfl⟩ := List.mem_map.1 hr
      rw [List.take_length] at hx
      obtain ⟨k, hk⟩ := List.getElem?_of_mem hx
      exact ⟨(hC.fU hk).2, by show (0 : Int) ≤ 1; omega, by show (1 : Int) ≤ _; omega⟩
    · obtain ⟨i, hi, hr⟩ := List.mem_flatMap.1 hr
      obtain ⟨x, hx⟩ := ZT (xs := C) (k := i) (List.mem_range.1 hi)
      obtain ⟨p, hp, he⟩ := List.mem_filterMap.1 hr
      have hg : C.getD i fz = x := ZiS hx
      rw [hg] at hp
      unfold KC at hp
      have := (Zd3.1 (List.mem_filter.1 hp).2).1
      unfold inb at this
      have hH := hC.hl
      exact (Znx hC hx (by omega)).2.2 r he
  exact ⟨Nat.le_trans (Zo4 H C _) (by omega), fun r hr => (key r hr).1, fun r hr => (key r hr).2⟩
end Go.Vx

namespace Go.Vx
open Go Go.RowKit
theorem ZkH (l : List api_Rest) (hl : l.length ≤ 4000000000) : Qo l l = some true := by
  have := Zl8 (xs := l) (body := Qu l l) (fun _ => (Sum.inr () : Bool ⊕ Unit)) (fun k x hx => by
    have hk := (List.getElem?_eq_some_iff.1 hx).1
    left
    refine ⟨?_, rfl⟩
    unfold Qu
    rw [if_pos (by simp; omega), Z2 hx, Option.bind_some, Option.bind_some, if_neg (by simp), Z7 (by omega) (by omega)]) (by
    unfold Qu
    rw [if_neg (by simp)])
  unfold Qo
  rw [if_neg (by simp), this]
  rfl
theorem Zmz {y : List Int} (h : y.Pairwise (· < ·)) : y.Nodup := h.imp fun {a b} h e => by omega
theorem Zrm {l out : List api_Rest} (h : GR l out) : out.length ≤ l.length := by
  obtain ⟨y, h1, h2, h3, _⟩ := h
  have : y.length ≤ (l.map (·.Number)).length := (Zmz h1).length_le_of_subset fun n hn => by
    obtain ⟨r, hr, e⟩ := (h2 n).1 hn
    exact List.mem_map.2 ⟨r, hr, e⟩
  rw [h3]
  simpa using this
end Go.Vx

namespace Go.Vx
open Go Go.RowKit
noncomputable def Zji (d : Int) : Int := if Zcf d = true then d else d + 2048
theorem ZnF : (List.range 2048).all (fun n => decide (bor .u16 (n : Int) 2048 = (n : Int) + 2048)) = true := by decide +kernel
theorem Zlv {d : Int} (h : 0 ≤ d ∧ d ≤ 2047) : Zaa d = some (Zji d) ∧ X7 d = some (Zji d) ∧ 0 ≤ Zji d ∧ Zji d ≤ 4095 := by
  obtain ⟨o1, o2⟩ := Zkx (x := d) (by omega)
  have hb : bor .u16 d 2048 = d + 2048 := by
    have := List.all_eq_true.1 ZnF d.toNat (List.mem_range.2 (by omega))
    have := of_decide_eq_true this
    rw [show ((d.toNat : Nat) : Int) = d by omega] at this
    exact this
  unfold Zaa X7 Zji
  rw [Zfs (by omega), o1, o2, Option.bind_some, Option.bind_some]
  cases Zcf d
  · rw [if_pos (show (!false) = true from rfl), if_neg (show ¬ (false = true) by decide), if_neg (show ¬ (false = true) by decide), hb, Z7 (by omega) (by omega)]
    exact ⟨rfl, rfl, by omega, by omega⟩
  · rw [if_neg (show ¬ ((!true) = true) by decide), if_pos (show true = true from rfl), if_pos (show true = true from rfl)]
    exact ⟨rfl, rfl, by omega, by omega⟩
theorem Zm6 (a b : Int) : ZcI .i64 a b = ZcI .i64 b a := by unfold ZcI; rw [BitVec.xor_comm]
theorem Zph {a b : Int} (ha : 0 ≤ a ∧ a < 2048) (hb : 0 ≤ b ∧ b < 2048) : 0 ≤ ZcI .i64 a b ∧ ZcI .i64 a b < 2048 := by
  obtain ⟨n, rfl⟩ : ∃ n : Nat, a = n := ⟨a.toNat, by omega⟩
  obtain ⟨m, rfl⟩ : ∃ m : Nat, b = m := ⟨b.toNat, by omega⟩
  rw [ZlJ (by omega) (by omega)]
  have := Nat.xor_lt_two_pow (x := n) (y := m) (n := 11) (by omega) (by omega)
  omega
theorem ZqZ (f : Vector Int 64) (k : Nat) : 0 ≤ ckS f k ∧ ckS f k < 4194304 := by
  unfold ckS
  have := (pS (ZdI f) k).isLt
  omega
theorem ZnU {f : Vector Int 64} {i : Nat} (hi : i < 64) (h : wd f i = 0) : Qp f (i : Int) 0 = f := by
  refine ZeJ fun j _ => ?_
  rw [X6 f hi]
  split
  · rename_i e; subst e; exact h.symm
  · rfl
theorem Zrx {f : Vector Int 64} (hn : ∀ i, 0 ≤ wd f i ∧ wd f i ≤ 4095) {i : Nat} (hi : i < 64) (h0 : wd f i = 0) :
    ∃ w, Q4 f (i : Int) = some (Qp f (i : Int) w) ∧ Jh f (i : Int) = some (Qp f (i : Int) w) ∧ 0 ≤ w ∧ w ≤ 4095 := by
  have hU : fU f := fun j => by have := hn j; omega
  obtain ⟨n1, n2⟩ := Zln hU
  have hnb := ZjH f
  obtain ⟨s1, s2⟩ := ZlU hU
  have hsb := Znq f 60
  have c1 := Zk8 hU
  have c2 := ZpA hU
  have hcb := ZqZ f 744
  have hv := Z8 f hi
  have hv61 : ZA f 61 = some (wd f 61) := Z8 f (i := 61) (by decide)
  have h61 := hn 61
  have hii := hn i
  by_cases i0 : i = 0
  · subst i0
    have hsy := ZhZ hnb.1
    have hv0 : ZA f 0 = some (wd f 0) := hv
    refine ⟨Xa (Za7 f), ?_, ?_, hsy.1, hsy.2⟩
    · unfold Q4
      rw [if_pos (by decide), n1, Option.bind_some, (Zfw hnb.1).1, Option.bind_some, (Zfw hnb.1).2, Option.bind_some, hv0]; rfl
    · unfold Jh
      rw [if_pos (by decide), n2, Option.bind_some, Zj2 hnb.1, Option.bind_some, hv0, Zfs (by omega)]; rfl
  by_cases i61 : i = 61
  · subst i61
    obtain ⟨w1, w2, w3, w4⟩ := Zlv (d := ZcQ f 60) (by omega)
    refine ⟨Zji (ZcQ f 60), ?_, ?_, w3, w4⟩
    · unfold Q4
      rw [if_neg (by decide), if_pos (by decide), s1, Option.bind_some, w1, Option.bind_some, hv]; rfl
    · unfold Jh
      rw [if_neg (by decide), if_neg (by decide), if_pos (by decide), s2, Option.bind_some, w2, Option.bind_some, hv61, Zfs (by omega)]; rfl
  by_cases i62 : i = 62
  · subst i62
    obtain ⟨w1, w2, w3, w4⟩ := Zlv (d := ckS f 744 / 2048) (by omega)
    have hq := Zlu (ckS f 744) (k := 11) (by decide)
    rw [show ((11 : Nat) : Int) = 11 from rfl, show (2 : Int) ^ 11 = 2048 by decide] at hq
    have hq2 : quo .i64 (ckS f 744) 2048 = some (ckS f 744 / 2048) := by
      rw [(Zkk (by decide) (by omega)).1, Int.tdiv_eq_ediv_of_nonneg hcb.1]
    have hv0 : ZA f 62 = some (wd f 62) := hv
    refine ⟨Zji (ckS f 744 / 2048), ?_, ?_, w3, w4⟩
    · unfold Q4
      rw [if_neg (by decide), if_neg (by decide), if_pos (by decide), c1, Option.bind_some, hq, Option.bind_some, w1, Option.bind_some, hv]; rfl
    · unfold Jh
      rw [if_neg (by decide), if_neg (by decide), if_neg (by decide), if_pos (by decide), c2, Option.bind_some, hq2, Option.bind_some, w2, Option.bind_some, hv0, Zfs (by omega)]; rfl
  by_cases i63 : i = 63
  · subst i63
    obtain ⟨w1, w2, w3, w4⟩ := Zlv (d := ckS f 744 % 2048) (by omega)
    have hm := Zgu (v := ckS f 744) (n := 11) (by decide)
    rw [show ((2 : Int) ^ 11 - 1) = 2047 by decide, show (2 : Int) ^ 11 = 2048 by decide] at hm
    have hv0 : ZA f 63 = some (wd f 63) := hv
    refine ⟨Zji (ckS f 744 % 2048), ?_, ?_, w3, w4⟩
    · unfold Q4
      rw [if_neg (by decide), if_neg (by decide), if_neg (by decide), if_pos (by decide), c1, Option.bind_some, hm, w1, Option.bind_some, hv]; rfl
    · unfold Jh
      rw [if_neg (by decide), if_neg (by decide), if_neg (by decide), if_neg (by decide), c2, Option.bind_some, Zfm hcb.1 2048 (by decide), Option.bind_some, w2, Option.bind_some, hv0, Zfs (by omega)]; rfl
  have d1 := ZfH (x := wd f i) (by omega)
  have d2 := ZfH (x := wd f 61) (by omega)
  have hx1 := Zph (a := ZcQ f 60) (b := wd f i % 2048) (by omega) (by omega)
  have hx2 := Zph (a := ZcI .i64 (ZcQ f 60) (wd f i % 2048)) (b := wd f 61 % 2048) hx1 (by omega)
  obtain ⟨w1, w2, w3, w4⟩ := Zlv (d := ZcI .i64 (ZcI .i64 (ZcQ f 60) (wd f i % 2048)) (wd f 61 % 2048)) (by omega)
  refine ⟨_, ?_, ?_, w3, w4⟩
  · unfold Q4
    rw [if_neg (by simp; omega), if_neg (by simp; omega), if_neg (by simp; omega), if_neg (by simp; omega), s1, Option.bind_some, hv, Option.bind_some, d1, Option.bind_some, hv61, Option.bind_some, d2, Option.bind_some, w1]; rfl
  · unfold Jh
    rw [if_neg (by simp; omega), if_pos (by simp; omega), hv, Option.bind_some, Z7 (z := wd f i) (by omega) (by omega), Zfm hii.1 2048 (by decide), Option.bind_some, s2, Option.bind_some, hv61, Option.bind_some, Z7 (z := wd f 61) (by omega) (by omega), Zfm h61.1 2048 (by decide), Option.bind_some,
      Zm6 (wd f i % 2048) (ZcQ f 60), w2, Option.bind_some, Zfs (by omega)]; rfl
end Go.Vx

namespace Go.Vx
open Go Go.RowKit
def NoZ (r : api_Rest) (k : Nat) : Prop := ∀ i, i < k → wd r.States i ≠ 0
def ZoS (r : api_Rest) (k j : Nat) : Prop := j < k ∧ wd r.States j = 0 ∧ ∀ i, i < k → i ≠ j → wd r.States i ≠ 0
def ZpL (r : api_Rest) (k : Nat) : Prop := ∃ i j, i < j ∧ j < k ∧ wd r.States i = 0 ∧ wd r.States j = 0
theorem Zrs (r : api_Rest) : ∃ lost place : Int, loop (t3 (Xe r)) (0, 0, 0) = some (lost, place) ∧ ((lost = 0 ∧ NoZ r 64) ∨ (lost = 1 ∧ ∃ j : Nat, place = j ∧ ZoS r 64 j) ∨ (2 ≤ lost ∧ ZpL r 64)) := by
  obtain ⟨q, e1, lost, place, rfl, e2⟩ := ZdA (body := Xe r) (N := 64)
    (fun k lost place => (lost = 0 ∧ NoZ r k) ∨ (lost = 1 ∧ ∃ j : Nat, place = j ∧ ZoS r k j) ∨ (2 ≤ lost ∧ lost ≤ k ∧ ZpL r k))
    (fun q => ∃ lost place : Int, q = (lost, place) ∧ ((lost = 0 ∧ NoZ r 64) ∨ (lost = 1 ∧ ∃ j : Nat, place = j ∧ ZoS r 64 j) ∨ (2 ≤ lost ∧ ZpL r 64)))
    (fun k lost place hk hI => by
      left
      unfold Xe
      rw [if_pos (by simp; omega), Z8 r.States hk, Option.bind_some, XO hk (by omega)]
      by_cases h0 : wd r.States k = 0
      · rw [if_pos (by simpa using h0)]
        have hb : 0 ≤ lost ∧ lost ≤ 64 := by rcases hI with ⟨h, _⟩ | ⟨h, _⟩ | ⟨h, h', _⟩ <;> omega
        refine ⟨_, _, rfl, ?_⟩
        rw [Z7 (by omega) (by omega)]
        rcases hI with ⟨rfl, h⟩ | ⟨rfl, j, rfl, h1, h2, h3⟩ | ⟨h1, h2, i, j, h3, h4, h5, h6⟩
        · exact .inr (.inl ⟨rfl, k, rfl, by omega, h0, fun i hi hne => h i (by omega)⟩)
        · exact .inr (.inr ⟨by omega, by omega, j, k, h1, by omega, h2, h0⟩)
        · exact .inr (.inr ⟨by omega, by omega, i, j, h3, by omega, h5, h6⟩)
      · rw [if_neg (by simpa using h0)]
        refine ⟨_, _, rfl, ?_⟩
        rcases hI with ⟨rfl, h⟩ | ⟨rfl, j, rfl, h1, h2, h3⟩ | ⟨h1, h2, i, j, h3, h4, h5, h6⟩
        · refine .inl ⟨rfl, fun i hi => ?_⟩
          by_cases e : i = k
          · subst e; exact h0
          · exact h i (by omega)
        · refine .inr (.inl ⟨rfl, j, rfl, by omega, h2, fun i hi hne => ?_⟩)
          by_cases e : i = k
          · subst e; exact h0
          · exact h3 i (by omega) hne
        · exact .inr (.inr ⟨h1, by omega, i, j, h3, by omega, h5, h6⟩))
    (fun lost place hI => ⟨_, by unfold Xe; rw [if_neg (by simp)], lost, place, rfl, by
      rcases hI with h | h | ⟨h1, _, h2⟩
      · exact .inl h
      · exact .inr (.inl h)
      · exact .inr (.inr ⟨h1, h2⟩)⟩) (a0 := 0) (b0 := 0) (.inl ⟨rfl, fun i hi => by omega⟩)
  exact ⟨lost, place, e1, e2⟩
theorem ZqQ (r : api_Rest) : ∃ q, loop (t2 (Zao r)) ((-1), 0) = some q ∧ ((q = .inl r ∧ ZpL r 64) ∨ (q = .inr (-1) ∧ NoZ r 64) ∨ ∃ j : Nat, q = .inr (j : Int) ∧ ZoS r 64 j) :=
  Jg (body := Zao r) (N := 64) (fun k at_ => (at_ = -1 ∧ NoZ r k) ∨ ∃ j : Nat, at_ = j ∧ ZoS r k j) _
    (fun k at_ hk hI => by
      unfold Zao
      rw [if_pos (by simp; omega), Z8 r.States hk, Option.bind_some, XO hk (by omega)]
      by_cases h0 : wd r.States k = 0
      · rw [if_neg (by simpa using h0)]
        rcases hI with ⟨rfl, h⟩ | ⟨j, rfl, h1, h2, h3⟩
        · left
          exact ⟨_, by rw [if_neg (by decide)], .inr ⟨k, rfl, by omega, h0, fun i hi hne => h i (by omega)⟩⟩
        · right
          exact ⟨_, by rw [if_pos (by simp)], .inl ⟨rfl, j, k, h1, by omega, h2, h0⟩⟩
      · rw [if_pos (by simpa using h0)]
        left
        refine ⟨_, rfl, ?_⟩
        rcases hI with ⟨rfl, h⟩ | ⟨j, rfl, h1, h2, h3⟩
        · refine .inl ⟨rfl, fun i hi => ?_⟩
          by_cases e : i = k
          · subst e; exact h0
          · exact h i (by omega)
        · refine .inr ⟨j, rfl, by omega, h2, fun i hi hne => ?_⟩
          by_cases e : i = k
          · subst e; exact h0
          · exact h3 i (by omega) hne)
    (fun at_ hI => ⟨.inr at_, by unfold Zao; rw [if_neg (by simp)], by
      rcases hI with ⟨rfl, h⟩ | ⟨j, rfl, h⟩
      · exact .inr (.inl ⟨rfl, h⟩)
      · exact .inr (.inr ⟨j, rfl, h⟩)⟩) (.inl ⟨rfl, fun i hi => by omega⟩)
theorem Zpf {r : api_Rest} (hn : ∀ i, 0 ≤ wd r.Frame i ∧ wd r.Frame i ≤ 4095) (hz : r.Sound = false → r.Conflict = false → ∀ i, i < 64 → wd r.States i = 0 → wd r.Frame i = 0) :
    ∃ o, XE r = some o ∧ Zcq r = some o := by
  obtain ⟨q, e1, e2⟩ := ZqQ r
  unfold XE Zcq
  rw [e1, Option.bind_some]
  cases hsc : (r.Sound || r.Conflict)
  · have hs : r.Sound = false := by cases h : r.Sound <;> simp_all
    have hc : r.Conflict = false := by cases h : r.Conflict <;> simp_all
    rw [if_neg (show ¬ (false = true) by decide)]
    obtain ⟨lost, place, f1, f2⟩ := Zrs r
    rw [f1, Option.bind_some, Zc8]
    rcases e2 with ⟨rfl, i, j, h1, h2, h3, h4⟩ | ⟨rfl, h⟩ | ⟨j, rfl, h1, h2, h3⟩
    · have hl : 2 ≤ lost := by
        rcases f2 with ⟨_, hN⟩ | ⟨_, k, _, _, _, hk⟩ | ⟨h, _⟩
        · exact (hN i (by omega) h3).elim
        · by_cases e : i = k
          · exact (hk j (by omega) (by omega) h4).elim
          · exact (hk i (by omega) e h3).elim
        · exact h
      exact ⟨r, by rw [if_pos (by simp; omega)], rfl⟩
    · have hl : lost = 0 := by
        rcases f2 with ⟨h0, _⟩ | ⟨_, k, _, hk, hk0, _⟩ | ⟨_, i, j, _, hj, hi0, _⟩
        · exact h0
        · exact (h k hk hk0).elim
        · exact (h i (by omega) hi0).elim
      exact ⟨r, by rw [if_pos (by simp; omega)], rfl⟩
    · obtain ⟨rfl, rfl⟩ : lost = 1 ∧ place = j := by
        rcases f2 with ⟨_, hN⟩ | ⟨h, k, rfl, hk, hk0, hko⟩ | ⟨_, i, k, hik, hk, hi0, hk0⟩
        · exact (hN j h1 h2).elim
        · refine ⟨h, ?_⟩
          by_cases e : k = j
          · rw [e]
          · exact (h3 k hk e hk0).elim
        · by_cases e : i = j
          · exact (h3 k hk (by omega) hk0).elim
          · exact (h3 i (by omega) e hi0).elim
      have hF := hz hs hc j h1 h2
      obtain ⟨w, p1, p2, p3, p4⟩ := Zrx hn h1 hF
      have hgn : ∀ i, 0 ≤ wd (Qp r.Frame (j : Int) w) i ∧ wd (Qp r.Frame (j : Int) w) i ≤ 4095 := fun i => by
        rw [X6 _ h1]
        split
        · omega
        · exact hn i
      generalize hg : Qp r.Frame (j : Int) w = g at p1 p2 hgn
      have hgU : fU g := fun i => by have := hgn i; omega
      have hnb : Zb8 r.Frame = true := by
        unfold Zb8
        rw [List.all_eq_true]
        intro k _
        exact decide_eq_true (hn k).2
      have hRp : Jw r.Frame (j : Int) = some (if ZgM g = true then (g, true) else (Vector.replicate 64 0, false)) := by
        unfold Jw
        rw [if_neg (by simp; omega), Z8 _ h1, Option.bind_some, ZnU h1 hF, Zpy, hnb, Option.bind_some, if_neg (by decide), p1, Option.bind_some, Znr hgU, Option.bind_some, zV]
        cases ZgM g <;> rfl
      rw [if_neg (by decide), hRp, Option.bind_some]
      simp only [Sum.elim_inr, QN]
      rw [if_neg (show ¬ ((false || decide ((j : Int) < 0)) = true) by simp), p2, Option.bind_some, Zkg hgU, Option.bind_some, Zif hgU (hgn 1).2 (hgn 2).2]
      have hsa := Zk7 hgU (hgn 1).2 (hgn 2).2 r.Number
      unfold ZmK at hsa
      cases hsn : ZgM g
      · exact ⟨r, rfl, by simp [gd]⟩
      · rw [hsn] at hsa
        rw [if_pos rfl]
        simp only [Bool.not_true, show (false == false) = true from rfl, Zdm, Option.bind_some, Bool.false_or, hsa, Bool.true_and]
        by_cases he : (Ze8 g).1 = r.Number
        · rw [decide_eq_true he, if_neg (by decide), if_neg (by decide), Zj9, Option.bind_some]
          have hfill : loop (t2 (Zam)) ((Vector.replicate 64 0), 0) = some (Vector.replicate 64 3) := Znd (body := Zam) 3 (fun v j hj => by
            unfold Zam
            rw [if_pos (by simp; omega), Z8 v hj, Option.bind_some, XO hj (by omega)]) (fun v => by unfold Zam; rw [if_neg (by simp)]) _
          rw [hfill, Option.bind_some, QN, Z8 _ h1, Option.bind_some, Option.bind_some, hc]
          exact ⟨_, rfl, rfl⟩
        · rw [decide_eq_false he]
          exact ⟨r, rfl, rfl⟩
  · refine ⟨r, by rw [if_pos rfl], ?_⟩
    rcases e2 with ⟨rfl, _⟩ | ⟨rfl, _⟩ | ⟨j, rfl, _⟩
    · rfl
    · simp only [Sum.elim_inr, QN, Bool.true_or, if_true]
    · simp only [Sum.elim_inr, QN, Bool.true_or, if_true]
end Go.Vx

namespace Go.Vx
open Go Go.RowKit
theorem ZpR {H : List Int} {C : List api_Found} (hC : COK H C) {i : Nat} {xi : api_Found} (hi : C[i]? = some xi) {p : Int} (hp : -1000000 ≤ p ∧ p ≤ 1000000) {r : api_Rest} (h : bes H C i p = some r) : 0 ≤ r.Number ∧ r.Number < 4194304 ∧ r.Copies = 0 := by
  have hH := hC.hl
  obtain ⟨⟨r0, h1, h2⟩, _, _⟩ := Znx hC hi hp
  have := h2 r h
  subst this
  rw [h] at h1
  have hfw := Zeo hC.hh p
  have hfu := Zmo hC.hh p
  obtain ⟨n, ok, e1, e2, e3, _⟩ := ZmE hC hi hp (frW H p).2 hfu hfw
  have g0 : Xg (fnd H C).h_ p = some (frW H p) := Zj0 hC.hh hp (by show H.length ≤ _; omega)
  unfold Qr at h1
  rw [g0, Option.bind_some, e1, Option.bind_some] at h1
  cases ok
  · rw [if_pos (by simp)] at h1
    simp at h1
  · obtain ⟨n1, n2⟩ := e3 rfl
    obtain ⟨r', g1, g2⟩ := Zlk (w := (frW H p).2) hfw n1 n2
    rw [if_neg (by simp)] at h1
    simp only at h1
    obtain ⟨b, l1, _⟩ := Zor r'
    rw [g1, Option.bind_some, QN, l1, Option.bind_some] at h1
    have : r' = r0 := by
      have := Option.some.inj h1
      exact congrArg Prod.fst this
    subst this
    rw [g2.num, g2.cop]
    exact ⟨n1, n2, rfl⟩
theorem Zog {H : List Int} {C : List api_Found} (hC : COK H C) {r : api_Rest} (hr : r ∈ RA H C C.length) : 0 ≤ r.Number ∧ r.Number < 4194304 ∧ 0 ≤ r.Copies ∧ r.Copies ≤ 1 := by
  unfold RA at hr
  rcases List.mem_append.1 hr with hr | hr
  · obtain ⟨x, hx, rfl⟩ := List.mem_map.1 hr
    have := ZhP x.Frame
    exact ⟨this.1, this.2, by show (0 : Int) ≤ 1; omega, by show (1 : Int) ≤ 1; omega⟩
  · obtain ⟨i, hi, hr⟩ := List.mem_flatMap.1 hr
    obtain ⟨x, hx⟩ := ZT (xs := C) (k := i) (List.mem_range.1 hi)
    obtain ⟨p, hp, he⟩ := List.mem_filterMap.1 hr
    have hg : C.getD i fz = x := ZiS hx
    rw [hg] at hp
    unfold KC at hp
    have := (Zd3.1 (List.mem_filter.1 hp).2).1
    unfold inb at this
    have hH := hC.hl
    have := ZpR hC hx (by omega) he
    omega
def ZpN (r : api_Rest) : Prop := (∀ i, 0 ≤ wd r.Frame i ∧ wd r.Frame i ≤ 4095) ∧ (r.Sound = false → r.Conflict = false → ∀ i, i < 64 → wd r.States i = 0 → wd r.Frame i = 0)
theorem MG.nice {n : Int} {l : List api_Rest} (hM : MOK n l) {o : api_Rest} (h : MG n l o) : o.Number = n ∧ ZpN o := by
  cases h with
  | clash _ => exact ⟨rfl, fun i => by show 0 ≤ wd (Vector.replicate 64 0) i ∧ _; rw [ZbC]; omega, fun _ h => by cases h⟩
  | sound _ hs _ => exact ⟨rfl, fun i => hM.nar _ hs.1 i, fun h => by cases h⟩
  | parts _ _ hp =>
    unfold prtOut
    split
    · exact ⟨rfl, fun i => Zg0 hM hp i, fun h => by cases h⟩
    · refine ⟨rfl, fun i => Zg0 hM hp i, fun _ _ i hi h0 => ?_⟩
      rcases hp i hi with ⟨_, h1⟩ | ⟨_, h1, _⟩
      · simp only at h0; omega
      · exact h1
theorem MG.cop {n : Int} {l : List api_Rest} (hs : 0 ≤ sumC l ∧ sumC l ≤ 1000000000) {o : api_Rest} (h : MG n l o) : 0 ≤ o.Copies ∧ o.Copies ≤ 1000000000 := by
  cases h with
  | clash _ => exact hs
  | sound _ _ _ =>
    unfold sndOut
    simp only
    split <;> omega
  | parts _ _ hp =>
    unfold prtOut
    split
    · simp only; omega
    · exact hs
theorem Zmd : ∀ {l : List api_Rest}, (∀ r ∈ l, 0 ≤ r.Copies ∧ r.Copies ≤ 1) → 0 ≤ sumC l ∧ sumC l ≤ l.length
  | [], _ => ⟨Int.le_refl 0, Int.le_refl 0⟩
  | r :: l, h => by
    have h1 := h r (by simp)
    have h2 := Zmd (l := l) fun x hx => h x (by simp [hx])
    simp only [sumC, List.map_cons, List.sum_cons, List.length_cons] at *
    omega
theorem GR.get {l out : List api_Rest} (h : GR l out) {r : api_Rest} (hr : r ∈ out) : ∃ n, (∃ x ∈ l, x.Number = n) ∧ MG n (grp l n) r := by
  obtain ⟨y, h1, h2, h3, h4⟩ := h
  obtain ⟨i, hi⟩ := List.getElem?_of_mem hr
  obtain ⟨n, hn⟩ := ZT (xs := y) (k := i) (by rw [← h3]; exact (List.getElem?_eq_some_iff.1 hi).1)
  exact ⟨n, (h2 n).1 (List.mem_of_getElem? hn), h4 i n r hn hi⟩
theorem GR.nice {l out : List api_Rest} (hl : LOK l) (h : GR l out) {r : api_Rest} (hr : r ∈ out) : ZpN r := by
  obtain ⟨n, hx, hm⟩ := h.get hr
  exact (MG.nice (hl.grp (fun e => ZjN.1 e hx)) hm).2
theorem Zoc {l out : List api_Rest} (h : GR l out) (hn : ∀ r ∈ l, 0 ≤ r.Number ∧ r.Number < 4194304) : out.length ≤ 4194304 := by
  obtain ⟨y, h1, h2, h3, _⟩ := h
  have : y.length ≤ ((List.range 4194304).map (fun (k : Nat) => (k : Int))).length := (Zmz h1).length_le_of_subset fun n hy => by
    obtain ⟨r, hr, e⟩ := (h2 n).1 hy
    have := hn r hr
    exact List.mem_map.2 ⟨n.toNat, List.mem_range.2 (by omega), by omega⟩
  rw [List.length_map, List.length_range] at this
  omega
noncomputable def ZdZ (p : api_Piece) : List api_Rest := (XY (hv p)).getD []
theorem Zp6 {p : api_Piece} (hw : XV p) (h : Zft p = 0) :
    X0 p = some (hv p) ∧ XY (hv p) = some (ZdZ p) ∧ Zbm p = some (hv p) ∧ (Zcp (hv p)).bind XW = some (ZdZ p) ∧
    (ZdZ p).length ≤ 4194304 ∧ ∀ r ∈ ZdZ p, (∀ i, 0 ≤ wd r.Frame i ∧ wd r.Frame i ≤ 4095) ∧ 0 ≤ r.Copies ∧ r.Copies ≤ 1000000000 := by
  have hu := Zmm hw
  have hH : hL (hv p) := ZrG hu
  have hl := ZrH h
  have hC := cok hH hl
  have h1 := Zmx hH hl
  have h2 := Zpw hH hl
  generalize ZiG (scL (hv p) ((hv p).length - 191)) = C at hC h1 h2
  obtain ⟨l, e1, e2⟩ := ZpQ hC
  have hok := ZrI hC
  have hok' : LOK l := ⟨by rw [e2.length_eq]; exact hok.len, fun r hr => hok.nar r (e2.mem_iff.1 hr), fun r hr => hok.cop r (e2.mem_iff.1 hr)⟩
  obtain ⟨out, g1, g2, g3⟩ := Zil hok' e2
  have hr : XY (hv p) = some out := by
    unfold XY
    rw [h1, Option.bind_some, e1, Option.bind_some, QN, g1]; rfl
  have ho : ZdZ p = out := by unfold ZdZ; rw [hr]; rfl
  rw [ho]
  have hnum : ∀ r ∈ l, 0 ≤ r.Number ∧ r.Number < 4194304 := fun r hr => by
    have := Zog hC (e2.mem_iff.1 hr); omega
  refine ⟨Zo0 hu h, hr, ZnP hu (ZjV h).1, by rw [h2, Option.bind_some, g2], Zoc g3 hnum, fun r hr => ?_⟩
  refine ⟨(g3.nice hok' hr).1, ?_⟩
  obtain ⟨n, _, hm⟩ := g3.get hr
  refine hm.cop ?_
  have hs := Zmd (l := grp l n) fun x hx => by
    have := Zog hC (e2.mem_iff.1 (ZeL.1 hx).1); omega
  have : (grp l n).length ≤ l.length := List.length_filter_le _ _
  have := hok'.len
  omega
def ZiR (p : api_Piece) : Option Int := if Zft p = 0 then none else some (Zft p)
theorem ZjS {α ε : Type} {g : α → Option ε} : ∀ {xs : List α}, Zeh g xs = none → ∀ x ∈ xs, g x = none
  | [], _, x, hx => by cases hx
  | y :: tl, h, x, hx => by
    simp only [Zeh] at h
    split at h
    · cases h
    · rename_i hg
      rcases List.mem_cons.1 hx with e | hx
      · subst e; exact hg
      · exact ZjS h x hx
theorem Zhq {α ε : Type} {g : α → Option ε} {e : ε} : ∀ {xs : List α}, Zeh g xs = some e → ∃ x ∈ xs, g x = some e
  | [], h => by cases h
  | y :: tl, h => by
    simp only [Zeh] at h
    split at h
    · rename_i hg; cases h; exact ⟨y, by simp, hg⟩
    · obtain ⟨x, hx, h⟩ := Zhq h
      exact ⟨x, by simp [hx], h⟩
theorem ZoZ {l : List api_Piece} (hw : wfL XV l) (hl : l.length ≤ 200) :
    loop (t1 (Q1 l)) 0 = some (ZhL (fun e => .inl (([] : List api_Rest), e)) (.inr ()) (Zeh ZiR l)) ∧
    loop (t1 (XK l)) 0 = some (ZhL (fun e => .inl e) (.inr ()) (Zeh ZiR l)) := by
  have hmem : ∀ (k : Nat) x, l[k]? = some x → k < l.length ∧ u8L x.Bytes := fun k x hx => ⟨(List.getElem?_eq_some_iff.1 hx).1, Zmm (hw.2 x (List.mem_of_getElem? hx))⟩
  constructor
  · refine ZkY (body := Q1 l) ZiR _ _ (fun k x hx => ?_) (by unfold Q1; rw [if_neg (by simp)])
    obtain ⟨hk, hu⟩ := hmem k x hx
    unfold Q1 ZiR
    rw [if_pos (by simp; omega), Z2 hx, Option.bind_some, ZlF x hu, Option.bind_some, XO hk (by omega)]
    by_cases h : Zft x = 0
    · rw [if_neg (by simp [h]), if_pos h]
    · rw [if_pos (by simpa using h), if_neg h]
  · refine ZkY (body := XK l) ZiR _ _ (fun k x hx => ?_) (by unfold XK; rw [if_neg (by simp)])
    obtain ⟨hk, hu⟩ := hmem k x hx
    unfold XK ZiR
    rw [if_pos (by simp; omega), Z2 hx, Option.bind_some, ZkR x hu, Option.bind_some, XO hk (by omega)]
    by_cases h : Zft x = 0
    · rw [if_neg (by simp [h]), if_pos h]
    · rw [if_pos (by simpa using h), if_neg h]
theorem Zlg {l : List api_Piece} (h : ∀ p ∈ l, (ZdZ p).length ≤ 4194304) : (l.flatMap ZdZ).length ≤ 4194304 * l.length := by
  induction l with
  | nil => simp
  | cons a t ih =>
    have := ih fun p hp => h p (by simp [hp])
    have := h a (by simp)
    rw [List.flatMap_cons, List.length_append, List.length_cons]
    omega
theorem Zob {l : List api_Piece} (hw : wfL XV l) (hl : l.length ≤ 200) (hc : ∀ p ∈ l, Zft p = 0) :
    loop (t2 (Q5 l)) ([], 0) = some (l.flatMap ZdZ) ∧ loop (t2 (JR l)) ([], 0) = some (l.flatMap ZdZ) ∧ LOK (l.flatMap ZdZ) := by
  have hP : ∀ p ∈ l, _ := fun p hp => Zp6 (hw.2 p hp) (hc p hp)
  have hlen := Zlg (l := l) fun p hp => (hP p hp).2.2.2.2.1
  have htl : ∀ k, ((l.take k).flatMap ZdZ).length ≤ 4194304 * 200 := fun k => by
    have := Zlg (l := l.take k) fun p hp => (hP p (List.mem_of_mem_take hp)).2.2.2.2.1
    rw [List.length_take] at this
    omega
  have hts : ∀ (k : Nat) x, l[k]? = some x → (l.take (k + 1)).flatMap ZdZ = (l.take k).flatMap ZdZ ++ ZdZ x := fun k x hx => by
    rw [List.take_succ, hx, List.flatMap_append]; simp
  refine ⟨?_, ?_, by omega, fun r hr => ?_, fun r hr => ?_⟩
  · obtain ⟨r, e1, e2⟩ := Jg (body := Q5 l) (N := l.length) (fun k o => o = (l.take k).flatMap ZdZ) (fun o => o = l.flatMap ZdZ) (fun k o hk hI => by
      left
      obtain ⟨x, hx⟩ := ZT hk
      obtain ⟨p1, p2, p3, p4, p5, _⟩ := hP x (List.mem_of_getElem? hx)
      have := htl k
      refine ⟨o ++ ZdZ x, ?_, by rw [hts k x hx, hI]⟩
      unfold Q5
      rw [if_pos (by simp; omega), Z2 hx, Option.bind_some, p1, Option.bind_some, p2, Option.bind_some, XP (by rw [hI]; omega), Option.bind_some, XO hk (by omega)])
      (fun o hI => ⟨o, by unfold Q5; rw [if_neg (by simp)], by rw [hI, List.take_length]⟩) (s0 := []) (by simp)
    rw [e1, e2]
  · obtain ⟨r, e1, e2⟩ := Jg (body := JR l) (N := l.length) (fun k o => o = (l.take k).flatMap ZdZ) (fun o => o = l.flatMap ZdZ) (fun k o hk hI => by
      left
      obtain ⟨x, hx⟩ := ZT hk
      obtain ⟨p1, p2, p3, p4, p5, _⟩ := hP x (List.mem_of_getElem? hx)
      have := htl k
      refine ⟨o ++ ZdZ x, ?_, by rw [hts k x hx, hI]⟩
      unfold JR
      rw [if_pos (by simp; omega), Z2 hx, Option.bind_some, p3, Option.bind_some]
      cases hrr : Zcp (hv x) with
      | none => rw [hrr] at p4; cases p4
      | some z =>
        rw [hrr, Option.bind_some] at p4
        rw [Option.bind_some, p4, Option.bind_some, XP (by rw [hI]; omega), Option.bind_some, XO hk (by omega)])
      (fun o hI => ⟨o, by unfold JR; rw [if_neg (by simp)], by rw [hI, List.take_length]⟩) (s0 := []) (by simp)
    rw [e1, e2]
  · obtain ⟨p, hp, hr⟩ := List.mem_flatMap.1 hr
    exact ((hP p hp).2.2.2.2.2 r hr).1
  · obtain ⟨p, hp, hr⟩ := List.mem_flatMap.1 hr
    exact ((hP p hp).2.2.2.2.2 r hr).2
end Go.Vx
