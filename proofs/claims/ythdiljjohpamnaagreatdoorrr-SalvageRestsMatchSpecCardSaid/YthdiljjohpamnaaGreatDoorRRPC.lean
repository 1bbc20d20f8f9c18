/- A text of the proof: a verified executor of the program form, or the contracts of the functions that the law reaches. -/
import Derived.Test.YthdiljjohpamnaaGreatDoorRRPB
import Derived.Test.YthdiljjohpamnaaGreatDoorRRPA
set_option linter.all false
namespace Go.Vx
open Go Go.RowKit
theorem allGood_s (r : api_Rest) : ref4_allGood r = some (!r.States.toList.any fun s => !decide (s = 3)) := by
  have h := loop_genE (body := t1 (ref4_allGood_L1 r)) (fun k => (k : Int)) (fun k => if wd r.States k = 3 then none else some false) (fun e => (.inl e : Bool ⊕ Unit)) (.inr ()) (b := 64) (fun k hk => by
    have eb : ref4_allGood_L1 r (k : Int) = if wd r.States k = 3 then some (.inl ((k : Int) + 1)) else some (.inr (.inl false)) := by
      unfold ref4_allGood_L1
      rw [if_pos (by simp; omega), vidx_w _ hk, Option.bind_some, inc64 hk (by omega)]
      by_cases h3 : wd r.States k = 3
      · rw [if_neg (by simp [h3]), if_pos h3]
      · rw [if_pos (by simp [h3]), if_neg h3]
    rw [t1_mk, eb]
    by_cases h3 : wd r.States k = 3
    · exact .inr ⟨by rw [if_pos h3], by rw [if_pos h3]; push_cast; rfl⟩
    · exact .inl ⟨false, by rw [if_neg h3], by rw [if_neg h3]⟩) (by
    rw [t1_mk]
    unfold ref4_allGood_L1
    rw [if_neg (by simp)])
  have hall := all_st r.States 3
  unfold ref4_allGood
  have e0 : (0 : Int) = ((0 : Nat) : Int) := rfl
  rw [e0, h, Option.bind_some]
  cases hf : (List.range' 0 64).findSome? (fun k => if wd r.States k = 3 then none else some false) with
  | none =>
    have : (!r.States.toList.any fun s => !decide (s = 3)) = true := hall.2 fun i hi => by
      have := findE_none hf i hi
      by_cases h3 : wd r.States i = 3
      · exact h3
      · rw [if_neg h3] at this; cases this
    rw [this]; rfl
  | some e =>
    obtain ⟨k, hk, he⟩ := List.exists_of_findSome?_eq_some hf
    simp only [List.mem_range'_1] at hk
    have : (!r.States.toList.any fun s => !decide (s = 3)) = false := by
      cases hb : (!r.States.toList.any fun s => !decide (s = 3)) with
      | false => rfl
      | true => have := hall.1 hb k (by omega); rw [if_pos this] at he; cases he
    rw [this]
    split at he
    · cases he
    · cases he; rfl
theorem rparts_s {l : List api_Rest} (hl : l.length ≤ 1000000000) (n C : Int) : ∃ F S b, loop (t3 (ref4_merge_L3 l)) (⟨n, Vector.replicate 64 0, Vector.replicate 64 0, false, C, false⟩, true, 0) = some (⟨n, F, S, false, C, false⟩, b) ∧ Parts4 l F S ∧ (b = true ↔ ∀ i, i < 64 → wd S i = 1) := by
  obtain ⟨r, e1, F, S, b, rfl, e2, e3⟩ := loop_li3 (body := ref4_merge_L3 l) (N := 64)
    (fun k o b => ∃ F S, o = ⟨n, F, S, false, C, false⟩ ∧ (∀ j, j < k → (Agr l j (wd F j) ∧ wd S j = 1) ∨ ((∀ w, ¬ Agr l j w) ∧ wd F j = 0 ∧ wd S j = 0)) ∧ (∀ j, k ≤ j → wd F j = 0 ∧ wd S j = 0) ∧ (b = true ↔ ∀ i, i < k → wd S i = 1))
    (fun r => ∃ F S b, r = (⟨n, F, S, false, C, false⟩, b) ∧ Parts4 l F S ∧ (b = true ↔ ∀ i, i < 64 → wd S i = 1))
    (by
      rintro k o b hk ⟨F, S, rfl, h1, h2, h3⟩
      left
      obtain ⟨w, c, g1, g2⟩ := agreed_s hl hk
      unfold ref4_merge_L3
      rw [if_pos (by simp; omega), g1, Option.bind_some, inc64 hk (by omega)]
      rcases g2 with ⟨rfl, g2⟩ | ⟨rfl, g2⟩
      · rw [if_pos rfl, vidx_w _ hk, Option.bind_some, vidx_w _ hk, Option.bind_some]
        refine ⟨_, _, rfl, _, _, rfl, fun j hj => ?_, fun j hj => ?_, ?_⟩
        · rw [wd_vset _ hk, wd_vset _ hk]
          by_cases hjk : k = j
          · subst hjk; rw [if_pos rfl, if_pos rfl]; exact .inl ⟨g2, rfl⟩
          · rw [if_neg hjk, if_neg hjk]; exact h1 j (by omega)
        · rw [wd_vset _ hk, wd_vset _ hk, if_neg (by omega), if_neg (by omega)]; exact h2 j (by omega)
        · rw [Bool.and_true, h3]
          constructor
          · intro hh i hi
            rw [wd_vset _ hk]
            split
            · rfl
            · exact hh i (by omega)
          · intro hh i hi
            have := hh i (by omega)
            rw [wd_vset _ hk, if_neg (by omega)] at this
            exact this
      · rw [if_neg (by simp)]
        refine ⟨_, _, rfl, _, _, rfl, fun j hj => ?_, fun j hj => h2 j (by omega), ?_⟩
        · by_cases hjk : k = j
          · subst hjk; exact .inr ⟨g2, h2 k (Nat.le_refl _)⟩
          · exact h1 j (by omega)
        · rw [Bool.and_false]
          refine ⟨(fun hh => by cases hh), fun hh => ?_⟩
          have h4 := hh k (by omega)
          have h5 := (h2 k (Nat.le_refl _)).2
          omega)
    (by
      rintro o b ⟨F, S, rfl, h1, _, h3⟩
      exact ⟨_, by unfold ref4_merge_L3; rw [if_neg (by simp)], F, S, b, rfl, h1, h3⟩)
    (a0 := ⟨n, Vector.replicate 64 0, Vector.replicate 64 0, false, C, false⟩) (b0 := true) ⟨_, _, rfl, fun j hj => by omega, fun j _ => ⟨wd_rep0 j, wd_rep0 j⟩, ⟨fun _ i hi => by omega, fun _ => rfl⟩⟩
  exact ⟨F, S, b, e1, e2, e3⟩
theorem rmerge_s {n : Int} {l : List api_Rest} (h : MOK n l) : ∃ o, ref4_merge l = some o ∧ MG n l o := by
  obtain ⟨x, hx⟩ := get_ex (xs := l) (k := 0) (List.length_pos_iff.2 h.ne)
  have hxn : x.Number = n := h.num x (List.mem_of_getElem? hx)
  have hb := sumC_bd h.cop
  have hlen := h.len
  have hx0 : idx l 0 = some x := idx_of (k := 0) hx
  obtain ⟨⟨oN, oF, oS, oD, oC, oX⟩, e1, F, V, b, ht, hn, hC, hbb, hcl, hI⟩ := rmerge_loop h
  rw [List.take_length] at ht hC hI
  simp only at hn hC hbb hI
  subst hn hC hbb
  unfold ref4_merge
  rw [hx0, Option.bind_some, hxn, e1, Option.bind_some, t1_mk]
  simp only
  cases oX with
  | true => rw [if_pos rfl]; exact ⟨_, rfl, .clash (hcl rfl)⟩
  | false =>
    rw [if_neg (by simp)]
    have hnc : ∀ hc : (∀ r ∈ l, r.Conflict = false), ¬ ∃ r ∈ l, r.Conflict = true := fun hc ⟨r, hr, hrc⟩ => by rw [hc r hr] at hrc; cases hrc
    rcases hI with ⟨h1, h2, h3, h4, h5⟩ | ⟨h1, h2, h3, ⟨s, hs, hsF⟩, h5⟩
    · have hcl' : ¬ Clash l := fun hc => hc.elim (hnc (h5 rfl)) fun ⟨r, s, hr, _⟩ => h1 r hr
      subst h2 h3 h4
      rw [if_neg (by simp)]
      obtain ⟨F, S, c, p1, p2, p3⟩ := rparts_s h.len oN (sumC l)
      have hN := parts_nar h p2
      have hU : fU F := fun i => ⟨(hN i).1, by have := (hN i).2; omega⟩
      rw [p1, Option.bind_some, t2_mk]
      have hpo : MG oN l (prtOut oN (sumC l) F S) := .parts hcl' h1 p2
      unfold prtOut at hpo
      simp only
      cases c with
      | false =>
        rw [show ((false : Bool) == true) = false from rfl, gd_f, Option.bind_some]
        rw [if_neg (fun hh => by have := p3.2 hh.1; cases this)] at hpo
        refine ⟨_, ?_, hpo⟩
        simp
      | true =>
        rw [gd_tt, rSound_s hU, Option.bind_some, Bool.true_and]
        have hsas : sasB F oN = (sndB F && decide ((numN F).1 = oN)) := rfl
        cases hs : sndB F with
        | false =>
          rw [show ((false : Bool) == true) = false from rfl, gd_f, Option.bind_some]
          rw [if_neg (fun hh => by rw [hsas, hs] at hh; cases hh.2)] at hpo
          exact ⟨_, by simp, hpo⟩
        | true =>
          rw [gd_tt, number_s hU (hN 1).2 (hN 2).2, Option.bind_some]
          by_cases hnum : (numN F).1 = oN
          · rw [if_pos (by simp [hnum]), fillc (body := ref4_merge_L4) 3 (fun v k hk => by
              unfold ref4_merge_L4
              rw [if_pos (by simp; omega), vidx_w v hk, Option.bind_some, inc64 hk (by omega)]) (fun v => by unfold ref4_merge_L4; rw [if_neg (by simp)]), Option.bind_some, t1_mk]
            rw [if_pos ⟨p3.1 rfl, by rw [hsas, hs, hnum]; simp⟩] at hpo
            exact ⟨_, rfl, hpo⟩
          · rw [if_neg (by simp [hnum])]
            rw [if_neg (fun hh => by rw [hsas, hs] at hh; simp [hnum] at hh)] at hpo
            exact ⟨_, rfl, hpo⟩
    · obtain ⟨h6, h7⟩ := h5 rfl
      subst h1 h2 h3
      have hcl' : ¬ Clash l := fun hc => hc.elim (hnc h7) fun ⟨r, s, hr, hs, hne⟩ => hne (by rw [h6 r hr, h6 s hs])
      have hmo : MG oN l (sndOut oN (sumC l) s.Frame oS) := .sound hcl' hs ht
      rw [hsF] at hmo
      rw [if_pos rfl]
      have hall := all_st oS 3
      unfold sndOut at hmo
      have hg := allGood_s ⟨oN, oF, oS, true, sumC l, false⟩
      by_cases hz : sumC l = 0
      · rw [show decide (sumC l = 0) = true by simp [hz], gd_tt, hg, Option.bind_some]
        cases ha : (!oS.toList.any fun s => !decide (s = 3)) with
        | true =>
          rw [if_pos (hall.1 ha), show max (sumC l) 1 = 1 by omega] at hmo
          exact ⟨_, by simp [ha], hmo⟩
        | false =>
          rw [if_neg (fun hh => by rw [hall.2 hh] at ha; cases ha)] at hmo
          exact ⟨_, by simp [ha], hmo⟩
      · rw [show decide (sumC l = 0) = false by simp [hz]]
        simp only [show ((false : Bool) == true) = false from rfl, gd_f, Option.bind_some, Bool.false_and, Bool.false_eq_true, if_false]
        have : max (sumC l) 1 = sumC l := by omega
        rw [this] at hmo
        simp only [ite_self] at hmo
        exact ⟨_, rfl, hmo⟩
end Go.Vx

namespace Go.Vx
open Go Go.RowKit
theorem mgetI_putx {V : Type} {k x : Int} {a : V} : ∀ {m : List (Int × V)}, mget kqI (mput kqI m k a) x = if x = k then some a else mget kqI m x
  | [] => by rw [mputI_nil, mgetI_cons]
  | (c, v) :: m => by
    rw [mputI_cons]
    by_cases h : k = c
    · subst h
      rw [if_pos rfl, mgetI_cons, mgetI_cons]
      by_cases hx : x = k
      · rw [if_pos hx, if_pos hx]
      · rw [if_neg hx, if_neg hx, if_neg hx]
    · rw [if_neg h, mgetI_cons, mgetI_cons, mgetI_putx]
      by_cases hx : x = c
      · rw [if_pos hx, if_pos hx, if_neg (fun e => h (by rw [← e, hx]))]
      · rw [if_neg hx, if_neg hx]
def grp (l : List api_Rest) (n : Int) : List api_Rest := l.filter fun r => decide (r.Number = n)
theorem grp_succ {l : List api_Rest} {k : Nat} {x : api_Rest} (hx : l[k]? = some x) (n : Int) : grp (l.take (k + 1)) n = grp (l.take k) n ++ (if x.Number = n then [x] else []) := by
  unfold grp
  rw [List.take_succ, hx, List.filter_append]
  congr 1
  by_cases h : x.Number = n <;> simp [h]
theorem mem_grp {l : List api_Rest} {n : Int} {r : api_Rest} : r ∈ grp l n ↔ r ∈ l ∧ r.Number = n := by unfold grp; simp
structure LOK (l : List api_Rest) : Prop where
  len : l.length ≤ 1000000000
  nar : ∀ r ∈ l, ∀ i, 0 ≤ wd r.Frame i ∧ wd r.Frame i ≤ 4095
  cop : ∀ r ∈ l, 0 ≤ r.Copies ∧ r.Copies ≤ 1000000000
theorem LOK.grp {l : List api_Rest} (h : LOK l) {n : Int} (hn : Go.Vx.grp l n ≠ []) : MOK n (Go.Vx.grp l n) :=
  ⟨hn, Nat.le_trans (List.length_filter_le _ _) h.len, fun _ hr => (mem_grp.1 hr).2, fun r hr => h.nar r (mem_grp.1 hr).1, fun r hr => h.cop r (mem_grp.1 hr).1⟩
def GInv (l : List api_Rest) (k : Nat) (g : List (Int × List api_Rest)) : Prop := ∀ n, mget kqI g n = if grp (l.take k) n = [] then none else some (grp (l.take k) n)
def NMem (l : List api_Rest) (k : Nat) (y : List Int) : Prop := ∀ n, n ∈ y ↔ ∃ r ∈ l.take k, r.Number = n
theorem grp_nil {l : List api_Rest} {n : Int} : grp l n = [] ↔ ¬ ∃ r ∈ l, r.Number = n := by
  constructor
  · rintro h ⟨r, hr, hn⟩
    have := mem_grp.2 ⟨hr, hn⟩
    rw [h] at this; exact List.not_mem_nil this
  · intro h
    exact List.eq_nil_iff_forall_not_mem.2 fun r hr => h ⟨r, mem_grp.1 hr⟩
theorem ginv_put {l : List api_Rest} {k : Nat} {x : api_Rest} (hx : l[k]? = some x) {g : List (Int × List api_Rest)} (h : GInv l k g) : GInv l (k + 1) (mput kqI g x.Number (grp (l.take k) x.Number ++ [x])) := by
  intro n
  rw [mgetI_putx, grp_succ hx]
  by_cases hn : n = x.Number
  · subst hn; rw [if_pos rfl, if_pos rfl, if_neg (by simp)]
  · rw [if_neg hn, if_neg (Ne.symm hn), List.append_nil]; exact h n
theorem nmem_succ {l : List api_Rest} {k : Nat} {x : api_Rest} (hx : l[k]? = some x) {y y' : List Int} (h : NMem l k y) (hy : ∀ n, n ∈ y' ↔ n ∈ y ∨ n = x.Number) : NMem l (k + 1) y' := by
  intro n
  rw [hy, h n]
  constructor
  · rintro (⟨r, hr, e⟩ | rfl)
    · exact ⟨r, (mem_take_succ hx).2 (.inl hr), e⟩
    · exact ⟨x, (mem_take_succ hx).2 (.inr rfl), rfl⟩
  · rintro ⟨r, hr, e⟩
    rcases (mem_take_succ hx).1 hr with h' | rfl
    · exact .inl ⟨r, h', e⟩
    · exact .inr e.symm
theorem ginv_0 (l : List api_Rest) : GInv l 0 [] := fun n => by rw [List.take_zero]; rfl
theorem nmem_0 (l : List api_Rest) : NMem l 0 [] := fun n => by rw [List.take_zero]; simp
def GR (l : List api_Rest) (out : List api_Rest) : Prop :=
  ∃ y : List Int, y.Pairwise (· < ·) ∧ (∀ n, n ∈ y ↔ ∃ r ∈ l, r.Number = n) ∧ out.length = y.length ∧ ∀ (i : Nat) n o, y[i]? = some n → out[i]? = some o → MG n (grp l n) o
theorem strict_uniq : ∀ {a b : List Int}, a.Pairwise (· < ·) → b.Pairwise (· < ·) → (∀ n, n ∈ a ↔ n ∈ b) → a = b
  | [], [], _, _, _ => rfl
  | [], b :: _, _, _, h => by have := (h b).2 (by simp); cases this
  | a :: _, [], _, _, h => by have := (h a).1 (by simp); cases this
  | a :: ta, b :: tb, ha, hb, h => by
    rw [List.pairwise_cons] at ha hb
    have e : a = b := by
      rcases List.mem_cons.1 ((h a).1 (by simp)) with e | h1
      · exact e
      · rcases List.mem_cons.1 ((h b).2 (by simp)) with e | h2
        · exact e.symm
        · have := ha.1 b h2; have := hb.1 a h1; omega
    subst e
    rw [strict_uniq ha.2 hb.2 fun n => ?_]
    constructor
    · intro hn
      rcases List.mem_cons.1 ((h n).1 (List.mem_cons_of_mem _ hn)) with e | h'
      · have := ha.1 n hn; omega
      · exact h'
    · intro hn
      rcases List.mem_cons.1 ((h n).2 (List.mem_cons_of_mem _ hn)) with e | h'
      · have := hb.1 n hn; omega
      · exact h'
theorem sumC_perm {l l' : List api_Rest} (h : l.Perm l') : sumC l = sumC l' := by
  unfold sumC
  induction h with
  | nil => rfl
  | cons x _ ih => simp [ih]
  | swap x y l => simp only [List.map_cons, List.sum_cons]; omega
  | trans _ _ ih1 ih2 => exact ih1.trans ih2
theorem GR.uniq {l l' : List api_Rest} (hp : l.Perm l') {o o' : List api_Rest} (h : GR l o) (h' : GR l' o') : o = o' := by
  obtain ⟨y, h1, h2, h3, h4⟩ := h
  obtain ⟨y', g1, g2, g3, g4⟩ := h'
  have hy : y = y' := strict_uniq h1 g1 fun n => by rw [h2, g2]; simp only [hp.mem_iff]
  subst hy
  refine List.ext_getElem? fun i => ?_
  by_cases hi : i < y.length
  · obtain ⟨n, hn⟩ := get_ex hi
    obtain ⟨a, ha⟩ := get_ex (xs := o) (k := i) (by omega)
    obtain ⟨b, hb⟩ := get_ex (xs := o') (k := i) (by omega)
    rw [ha, hb]
    have hpg : (grp l n).Perm (grp l' n) := hp.filter _
    rw [(h4 i n a hn ha).uniq (fun r => hpg.mem_iff) (sumC_perm hpg) (g4 i n b hn hb)]
  · rw [List.getElem?_eq_none (by omega), List.getElem?_eq_none (by omega)]
theorem msel_none {α : Type} {o : Option α} (h : o = none) : msel o = .inl () := by rw [h]; rfl
theorem msel_some {α : Type} {o : Option α} {x : α} (h : o = some x) : msel o = .inr x := by rw [h]; rfl
theorem group_out {l : List api_Rest} (hl : LOK l) {y : List Int} (hy : y.Pairwise (· < ·)) (hm : NMem l l.length y) (hlen : y.length ≤ 1000000000) {body : List api_Rest → Int → Option ((List api_Rest × Int) ⊕ List api_Rest)} {mrg : List api_Rest → Option api_Rest}
    (hmrg : ∀ n m, MOK n m → ∃ o, mrg m = some o ∧ MG n m o)
    (hstep : ∀ (out : List api_Rest) (k : Nat) n, y[k]? = some n → grp l n ≠ [] → body out (k : Int) = (mrg (grp l n)).bind fun o => (app out [o]).bind fun l5 => some (.inl (l5, (k : Int) + 1)))
    (hend : ∀ out, body out (y.length : Int) = some (.inr out)) : ∃ out, loop (t2 body) ([], 0) = some out ∧ GR l out := by
  have hmem : ∀ n, n ∈ y ↔ ∃ r ∈ l, r.Number = n := fun n => by have := hm n; rwa [List.take_length] at this
  obtain ⟨out, e1, e2, e3⟩ := loop_li (body := body) (N := y.length) (fun k out => out.length = k ∧ ∀ (i : Nat) n o, y[i]? = some n → out[i]? = some o → MG n (grp l n) o) (fun out => out.length = y.length ∧ ∀ (i : Nat) n o, y[i]? = some n → out[i]? = some o → MG n (grp l n) o)
    (by
      rintro k out hk ⟨h1, h2⟩
      obtain ⟨n, hn⟩ := get_ex hk
      have hne : grp l n ≠ [] := fun e => grp_nil.1 e ((hmem n).1 (List.mem_of_getElem? hn))
      obtain ⟨o, g1, g2⟩ := hmrg n _ (hl.grp hne)
      left
      rw [hstep out k n hn hne, g1, Option.bind_some, app_of (by simp; omega), Option.bind_some]
      refine ⟨_, rfl, by simp [h1], fun i n' o' hi ho => ?_⟩
      by_cases hik : i < out.length
      · rw [List.getElem?_append_left hik] at ho; exact h2 i n' o' hi ho
      · rw [List.getElem?_append_right (by omega)] at ho
        have : i - out.length = 0 := by
          have := (List.getElem?_eq_some_iff.1 ho).1
          simp at this; omega
        rw [this] at ho
        have hio : i = k := by omega
        subst hio
        cases ho
        rw [hn] at hi; cases hi
        exact g2) (fun out h => ⟨out, hend out, h⟩) (s0 := []) ⟨rfl, fun i n o _ ho => by simp at ho⟩
  exact ⟨out, e1, y, hy, hmem, e2, e3⟩
theorem grouped_s {l : List api_Rest} (hl : LOK l) : ∃ out, salvage_grouped l = some out ∧ GR l out := by
  have hlen := hl.len
  obtain ⟨r, e1, g, y, rfl, h1, h2, h3, h4⟩ := loop_li3 (body := salvage_grouped_L1 l) (N := l.length) (fun k g y => GInv l k g ∧ NMem l k y ∧ y.Nodup ∧ y.length ≤ k)
    (fun r => ∃ g y, r = (g, y) ∧ GInv l l.length g ∧ NMem l l.length y ∧ y.Nodup ∧ y.length ≤ l.length)
    (by
      rintro k g y hk ⟨h1, h2, h3, h4⟩
      obtain ⟨x, hx⟩ := get_ex hk
      left
      unfold salvage_grouped_L1
      rw [if_pos (by simp; omega), idx_of hx, Option.bind_some, inc64 hk (by omega)]
      have hg := h1 x.Number
      by_cases hn : grp (l.take k) x.Number = []
      · rw [if_pos hn] at hg
        rw [msel_none hg, Option.bind_some, Sum.elim_inl, if_pos rfl, app_of (by simp; omega), Option.bind_some, Option.bind_some, t1_mk, Option.bind_some, Sum.elim_inl, app_of (by simp), Option.bind_some, Option.bind_some, t2_mk]
        have hnm : x.Number ∉ y := fun hm => grp_nil.1 hn ((h2 _).1 hm)
        refine ⟨_, _, rfl, ?_, nmem_succ hx h2 (fun n => by simp), ?_, by simp; omega⟩
        · have := ginv_put hx h1
          rw [hn] at this; exact this
        · exact List.nodup_append.2 ⟨h3, by simp, fun a ha b hb e => hnm (by rw [List.mem_singleton] at hb; rw [← hb, ← e]; exact ha)⟩
      · rw [if_neg hn] at hg
        have hpos : 0 < (grp (l.take k) x.Number).length := List.length_pos_iff.2 hn
        have hgl : (grp (l.take k) x.Number).length ≤ l.length := Nat.le_trans (List.length_filter_le _ _) (by rw [List.length_take]; omega)
        have hxm : x.Number ∈ y := by
          obtain ⟨r, hr⟩ := List.exists_mem_of_ne_nil _ hn
          exact (h2 _).2 ⟨r, mem_grp.1 hr⟩
        rw [msel_some hg, Option.bind_some, Sum.elim_inr]
        have hck : ck (decide (0 < (grp (l.take k) x.Number).length)) = some () := by unfold ck; rw [if_pos (by simpa using hpos)]
        rw [hck, Option.bind_some, if_neg (by simp), Option.bind_some, t1_mk, Option.bind_some, Sum.elim_inr, app_of (by simp; omega), Option.bind_some, Option.bind_some, t2_mk]
        exact ⟨_, _, rfl, ginv_put hx h1, nmem_succ hx h2 (fun n => ⟨.inl, fun h => h.elim id fun e => by rw [e]; exact hxm⟩), h3, by omega⟩)
    (by
      rintro g y ⟨h1, h2, h3, h4⟩
      exact ⟨_, by unfold salvage_grouped_L1; rw [if_neg (by simp)], g, y, rfl, h1, h2, h3, h4⟩) (a0 := []) (b0 := []) ⟨ginv_0 l, nmem_0 l, List.nodup_nil, Nat.le_refl _⟩
  unfold salvage_grouped
  rw [e1, Option.bind_some, t2_mk]
  have hp := List.mergeSort_perm y (fun x z => decide (x ≤ z))
  have hs := List.pairwise_mergeSort (le := fun x z => decide ((x : Int) ≤ z)) (fun a b c h1 h2 => by simp only [decide_eq_true_iff] at *; omega) (fun a b => by simp only [Bool.or_eq_true, decide_eq_true_iff]; omega) y
  have hj : sortJ y = some (y.mergeSort fun x z => decide (x ≤ z)) := by unfold sortJ; rw [if_pos (by omega)]
  rw [hj, Option.bind_some]
  generalize y.mergeSort (fun x z => decide (x ≤ z)) = z at hp hs
  have hnd : z.Nodup := hp.symm.nodup h3
  have hst : z.Pairwise (· < ·) := by
    have := List.Pairwise.and hs hnd
    exact this.imp fun ⟨a, b⟩ => by simp only [decide_eq_true_iff] at a; omega
  have hzl : z.length = y.length := hp.length_eq
  obtain ⟨out, o1, o2⟩ := group_out hl hst (y := z) (fun n => by rw [hp.mem_iff]; exact h2 n) (by omega) (body := salvage_grouped_L2 g z) (mrg := salvage_merge) (fun n m hm => merge_s hm)
    (fun out k n hn hne => by
      unfold salvage_grouped_L2
      have hkl := (List.getElem?_eq_some_iff.1 hn).1
      have hg := h1 n
      rw [List.take_length, if_neg hne] at hg
      rw [if_pos (by simp; omega), idx_of hn, Option.bind_some, msel_some hg, Option.bind_some, Sum.elim_inr, inc64 hkl (by omega)])
    (fun out => by unfold salvage_grouped_L2; rw [if_neg (by simp)])
  rw [o1, Option.bind_some, t1_mk]
  exact ⟨out, rfl, o2⟩
end Go.Vx

namespace Go.Vx
open Go Go.RowKit
theorem ins_eq {o : List Int} {at_ : Nat} (h : at_ ≤ o.length) (n : Int) :
    (cpy (o ++ [0]) (at_ + 1) ((o.length + 1) - (at_ + 1)) at_ ((o.length + 1) - at_)).set at_ n = o.take at_ ++ n :: o.drop at_ := by
  have hl : (o ++ [(0 : Int)]).length = o.length + 1 := by simp
  have h1 : (at_ + 1) + ((o.length + 1) - (at_ + 1)) ≤ (o ++ [(0 : Int)]).length := by omega
  have h2 : at_ + ((o.length + 1) - at_) ≤ (o ++ [(0 : Int)]).length := by omega
  refine List.ext_getElem? fun i => ?_
  by_cases hi : i < o.length + 1
  · by_cases hia : i = at_
    · subst hia
      rw [List.getElem?_set_self (by rw [cpy_len h1 h2]; omega), List.getElem?_append_right (by simp; omega)]
      simp [Nat.min_eq_left h]
    · rw [List.getElem?_set_ne (Ne.symm hia), cpy_get h1 h2 (by omega)]
      by_cases hlt : i < at_
      · rw [if_neg (by omega), List.getElem?_append_left (by omega), List.getElem?_append_left (by simp; omega), List.getElem?_take_of_lt hlt]
      · rw [if_pos (by omega), List.getElem?_append_left (by omega), List.getElem?_append_right (by simp; omega)]
        have e : i - (o.take at_).length = (i - at_ - 1) + 1 := by simp; omega
        rw [e, List.getElem?_cons_succ, List.getElem?_drop]
        congr 1
  · rw [List.getElem?_eq_none (by rw [List.length_set, cpy_len h1 h2]; omega), List.getElem?_eq_none (by simp; omega)]
theorem find_s {o : List Int} (ho : o.Pairwise (· < ·)) (hl : o.length ≤ 1000000000) {n : Int} (hn : n ∉ o) {body : Int → Option (Int ⊕ Int)}
    (hb : ∀ k : Nat, k ≤ o.length → body (k : Int) = (gd ((decide ((0 : Int) < (k : Int))) == true) 0 (idx o (i64 ((k : Int) - 1)))).bind fun x2 => if ((decide ((0 : Int) < (k : Int))) && (decide (n < x2))) = true then some (.inl (i64 ((k : Int) - 1))) else some (.inr (k : Int))) :
    ∃ at_ : Nat, loop (t1 body) (o.length : Int) = some (at_ : Int) ∧ at_ ≤ o.length ∧ (∀ i x, i < at_ → o[i]? = some x → x < n) ∧ ∀ i x, at_ ≤ i → o[i]? = some x → n < x := by
  obtain ⟨r, e1, at_, rfl, e2⟩ := loop_inv (body := t1 body) (fun s => ∃ k : Nat, s = k ∧ k ≤ o.length ∧ ∀ i x, k ≤ i → o[i]? = some x → n < x) (fun s => s.toNat)
    (fun r => ∃ at_ : Nat, r = (at_ : Int) ∧ at_ ≤ o.length ∧ (∀ i x, i < at_ → o[i]? = some x → x < n) ∧ ∀ i x, at_ ≤ i → o[i]? = some x → n < x)
    (by
      rintro s ⟨k, rfl, hk, h1⟩
      rw [t1_mk, hb k hk]
      by_cases h0 : 0 < k
      · obtain ⟨x, hx⟩ := get_ex (xs := o) (k := k - 1) (by omega)
        have e : i64 ((k : Int) - 1) = ((k - 1 : Nat) : Int) := by rw [i64v (by omega) (by omega)]; omega
        rw [show decide ((0 : Int) < (k : Int)) = true by simp; omega, gd_tt, e, idx_of hx, Option.bind_some]
        by_cases hlt : n < x
        · left
          refine ⟨_, by rw [if_pos (by simp [hlt])], ⟨k - 1, rfl, by omega, fun i y hi hy => ?_⟩, by simp only [Int.toNat_natCast]; omega⟩
          by_cases hik : i = k - 1
          · subst hik; rw [hx] at hy; cases hy; exact hlt
          · exact h1 i y (by omega) hy
        · right
          refine ⟨_, by rw [if_neg (by simp; omega)], k, rfl, hk, fun i y hi hy => ?_, h1⟩
          have hxn : x < n := by
            have : x ≠ n := fun e => hn (by rw [← e]; exact List.mem_of_getElem? hx)
            omega
          by_cases hik : i = k - 1
          · subst hik; rw [hx] at hy; cases hy; exact hxn
          · obtain ⟨hil, hy'⟩ := List.getElem?_eq_some_iff.1 hy
            obtain ⟨hxl, hx'⟩ := List.getElem?_eq_some_iff.1 hx
            have := List.pairwise_iff_getElem.1 ho i (k - 1) hil hxl (by omega)
            rw [hy', hx'] at this
            omega
      · right
        refine ⟨_, by rw [show decide ((0 : Int) < (k : Int)) = false by simp; omega]; rfl, k, rfl, hk, fun i y hi => by omega, h1⟩) _ ⟨o.length, rfl, Nat.le_refl _, fun i x hi hx => by have := (List.getElem?_eq_some_iff.1 hx).1; omega⟩
  exact ⟨at_, e1, e2⟩
theorem ins_sorted {o : List Int} (ho : o.Pairwise (· < ·)) {n : Int} {at_ : Nat} (h1 : ∀ i x, i < at_ → o[i]? = some x → x < n) (h2 : ∀ i x, at_ ≤ i → o[i]? = some x → n < x) : (o.take at_ ++ n :: o.drop at_).Pairwise (· < ·) := by
  have ha : ∀ x ∈ o.take at_, x < n := fun x hx => by
    obtain ⟨i, hi⟩ := List.getElem?_of_mem hx
    have hil : i < at_ := by have := (List.getElem?_eq_some_iff.1 hi).1; simp at this; omega
    rw [List.getElem?_take_of_lt hil] at hi
    exact h1 i x hil hi
  have hb : ∀ x ∈ o.drop at_, n < x := fun x hx => by
    obtain ⟨i, hi⟩ := List.getElem?_of_mem hx
    rw [List.getElem?_drop] at hi
    exact h2 _ x (by omega) hi
  refine List.pairwise_append.2 ⟨ho.sublist (List.take_sublist _ _), List.pairwise_cons.2 ⟨hb, ho.sublist (List.drop_sublist _ _)⟩, fun x hx y hy => ?_⟩
  rcases List.mem_cons.1 hy with rfl | hy
  · exact ha x hx
  · have := ha x hx; have := hb y hy; omega
theorem rgrouped_s {l : List api_Rest} (hl : LOK l) : ∃ out, ref4_grouped l = some out ∧ GR l out := by
  have hlen := hl.len
  obtain ⟨r, e1, y, g, rfl, h1, h2, h3, h4⟩ := loop_li3 (body := ref4_grouped_L1 l) (N := l.length) (fun k y g => GInv l k g ∧ NMem l k y ∧ y.Pairwise (· < ·) ∧ y.length ≤ k)
    (fun r => ∃ y g, r = (y, g) ∧ GInv l l.length g ∧ NMem l l.length y ∧ y.Pairwise (· < ·) ∧ y.length ≤ l.length)
    (by
      rintro k y g hk ⟨h1, h2, h3, h4⟩
      obtain ⟨x, hx⟩ := get_ex hk
      left
      unfold ref4_grouped_L1
      rw [if_pos (by simp; omega), idx_of hx, Option.bind_some, inc64 hk (by omega)]
      have hg := h1 x.Number
      by_cases hn : grp (l.take k) x.Number = []
      · rw [if_pos hn] at hg
        have hnm : x.Number ∉ y := fun hm => grp_nil.1 hn ((h2 _).1 hm)
        obtain ⟨at_, f1, f2, f3, f4⟩ := find_s h3 (by omega) hnm (body := ref4_grouped_L2 y x) (fun k _ => by unfold ref4_grouped_L2; rfl)
        rw [msel_none hg, Option.bind_some, Sum.elim_inl, if_pos (by simp), f1, Option.bind_some, t1_mk, app_of (by simp; omega), Option.bind_some]
        have hl2 : (y ++ [(0 : Int)]).length = y.length + 1 := by simp
        have ea : i64 ((at_ : Int) + 1) = ((at_ + 1 : Nat) : Int) := by rw [i64v (by omega) (by omega)]; omega
        have hs1 : slq (y ++ [(0 : Int)]) ((at_ + 1 : Nat) : Int) ((y ++ [(0 : Int)]).length : Int) = some () := by
          unfold slq ck; rw [if_pos (by simp; omega)]
        have hs2 : slq (y ++ [(0 : Int)]) (at_ : Int) ((y ++ [(0 : Int)]).length : Int) = some () := by
          unfold slq ck; rw [if_pos (by simp; omega)]
        rw [ea, hs1, Option.bind_some, hs2, Option.bind_some]
        have t1' : Int.toNat (((y ++ [(0 : Int)]).length : Int) - ((at_ + 1 : Nat) : Int)) = (y.length + 1) - (at_ + 1) := by rw [hl2]; omega
        have t2' : Int.toNat (((y ++ [(0 : Int)]).length : Int) - (at_ : Int)) = (y.length + 1) - at_ := by rw [hl2]; omega
        rw [t1', t2', Int.toNat_natCast, Int.toNat_natCast]
        obtain ⟨z, hz⟩ := get_ex (xs := cpy (y ++ [(0 : Int)]) (at_ + 1) ((y.length + 1) - (at_ + 1)) at_ ((y.length + 1) - at_)) (k := at_) (by rw [cpy_len (by omega) (by omega)]; omega)
        rw [idx_of hz, Option.bind_some, Option.bind_some, t1_mk, Option.bind_some, Sum.elim_inl, app_of (by simp), Option.bind_some, Option.bind_some, t2_mk, ins_eq f2]
        refine ⟨_, _, rfl, ?_, nmem_succ hx h2 (fun n => ?_), ins_sorted h3 f3 f4, by simp; omega⟩
        · have := ginv_put hx h1
          rw [hn] at this; exact this
        · rw [List.mem_append, List.mem_cons]
          have : n ∈ y ↔ n ∈ y.take at_ ∨ n ∈ y.drop at_ := by rw [← List.mem_append, List.take_append_drop]
          rw [this]
          constructor
          · rintro (h | h | h)
            · exact .inl (.inl h)
            · exact .inr h
            · exact .inl (.inr h)
          · rintro ((h | h) | h)
            · exact .inl h
            · exact .inr (.inr h)
            · exact .inr (.inl h)
      · rw [if_neg hn] at hg
        have hpos : 0 < (grp (l.take k) x.Number).length := List.length_pos_iff.2 hn
        have hgl : (grp (l.take k) x.Number).length ≤ l.length := Nat.le_trans (List.length_filter_le _ _) (by rw [List.length_take]; omega)
        have hxm : x.Number ∈ y := by
          obtain ⟨r, hr⟩ := List.exists_mem_of_ne_nil _ hn
          exact (h2 _).2 ⟨r, mem_grp.1 hr⟩
        rw [msel_some hg, Option.bind_some, Sum.elim_inr, if_neg (by simp; omega), Option.bind_some, t1_mk, Option.bind_some, Sum.elim_inr, app_of (by simp; omega), Option.bind_some, Option.bind_some, t2_mk]
        exact ⟨_, _, rfl, ginv_put hx h1, nmem_succ hx h2 (fun n => ⟨.inl, fun h => h.elim id fun e => by rw [e]; exact hxm⟩), h3, by omega⟩)
    (by
      rintro y g ⟨h1, h2, h3, h4⟩
      exact ⟨_, by unfold ref4_grouped_L1; rw [if_neg (by simp)], y, g, rfl, h1, h2, h3, h4⟩) (a0 := []) (b0 := []) ⟨ginv_0 l, nmem_0 l, List.Pairwise.nil, Nat.le_refl _⟩
  unfold ref4_grouped
  rw [e1, Option.bind_some, t2_mk]
  obtain ⟨out, o1, o2⟩ := group_out hl h3 h2 (by omega) (body := ref4_grouped_L4 y g) (mrg := ref4_merge) (fun n m hm => rmerge_s hm)
    (fun out k n hn hne => by
      unfold ref4_grouped_L4
      have hkl := (List.getElem?_eq_some_iff.1 hn).1
      have hg := h1 n
      rw [List.take_length, if_neg hne] at hg
      rw [if_pos (by simp; omega), idx_of hn, Option.bind_some, msel_some hg, Option.bind_some, Sum.elim_inr, inc64 hkl (by omega)])
    (fun out => by unfold ref4_grouped_L4; rw [if_neg (by simp)])
  rw [o1, Option.bind_some, t1_mk]
  exact ⟨out, rfl, o2⟩
theorem grouped_perm {l l' : List api_Rest} (hl : LOK l) (hp : l.Perm l') : ∃ out, salvage_grouped l = some out ∧ ref4_grouped l' = some out ∧ GR l out := by
  have hl' : LOK l' := ⟨by rw [← hp.length_eq]; exact hl.len, fun r hr => hl.nar r (hp.mem_iff.2 hr), fun r hr => hl.cop r (hp.mem_iff.2 hr)⟩
  obtain ⟨o, h1, h2⟩ := grouped_s hl
  obtain ⟨o', h3, h4⟩ := rgrouped_s hl'
  exact ⟨o, h1, by rw [h3, GR.uniq hp h2 h4], h2⟩
end Go.Vx

namespace Go.Vx
open Go Go.RowKit
structure COK (H : List Int) (C : List api_Found) : Prop where
  ord : C.Pairwise fun a b => a.At < b.At
  mem : ∀ x ∈ C, ∃ k : Nat, (k : Int) < H.length ∧ x = api_Found.mk (k : Int) (frW H (k : Int)).1
  len : C.length ≤ 400000
  hl : H.length ≤ 400000
  hh : hL H
theorem cerN_sub (l : List api_Found) : ∀ n, n ≤ l.length → (cerN l n).Sublist (l.take n)
  | 0, _ => by simp [cerN]
  | n + 1, h => by
    obtain ⟨x, hx⟩ := get_ex (xs := l) (k := n) (by omega)
    rw [cerN_succ, List.take_succ, hx]
    refine List.Sublist.append (cerN_sub l n (by omega)) ?_
    unfold cerF
    split
    · rw [getF hx]; exact List.Sublist.refl _
    · exact List.nil_sublist _
theorem cok {H : List Int} (h : hL H) (hl : H.length ≤ 400000) : COK H (cerL (scL H (H.length - 191))) := by
  have hs : (cerL (scL H (H.length - 191))).Sublist (scL H (H.length - 191)) := by
    have := cerN_sub (scL H (H.length - 191)) _ (Nat.le_refl _)
    rwa [List.take_length] at this
  refine ⟨(scL_sorted H _).sublist hs, fun x hx => ?_, ?_, hl, h⟩
  · obtain ⟨k, hk, e, _⟩ := scL_mem (hs.subset hx)
    exact ⟨k, by omega, e⟩
  · have := hs.length_le
    have := scL_len H (H.length - 191)
    omega
theorem COK.at_ {H : List Int} {C : List api_Found} (h : COK H C) {k : Nat} {x : api_Found} (hx : C[k]? = some x) : 0 ≤ x.At ∧ x.At < H.length ∧ x.At ≤ 400000 := by
  obtain ⟨j, hj, rfl⟩ := h.mem x (List.mem_of_getElem? hx)
  have := h.hl
  simp only
  omega
theorem COK.lt {H : List Int} {C : List api_Found} (h : COK H C) {i j : Nat} {x y : api_Found} (hij : i < j) (hx : C[i]? = some x) (hy : C[j]? = some y) : x.At < y.At := by
  obtain ⟨hi, rfl⟩ := List.getElem?_eq_some_iff.1 hx
  obtain ⟨hj, rfl⟩ := List.getElem?_eq_some_iff.1 hy
  exact List.pairwise_iff_getElem.1 h.ord i j hi hj hij
theorem COK.fU {H : List Int} {C : List api_Found} (h : COK H C) {k : Nat} {x : api_Found} (hx : C[k]? = some x) : Go.Vx.fU x.Frame ∧ ∀ i, 0 ≤ wd x.Frame i ∧ wd x.Frame i ≤ 4095 := by
  obtain ⟨j, hj, rfl⟩ := h.mem x (List.mem_of_getElem? hx)
  exact ⟨frW_U h.hh _, frW_narrow h.hh _⟩
def dst (a p : Int) : Int := if a < p then p - a else a - p
theorem apart_d {a p : Int} (h1 : -1000000 ≤ a ∧ a ≤ 1000000) (h2 : -1000000 ≤ p ∧ p ≤ 1000000) : ref4_apart a p = some (dst a p) := by
  unfold ref4_apart dst
  by_cases h : a < p
  · rw [if_pos (by simp [h]), if_pos h, i64v (by omega) (by omega)]
  · rw [if_neg (by simp; omega), if_neg h, i64v (by omega) (by omega)]
theorem size_d {a p : Int} (h1 : -1000000 ≤ a ∧ a ≤ 1000000) (h2 : -1000000 ≤ p ∧ p ≤ 1000000) : salvage_size (i64 (a - p)) = some (dst a p) := by
  unfold salvage_size dst
  rw [i64v (z := a - p) (by omega) (by omega), i64v (by omega) (by omega)]
  congr 1
  split <;> omega
def BestQ (C : List api_Found) (q : Nat → Prop) (p : Int) (n : Nat) (best : Int) : Prop :=
  (best = -1 ∧ ∀ j, j < n → ¬ q j) ∨ ∃ (b : Nat) (x : api_Found), best = b ∧ b < n ∧ q b ∧ C[b]? = some x ∧ ∀ j y, j < n → q j → C[j]? = some y → (j < b → dst x.At p < dst y.At p) ∧ (b < j → dst x.At p ≤ dst y.At p)
theorem best_0 (C : List api_Found) (q : Nat → Prop) (p : Int) : BestQ C q p 0 (-1) := .inl ⟨rfl, fun j h => by omega⟩
theorem best_skip {C : List api_Found} {q : Nat → Prop} {p : Int} {n : Nat} {best : Int} (hq : ¬ q n) (h : BestQ C q p n best) : BestQ C q p (n + 1) best := by
  rcases h with ⟨h1, h2⟩ | ⟨b, x, h1, h2, h3, h4, h5⟩
  · refine .inl ⟨h1, fun j hj hqj => ?_⟩
    by_cases e : j = n
    · subst e; exact hq hqj
    · exact h2 j (by omega) hqj
  · refine .inr ⟨b, x, h1, by omega, h3, h4, fun j y hj hqj hy => ?_⟩
    by_cases e : j = n
    · subst e; exact (hq hqj).elim
    · exact h5 j y (by omega) hqj hy
theorem best_first {C : List api_Found} {q : Nat → Prop} {p : Int} {n : Nat} {y : api_Found} (hq : q n) (hy : C[n]? = some y) (h : BestQ C q p n (-1)) : BestQ C q p (n + 1) n := by
  rcases h with ⟨_, h2⟩ | ⟨b, x, h1, _⟩
  · refine .inr ⟨n, y, rfl, by omega, hq, hy, fun j z hj hqj hz => ?_⟩
    by_cases e : j = n
    · omega
    · exact (h2 j (by omega) hqj).elim
  · omega
theorem best_next {C : List api_Found} {q : Nat → Prop} {p : Int} {n b : Nat} {x y : api_Found} (hq : q n) (hy : C[n]? = some y) (hx : C[b]? = some x) (h : BestQ C q p n b) : BestQ C q p (n + 1) (if dst y.At p < dst x.At p then (n : Int) else b) := by
  rcases h with ⟨h1, _⟩ | ⟨b', x', h1, h2, h3, h4, h5⟩
  · omega
  · have : b' = b := by omega
    subst this
    rw [hx] at h4
    cases h4
    split
    · rename_i hlt
      refine .inr ⟨n, y, rfl, by omega, hq, hy, fun j z hj hqj hz => ?_⟩
      refine ⟨fun hjn => ?_, fun hjn => by omega⟩
      have := h5 j z hjn hqj hz
      by_cases e : j = b'
      · subst e; rw [hx] at hz; cases hz; exact hlt
      · rcases Nat.lt_or_ge j b' with hl | hl
        · have := this.1 hl; omega
        · have := this.2 (by omega); omega
    · rename_i hge
      refine .inr ⟨b', x, rfl, by omega, h3, hx, fun j z hj hqj hz => ?_⟩
      by_cases e : j = n
      · subst e; rw [hy] at hz; cases hz; exact ⟨fun hh => by omega, fun _ => by omega⟩
      · exact h5 j z (by omega) hqj hz
theorem best_uniq {C : List api_Found} {q : Nat → Prop} {p : Int} {n : Nat} {b b' : Int} (h : BestQ C q p n b) (h' : BestQ C q p n b') : b = b' := by
  rcases h with ⟨h1, h2⟩ | ⟨k, x, h1, h2, h3, h4, h5⟩ <;> rcases h' with ⟨g1, g2⟩ | ⟨k', x', g1, g2, g3, g4, g5⟩
  · omega
  · exact (h2 k' g2 g3).elim
  · exact (g2 k h2 h3).elim
  · rcases Nat.lt_trichotomy k k' with h | h | h
    · have := (h5 k' x' g2 g3 g4).2 h
      have := (g5 k x h2 h3 h4).1 h
      omega
    · omega
    · have := (h5 k' x' g2 g3 g4).1 h
      have := (g5 k x h2 h3 h4).2 h
      omega
abbrev AnyQ : Nat → Prop := fun _ => True
theorem rnear_s {H : List Int} {C : List api_Found} (hC : COK H C) {p : Int} (hp : -1000000 ≤ p ∧ p ≤ 1000000) : ∃ b, ref4_nearest C p = some b ∧ BestQ C AnyQ p C.length b := by
  have hlen := hC.len
  obtain ⟨r, e1, e2⟩ := loop_li (body := ref4_nearest_L1 C p) (N := C.length) (fun k best => BestQ C AnyQ p k best) (fun r => BestQ C AnyQ p C.length r)
    (fun k best hk hI => by
      obtain ⟨y, hy⟩ := get_ex hk
      have hya := hC.at_ hy
      left
      unfold ref4_nearest_L1
      rw [if_pos (by simp; omega), idx_of hy, Option.bind_some, inc64 hk (by omega)]
      rcases hI with ⟨rfl, h2⟩ | ⟨b, x, rfl, h2, h3, h4, h5⟩
      · exact ⟨k, by simp [gd], best_first trivial hy (.inl ⟨rfl, h2⟩)⟩
      · have hxa := hC.at_ h4
        refine ⟨_, ?_, best_next trivial hy h4 (.inr ⟨b, x, rfl, h2, h3, h4, h5⟩)⟩
        rw [show decide ((b : Int) < 0) = false by simp, apart_d (by omega) hp, idx_of h4]
        simp only [show (false == false) = true from rfl, gd_tt, Option.bind_some, Bool.false_or]
        simp only [gd_t, Option.bind_some]
        rw [apart_d (by omega) hp, Option.bind_some]
        by_cases hd : dst y.At p < dst x.At p
        · rw [if_pos (by simp [hd]), if_pos hd]
        · rw [if_neg (by simp; omega), if_neg hd])
    (fun best hI => ⟨best, by unfold ref4_nearest_L1; rw [if_neg (by simp)], hI⟩) (best_0 C AnyQ p)
  exact ⟨r, by unfold ref4_nearest; rw [e1]; rfl, e2⟩
theorem split_at {H : List Int} {C : List api_Found} (hC : COK H C) (p : Int) : ∀ n, n ≤ C.length → ∃ c, c ≤ n ∧ (∀ k x, k < c → C[k]? = some x → x.At < p) ∧ ∀ k x, c ≤ k → k < n → C[k]? = some x → p ≤ x.At
  | 0, _ => ⟨0, Nat.le_refl _, fun k x h => by omega, fun k x h h' => by omega⟩
  | n + 1, h => by
    obtain ⟨c, h1, h2, h3⟩ := split_at hC p n (by omega)
    obtain ⟨y, hy⟩ := get_ex (xs := C) (k := n) (by omega)
    by_cases hlt : y.At < p
    · refine ⟨n + 1, Nat.le_refl _, fun k x hk hx => ?_, fun k x h h' => by omega⟩
      by_cases e : k = n
      · subst e; rw [hy] at hx; cases hx; exact hlt
      · have := hC.lt (by omega : k < n) hx hy; omega
    · refine ⟨c, by omega, h2, fun k x hk hk' hx => ?_⟩
      by_cases e : k = n
      · subst e; rw [hy] at hx; cases hx; omega
      · exact h3 k x hk (by omega) hx
theorem mid_q {i j : Nat} (h : i + j < 4611686018427387904) : shr .u64 (u64 (i64 ((i : Int) + j))) 1 = some (((i + j) / 2 : Nat) : Int) := by
  rw [i64v (by omega) (by omega)]
  unfold u64
  rw [u64_id (by omega) (by omega), shr, if_neg (by decide)]
  have : min (1 : Int).toNat IntKind.u64.bits = 1 := by decide
  rw [this]
  congr 1
  rw [Int.fdiv_eq_ediv_of_nonneg _ (by decide)]
  omega
theorem search_halves {ρ : Type} {body : Int → Int → Option ((Int × Int) ⊕ ρ)} (n c : Nat) (F : Nat → ρ) (hc : c ≤ n) (hn : n ≤ 4611686018427387904)
    (hstep : ∀ (i j m : Nat), i < j → j ≤ n → m = (i + j) / 2 → (m < c → body i j = some (.inl ((m : Int) + 1, j))) ∧ (c ≤ m → body i j = some (.inl (i, (m : Int)))))
    (hend : ∀ i : Nat, body i i = some (.inr (F i))) : loop (t2 body) (0, (n : Int)) = some (F c) := by
  refine loop_to (body := t2 body) (fun p => ∃ i j : Nat, p = ((i : Int), (j : Int)) ∧ i ≤ c ∧ c ≤ j ∧ j ≤ n) (fun p => (p.2 - p.1).toNat) (fun _ => F c) ?_ _ ⟨0, n, rfl, Nat.zero_le _, hc, Nat.le_refl _⟩
  rintro _ ⟨i, j, rfl, h1, h2, h3⟩
  simp only [t2_mk]
  rcases Nat.lt_or_ge i j with h | h
  · obtain ⟨g1, g2⟩ := hstep i j ((i + j) / 2) h h3 rfl
    rcases Nat.lt_or_ge ((i + j) / 2) c with h4 | h4
    · exact .inl ⟨_, g1 h4, ⟨(i + j) / 2 + 1, j, by push_cast; rfl, h4, h2, h3⟩, by simp only; omega, by trivial⟩
    · exact .inl ⟨_, g2 h4, ⟨i, (i + j) / 2, rfl, h1, h4, by omega⟩, by simp only; omega, by trivial⟩
  · have e1 : i = c := by omega
    have e2 : j = c := by omega
    subst e1; subst e2
    exact .inr (hend _)
theorem bsearch_s {H : List Int} {C : List api_Found} (hC : COK H C) {p : Int} (hp : -1000000 ≤ p ∧ p ≤ 1000000) :
    ∃ (c : Nat) (b : Bool), slices_BinarySearchFunc_api_Found_api_Found_int C p (fun z0 z1 => salvage_finder_nearest_1 z0 z1) = some ((c : Int), b) ∧ c ≤ C.length ∧ (∀ k x, k < c → C[k]? = some x → x.At < p) ∧ ∀ k x, c ≤ k → C[k]? = some x → p ≤ x.At := by
  have hlen := hC.len
  obtain ⟨c, hcl, hc1, hc2⟩ := split_at hC p C.length (Nat.le_refl _)
  have hc2 : ∀ k x, c ≤ k → C[k]? = some x → p ≤ x.At := fun k x h hx => hc2 k x h (List.getElem?_eq_some_iff.1 hx).1 hx
  have hcmp : ∀ (k : Nat) x, C[k]? = some x → salvage_finder_nearest_1 x p = some (x.At - p) := fun k x hx => by
    have := hC.at_ hx
    unfold salvage_finder_nearest_1
    rw [i64v (by omega) (by omega)]
  have hl : loop (t2 (slices_BinarySearchFunc_api_Found_api_Found_int_L1 C p (fun z0 z1 => salvage_finder_nearest_1 z0 z1))) (0, (C.length : Int)) = some ((c : Nat) : Int) := by
    refine search_halves C.length c (fun k => (k : Int)) hcl (by omega) (fun i j m hij hj hm => ?_) (fun i => ?_)
    · obtain ⟨x, hx⟩ := get_ex (xs := C) (k := m) (by omega)
      have h2 : (i : Int) < j := by omega
      have hm' : shr .u64 (u64 (i64 ((i : Int) + j))) 1 = some (m : Int) := by rw [mid_q (by omega), hm]
      have hmi : i64 (m : Int) = m := i64v (by omega) (by omega)
      simp only [slices_BinarySearchFunc_api_Found_api_Found_int_L1, h2, decide_true, if_true, hm', Option.bind_some, hmi, idx_of hx, hcmp m x hx]
      refine ⟨fun h => ?_, fun h => ?_⟩
      · have := hc1 m x h hx
        simp [show x.At - p < 0 by omega, i64v (show -9223372036854775808 ≤ (m : Int) + 1 by omega) (by omega)]
      · have := hc2 m x h hx
        simp [show ¬ x.At - p < 0 by omega]
    · simp [slices_BinarySearchFunc_api_Found_api_Found_int_L1]
  simp only [slices_BinarySearchFunc_api_Found_api_Found_int, hl, Option.bind_some, t1]
  rcases Nat.lt_or_ge c C.length with h | h
  · obtain ⟨x, hx⟩ := get_ex h
    have h' : ((c : Nat) : Int) < C.length := by omega
    refine ⟨c, _, by rw [decide_eq_true h', idx_of hx, gd_tt, Option.bind_some, hcmp _ x hx, gd_tt, Option.bind_some], hcl, hc1, hc2⟩
  · have h' : ¬ ((c : Nat) : Int) < C.length := by omega
    exact ⟨c, false, by rw [decide_eq_false h']; simp [gd], hcl, hc1, hc2⟩
theorem near_s {H : List Int} {C : List api_Found} (hC : COK H C) (hne : C ≠ []) {N : List Int} {p : Int} (hp : -1000000 ≤ p ∧ p ≤ 1000000) : ∃ b, salvage_finder_nearest ⟨H, C, N, ()⟩ p = some b ∧ BestQ C AnyQ p C.length b := by
  have hlen := hC.len
  have hpos : 0 < C.length := List.length_pos_iff.2 hne
  obtain ⟨c, b, e1, hcl, hc1, hc2⟩ := bsearch_s hC hp
  unfold salvage_finder_nearest
  rw [show (⟨H, C, N, ()⟩ : salvage_finder).certain = C from rfl, e1, Option.bind_some]
  simp only
  by_cases hce : c = C.length
  · subst hce
    refine ⟨i64 ((C.length : Int) - 1), by simp [gd], .inr ?_⟩
    obtain ⟨x, hx⟩ := get_ex (xs := C) (k := C.length - 1) (by omega)
    refine ⟨C.length - 1, x, by rw [i64v (by omega) (by omega)]; omega, by omega, trivial, hx, fun j y hj _ hy => ⟨fun hlt => ?_, fun hlt => by omega⟩⟩
    have := hc1 _ x (by omega) hx
    have := hC.lt hlt hy hx
    unfold dst
    omega
  · obtain ⟨y, hy⟩ := get_ex (xs := C) (k := c) (by omega)
    have hya := hC.at_ hy
    have hyp := hc2 c y (Nat.le_refl _) hy
    rw [decide_eq_false (show ¬ ((c : Int) = (C.length : Int)) by omega), idx_of hy]
    by_cases h0 : 0 < c
    · obtain ⟨x, hx⟩ := get_ex (xs := C) (k := c - 1) (by omega)
      have hxa := hC.at_ hx
      have hxp := hc1 (c - 1) x (by omega) hx
      have hxy := hC.lt (by omega : c - 1 < c) hx hy
      have e : i64 ((c : Int) - 1) = ((c - 1 : Nat) : Int) := by rw [i64v (by omega) (by omega)]; omega
      rw [decide_eq_true (show (0 : Int) < (c : Int) by omega), e, idx_of hx]
      simp only [show (false == false) = true from rfl, show (true == true) = true from rfl, Bool.true_and, Bool.false_or, gd_t, Option.bind_some]
      rw [i64v (z := p - x.At) (by omega) (by omega), i64v (z := y.At - p) (by omega) (by omega)]
      by_cases hd : p - x.At ≤ y.At - p
      · refine ⟨_, by rw [if_pos (by simpa using hd)], .inr ⟨c - 1, x, rfl, by omega, trivial, hx, fun j z hj _ hz => ?_⟩⟩
        refine ⟨fun hlt => ?_, fun hlt => ?_⟩
        · have := hC.lt hlt hz hx; unfold dst; omega
        · have := hc2 j z (by omega) hz
          have : y.At ≤ z.At := by
            by_cases e : j = c
            · subst e; rw [hy] at hz; cases hz; omega
            · have := hC.lt (by omega : c < j) hy hz; omega
          unfold dst
          omega
      · refine ⟨_, by rw [if_neg (by simpa using hd)], .inr ⟨c, y, rfl, by omega, trivial, hy, fun j z hj _ hz => ?_⟩⟩
        refine ⟨fun hlt => ?_, fun hlt => ?_⟩
        · have : z.At ≤ x.At := by
            by_cases e : j = c - 1
            · subst e; rw [hx] at hz; cases hz; omega
            · have := hC.lt (by omega : j < c - 1) hz hx; omega
          unfold dst
          omega
        · have := hC.lt hlt hy hz; unfold dst; omega
    · have h0' : c = 0 := by omega
      subst h0'
      refine ⟨_, by simp [gd], .inr ⟨0, y, rfl, by omega, trivial, hy, fun j z hj _ hz => ⟨fun h => by omega, fun hlt => ?_⟩⟩⟩
      have := hC.lt hlt hy hz
      unfold dst
      omega
end Go.Vx

namespace Go.Vx
open Go Go.RowKit
def wb (w : Vector Bool 64) (i : Nat) : Bool := w.toList.getD i false
theorem vidx_b (w : Vector Bool 64) {i : Nat} (hi : i < 64) : vidx w (i : Int) = some (wb w i) := by
  unfold vidx wb
  rw [if_pos (by omega)]
  obtain ⟨x, hx⟩ := get_ex (xs := w.toList) (k := ((i : Int)).toNat) (by simp; omega)
  rw [hx, List.getD_eq_getElem?_getD]
  simp only [Int.toNat_natCast] at hx
  rw [hx]; rfl
theorem syncV_bd {n : Int} (h : 0 ≤ n) : 0 ≤ syncV n ∧ syncV n ≤ 4095 := by
  have := syn_of n h
  unfold synB at this
  simp only [Bool.or_eq_true, decide_eq_true_eq] at this
  omega
theorem numN_bd (f : Vector Int 64) : 0 ≤ (numN f).1 ∧ (numN f).1 < 4194304 := by
  unfold numN
  have := fnum_bd f
  split <;> simp only <;> omega
theorem Sync_n {n : Int} (h1 : 0 ≤ n) (h2 : n < 4194304) : frame_Sync n = some (syncV n, 0) ∧ ref1_Sync n = some (syncV n, 0) := by
  have hb := syncV_bd h1
  constructor
  · unfold frame_Sync
    rw [if_neg (by simp; omega), (sync_s h1).1, Option.bind_some, (sync_s h1).2, Option.bind_some, i64v (by omega) (by omega)]
  · unfold ref1_Sync
    rw [if_neg (by simp; omega), syncOf_s h1, Option.bind_some]
noncomputable def ownV (f : Vector Int 64) (w : Vector Bool 64) : Int × Bool := if (wb w 0 && wb w 1 && wb w 2) = true then ((numN f).1, (numN f).2 && decide (wd f 0 = syncV (numN f).1)) else (0, false)
theorem own_s {f : Vector Int 64} (h : fU f) (hn : ∀ i, 0 ≤ wd f i ∧ wd f i ≤ 4095) (w : Vector Bool 64) : salvage_own f w = some (ownV f w) ∧ ref4_ownNumber f w = some (ownV f w) := by
  have v0 : vidx w 0 = some (wb w 0) := vidx_b w (i := 0) (by decide)
  have v1 : vidx w 1 = some (wb w 1) := vidx_b w (i := 1) (by decide)
  have v2 : vidx w 2 = some (wb w 2) := vidx_b w (i := 2) (by decide)
  have f0 : vidx f 0 = some (wd f 0) := vidx_w f (i := 0) (by decide)
  obtain ⟨n1, n2⟩ := Number_s h (hn 1).2 (hn 2).2
  have hb := numN_bd f
  obtain ⟨s1, s2⟩ := Sync_n hb.1 hb.2
  have hs := syncV_bd hb.1
  have h0 := hn 0
  unfold salvage_own ref4_ownNumber ownV
  rw [v0, v1, v2, n1, n2]
  cases hw0 : wb w 0
  · exact ⟨rfl, rfl⟩
  cases hw1 : wb w 1
  · exact ⟨rfl, rfl⟩
  cases hw2 : wb w 2
  · exact ⟨rfl, rfl⟩
  have e : ¬ (((!true) || (!true)) || (!true)) = true := by decide
  have g : ∀ (α : Type) (d : α) (o : Option α), gd ((!true) == false) d o = o := fun _ _ _ => rfl
  have g2 : ∀ (α : Type) (d : α) (o : Option α), gd (((!true) || (!true)) == false) d o = o := fun _ _ _ => rfl
  simp only [Option.bind_some, g, g2]
  rw [if_neg e, if_neg e, if_pos (by rfl)]
  rw [s1, s2]
  have hn0 : (numN f).2 = false → (numN f).1 = 0 := by
    unfold numN
    split
    · intro hh; cases hh
    · intro _; rfl
  cases hok : (numN f).2
  · simp [hn0 hok, gd]
  · simp only [Option.bind_some, gd_tt, f0, Bool.true_and]
    rw [u16_of (n := syncV (numN f).1) (by omega), i64v (z := wd f 0) (by omega) (by omega)]
    exact ⟨rfl, rfl⟩
def qO (C : List api_Found) (i : Nat) (xi : api_Found) : Nat → Prop := fun j => j ≠ i ∧ ∃ x, C[j]? = some x ∧ (x.At - xi.At).tmod 194 = 0
theorem rem194 (z : Int) : rem z 194 = some (z.tmod 194) := by unfold rem; rw [if_neg (by decide)]
theorem rother_s {H : List Int} {C : List api_Found} (hC : COK H C) {i : Nat} {xi : api_Found} (hi : C[i]? = some xi) {p : Int} (hp : -1000000 ≤ p ∧ p ≤ 1000000) : ∃ b, loop (t2 (ref4_otherNumber_L1 C (i : Int) p)) ((-1), 0) = some b ∧ BestQ C (qO C i xi) p C.length b := by
  have hlen := hC.len
  have hia := hC.at_ hi
  obtain ⟨r, e1, e2⟩ := loop_li (body := ref4_otherNumber_L1 C (i : Int) p) (N := C.length) (fun k best => BestQ C (qO C i xi) p k best) (fun r => BestQ C (qO C i xi) p C.length r)
    (fun k best hk hI => by
      obtain ⟨y, hy⟩ := get_ex hk
      have hya := hC.at_ hy
      left
      unfold ref4_otherNumber_L1
      rw [if_pos (by simp; omega), idx_of hy, Option.bind_some, inc64 hk (by omega), idx_of hi]
      by_cases hki : k = i
      · subst hki
        exact ⟨best, by simp [gd], best_skip (fun hq => hq.1 rfl) hI⟩
      rw [decide_eq_false (show ¬ ((k : Int) = (i : Int)) by omega), show (false == false) = true from rfl, gd_t, Option.bind_some, gd_t, i64v (z := y.At - xi.At) (by omega) (by omega), rem194, Option.bind_some]
      by_cases hm : (y.At - xi.At).tmod 194 = 0
      · have hq : qO C i xi k := ⟨hki, y, hy, hm⟩
        rw [decide_eq_true hm, if_neg (by decide)]
        rcases hI with ⟨rfl, h2⟩ | ⟨b, x, rfl, h2, h3, h4, h5⟩
        · exact ⟨k, by simp [gd], best_first hq hy (.inl ⟨rfl, h2⟩)⟩
        · have hxa := hC.at_ h4
          refine ⟨_, ?_, best_next hq hy h4 (.inr ⟨b, x, rfl, h2, h3, h4, h5⟩)⟩
          rw [show decide ((b : Int) < 0) = false by simp, apart_d (by omega) hp, idx_of h4]
          simp only [show (false == false) = true from rfl, gd_t, Option.bind_some, Bool.false_or]
          rw [apart_d (by omega) hp, Option.bind_some]
          by_cases hd : dst y.At p < dst x.At p
          · rw [if_pos (by simp [hd]), if_pos hd]
          · rw [if_neg (by simp; omega), if_neg hd]
      · rw [decide_eq_false hm, if_pos (by decide)]
        exact ⟨best, rfl, best_skip (fun ⟨_, x, hx, he⟩ => by rw [hy] at hx; cases hx; exact hm he) hI⟩)
    (fun best hI => ⟨best, by unfold ref4_otherNumber_L1; rw [if_neg (by simp)], hI⟩) (best_0 C _ p)
  exact ⟨r, e1, e2⟩
theorem other_s {H : List Int} {C : List api_Found} {N : List Int} (hC : COK H C) {i : Nat} {xi : api_Found} (hi : C[i]? = some xi) {p : Int} (hp : -1000000 ≤ p ∧ p ≤ 1000000) : ∃ b, salvage_finder_other ⟨H, C, N, ()⟩ (i : Int) p = some b ∧ BestQ C (qO C i xi) p C.length b := by
  have hlen := hC.len
  have hia := hC.at_ hi
  obtain ⟨r, e1, e2⟩ := loop_li3 (body := salvage_finder_other_L1 ⟨H, C, N, ()⟩ (i : Int) p) (N := C.length)
    (fun k best least => BestQ C (qO C i xi) p k best ∧ ∀ (b : Nat) x, best = b → C[b]? = some x → least = dst x.At p) (fun r => BestQ C (qO C i xi) p C.length r)
    (fun k best least hk hI => by
      obtain ⟨hI, hL⟩ := hI
      obtain ⟨y, hy⟩ := get_ex hk
      have hya := hC.at_ hy
      left
      unfold salvage_finder_other_L1
      rw [show (⟨H, C, N, ()⟩ : salvage_finder).certain = C from rfl, if_pos (by simp; omega), idx_of hy, Option.bind_some, inc64 hk (by omega), idx_of hi]
      by_cases hki : k = i
      · subst hki
        exact ⟨best, least, by simp [gd], best_skip (fun hq => hq.1 rfl) hI, hL⟩
      rw [decide_eq_false (show ¬ ((k : Int) = (i : Int)) by omega), show (false == false) = true from rfl, gd_t, Option.bind_some, gd_t, i64v (z := y.At - xi.At) (by omega) (by omega), rem194, Option.bind_some]
      by_cases hm : (y.At - xi.At).tmod 194 = 0
      · have hq : qO C i xi k := ⟨hki, y, hy, hm⟩
        rw [decide_eq_true hm, if_neg (by decide), size_d (by omega) hp, Option.bind_some]
        have hnew : ∀ (b : Nat) x, (k : Int) = b → C[b]? = some x → dst y.At p = dst x.At p := fun b x e hx => by
          have : b = k := by omega
          subst this; rw [hy] at hx; cases hx; rfl
        rcases hI with ⟨rfl, h2⟩ | ⟨b, x, rfl, h2, h3, h4, h5⟩
        · exact ⟨k, dst y.At p, by simp, best_first hq hy (.inl ⟨rfl, h2⟩), hnew⟩
        · have hxa := hC.at_ h4
          have hl := hL b x rfl h4
          subst hl
          have hn := best_next hq hy h4 (.inr ⟨b, x, rfl, h2, h3, h4, h5⟩)
          by_cases hd : dst y.At p < dst x.At p
          · rw [if_pos hd] at hn
            exact ⟨k, dst y.At p, by rw [if_pos (by simp [hd])], hn, hnew⟩
          · rw [if_neg hd] at hn
            exact ⟨b, dst x.At p, by rw [if_neg (by simp; omega)], hn, hL⟩
      · rw [decide_eq_false hm, if_pos (by decide)]
        exact ⟨best, least, rfl, best_skip (fun ⟨_, x, hx, he⟩ => by rw [hy] at hx; cases hx; exact hm he) hI, hL⟩)
    (fun best least hI => ⟨best, by unfold salvage_finder_other_L1; rw [show (⟨H, C, N, ()⟩ : salvage_finder).certain = C from rfl, if_neg (by simp)], hI.1⟩) (a0 := -1) (b0 := 0) ⟨best_0 C _ p, fun b x e => by omega⟩
  exact ⟨r, by unfold salvage_finder_other; rw [e1]; rfl, e2⟩
theorem sgn_iff {d t : Int} (hd : d ≠ 0) : 0 < t ↔ d * t ≠ 0 ∧ (0 < d * t ↔ 0 < d) := by
  rcases Int.lt_trichotomy t 0 with h | h | h
  · rcases Int.lt_or_gt_of_ne hd with h' | h'
    · have := Int.mul_pos_of_neg_of_neg h' h; omega
    · have := Int.mul_neg_of_pos_of_neg h' h; omega
  · subst h; simp
  · rcases Int.lt_or_gt_of_ne hd with h' | h'
    · have := Int.mul_neg_of_neg_of_pos h' h; omega
    · have := Int.mul_pos h' h; omega
theorem quo_ne {a b : Int} (hb : b ≠ 0) (ha : -1000000000000 ≤ a ∧ a ≤ 1000000000000) : quo .i64 a b = some (a.tdiv b) ∧ (a.tdiv b).natAbs ≤ a.natAbs := by
  have h := Int.natAbs_tdiv_le_natAbs a b
  refine ⟨?_, h⟩
  unfold quo
  rw [if_neg hb, w64 (by omega) (by omega)]
noncomputable def nm (x : api_Found) : Int := (numN x.Frame).1
end Go.Vx

namespace Go.Vx
open Go Go.RowKit
noncomputable def fnd (H : List Int) (C : List api_Found) : salvage_finder := ⟨H, C, C.map nm, ()⟩
theorem newFinder_s {H : List Int} (h : hL H) (hl : H.length ≤ 400000) : salvage_newFinder H = some (fnd H (cerL (scL H (H.length - 191)))) := by
  have hC := cok h hl
  generalize hCe : cerL (scL H (H.length - 191)) = C at hC
  have hlen := hC.len
  unfold salvage_newFinder
  rw [(certain_s h (by omega)).1, hCe, Option.bind_some]
  obtain ⟨r, e1, e2⟩ := loop_li3 (body := salvage_newFinder_L1 C) (N := C.length) (fun k numbers _ => numbers = (C.take k).map nm) (fun r => r.1 = C.map nm)
    (fun k numbers at_ hk hI => by
      obtain ⟨y, hy⟩ := get_ex hk
      obtain ⟨u, w⟩ := hC.fU hy
      left
      refine ⟨numbers ++ [nm y], mput kqI at_ y.At (k : Int), ?_, by rw [hI, List.take_succ, hy]; simp⟩
      unfold salvage_newFinder_L1
      rw [if_pos (by simp; omega), idx_of hy, Option.bind_some, (Number_s u (w 1).2 (w 2).2).1, Option.bind_some, app_of (by rw [hI]; simp; omega), inc64 hk (by omega)]
      rfl)
    (fun numbers at_ hI => ⟨_, by unfold salvage_newFinder_L1; rw [if_neg (by simp)], by rw [hI, List.take_length]⟩) (a0 := []) (b0 := ([] : List (Int × Int))) (by simp)
  obtain ⟨r1, r2⟩ := r
  simp only at e2
  subst e2
  rw [e1, Option.bind_some, t2_mk]; rfl
theorem number_f {H : List Int} {C : List api_Found} (hC : COK H C) {i : Nat} {xi : api_Found} (hi : C[i]? = some xi) {p : Int} (hp : -1000000 ≤ p ∧ p ≤ 1000000) (w : Vector Bool 64) {f : Vector Int 64} (hf : fU f) (hn : ∀ i, 0 ≤ wd f i ∧ wd f i ≤ 4095) :
    ∃ (n : Int) (ok : Bool), salvage_finder_number (fnd H C) (i : Int) p f w = some (n, ok) ∧
      ((if (!(ownV f w).2) = true then (ref4_otherNumber C (i : Int) p).bind fun y9 => some (y9.1, y9.2) else some ((ownV f w).1, (ownV f w).2)) : Option (Int × Bool)) = some (n, ok) ∧ (ok = true → 0 ≤ n ∧ n < 4194304) ∧ (-9223372036854775808 ≤ n ∧ n ≤ 9223372036854775807) := by
  have hlen := hC.len
  have hia := hC.at_ hi
  unfold salvage_finder_number
  rw [(own_s hf hn w).1, Option.bind_some]
  cases ho : (ownV f w).2
  rotate_left
  · have hb : 0 ≤ (ownV f w).1 ∧ (ownV f w).1 < 4194304 := by
      unfold ownV
      split
      · exact numN_bd f
      · simp only; omega
    exact ⟨_, true, by rw [if_pos rfl], by rw [if_neg (by decide)], fun _ => hb, by omega⟩
  rw [if_neg (by decide), if_pos (by decide)]
  obtain ⟨b, e1, e2⟩ := other_s (N := C.map nm) hC hi hp
  obtain ⟨b', e1', e2'⟩ := rother_s hC hi hp
  have := best_uniq e2 e2'
  subst this
  unfold ref4_otherNumber
  rw [show salvage_finder_other (fnd H C) (i : Int) p = some b from e1, Option.bind_some, e1', Option.bind_some, t1_mk]
  rcases e2 with ⟨rfl, _⟩ | ⟨k, x, rfl, h2, ⟨hki, x', hx', hm⟩, h4, _⟩
  · exact ⟨0, false, rfl, rfl, (fun h => by cases h), by omega⟩
  rw [h4] at hx'; cases hx'
  have hka := hC.at_ h4
  have hN : ∀ {j : Nat} {z : api_Found}, C[j]? = some z → idx (fnd H C).numbers (j : Int) = some (nm z) := fun {j z} hz => idx_of (by
    show (C.map nm)[j]? = _
    rw [List.getElem?_map, hz]; rfl)
  have hR : ∀ {j : Nat} {z : api_Found}, C[j]? = some z → ref4_number z.Frame = some (nm z) := fun {j z} hz => by
    obtain ⟨u, w⟩ := hC.fU hz
    exact number_s u (w 1).2 (w 2).2
  have hb1 : 0 ≤ nm x ∧ nm x < 4194304 := numN_bd _
  have hb2 : 0 ≤ nm xi ∧ nm xi < 4194304 := numN_bd _
  rw [show (fnd H C).certain = C from rfl, hN h4, hN hi]
  simp only [decide_eq_false (show ¬ ((k : Int) < 0) by omega), Bool.false_eq_true, if_false, idx_of hi, idx_of h4, Option.bind_some, hR h4, hR hi]
  rw [i64v (z := p - xi.At) (by omega) (by omega), i64v (z := x.At - xi.At) (by omega) (by omega), i64v (z := nm x - nm xi) (by omega) (by omega)]
  obtain ⟨q1, q1b⟩ := quo_ne (a := p - xi.At) (b := 194) (by decide) (by omega)
  obtain ⟨q2, q2b⟩ := quo_ne (a := x.At - xi.At) (b := 194) (by decide) (by omega)
  have hq1 : ((p - xi.At).tdiv 194).natAbs ≤ 10000 := by
    have := Int.mul_tdiv_add_tmod (p - xi.At) 194
    have := Int.tmod_lt_of_pos (p - xi.At) (show (0 : Int) < 194 by decide)
    have := Int.lt_tmod_of_pos (p - xi.At) (show (0 : Int) < 194 by decide)
    omega
  generalize (p - xi.At).tdiv 194 = q at q1 q1b hq1
  have hne : x.At ≠ xi.At := fun e => by
    rcases Nat.lt_or_gt_of_ne hki with h | h
    · have := hC.lt h h4 hi; omega
    · have := hC.lt h hi h4; omega
  have hd0 : (x.At - xi.At).tdiv 194 ≠ 0 := fun e => by
    have := Int.mul_tdiv_add_tmod (x.At - xi.At) 194
    rw [e, hm] at this
    omega
  generalize (x.At - xi.At).tdiv 194 = d at q2 q2b hd0
  rw [q1, Option.bind_some, q2, Option.bind_some]
  generalize hΔ : nm x - nm xi = Δ
  have hΔb : -4194304 < Δ ∧ Δ < 4194304 := by omega
  obtain ⟨q3, q3b⟩ := quo_ne (a := Δ) (b := d) hd0 (by omega)
  have hrem : rem Δ d = some (Δ.tmod d) := by unfold rem; rw [if_neg hd0]
  have hsum := Int.mul_tdiv_add_tmod Δ d
  rw [hrem]
  simp only [Option.bind_some, q3, hrem]
  by_cases hr : Δ.tmod d = 0
  · rw [hr] at hsum ⊢
    have hs := sgn_iff (t := Δ.tdiv d) hd0
    rw [show d * Δ.tdiv d = Δ by omega] at hs
    generalize Δ.tdiv d = t at q3b hs
    simp only [decide_true, Bool.not_true, show (false == false) = true from rfl, gd_t, Option.bind_some, Bool.false_or, Bool.or_false]
    by_cases ht : 0 < t
    · obtain ⟨hΔ0, hsg⟩ := hs.1 ht
      have hc : (decide (Δ = 0) || !((decide (0 < Δ)) == (decide (0 < d)))) = false := by
        rw [decide_eq_false hΔ0, Bool.false_or, Bool.not_eq_false']
        by_cases h : 0 < d
        · rw [decide_eq_true h, decide_eq_true (hsg.2 h)]; rfl
        · rw [decide_eq_false h, decide_eq_false (fun h' => h (hsg.1 h'))]; rfl
      rw [hc]
      have m1 := Int.mul_le_mul_of_nonneg_right (show q ≤ 10000 by omega) (show 0 ≤ t by omega)
      have m2 := Int.mul_le_mul_of_nonneg_right (show -10000 ≤ q by omega) (show 0 ≤ t by omega)
      rw [i64v (z := q * t) (by omega) (by omega), i64v (z := nm xi + q * t) (by omega) (by omega)]
      refine ⟨nm xi + q * t, decide (0 ≤ nm xi + q * t) && decide (nm xi + q * t < 4194304), ?_, ?_, ?_, by omega⟩
      · rw [if_neg (by simpa using ht)]
        unfold salvage_within
        rw [Option.bind_some]
        have : decide (nm xi + q * t ≤ 4194303) = decide (nm xi + q * t < 4194304) := by rw [decide_eq_decide]; omega
        rw [this]
      · simp [gd]
      · intro h
        simpa using h
    · have hc : (decide (Δ = 0) || !((decide (0 < Δ)) == (decide (0 < d)))) = true := by
        by_cases h0 : Δ = 0
        · rw [decide_eq_true h0]; rfl
        · rw [decide_eq_false h0, Bool.false_or]
          by_cases h : 0 < d
          · rw [decide_eq_true h, decide_eq_false (fun h' => ht (hs.2 ⟨h0, ⟨fun _ => h, fun _ => h'⟩⟩))]; rfl
          · rw [decide_eq_false h]
            by_cases h' : 0 < Δ
            · rw [decide_eq_true h']; rfl
            · exact (ht (hs.2 ⟨h0, ⟨fun a => (h' a).elim, fun a => (h a).elim⟩⟩)).elim
      rw [hc]
      exact ⟨0, false, by rw [if_pos (by simpa using ht)], by simp [gd], (fun h => by cases h), by omega⟩
  · rw [decide_eq_false hr]
    refine ⟨0, false, by simp [gd], ?_, (fun h => by cases h), by omega⟩
    have : ∀ c : Bool, ((gd (c == false) 0 (some (Δ.tmod d))).bind fun q4 => if (c || !decide (q4 = 0)) = true then some ((0 : Int), false) else (some (Δ.tdiv d)).bind fun q5 => some (i64 (nm xi + i64 (q * q5)), decide (0 ≤ i64 (nm xi + i64 (q * q5))) && decide (i64 (nm xi + i64 (q * q5)) < 4194304))) = some ((0 : Int), false) := fun c => by
      cases c
      · simp [gd, hr]
      · simp [gd]
    have := this (decide (Δ = 0) || !((decide (0 < Δ)) == (decide (0 < d))))
    simp only [Option.bind_some] at this ⊢
    rw [this, Option.bind_some]
end Go.Vx

namespace Go.Vx
open Go Go.RowKit
noncomputable def rg (f : Vector Int 64) (w : Vector Bool 64) (n s : Int) (i : Nat) : Bool :=
  if i = 0 then wb w i && decide (wd f i = s) else
  if i = 1 then wb w i && (oddB (wd f i) && decide (wd f i % 2048 = n.tmod 2048)) else
  if i = 2 then wb w i && (oddB (wd f i) && decide (wd f i % 2048 = n.tdiv 2048)) else wb w i && oddB (wd f i)
structure RSk (f : Vector Int 64) (w : Vector Bool 64) (n s : Int) (k : Nat) (r : api_Rest) : Prop where
  num : r.Number = n
  snd : r.Sound = false
  cop : r.Copies = 0
  con : r.Conflict = false
  fr : ∀ i, wd r.Frame i = if i < k ∧ rg f w n s i = true then wd f i else 0
  st : ∀ i, wd r.States i = if i < k ∧ rg f w n s i = true then 1 else 0
theorem rs_0 (f : Vector Int 64) (w : Vector Bool 64) (n s : Int) : RSk f w n s 0 ⟨n, Vector.replicate 64 0, Vector.replicate 64 0, false, 0, false⟩ :=
  ⟨rfl, rfl, rfl, rfl, fun i => by rw [if_neg (by omega)]; exact wd_rep0 i, fun i => by rw [if_neg (by omega)]; exact wd_rep0 i⟩
theorem rs_yes {f : Vector Int 64} {w : Vector Bool 64} {n s : Int} {k : Nat} {r : api_Rest} (hk : k < 64) (h : RSk f w n s k r) (hr : rg f w n s k = true) :
    RSk f w n s (k + 1) ⟨r.Number, vset r.Frame (k : Int) (wd f k), vset r.States (k : Int) 1, r.Sound, r.Copies, r.Conflict⟩ := by
  refine ⟨h.num, h.snd, h.cop, h.con, fun i => ?_, fun i => ?_⟩ <;> simp only <;> rw [wd_vset _ hk]
  · by_cases e : k = i
    · subst e; rw [if_pos rfl, if_pos ⟨by omega, hr⟩]
    · rw [if_neg e, h.fr i]
      by_cases hi : i < k
      · simp [hi, show i < k + 1 by omega]
      · simp [hi, show ¬ i < k + 1 by omega]
  · by_cases e : k = i
    · subst e; rw [if_pos rfl, if_pos ⟨by omega, hr⟩]
    · rw [if_neg e, h.st i]
      by_cases hi : i < k
      · simp [hi, show i < k + 1 by omega]
      · simp [hi, show ¬ i < k + 1 by omega]
theorem rs_no {f : Vector Int 64} {w : Vector Bool 64} {n s : Int} {k : Nat} {r : api_Rest} (h : RSk f w n s k r) (hr : rg f w n s k = false) : RSk f w n s (k + 1) r := by
  refine ⟨h.num, h.snd, h.cop, h.con, fun i => ?_, fun i => ?_⟩
  · rw [h.fr i]
    by_cases e : i = k
    · subst e; simp [hr]
    · simp [show i < k + 1 ↔ i < k by omega]
  · rw [h.st i]
    by_cases e : i = k
    · subst e; simp [hr]
    · simp [show i < k + 1 ↔ i < k by omega]
theorem rs_uniq {f : Vector Int 64} {w : Vector Bool 64} {n s : Int} {k : Nat} {r r' : api_Rest} (h : RSk f w n s k r) (h' : RSk f w n s k r') : r = r' := by
  obtain ⟨a, b, c, d, e, g⟩ := r
  obtain ⟨a', b', c', d', e', g'⟩ := r'
  have h1 := h.num; have h2 := h'.num; have h3 := h.snd; have h4 := h'.snd; have h5 := h.cop; have h6 := h'.cop; have h7 := h.con; have h8 := h'.con
  simp only at h1 h2 h3 h4 h5 h6 h7 h8
  subst h1 h3 h5 h7 h2 h4 h6 h8
  have e1 : b = b' := vec_ext fun i _ => by rw [h.fr i, h'.fr i]
  have e2 : c = c' := vec_ext fun i _ => by rw [h.st i, h'.st i]
  rw [e1, e2]
theorem right_s {x : Int} (h : 0 ≤ x ∧ x ≤ 4095) : ref1_Right x = some (oddB x) := by
  unfold ref1_Right
  rw [decide_eq_true h.2, gd_tt, i64v (by omega) (by omega), (odd_s h).2, Option.bind_some, Bool.true_and]
theorem alone_s {f : Vector Int 64} {w : Vector Bool 64} (hn : ∀ i, 0 ≤ wd f i ∧ wd f i ≤ 4095) {n : Int} (h1 : 0 ≤ n) (h2 : n < 4194304) {k : Nat} (hk : k < 64) :
    ∃ b, gd (wb w k == true) false (salvage_rightAlone (wd f k) (k : Int) n) = some b ∧ (wb w k && b) = rg f w n (syncV n) k := by
  cases hw : wb w k
  · refine ⟨false, rfl, ?_⟩
    unfold rg
    rw [hw]
    simp
  · have hx := hn k
    have hb := syncV_bd h1
    have hd : i64 (band .u16 (wd f k) 2047) = wd f k % 2048 := by
      have := data_s (x := wd f k) (by omega)
      unfold frame_data at this
      exact Option.some.inj this
    have hm : i64 (band .i64 n 2047) = n.tmod 2048 := by
      have := and_mask (v := n) (n := 11) (by decide)
      rw [show ((2 : Int) ^ 11 - 1) = 2047 by decide, show (2 : Int) ^ 11 = 2048 by decide] at this
      rw [this, Int.tmod_eq_emod_of_nonneg h1, i64v (by omega) (by omega)]
    have hm' : band .i64 n 2047 = n.tmod 2048 := by
      have := and_mask (v := n) (n := 11) (by decide)
      rw [show ((2 : Int) ^ 11 - 1) = 2047 by decide, show (2 : Int) ^ 11 = 2048 by decide] at this
      rw [this, Int.tmod_eq_emod_of_nonneg h1]
    have hq : shr .i64 n 11 = some (n.tdiv 2048) := by
      have := shr_i64 n (k := 11) (by decide)
      rw [show ((11 : Nat) : Int) = 11 from rfl, show (2 : Int) ^ 11 = 2048 by decide] at this
      rw [this, Int.tdiv_eq_ediv_of_nonneg h1]
    unfold salvage_rightAlone frame_Odd rg
    rw [hw, (odd_s hx).1, (Sync_n h1 h2).1]
    simp only [Option.bind_some, hd, hm', hq, gd_tt, Bool.true_and]
    by_cases k0 : k = 0
    · subst k0
      refine ⟨_, by rw [if_pos (by decide)], ?_⟩
      rw [if_pos rfl, u16_of (by omega)]
    · rw [if_neg (by simp; omega), if_neg k0]
      by_cases k1 : k = 1
      · subst k1
        exact ⟨_, by rw [if_pos (by decide)], by rw [if_pos rfl]⟩
      · rw [if_neg (by simp; omega), if_neg k1]
        by_cases k2 : k = 2
        · subst k2
          rw [if_pos (by decide), if_pos rfl]
          cases oddB (wd f 2)
          · exact ⟨false, rfl, rfl⟩
          · exact ⟨_, rfl, rfl⟩
        · exact ⟨_, by rw [if_neg (by simp; omega)], by rw [if_neg k2]⟩
theorem besideL_s {f : Vector Int 64} {w : Vector Bool 64} (hn : ∀ i, 0 ≤ wd f i ∧ wd f i ≤ 4095) {n : Int} (h1 : 0 ≤ n) (h2 : n < 4194304) :
    ∃ r, loop (t2 (salvage_finder_beside_L1 (f, w) (n, true))) (⟨n, Vector.replicate 64 0, Vector.replicate 64 0, false, 0, false⟩, 0) = some r ∧ RSk f w n (syncV n) 64 r :=
  loop_li (N := 64) (fun k r => RSk f w n (syncV n) k r) _ (fun k r hk hI => by
    left
    obtain ⟨b, e1, e2⟩ := alone_s (w := w) hn h1 h2 hk
    unfold salvage_finder_beside_L1
    simp only
    rw [if_pos (by simp; omega), vidx_w f hk, Option.bind_some, vidx_b w hk, Option.bind_some, e1, Option.bind_some, e2, inc64 hk (by omega)]
    cases hr : rg f w n (syncV n) k
    · exact ⟨r, rfl, rs_no hI hr⟩
    · exact ⟨_, by rw [if_pos rfl, vidx_w r.Frame hk, Option.bind_some, vidx_w r.States hk, Option.bind_some], rs_yes hk hI hr⟩)
    (fun r hI => ⟨r, by unfold salvage_finder_beside_L1; rw [if_neg (by simp)], hI⟩) (rs_0 f w n _)
theorem sync_any (n : Int) : ∃ y, ref1_Sync n = some y ∧ (0 ≤ n → n < 4194304 → y.1 = syncV n) := by
  by_cases h : 0 ≤ n ∧ n < 4194304
  · exact ⟨_, (Sync_n h.1 h.2).2, fun _ _ => rfl⟩
  · exact ⟨(0, 9), by unfold ref1_Sync; rw [if_pos (by simp; omega)], fun a b => (h ⟨a, b⟩).elim⟩
theorem restAt_s {f : Vector Int 64} {w : Vector Bool 64} (hn : ∀ i, 0 ≤ wd f i ∧ wd f i ≤ 4095) (n : Int) (hnb : -9223372036854775808 ≤ n ∧ n ≤ 9223372036854775807) :
    ∃ r s, ref4_restAt f w n = some r ∧ RSk f w n s 64 r ∧ (0 ≤ n → n < 4194304 → s = syncV n) := by
  obtain ⟨y, hy, hs⟩ := sync_any n
  have hr2 : rem n 2048 = some (n.tmod 2048) := by unfold rem; rw [if_neg (by decide)]
  have hq2 : quo .i64 n 2048 = some (n.tdiv 2048) := by
    have := Int.natAbs_tdiv_le_natAbs n 2048
    have h3 := Int.mul_tdiv_add_tmod n 2048
    have h4 := Int.tmod_lt_of_pos n (show (0 : Int) < 2048 by decide)
    have h5 := Int.lt_tmod_of_pos n (show (0 : Int) < 2048 by decide)
    unfold quo
    rw [if_neg (by decide), w64 (by omega) (by omega)]
  obtain ⟨r, e1, e2⟩ := loop_li (body := ref4_restAt_L1 f w n y) (N := 64) (fun k r => RSk f w n y.1 k r) (fun r => RSk f w n y.1 64 r) (fun k r hk hI => by
    left
    have hx := hn k
    have hb : ((if (decide ((k : Int) = 0)) = true then (vidx w (k : Int)).bind fun x3 => (gd (x3 == true) 0 (vidx f (k : Int))).bind fun x4 => some (x3 && (decide ((i64 x4) = y.1)))
      else if (decide ((k : Int) = 1)) = true then
        (gd ((wb w k && (wb w k && oddB (wd f k))) == true) 0 (vidx f (k : Int))).bind fun x5 => (gd ((wb w k && (wb w k && oddB (wd f k))) == true) 0 (rem (i64 x5) 2048)).bind fun q => (gd ((wb w k && (wb w k && oddB (wd f k))) == true) 0 (rem n 2048)).bind fun q2 => some ((wb w k && (wb w k && oddB (wd f k))) && (decide (q = q2)))
      else if (decide ((k : Int) = 2)) = true then
        (gd ((wb w k && (wb w k && oddB (wd f k))) == true) 0 (vidx f (k : Int))).bind fun x6 => (gd ((wb w k && (wb w k && oddB (wd f k))) == true) 0 (rem (i64 x6) 2048)).bind fun q3 => (gd ((wb w k && (wb w k && oddB (wd f k))) == true) 0 (quo .i64 n 2048)).bind fun q4 => some ((wb w k && (wb w k && oddB (wd f k))) && (decide (q3 = q4)))
      else some (wb w k && (wb w k && oddB (wd f k)))) : Option Bool) = some (rg f w n y.1 k) := by
      rw [vidx_w f hk, vidx_b w hk, hr2, hq2]
      unfold rg
      have hi : i64 (wd f k) = wd f k := i64v (by omega) (by omega)
      by_cases k0 : k = 0
      · subst k0
        rw [if_pos (by decide), if_pos rfl]
        cases wb w 0
        · rfl
        · simp only [Option.bind_some, gd_tt, hi]
      rw [if_neg (by simp; omega), if_neg k0]
      by_cases k1 : k = 1
      · subst k1
        rw [if_pos (by decide), if_pos rfl]
        cases wb w 1
        · rfl
        cases oddB (wd f 1)
        · rfl
        · simp only [Bool.and_true, gd_tt, Option.bind_some, hi, rem_n hx.1 2048 (by decide), Bool.true_and]
      rw [if_neg (by simp; omega), if_neg k1]
      by_cases k2 : k = 2
      · subst k2
        rw [if_pos (by decide), if_pos rfl]
        cases wb w 2
        · rfl
        cases oddB (wd f 2)
        · rfl
        · simp only [Bool.and_true, gd_tt, Option.bind_some, hi, rem_n hx.1 2048 (by decide), Bool.true_and]
      rw [if_neg (by simp; omega), if_neg k2]
      cases wb w k <;> rfl
    have hc : ∃ y2, gd (wb w k == true) 0 (vidx f (k : Int)) = some (if wb w k = true then wd f k else 0) ∧ gd (wb w k == true) false (ref1_Right (if wb w k = true then wd f k else 0)) = some y2 ∧ y2 = (wb w k && oddB (wd f k)) := by
      rw [vidx_w f hk]
      cases wb w k
      · exact ⟨_, rfl, rfl, rfl⟩
      · exact ⟨_, rfl, right_s hx, rfl⟩
    obtain ⟨y2, c1, c2, rfl⟩ := hc
    unfold ref4_restAt_L1
    rw [if_pos (by simp; omega)]
    have hv := vidx_b w hk
    rw [show (vidx w (k : Int)).bind = (some (wb w k)).bind by rw [hv], Option.bind_some, c1, Option.bind_some, c2, Option.bind_some, hb, Option.bind_some, t1_mk, inc64 hk (by omega)]
    cases hr : rg f w n y.1 k
    · exact ⟨r, rfl, rs_no hI hr⟩
    · exact ⟨_, by rw [if_pos rfl, vidx_w f hk, Option.bind_some, vidx_w r.Frame hk, Option.bind_some, vidx_w r.States hk, Option.bind_some], rs_yes hk hI hr⟩)
    (fun r hI => ⟨r, by unfold ref4_restAt_L1; rw [if_neg (by simp)], hI⟩) (rs_0 f w n _)
  exact ⟨r, y.1, by unfold ref4_restAt; rw [hy, Option.bind_some, e1]; rfl, e2, hs⟩
theorem lost_s (r : api_Rest) : ∃ b, salvage_all r 0 = some b ∧ ref4_lostWhole r = some b := by
  refine ⟨_, all_s r 0, ?_⟩
  unfold ref4_lostWhole
  rw [zV]
  congr 1
  rw [Bool.eq_iff_iff, decide_eq_true_eq, Bool.not_eq_true', ← Bool.not_eq_true, any_wd]
  constructor
  · rintro h ⟨i, hi, hg⟩
    rw [h, wd_rep0] at hg
    simp at hg
  · intro h
    refine vec_ext fun i hi => ?_
    rw [wd_rep0]
    by_cases e : wd r.States i = 0
    · exact e
    · exact (h ⟨i, hi, by simpa using e⟩).elim
end Go.Vx

namespace Go.Vx
open Go Go.RowKit
noncomputable def refB (h_ : List Int) (y2 : List api_Found) (i3 : Int) (at_ : Int) (out6 : List api_Rest) : Option (List api_Rest) :=
  (ref4_frameAt h_ at_).bind fun y7 =>
  (ref4_ownNumber y7.1 y7.2).bind fun y8 =>
  ((if (!y8.2) = true then
  (ref4_otherNumber y2 i3 at_).bind fun y9 =>
  some (y9.1, y9.2)
  else
  some (y8.1, y8.2)) : Option ((Int × Bool))).bind (t2 fun (n : Int) (ok : Bool) =>
  (ref4_restAt y7.1 y7.2 n).bind fun y10 =>
  (gd (ok == true) false (ref4_lostWhole y10)).bind fun y11 =>
  if (ok && (!y11)) = true then
  (app out6 ([y10] : List api_Rest)).bind fun l2 =>
  some l2
  else
  some out6)
def Bes (H : List Int) (C : List api_Found) (i : Nat) (p : Int) (o : Option api_Rest) : Prop :=
  (∃ r, salvage_finder_beside (fnd H C) (i : Int) p = some (r, o.isSome) ∧ ∀ r', o = some r' → r = r') ∧
  (∀ acc : List api_Rest, acc.length ≤ 1000000000 → refB H C (i : Int) p acc = some (acc ++ o.toList)) ∧
  ∀ r, o = some r → (∀ j, 0 ≤ wd r.Frame j ∧ wd r.Frame j ≤ 4095) ∧ 0 ≤ r.Copies ∧ r.Copies ≤ 1000000000
theorem bes_ex {H : List Int} {C : List api_Found} (hC : COK H C) {i : Nat} {xi : api_Found} (hi : C[i]? = some xi) {p : Int} (hp : -1000000 ≤ p ∧ p ≤ 1000000) : ∃ o, Bes H C i p o := by
  have hH := hC.hl
  have hfw := frW_narrow hC.hh p
  have hfu := frW_U hC.hh p
  obtain ⟨n, ok, e1, e2, e3, e4⟩ := number_f hC hi hp (frW H p).2 hfu hfw
  have h1 : salvage_partly (fnd H C).h_ p = some (frW H p) := partly_s hC.hh hp (by show H.length ≤ _; omega)
  have h2 := rframeAt_s hC.hh hp (show H.length ≤ 1000000 by omega)
  have h3 := (own_s hfu hfw (frW H p).2).2
  unfold Bes
  have hS : salvage_finder_beside (fnd H C) (i : Int) p = (some (n, ok)).bind fun y2 => if (!y2.2) = true then
      some ((api_Rest.mk 0 (Vector.replicate 64 0) (Vector.replicate 64 0) false 0 false), false) else
      ((loop (t2 (salvage_finder_beside_L1 (frW H p) y2)) ((api_Rest.mk y2.1 (Vector.replicate 64 0) (Vector.replicate 64 0) false 0 false), 0)) : Option ((api_Rest))).bind (t1 fun (r_ : api_Rest) =>
      (salvage_all r_ 0).bind fun y4 => some (r_, (!y4))) := by
    unfold salvage_finder_beside
    rw [h1, Option.bind_some, e1]
  have hR : ∀ acc : List api_Rest, refB H C (i : Int) p acc = (ref4_restAt (frW H p).1 (frW H p).2 n).bind fun y10 =>
      (gd (ok == true) false (ref4_lostWhole y10)).bind fun y11 => if (ok && (!y11)) = true then (app acc ([y10] : List api_Rest)).bind fun l2 => some l2 else some acc := fun acc => by
    unfold refB
    rw [h2, Option.bind_some, h3, Option.bind_some, e2, Option.bind_some, t2_mk]
  cases ok
  · refine ⟨none, ⟨_, by rw [hS]; rfl, fun r' h => by cases h⟩, fun acc _ => ?_, fun r h => by cases h⟩
    obtain ⟨r, hr⟩ : ∃ r, ref4_restAt (frW H p).1 (frW H p).2 n = some r := by
      obtain ⟨r, s, hr, _⟩ := restAt_s (w := (frW H p).2) hfw n e4
      exact ⟨r, hr⟩
    rw [hR, hr]
    simp [gd]
  · obtain ⟨n1, n2⟩ := e3 rfl
    obtain ⟨r, g1, g2⟩ := besideL_s (w := (frW H p).2) hfw n1 n2
    obtain ⟨r', s, g3, g4, g5⟩ := restAt_s (w := (frW H p).2) hfw n (by omega)
    rw [g5 n1 n2] at g4
    have := rs_uniq g2 g4
    subst this
    obtain ⟨b, l1, l2⟩ := lost_s r
    refine ⟨if b = true then none else some r, ⟨r, ?_, fun r' h => ?_⟩, fun acc hacc => ?_, fun r' h => ?_⟩
    · rw [hS, Option.bind_some, if_neg (by simp)]
      simp only
      rw [g1, Option.bind_some, t1_mk, l1, Option.bind_some]
      cases b <;> rfl
    · cases b
      · exact Option.some.inj h
      · cases h
    · rw [hR, g3, Option.bind_some, gd_tt, l2, Option.bind_some]
      cases b
      · rw [if_pos (by rfl), app_of (by simp; omega)]; rfl
      · rw [if_neg (by decide)]; simp
    · have hr' : r = r' := by
        cases b
        · exact Option.some.inj h
        · cases h
      subst hr'
      refine ⟨fun j => ?_, by rw [g2.cop]; omega, by rw [g2.cop]; omega⟩
      rw [g2.fr j]
      split
      · exact hfw j
      · omega
noncomputable def bes (H : List Int) (C : List api_Found) (i : Nat) (p : Int) : Option api_Rest := Classical.epsilon (Bes H C i p)
theorem bes_s {H : List Int} {C : List api_Found} (hC : COK H C) {i : Nat} {xi : api_Found} (hi : C[i]? = some xi) {p : Int} (hp : -1000000 ≤ p ∧ p ≤ 1000000) : Bes H C i p (bes H C i p) := Classical.epsilon_spec (bes_ex hC hi hp)
end Go.Vx

namespace Go.Vx
open Go Go.RowKit
def inb (H : List Int) (p : Int) : Prop := -192 < p ∧ p < H.length
def Pl (H : List Int) (C : List api_Found) (i : Nat) (xi : api_Found) (p : Int) : Prop := inb H p ∧ BestQ C AnyQ p C.length (i : Int) ∧ 192 ≤ dst xi.At p
theorem near_conv {H : List Int} {C : List api_Found} (hC : COK H C) {i : Nat} {xi : api_Found} (hi : C[i]? = some xi) {p p' : Int} (h : BestQ C AnyQ p C.length (i : Int)) (hb : (p ≤ p' ∧ p' ≤ xi.At) ∨ (xi.At ≤ p' ∧ p' ≤ p)) : BestQ C AnyQ p' C.length (i : Int) := by
  rcases h with ⟨h1, _⟩ | ⟨b, x, h1, h2, h3, h4, h5⟩
  · omega
  have : b = i := by omega
  subst this
  rw [hi] at h4; cases h4
  refine .inr ⟨b, xi, rfl, h2, trivial, hi, fun j y hj _ hy => ?_⟩
  obtain ⟨g1, g2⟩ := h5 j y hj trivial hy
  refine ⟨fun hlt => ?_, fun hlt => ?_⟩
  · have := g1 hlt
    have := hC.lt hlt hy hi
    unfold dst at *
    omega
  · have := g2 hlt
    have := hC.lt hlt hi hy
    unfold dst at *
    omega
theorem placesL {H : List Int} {C : List api_Found} (hC : COK H C) {i : Nat} {xi : api_Found} (hi : C[i]? = some xi) {f : Nat → Int} {s : Int} (hs : s = 194 ∨ s = -194)
    (hf : ∀ k, f k = xi.At + s * ((k : Int) + 1)) (acc : List Int) (hacc : acc.length ≤ 10000) :
    ∃ a, loop (t2 (salvage_finder_places_L2 (fnd H C) (i : Int) s)) (acc, f 0) = some (acc ++ (List.range a).map f) ∧ (∀ k, k < a → Pl H C i xi (f k)) ∧ ¬ (inb H (f a) ∧ BestQ C AnyQ (f a) C.length (i : Int)) ∧ a ≤ 2100 := by
  have hlen := hC.len
  have hH := hC.hl
  have hia := hC.at_ hi
  have hne : C ≠ [] := fun e => by rw [e] at hi; simp at hi
  have hkb : ∀ k, inb H (f k) → k < 2100 := fun k ⟨h1, h2⟩ => by
    rw [hf] at h1 h2
    rcases hs with rfl | rfl <;> omega
  have hfs : ∀ k, f (k + 1) = f k + s := fun k => by
    rw [hf, hf]
    rcases hs with rfl | rfl <;> push_cast <;> omega
  have hds : ∀ k, 192 ≤ dst xi.At (f k) := fun k => by
    rw [hf]
    unfold dst
    rcases hs with rfl | rfl <;> split <;> omega
  obtain ⟨r, e1, a, rfl, e2⟩ := loop_inv (body := t2 (salvage_finder_places_L2 (fnd H C) (i : Int) s))
    (fun q => ∃ k : Nat, q = (acc ++ (List.range k).map f, f k) ∧ (∀ j, j < k → Pl H C i xi (f j)) ∧ k ≤ 2100)
    (fun q => acc.length + 3000 - q.1.length)
    (fun r => ∃ a : Nat, r = acc ++ (List.range a).map f ∧ (∀ k, k < a → Pl H C i xi (f k)) ∧ ¬ (inb H (f a) ∧ BestQ C AnyQ (f a) C.length (i : Int)) ∧ a ≤ 2100)
    (by
      rintro _ ⟨k, rfl, hk, hkl⟩
      rw [t2_mk]
      unfold salvage_finder_places_L2
      by_cases hin : inb H (f k)
      · have hkb' := hkb k hin
        have hi1 := hin.1
        have hi2 := hin.2
        rw [show (fnd H C).h_ = H from rfl, if_pos (by simp; exact ⟨hi1, hi2⟩)]
        obtain ⟨b, b1, b2⟩ := near_s (N := C.map nm) hC hne (p := f k) (by omega)
        rw [show salvage_finder_nearest (fnd H C) (f k) = some b from b1, Option.bind_some]
        by_cases hbi : b = i
        · subst hbi
          have hP : Pl H C i xi (f k) := ⟨hin, b2, hds k⟩
          rw [if_neg (by simp), show (fnd H C).certain = C from rfl, idx_of hi, Option.bind_some, size_d (by omega) (by omega), Option.bind_some, if_pos (by simpa using hds k), app_of (by simp; omega)]
          left
          refine ⟨(acc ++ (List.range (k + 1)).map f, f (k + 1)), ?_, ⟨k + 1, rfl, fun j hj => ?_, by omega⟩, by simp; omega⟩
          · simp only [Option.bind_some, Sum.elim_inr, t1_mk]
            rw [i64v (by omega) (by omega), hfs, List.range_succ, List.map_append, List.append_assoc]; rfl
          · by_cases e : j = k
            · subst e; exact hP
            · exact hk j (by omega)
        · right
          exact ⟨_, by rw [if_pos (by simpa using hbi)]; rfl, k, rfl, hk, fun h => hbi (best_uniq b2 h.2), hkl⟩
      · right
        refine ⟨_, by rw [show (fnd H C).h_ = H from rfl, if_neg (fun h => hin (show -192 < f k ∧ f k < (H.length : Int) by simpa using h))], k, rfl, hk, fun h => hin h.1, hkl⟩) (acc, f 0) ⟨0, by simp, fun j hj => by omega, by omega⟩
  exact ⟨a, e1, e2⟩
def fD (x : api_Found) (k : Nat) : Int := x.At + (-194) * ((k : Int) + 1)
def fU' (x : api_Found) (k : Nat) : Int := x.At + 194 * ((k : Int) + 1)
theorem places_s {H : List Int} {C : List api_Found} (hC : COK H C) {i : Nat} {xi : api_Found} (hi : C[i]? = some xi) :
    ∃ a b, salvage_finder_places (fnd H C) (i : Int) = some ((List.range a).map (fD xi) ++ (List.range b).map (fU' xi)) ∧
      ((∀ k, k < a → Pl H C i xi (fD xi k)) ∧ ¬ (inb H (fD xi a) ∧ BestQ C AnyQ (fD xi a) C.length (i : Int)) ∧ a ≤ 2100) ∧
      ((∀ k, k < b → Pl H C i xi (fU' xi k)) ∧ ¬ (inb H (fU' xi b) ∧ BestQ C AnyQ (fU' xi b) C.length (i : Int)) ∧ b ≤ 2100) := by
  have hia := hC.at_ hi
  obtain ⟨a, a1, a2⟩ := placesL hC hi (f := fD xi) (s := -194) (.inr rfl) (fun k => rfl) [] (by simp)
  obtain ⟨b, b1, b2⟩ := placesL hC hi (f := fU' xi) (s := 194) (.inl rfl) (fun k => rfl) ((List.range a).map (fD xi)) (by simp; omega)
  refine ⟨a, b, ?_, a2, b2⟩
  unfold salvage_finder_places
  rw [show (fnd H C).certain = C from rfl, idx_of hi, Option.bind_some]
  obtain ⟨r, e1, e2⟩ := loop_li (body := salvage_finder_places_L1 (fnd H C) (i : Int) xi) (N := 2)
    (fun k out => out = if k = 0 then [] else if k = 1 then (List.range a).map (fD xi) else (List.range a).map (fD xi) ++ (List.range b).map (fU' xi)) (fun r => r = (List.range a).map (fD xi) ++ (List.range b).map (fU' xi))
    (fun k out hk hI => by
      left
      unfold salvage_finder_places_L1
      rw [if_pos (by simp; omega), inc64 hk (by omega)]
      by_cases k0 : k = 0
      · subst k0
        rw [if_pos rfl] at hI
        subst hI
        refine ⟨_, ?_, by rw [if_neg (by omega), if_pos rfl]⟩
        rw [show idx ([(-194), 194] : List Int) ((0 : Nat) : Int) = some (-194) from rfl, Option.bind_some, i64v (by omega) (by omega)]
        have : xi.At + -194 = fD xi 0 := by unfold fD; simp
        rw [this, a1, Option.bind_some, t1_mk]; rfl
      · have k1 : k = 1 := by omega
        subst k1
        rw [if_neg (by omega), if_pos rfl] at hI
        subst hI
        refine ⟨_, ?_, by rw [if_neg (by omega), if_neg (by omega)]⟩
        rw [show idx ([(-194), 194] : List Int) ((1 : Nat) : Int) = some 194 from rfl, Option.bind_some, i64v (by omega) (by omega)]
        have : xi.At + 194 = fU' xi 0 := by unfold fU'; simp
        rw [this, b1, Option.bind_some, t1_mk])
    (fun out hI => ⟨out, by unfold salvage_finder_places_L1; rw [if_neg (by simp)], by rw [hI, if_neg (by omega), if_neg (by omega)]⟩) (by rw [if_pos rfl])
  rw [e1, Option.bind_some, t1_mk, e2]
noncomputable def plB (H : List Int) (C : List api_Found) (i : Nat) (xi : api_Found) (p : Int) : Bool := @decide (Pl H C i xi p) (Classical.propDecidable _)
theorem plB_iff {H : List Int} {C : List api_Found} {i : Nat} {xi : api_Found} {p : Int} : plB H C i xi p = true ↔ Pl H C i xi p := by unfold plB; exact @decide_eq_true_iff _ (Classical.propDecidable _)
def gC (x : api_Found) (k : Nat) : Int := x.At % 194 - 194 + 194 * (k : Int)
noncomputable def KC (H : List Int) (C : List api_Found) (i : Nat) (xi : api_Found) (n : Nat) : List Int := ((List.range n).map (gC xi)).filter (plB H C i xi)
theorem nodup_map {f : Nat → Int} (hf : ∀ i j, f i = f j → i = j) (n : Nat) : ((List.range n).map f).Nodup := by
  unfold List.Nodup
  rw [List.pairwise_map]
  exact List.Pairwise.imp (fun {a b} h e => h (hf a b e)) List.nodup_range
theorem places_perm {H : List Int} {C : List api_Found} (hC : COK H C) {i : Nat} {xi : api_Found} (hi : C[i]? = some xi) :
    ∃ ps, salvage_finder_places (fnd H C) (i : Int) = some ps ∧ ps.Perm (KC H C i xi 2100) := by
  have hia := hC.at_ hi
  have hH := hC.hl
  obtain ⟨a, b, e1, ⟨a1, a2, a3⟩, ⟨b1, b2, b3⟩⟩ := places_s hC hi
  refine ⟨_, e1, (List.perm_ext_iff_of_nodup ?_ ?_).2 fun p => ?_⟩
  · rw [List.nodup_append]
    refine ⟨nodup_map (fun i j h => by unfold fD at h; omega) a, nodup_map (fun i j h => by unfold fU' at h; omega) b, fun x hx y hy => ?_⟩
    obtain ⟨k, _, rfl⟩ := List.mem_map.1 hx
    obtain ⟨k', _, rfl⟩ := List.mem_map.1 hy
    unfold fD fU'
    omega
  · exact (nodup_map (fun i j h => by unfold gC at h; omega) 2100).sublist List.filter_sublist
  · unfold KC
    simp only [List.mem_append, List.mem_map, List.mem_range, List.mem_filter, plB_iff]
    constructor
    · rintro (⟨k, hk, rfl⟩ | ⟨k, hk, rfl⟩)
      · have hP := a1 k hk
        have h1 := hP.1.1
        refine ⟨⟨(xi.At / 194 - k).toNat, ?_, ?_⟩, hP⟩
        · omega
        · unfold gC fD at *; omega
      · have hP := b1 k hk
        have h1 := hP.1.2
        refine ⟨⟨(xi.At / 194 + 2 + k).toNat, ?_, ?_⟩, hP⟩
        · unfold fU' at h1; omega
        · unfold gC fU' at *; omega
    · rintro ⟨⟨k, hk, rfl⟩, hP⟩
      obtain ⟨⟨h1, h2⟩, h3, h4⟩ := hP
      rcases Int.lt_trichotomy (gC xi k) xi.At with h | h | h
      · left
        refine ⟨(xi.At / 194 - k).toNat, ?_, ?_⟩
        · apply Classical.byContradiction
          intro hge
          refine a2 ⟨⟨?_, ?_⟩, near_conv hC hi h3 (.inl ⟨?_, ?_⟩)⟩ <;> unfold fD gC at * <;> omega
        · unfold fD gC at *; omega
      · rw [h] at h4
        unfold dst at h4
        omega
      · right
        refine ⟨(k - xi.At / 194 - 2).toNat, ?_, ?_⟩
        · apply Classical.byContradiction
          intro hge
          refine b2 ⟨⟨?_, ?_⟩, near_conv hC hi h3 (.inr ⟨?_, ?_⟩)⟩ <;> unfold fU' gC at * <;> omega
        · unfold fU' gC at *; omega
end Go.Vx

namespace Go.Vx
open Go Go.RowKit
noncomputable def sndR (x : api_Found) : api_Rest := ⟨nm x, x.Frame, Vector.replicate 64 3, true, 1, false⟩
noncomputable def besC (H : List Int) (C : List api_Found) (i : Nat) : List api_Rest := (KC H C i (C.getD i fz) 2100).filterMap (bes H C i)
noncomputable def RA (H : List Int) (C : List api_Found) (k : Nat) : List api_Rest := (C.take k).map sndR ++ (List.range k).flatMap (besC H C)
theorem KC_len (H : List Int) (C : List api_Found) (i : Nat) (x : api_Found) (n : Nat) : (KC H C i x n).length ≤ n := by
  unfold KC
  exact Nat.le_trans (List.length_filter_le _ _) (by simp)
theorem besC_len (H : List Int) (C : List api_Found) (i : Nat) : (besC H C i).length ≤ 2100 := Nat.le_trans (List.length_filterMap_le _ _) (KC_len _ _ _ _ _)
theorem flat_le {F : Nat → List api_Rest} (hF : ∀ i, (F i).length ≤ 2100) : ∀ k, ((List.range k).flatMap F).length ≤ 2100 * k
  | 0 => by simp
  | k + 1 => by
    rw [List.range_succ, List.flatMap_append, List.length_append]
    have := flat_le hF k
    have := hF k
    simp only [List.flatMap_cons, List.flatMap_nil, List.append_nil]
    omega
theorem RA_len (H : List Int) (C : List api_Found) (k : Nat) : (RA H C k).length ≤ 2101 * k := by
  have := flat_le (besC_len H C) k
  unfold RA
  rw [List.length_append, List.length_map, List.length_take]
  omega
theorem RA_succ {H : List Int} {C : List api_Found} {k : Nat} {x : api_Found} (hx : C[k]? = some x) {l ps : List api_Rest} (hl : l.Perm (RA H C k)) (hp : ps.Perm (besC H C k)) : (l ++ [sndR x] ++ ps).Perm (RA H C (k + 1)) := by
  have h1 : RA H C (k + 1) = (C.take k).map sndR ++ ([sndR x] ++ ((List.range k).flatMap (besC H C) ++ besC H C k)) := by
    unfold RA
    rw [List.take_succ, hx, List.range_succ, List.flatMap_append]
    simp
  rw [h1]
  refine ((hl.append_right [sndR x]).append hp).trans ?_
  unfold RA
  rw [List.append_assoc, List.append_assoc]
  refine List.Perm.append_left _ ?_
  rw [← List.append_assoc, ← List.append_assoc]
  exact List.Perm.append_right _ List.perm_append_comm
theorem besL {H : List Int} {C : List api_Found} (hC : COK H C) {i : Nat} {xi : api_Found} (hi : C[i]? = some xi) {ps : List Int} (hb : ∀ p ∈ ps, -1000000 ≤ p ∧ p ≤ 1000000) (acc : List api_Rest) (hacc : acc.length + ps.length ≤ 1000000000) :
    loop (t2 (salvage_rests_L2 (fnd H C) (i : Int) ps)) (acc, 0) = some (acc ++ ps.filterMap (bes H C i)) := by
  obtain ⟨r, e1, e2⟩ := loop_li (body := salvage_rests_L2 (fnd H C) (i : Int) ps) (N := ps.length) (fun k out => out = acc ++ (ps.take k).filterMap (bes H C i)) (fun r => r = acc ++ ps.filterMap (bes H C i))
    (fun k out hk hI => by
      left
      obtain ⟨p, hp⟩ := get_ex hk
      obtain ⟨⟨r, h1, h2⟩, _, _⟩ := bes_s hC hi (hb p (List.mem_of_getElem? hp))
      have hlen : out.length ≤ acc.length + k := by
        rw [hI, List.length_append]
        have := List.length_filterMap_le (bes H C i) (ps.take k)
        rw [List.length_take] at this
        omega
      unfold salvage_rests_L2
      rw [if_pos (by simp; omega), idx_of hp, Option.bind_some, h1, Option.bind_some, inc64 hk (by omega)]
      have ht : (ps.take (k + 1)).filterMap (bes H C i) = (ps.take k).filterMap (bes H C i) ++ (bes H C i p).toList := by
        rw [List.take_succ, hp, List.filterMap_append]
        congr 1
      cases ho : bes H C i p with
      | none => exact ⟨out, rfl, by rw [ht, ho, hI]; simp⟩
      | some r' =>
        have := h2 r' ho
        subst this
        refine ⟨out ++ [r], ?_, by rw [ht, ho, hI]; simp⟩
        rw [if_pos (by rfl), app_of (by simp; omega)]; rfl)
    (fun out hI => ⟨out, by unfold salvage_rests_L2; rw [if_neg (by simp)], by rw [hI, List.take_length]⟩) (s0 := acc) (by simp)
  rw [e1, e2]
theorem rests_s {H : List Int} {C : List api_Found} (hC : COK H C) : ∃ l, loop (t2 (salvage_rests_L1 (fnd H C))) ([], 0) = some l ∧ l.Perm (RA H C C.length) := by
  have hlen := hC.len
  have hH := hC.hl
  refine loop_li (body := salvage_rests_L1 (fnd H C)) (N := C.length) (fun k (l : List api_Rest) => l.Perm (RA H C k)) (fun l => l.Perm (RA H C C.length)) (fun k l hk hI => ?_) (fun l hI => ⟨l, by unfold salvage_rests_L1; rw [show (fnd H C).certain = C from rfl, if_neg (by simp)], hI⟩) (by unfold RA; simp)
  left
  obtain ⟨x, hx⟩ := get_ex hk
  obtain ⟨ps, p1, p2⟩ := places_perm hC hx
  have hl := hI.length_eq
  have hRA := RA_len H C k
  have hpl : ps.length ≤ 2100 := by rw [p2.length_eq]; exact KC_len _ _ _ _ _
  have hg : C.getD k fz = x := getF hx
  have hb : ∀ p ∈ ps, -1000000 ≤ p ∧ p ≤ 1000000 := fun p hp => by
    have := p2.mem_iff.1 hp
    unfold KC at this
    have := (plB_iff.1 (List.mem_filter.1 this).2).1
    unfold inb at this
    omega
  refine ⟨(l ++ [sndR x]) ++ ps.filterMap (bes H C k), ?_, RA_succ hx hI ?_⟩
  · unfold salvage_rests_L1
    have hn : idx (fnd H C).numbers (k : Int) = some (nm x) := idx_of (by
      show (C.map nm)[k]? = _
      rw [List.getElem?_map, hx]; rfl)
    rw [show (fnd H C).certain = C from rfl, if_pos (by simp; omega), idx_of hx, Option.bind_some, hn, Option.bind_some, filled_s, Option.bind_some, app_of (by simp; omega), Option.bind_some, p1, Option.bind_some]
    have := besL hC hx hb (l ++ [sndR x]) (by simp; omega)
    unfold sndR at this
    rw [this, Option.bind_some, t1_mk, inc64 hk (by omega)]; rfl
  · unfold besC
    rw [hg]
    exact p2.filterMap _
theorem KC_succ (H : List Int) (C : List api_Found) (i : Nat) (x : api_Found) (n : Nat) : KC H C i x (n + 1) = KC H C i x n ++ (if plB H C i x (gC x n) = true then [gC x n] else []) := by
  unfold KC
  rw [List.range_succ, List.map_append, List.filter_append]
  congr 1
  simp only [List.map_cons, List.map_nil, List.filter_cons, List.filter_nil]
theorem KC_far {H : List Int} {C : List api_Found} {i : Nat} {x : api_Found} {n : Nat} (hn : (H.length : Int) ≤ gC x n) : ∀ m, KC H C i x (n + m) = KC H C i x n
  | 0 => rfl
  | m + 1 => by
    rw [← Nat.add_assoc, KC_succ, KC_far hn m, if_neg, List.append_nil]
    intro h
    have := (plB_iff.1 h).1.2
    unfold gC at *
    omega
theorem rbesL {H : List Int} {C : List api_Found} (hC : COK H C) {i : Nat} {xi : api_Found} (hi : C[i]? = some xi) (acc : List api_Rest) (hacc : acc.length ≤ 900000000) :
    loop (t2 (ref4_rests_L4 H C (i : Int))) (acc, gC xi 0) = some (acc ++ besC H C i) := by
  have hia := hC.at_ hi
  have hH := hC.hl
  have hlen := hC.len
  have hg : C.getD i fz = xi := getF hi
  obtain ⟨r, e1, e2⟩ := loop_inv (body := t2 (ref4_rests_L4 H C (i : Int))) (fun q => ∃ k : Nat, q = (acc ++ (KC H C i xi k).filterMap (bes H C i), gC xi k) ∧ k ≤ 2100)
    (fun q => (1000000 - q.2).toNat) (fun r => r = acc ++ besC H C i)
    (by
      rintro _ ⟨k, rfl, hk⟩
      rw [t2_mk]
      unfold ref4_rests_L4
      by_cases hin : gC xi k < (H.length : Int)
      · left
        have hk' : k < 2100 := by unfold gC at hin; omega
        have hp : -1000000 ≤ gC xi k ∧ gC xi k ≤ 1000000 := by unfold gC at *; omega
        have hout : (acc ++ (KC H C i xi k).filterMap (bes H C i)).length ≤ 1000000000 := by
          have := List.length_filterMap_le (bes H C i) (KC H C i xi k)
          have := KC_len H C i xi k
          rw [List.length_append]; omega
        refine ⟨(acc ++ (KC H C i xi (k + 1)).filterMap (bes H C i), gC xi (k + 1)), ?_, ⟨k + 1, rfl, hk'⟩, by unfold gC; simp only; omega⟩
        rw [if_pos (by simpa using hin)]
        have hgn : i64 (gC xi k + 194) = gC xi (k + 1) := by rw [i64v (by omega) (by omega)]; unfold gC; push_cast; omega
        have hstep : ∀ o : List api_Rest, plB H C i xi (gC xi k) = false → (o = acc ++ (KC H C i xi k).filterMap (bes H C i)) → (some o : Option (List api_Rest)).bind (t1 fun (out7 : List api_Rest) => (some (.inl (out7, (i64 (gC xi k + 194)))) : Option ((List api_Rest × Int) ⊕ List api_Rest))) = some (.inl (acc ++ (KC H C i xi (k + 1)).filterMap (bes H C i), gC xi (k + 1))) := fun o h1 h2 => by
          rw [Option.bind_some, t1_mk, hgn, KC_succ, h1, if_neg (by decide), List.append_nil, h2]
        by_cases hlow : gC xi k < -191
        · rw [decide_eq_true hlow]
          refine hstep _ ?_ rfl
          rw [← Bool.not_eq_true, plB_iff]
          intro h
          have := h.1.1
          omega
        · rw [decide_eq_false hlow]
          obtain ⟨b, b1, b2⟩ := rnear_s hC hp
          simp only [show (false == false) = true from rfl, gd_t, Bool.false_or, b1, Option.bind_some]
          by_cases hbi : b = i
          · subst hbi
            rw [decide_eq_true rfl]
            simp only [Bool.not_true, show (false == false) = true from rfl, gd_t, Option.bind_some, Bool.false_or, idx_of hi]
            rw [apart_d (by omega) hp, Option.bind_some]
            by_cases hd : dst xi.At (gC xi k) < 192
            · rw [if_pos (by simpa using hd)]
              refine hstep _ ?_ rfl
              rw [← Bool.not_eq_true, plB_iff]
              intro h
              have := h.2.2
              omega
            · rw [if_neg (by simpa using hd)]
              have hP : plB H C i xi (gC xi k) = true := plB_iff.2 ⟨⟨by omega, hin⟩, b2, by omega⟩
              obtain ⟨_, h2, _⟩ := bes_s hC hi hp
              have h2 := h2 _ hout
              unfold refB at h2
              rw [h2, Option.bind_some, t1_mk, hgn, KC_succ, hP, if_pos rfl, List.filterMap_append, List.append_assoc]
              congr 5
          · rw [decide_eq_false hbi]
            refine hstep _ ?_ (by simp [gd])
            rw [← Bool.not_eq_true, plB_iff]
            exact fun h => hbi (best_uniq b2 h.2.1)
      · right
        refine ⟨_, by rw [if_neg (by simpa using hin)], ?_⟩
        unfold besC
        rw [hg, show 2100 = k + (2100 - k) by omega, KC_far (by omega)])
    (acc, gC xi 0) ⟨0, by simp [KC], by omega⟩
  rw [e1, e2]
theorem rrests_s {H : List Int} (h : hL H) (hl : H.length ≤ 400000) : ref4_rests H = some (RA H (cerL (scL H (H.length - 191))) (cerL (scL H (H.length - 191))).length) := by
  have hC := cok h hl
  unfold ref4_rests
  rw [(scan_s h (by omega)).2, Option.bind_some, (certain_s h (by omega)).2, Option.bind_some]
  generalize cerL (scL H (H.length - 191)) = C at hC
  have hlen := hC.len
  obtain ⟨r, e1, rfl⟩ := loop_li (body := ref4_rests_L1 C) (N := C.length) (fun k l => l = (C.take k).map sndR) (fun r => r = C.map sndR) (fun k l hk hI => by
    left
    obtain ⟨x, hx⟩ := get_ex hk
    obtain ⟨u, w⟩ := hC.fU hx
    refine ⟨l ++ [sndR x], ?_, by rw [hI, List.take_succ, hx]; simp⟩
    have hfill : loop (t2 (ref4_rests_L2)) ((Vector.replicate 64 0), 0) = some (Vector.replicate 64 3) := fillc (body := ref4_rests_L2) 3 (fun v j hj => by
      unfold ref4_rests_L2
      rw [if_pos (by simp; omega), vidx_w v hj, Option.bind_some, inc64 hj (by omega)]) (fun v => by unfold ref4_rests_L2; rw [if_neg (by simp)]) _
    have hll : l.length ≤ 400000 := by rw [hI]; simp; omega
    unfold ref4_rests_L1
    rw [if_pos (by simp; omega), idx_of hx, Option.bind_some, number_s u (w 1).2 (w 2).2, Option.bind_some, hfill, Option.bind_some, t1_mk, app_of (by simp; omega), Option.bind_some, inc64 hk (by omega)]
    rfl) (fun l hI => ⟨l, by unfold ref4_rests_L1; rw [if_neg (by simp)], by rw [hI, List.take_length]⟩) (s0 := []) (by simp)
  rw [e1, Option.bind_some, t1_mk]
  obtain ⟨r, e2, rfl⟩ := loop_li (body := ref4_rests_L3 H C) (N := C.length) (fun k l => l = C.map sndR ++ (List.range k).flatMap (besC H C)) (fun r => r = RA H C C.length) (fun k l hk hI => by
    left
    obtain ⟨x, hx⟩ := get_ex hk
    have hia := hC.at_ hx
    have hH := hC.hl
    have hq : quo .i64 x.At 194 = some (x.At / 194) := by
      rw [(quo_ne (by decide) (by omega)).1, Int.tdiv_eq_ediv_of_nonneg hia.1]
    refine ⟨l ++ besC H C k, ?_, by rw [hI, List.range_succ, List.flatMap_append]; simp⟩
    have hll : l.length ≤ 900000000 := by
      have := flat_le (besC_len H C) k
      rw [hI, List.length_append, List.length_map]; omega
    unfold ref4_rests_L3
    rw [if_pos (by simp; omega), idx_of hx, Option.bind_some, hq, Option.bind_some, i64v (z := x.At / 194 * 194) (by omega) (by omega), i64v (z := x.At - x.At / 194 * 194) (by omega) (by omega), i64v (z := x.At - x.At / 194 * 194 - 194) (by omega) (by omega)]
    have : x.At - x.At / 194 * 194 - 194 = gC x 0 := by unfold gC; omega
    rw [this, rbesL hC hx l hll, Option.bind_some, t1_mk, inc64 hk (by omega)])
    (fun l hI => ⟨l, by unfold ref4_rests_L3; rw [if_neg (by simp)], by rw [hI]; unfold RA; rw [List.take_length]⟩) (s0 := C.map sndR) (by simp)
  rw [e2]; rfl
theorem RA_ok {H : List Int} {C : List api_Found} (hC : COK H C) : LOK (RA H C C.length) := by
  have hlen := hC.len
  have key : ∀ r ∈ RA H C C.length, (∀ i, 0 ≤ wd r.Frame i ∧ wd r.Frame i ≤ 4095) ∧ 0 ≤ r.Copies ∧ r.Copies ≤ 1000000000 := fun r hr => by
    unfold RA at hr
    rcases List.mem_append.1 hr with hr | hr
    · obtain ⟨x, hx, rfl⟩ := List.mem_map.1 hr
      rw [List.take_length] at hx
      obtain ⟨k, hk⟩ := List.getElem?_of_mem hx
      exact ⟨(hC.fU hk).2, by show (0 : Int) ≤ 1; omega, by show (1 : Int) ≤ _; omega⟩
    · obtain ⟨i, hi, hr⟩ := List.mem_flatMap.1 hr
      obtain ⟨x, hx⟩ := get_ex (xs := C) (k := i) (List.mem_range.1 hi)
      obtain ⟨p, hp, he⟩ := List.mem_filterMap.1 hr
      have hg : C.getD i fz = x := getF hx
      rw [hg] at hp
      unfold KC at hp
      have := (plB_iff.1 (List.mem_filter.1 hp).2).1
      unfold inb at this
      have hH := hC.hl
      exact (bes_s hC hx (by omega)).2.2 r he
  exact ⟨Nat.le_trans (RA_len H C _) (by omega), fun r hr => (key r hr).1, fun r hr => (key r hr).2⟩
theorem Rests_s {p : api_Piece} (hw : wf_api_Piece p) : ∃ o, salvage_Rests p = some o ∧ ref4_Rests p = some o ∧ o.2 = chkP p ∧ (chkP p ≠ 0 → o.1 = []) ∧ (chkP p = 0 → GR (RA (hv p) (cerL (scL (hv p) ((hv p).length - 191))) (cerL (scL (hv p) ((hv p).length - 191))).length) o.1) := by
  have hu := wf_bytes hw
  unfold salvage_Rests ref4_Rests
  rw [CheckPiece_s p hu, rCheckPiece_s p hu, Option.bind_some, Option.bind_some]
  by_cases h : chkP p = 0
  · rw [if_neg (by simp [h]), if_neg (by simp [h]), halves_s hu h, Option.bind_some, rHalves_s hu (chk_ok h).1, Option.bind_some]
    have hH : hL (hv p) := hv_bd hu
    have hl := hv_le h
    have hC := cok hH hl
    rw [rrests_s hH hl, Option.bind_some]
    unfold salvage_rests
    rw [newFinder_s hH hl, Option.bind_some]
    generalize cerL (scL (hv p) ((hv p).length - 191)) = C at hC
    obtain ⟨l, e1, e2⟩ := rests_s hC
    have hok := RA_ok hC
    have hok' : LOK l := ⟨by rw [e2.length_eq]; exact hok.len, fun r hr => hok.nar r (e2.mem_iff.1 hr), fun r hr => hok.cop r (e2.mem_iff.1 hr)⟩
    obtain ⟨out, g1, g2, g3⟩ := grouped_perm hok' e2
    rw [e1, Option.bind_some, t1_mk, g1, g2]
    obtain ⟨out', g4, g5⟩ := grouped_s hok
    have := GR.uniq e2 g3 g5
    subst this
    exact ⟨(out, 0), rfl, rfl, h.symm, fun h' => (h' h).elim, fun _ => g5⟩
  · rw [if_pos (by simpa using h), if_pos (by simpa using h)]
    exact ⟨([], chkP p), rfl, rfl, rfl, fun _ => rfl, fun h' => (h h').elim⟩
end Go.Vx

namespace Go.Vx
open Go Go.RowKit
theorem eqR_refl (l : List api_Rest) (hl : l.length ≤ 4000000000) : slices_Equal_api_Rest_api_Rest l l = some true := by
  have := loop_ix1 (xs := l) (body := slices_Equal_api_Rest_api_Rest_L1 l l) (fun _ => (Sum.inr () : Bool ⊕ Unit)) (fun k x hx => by
    have hk := (List.getElem?_eq_some_iff.1 hx).1
    left
    refine ⟨?_, rfl⟩
    unfold slices_Equal_api_Rest_api_Rest_L1
    rw [if_pos (by simp; omega), idx_of hx, Option.bind_some, Option.bind_some, if_neg (by simp), i64v (by omega) (by omega)]) (by
    unfold slices_Equal_api_Rest_api_Rest_L1
    rw [if_neg (by simp)])
  unfold slices_Equal_api_Rest_api_Rest
  rw [if_neg (by simp), this]
  rfl
theorem nodup_lt {y : List Int} (h : y.Pairwise (· < ·)) : y.Nodup := h.imp fun {a b} h e => by omega
theorem GR_len {l out : List api_Rest} (h : GR l out) : out.length ≤ l.length := by
  obtain ⟨y, h1, h2, h3, _⟩ := h
  have : y.length ≤ (l.map (·.Number)).length := (nodup_lt h1).length_le_of_subset fun n hn => by
    obtain ⟨r, hr, e⟩ := (h2 n).1 hn
    exact List.mem_map.2 ⟨r, hr, e⟩
  rw [h3]
  simpa using this
theorem law_VRests (p : api_Piece) (hw : wf_api_Piece p) : law4_SalvageRestsMatchSpec p = some true := by
  obtain ⟨o, h1, h2, h3, h4, h5⟩ := Rests_s hw
  have hlen : o.1.length ≤ 4000000000 := by
    by_cases h : chkP p = 0
    · have := GR_len (h5 h)
      have hC := cok (hv_bd (wf_bytes hw)) (hv_le h)
      have := RA_len (hv p) (cerL (scL (hv p) ((hv p).length - 191))) (cerL (scL (hv p) ((hv p).length - 191))).length
      have := hC.len
      omega
    · rw [h4 h]; simp
  unfold law4_SalvageRestsMatchSpec
  rw [h1, h2, Option.bind_some, Option.bind_some, decide_eq_true rfl, gd_tt, eqR_refl _ hlen, Option.bind_some]
  simp only [Bool.and_self, gd_tt, saved_s, Option.bind_some]
end Go.Vx
