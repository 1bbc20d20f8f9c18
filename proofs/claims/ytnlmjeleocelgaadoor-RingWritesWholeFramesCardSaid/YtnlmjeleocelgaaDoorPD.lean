/- A text of the proof: a verified executor of the program form, or the contracts of the functions that the law reaches. -/
import Derived.Test.YtnlmjeleocelgaaDoorPC
set_option linter.all false
namespace Go.Vx
open Go Go.RowKit
theorem ZqB : ZeI = ring_checkAll_L1 := by
  funext l i
  unfold ZeI ring_checkAll_L1
  simp only [Zqq]
theorem Zpy (l : List api_Memory) : ∃ c, Xh l = some c ∧ Zfk l = some c ∧ (c = 0 → (1 ≤ l.length ∧ l.length ≤ 8) ∧ ∀ m ∈ l, MemOK m) ∧ (((1 ≤ l.length ∧ l.length ≤ 8) ∧ ∀ m ∈ l, MemOK m) → c = 0) := by
  unfold Xh Zfk
  rw [Zd4, ZqB]
  simp only [Option.bind_some]
  by_cases h : 1 ≤ l.length ∧ l.length ≤ 8
  · have a1 : ((1 : Int) ≤ (l.length : Int)) := by omega
    have a2 : ((l.length : Int) ≤ 8) := by omega
    have a3 : ¬ ((l.length : Int) = 0) := by omega
    have a4 : ¬ (8 < (l.length : Int)) := by omega
    simp only [decide_eq_true a1, decide_eq_true a2, decide_eq_false a3, decide_eq_false a4, Bool.and_self, Bool.not_true, Bool.or_self, Bool.false_eq_true, if_false]
    obtain ⟨r, h1, h2⟩ := Zfp (body := ring_checkAll_L1 l) (N := l.length) (fun k => ∀ j, j < k → ∀ m, l[j]? = some m → MemOK m)
      (fun r => (∃ e, r = .inl e ∧ e ≠ 0 ∧ ¬ ∀ m ∈ l, MemOK m) ∨ (r = .inr () ∧ ∀ m ∈ l, MemOK m)) (fun k hk hI => by
        obtain ⟨m, hm⟩ := ZaW hk
        obtain ⟨c, c1, c2, c3⟩ := Zrd m
        unfold ring_checkAll_L1
        rw [if_pos (by simpa using hk), Zz hm, Option.bind_some, c1, Option.bind_some, show i64 ((k : Int) + 1) = (k : Int) + 1 from Zl (by omega) (by omega)]
        by_cases q : c = 0
        · left
          refine ⟨by rw [if_neg (by simp [q])], fun j hj m' hm' => ?_⟩
          by_cases e : j = k
          · subst e; rw [hm] at hm'; cases hm'; exact c2 q
          · exact hI j (by omega) m' hm'
        · right
          exact ⟨_, by rw [if_pos (by simp [q])], .inl ⟨c, rfl, q, fun w => q (c3 (w m (List.mem_of_getElem? hm)))⟩⟩) (fun hI => ⟨.inr (), by unfold ring_checkAll_L1; rw [if_neg (by simp)], .inr ⟨rfl, fun m hm => by
        obtain ⟨j, hj, e⟩ := List.getElem_of_mem hm
        exact hI j hj m (by rw [List.getElem?_eq_getElem hj, e])⟩⟩) (fun j hj => absurd hj (Nat.not_lt_zero _))
    rw [h1]
    rcases h2 with ⟨e, rfl, he, hno⟩ | ⟨rfl, hall⟩
    · exact ⟨e, rfl, rfl, fun q => absurd q he, fun w => absurd w.2 hno⟩
    · exact ⟨0, rfl, rfl, fun _ => ⟨h, hall⟩, fun _ => rfl⟩
  · have a1 : (decide ((1 : Int) ≤ (l.length : Int)) && decide ((l.length : Int) ≤ 8)) = false := by simp; omega
    have a2 : (decide ((l.length : Int) = 0) || decide (8 < (l.length : Int))) = true := by rw [Bool.or_eq_true, decide_eq_true_eq, decide_eq_true_eq]; omega
    rw [a1, a2]
    exact ⟨3, by simp, by simp, fun q => by simp at q, fun w => absurd w.1 h⟩
theorem ZeN {α : Type} {n : Nat} {body : List α → Int → Option ((List α × Int) ⊕ List α)} (g : Nat → List α) {c B : Nat} (acc0 : List α) (hB : acc0.length + n * c ≤ B) (hg : ∀ k, k < n → (g k).length ≤ c)
    (h : ∀ (k : Nat) acc, k < n → acc.length + c ≤ B → body acc (k : Int) = some (.inl (acc ++ g k, (k : Int) + 1))) (hend : ∀ acc, body acc (n : Int) = some (.inr acc)) :
    loop (t2 body) (acc0, 0) = some (acc0 ++ (List.range n).flatMap g) := by
  obtain ⟨r, h1, h2⟩ := ZcT (body := body) (s0 := acc0) (N := n) (fun k acc => acc = acc0 ++ (List.range k).flatMap g ∧ acc.length ≤ acc0.length + k * c) (fun r => r = acc0 ++ (List.range n).flatMap g) (fun k acc hk hI => .inl (by
    have e : (k + 1) * c ≤ n * c := Nat.mul_le_mul_right _ hk
    rw [Nat.add_mul] at e
    refine ⟨acc ++ g k, h k acc hk (by omega), ?_, ?_⟩
    · rw [List.range_succ, List.flatMap_append, ← List.append_assoc, ← hI.1]; simp
    · have := hg k hk
      rw [List.length_append, Nat.add_mul]; omega)) (fun acc hI => ⟨acc, hend acc, hI.1⟩) ⟨by simp, by omega⟩
  rw [h1, h2]
theorem Zju {α β : Type} {l : List α} {g : α → List β} {c : Nat} (h : ∀ x ∈ l, (g x).length ≤ c) : (l.flatMap g).length ≤ l.length * c := by
  induction l with
  | nil => simp
  | cons x l ih =>
    have h1 := h x (List.mem_cons_self ..)
    have h2 := ih fun y hy => h y (List.mem_cons_of_mem _ hy)
    rw [List.flatMap_cons, List.length_append, List.length_cons, Nat.add_mul]; omega
theorem ZlZ {α β : Type} (l : List α) (d : α) (g : α → List β) : (List.range l.length).flatMap (fun k => g (l.getD k d)) = l.flatMap g := by
  induction l with
  | nil => rfl
  | cons x l ih =>
    rw [List.length_cons, List.range_succ_eq_map, List.flatMap_cons, List.flatMap_map, List.flatMap_cons]
    congr 1
noncomputable def ZeB (m : api_Memory) : List Int := (Xp m).getD []
theorem Zlp {m : api_Memory} (hm : memR m) (ok : MemOK m) : Xp m = some (ZeB m) ∧ Zc9 m = some (ZeB m) ∧ (ZeB m).Perm (hdM m m.Sectors.length) ∧ Srt (ZdV m) (ZeB m) := by
  obtain ⟨l, a1, a2, a3, a4⟩ := Zpc hm ok.n.2 ok.bad
  have : ZeB m = l := by unfold ZeB; rw [a1]; rfl
  rw [this]
  exact ⟨a1, a2, a3, a4⟩
theorem ZkQ {m : api_Memory} (hm : memR m) (ok : MemOK m) : (ZeB m).length ≤ 64 ∧ ∀ i ∈ ZeB m, 0 ≤ i ∧ i < m.Sectors.length := by
  obtain ⟨_, _, p, _⟩ := Zlp hm ok
  refine ⟨by rw [p.length_eq]; have := ZhI m m.Sectors.length; have := ok.n; omega, fun i hi => Zjk m _ i (p.mem_iff.1 hi)⟩
def frV (s : List Int) (j : Nat) : Vector Int 64 := Zfa (Zag (slotL s j))
def ZgH (m : api_Memory) (mi i : Int) : List api_Kept := (List.range m.Slots.toNat).flatMap fun j => if stV (slotL (m.Sectors.getD i.toNat []) j) = 1 then [api_Kept.mk mi i (Xy (m.Sectors.getD i.toNat [])).1 (j : Int) (frV (m.Sectors.getD i.toNat []) j)] else []
def dfM : api_Memory := ⟨0, 0, [], [], []⟩
noncomputable def keptM (m : api_Memory) (mi : Int) : List api_Kept := (ZeB m).flatMap (ZgH m mi)
noncomputable def JX (l : List api_Memory) : List api_Kept := (List.range l.length).flatMap fun k => keptM (l.getD k dfM) (k : Int)
theorem Zij {m : api_Memory} (ok : MemOK m) (mi i : Int) : (ZgH m mi i).length ≤ 64 := by
  have := Zju (l := List.range m.Slots.toNat) (c := 1) (g := fun j => if stV (slotL (m.Sectors.getD i.toNat []) j) = 1 then [api_Kept.mk mi i (Xy (m.Sectors.getD i.toNat [])).1 (j : Int) (frV (m.Sectors.getD i.toNat []) j)] else []) (fun x _ => by split <;> simp)
  have h := ok.slots
  rw [List.length_range] at this
  unfold ZgH; omega
theorem Zia {m : api_Memory} (hm : memR m) (ok : MemOK m) (mi : Int) : (keptM m mi).length ≤ 4096 := by
  have := Zju (l := ZeB m) (c := 64) (g := ZgH m mi) (fun x _ => Zij ok mi x)
  have := (ZkQ hm ok).1
  unfold keptM; omega
theorem row_bd {m : api_Memory} (ok : MemOK m) {i : Nat} (hi : i < m.Sectors.length) {j : Nat} (hj : (j : Int) < m.Slots) : (m.Sectors.getD i []).length ≤ 7000 ∧ 16 + j * 97 + 97 ≤ (m.Sectors.getD i []).length := by
  have h := ok.row _ (getD_memL hi)
  have := ok.slots
  omega
where
  getD_memL {α : Type} {l : List (List α)} {i : Nat} (h : i < l.length) : l.getD i [] ∈ l := by
    rw [List.getD_eq_getElem?_getD, List.getElem?_eq_getElem h]; exact List.getElem_mem h
theorem Zna {m : api_Memory} (ok : MemOK m) {i : Nat} (hi : i < m.Sectors.length) : Zej (m.Sectors.getD i []) = some m.Slots.toNat := by
  have h := ok.row _ (row_bd.getD_memL hi)
  have := ok.slots
  unfold Zej
  rw [if_pos (by omega)]
  congr 1; omega
theorem ZqC {m : api_Memory} (hm : memR m) (ok : MemOK m) {mi : Int} {i : Nat} (hi : i < m.Sectors.length) (acc : List api_Kept) (ha : acc.length ≤ 40000) :
    loop (t2 (X7 mi m (i : Int) (Xy (m.Sectors.getD i [])))) (acc, 0) = some (acc ++ ZgH m mi (i : Int)) := by
  have hs := ok.slots
  refine ZeN (n := m.Slots.toNat) (c := 1) (B := 40064) _ acc (by omega) (fun k _ => by split <;> simp) (fun k a hk hl => ?_) (fun a => ?_)
  · obtain ⟨b1, b2⟩ := row_bd ok hi (j := k) (by omega)
    have hd := Xs (s := m.Sectors) hi []
    obtain ⟨v, hv, hvl⟩ := ZjH (by omega) b2
    have h97 := ZbH b2
    unfold X7
    rw [if_pos (by simp; omega), Zz hd, Option.bind_some, hv, Option.bind_some, Zkp hvl h97, Option.bind_some, show i64 ((k : Int) + 1) = (k : Int) + 1 from Zl (by omega) (by omega)]
    simp only [Int.toNat_natCast]
    by_cases q : stV (slotL (m.Sectors.getD i []) k) = 1
    · rw [if_pos (by simpa using q), if_pos q, hvl, show slc (slotL (m.Sectors.getD i []) k) 0 (97 : Int) = some (slotL (m.Sectors.getD i []) k) from (ZdZ (a := 0) (b := 97) (by omega) (by omega)).trans (by rw [List.take_of_length_le (by omega), List.drop_zero]), Option.bind_some,
        (ZmI (Zla (ZcR hm i) k) (by omega)).1, Option.bind_some, Zd3 (by simp; omega), Option.bind_some]
      rfl
    · rw [if_neg (by simpa using q), if_neg q, List.append_nil]
  · unfold X7
    rw [if_neg (by simp; omega)]
theorem Zqn {m : api_Memory} (hm : memR m) (ok : MemOK m) {mi : Int} {i : Nat} (hi : i < m.Sectors.length) (acc : List api_Kept) (ha : acc.length ≤ 40000) :
    loop (t2 (Zbo mi m (i : Int) (Xy (m.Sectors.getD i [])))) (acc, 0) = some (acc ++ ZgH m mi (i : Int)) := by
  have hs := ok.slots
  refine ZeN (n := m.Slots.toNat) (c := 1) (B := 40064) _ acc (by omega) (fun k _ => by split <;> simp) (fun k a hk hl => ?_) (fun a => ?_)
  · obtain ⟨b1, b2⟩ := row_bd ok hi (j := k) (by omega)
    have hd := Xs (s := m.Sectors) hi []
    unfold Zbo
    rw [if_pos (by simp; omega), Zz hd, Option.bind_some, ZoM (by omega) b2, Option.bind_some, show i64 ((k : Int) + 1) = (k : Int) + 1 from Zl (by omega) (by omega)]
    simp only [Int.toNat_natCast]
    by_cases q : stV (slotL (m.Sectors.getD i []) k) = 1
    · rw [if_pos (by simpa using q), if_pos q, Option.bind_some, (ZlN (ZcR hm i) (by omega) (k : Int)).2, Option.bind_some]
      have hF : Ziy (m.Sectors.getD i []) (k : Int) = (frV (m.Sectors.getD i []) k, 0) := by
        unfold Ziy
        rw [Zna ok hi]
        simp only [Int.toNat_natCast]
        rw [if_pos (by omega)]; rfl
      rw [hF, Zd3 (by simp; omega), Option.bind_some]
    · rw [if_neg (by simpa using q), if_neg q, List.append_nil]
  · unfold Zbo
    rw [if_neg (by simp; omega)]
theorem ZnL {m : api_Memory} (hm : memR m) (ok : MemOK m) {mi : Int} (acc : List api_Kept) (ha : acc.length ≤ 35000) :
    loop (t2 (X0 mi m (ZeB m))) (acc, 0) = some (acc ++ keptM m mi) ∧ loop (t2 (Zbr mi m (ZeB m))) (acc, 0) = some (acc ++ keptM m mi) := by
  obtain ⟨l1, l2⟩ := ZkQ hm ok
  have e : keptM m mi = (List.range (ZeB m).length).flatMap fun k => ZgH m mi ((ZeB m).getD k 0) := (ZlZ _ 0 _).symm
  rw [e]
  constructor
  · refine ZeN (n := (ZeB m).length) (c := 64) (B := 39200) _ acc (by omega) (fun k _ => Zij ok _ _) (fun k a hk hl => ?_) (fun a => ?_)
    · have hd := Xs hk 0
      have hb := l2 _ (ZaS hk)
      unfold X0
      rw [if_pos (by simpa using hk), Zz hd, Option.bind_some]
      obtain ⟨i, hi⟩ := Int.eq_ofNat_of_zero_le hb.1
      rw [hi, Zz (Xs (s := m.Sectors) (k := i) (by omega) []), Option.bind_some, Zjd (ZcR hm i), Option.bind_some, ZqC hm ok (by omega) a (by omega), Option.bind_some, Xl, show i64 ((k : Int) + 1) = (k : Int) + 1 from Zl (by omega) (by omega)]
    · unfold X0
      rw [if_neg (by simp)]
  · refine ZeN (n := (ZeB m).length) (c := 64) (B := 39200) _ acc (by omega) (fun k _ => Zij ok _ _) (fun k a hk hl => ?_) (fun a => ?_)
    · have hd := Xs hk 0
      have hb := l2 _ (ZaS hk)
      unfold Zbr
      rw [if_pos (by simpa using hk), Zz hd, Option.bind_some]
      obtain ⟨i, hi⟩ := Int.eq_ofNat_of_zero_le hb.1
      rw [hi, Zz (Xs (s := m.Sectors) (k := i) (by omega) []), Option.bind_some, Zmd (ZcR hm i), Option.bind_some, Zqn hm ok (by omega) a (by omega), Option.bind_some, Xl, show i64 ((k : Int) + 1) = (k : Int) + 1 from Zl (by omega) (by omega)]
    · unfold Zbr
      rw [if_neg (by simp)]
theorem Zfz {l : List api_Memory} {k : Nat} (h : k < l.length) : l.getD k dfM ∈ l ∧ l[k]? = some (l.getD k dfM) := by
  rw [List.getD_eq_getElem?_getD, List.getElem?_eq_getElem h]
  exact ⟨List.getElem_mem h, rfl⟩
theorem ZkW {l : List api_Memory} (hl : l.length ≤ 8) (hR : ∀ m ∈ l, memR m) (hO : ∀ m ∈ l, MemOK m) : (JX l).length ≤ 32768 := by
  have := Zju (l := List.range l.length) (c := 4096) (g := fun k => keptM (l.getD k dfM) (k : Int)) (fun k hk => by
    have := Zfz (List.mem_range.1 hk)
    exact Zia (hR _ this.1) (hO _ this.1) _)
  rw [List.length_range] at this
  unfold JX; omega
theorem ZpT {l : List api_Memory} (hR : ∀ m ∈ l, memR m) : ∃ c, Xh l = some c ∧ Zfk l = some c ∧ Jf l = some (if c = 0 then JX l else [], c) ∧ ZhG l = some (if c = 0 then JX l else [], c) ∧
    (c = 0 → (1 ≤ l.length ∧ l.length ≤ 8) ∧ ∀ m ∈ l, MemOK m) ∧ (((1 ≤ l.length ∧ l.length ≤ 8) ∧ ∀ m ∈ l, MemOK m) → c = 0) := by
  obtain ⟨c, c1, c2, c3, c4⟩ := Zpy l
  refine ⟨c, c1, c2, ?_⟩
  unfold Jf ZhG
  rw [c1, c2]
  simp only [Option.bind_some]
  by_cases q : c = 0
  · obtain ⟨hl, hO⟩ := c3 q
    rw [if_pos q, if_neg (by simp [q]), if_neg (by simp [q])]
    have A : loop (t2 (X4 l)) ([], 0) = some ([] ++ JX l) := by
      refine ZeN (n := l.length) (c := 4096) (B := 35000) _ [] (by simp; omega) (fun k hk => Zia (hR _ (Zfz hk).1) (hO _ (Zfz hk).1) _) (fun k a hk hb => ?_) (fun a => ?_)
      · obtain ⟨g1, g2⟩ := Zfz hk
        unfold X4
        rw [if_pos (by simpa using hk), Zz g2, Option.bind_some, (Zlp (hR _ g1) (hO _ g1)).1, Option.bind_some, (ZnL (hR _ g1) (hO _ g1) a (by omega)).1, Option.bind_some, Xl, show i64 ((k : Int) + 1) = (k : Int) + 1 from Zl (by omega) (by omega)]
      · unfold X4
        rw [if_neg (by simp)]
    have B : loop (t2 (Zbn l)) ([], 0) = some ([] ++ JX l) := by
      refine ZeN (n := l.length) (c := 4096) (B := 35000) _ [] (by simp; omega) (fun k hk => Zia (hR _ (Zfz hk).1) (hO _ (Zfz hk).1) _) (fun k a hk hb => ?_) (fun a => ?_)
      · obtain ⟨g1, g2⟩ := Zfz hk
        unfold Zbn
        rw [if_pos (by simpa using hk), Zz g2, Option.bind_some, (Zlp (hR _ g1) (hO _ g1)).2.1, Option.bind_some, (ZnL (hR _ g1) (hO _ g1) a (by omega)).2, Option.bind_some, Xl, show i64 ((k : Int) + 1) = (k : Int) + 1 from Zl (by omega) (by omega)]
      · unfold Zbn
        rw [if_neg (by simp)]
    rw [A, B]
    simp only [Option.bind_some, Xl, List.nil_append]
    exact ⟨by rw [q], by rw [q], c3, c4⟩
  · rw [if_neg q, if_pos (by simp [q]), if_pos (by simp [q])]
    exact ⟨rfl, rfl, c3, c4⟩
end Go.Vx

namespace Go.Vx
open Go Go.RowKit
def fN (f : Vector Int 64) : Prop := ∀ i, 0 ≤ wd f i ∧ wd f i ≤ 4095
theorem fN.u {f : Vector Int 64} (h : fN f) : fU f := fun i => ⟨(h i).1, by have := (h i).2; omega⟩
theorem Zne {m : api_Memory} {mi i : Int} {x : api_Kept} (h : x ∈ ZgH m mi i) : ∃ j : Nat, (j : Int) < m.Slots ∧ stV (slotL (m.Sectors.getD i.toNat []) j) = 1 ∧ x = ⟨mi, i, (Xy (m.Sectors.getD i.toNat [])).1, j, frV (m.Sectors.getD i.toNat []) j⟩ := by
  unfold ZgH at h
  obtain ⟨j, hj, hx⟩ := List.mem_flatMap.1 h
  split at hx
  · rename_i q
    exact ⟨j, by have := List.mem_range.1 hj; omega, q, List.mem_singleton.1 hx⟩
  · cases hx
noncomputable def nmK (x : api_Kept) : Int := (Zk4 x.Frame).1
structure FrI (R : List api_Kept) (M : List (Int × api_Kept)) (N : List Int) : Prop where
  srt : R.Pairwise fun a b => nmK a < nmK b
  prm : N.Perm (R.map nmK)
  get : ∀ x ∈ R, mget kqI M (nmK x) = some x
  non : ∀ n, (∀ x ∈ R, nmK x ≠ n) → mget kqI M n = none
  num : ∀ x ∈ R, fN x.Frame
end Go.Vx

namespace Go.Vx
open Go Go.RowKit
theorem Zo4 {m : api_Memory} (hm : Zc0 m) : memR m := fun s hs x hx => by
  have := (hm.2.2.1.2 s hs).2 x hx
  have := (by simpa [wfI, Lit.wf] using this : IntKind.u8.min ≤ x ∧ x ≤ IntKind.u8.max)
  exact ⟨this.1, this.2⟩
end Go.Vx

namespace Go.Vx
open Go Go.RowKit
theorem Zkn {l : List api_Memory} (hl : l.length ≤ 8) (hO : ∀ m ∈ l, MemOK m) : XD l = some l := by
  unfold XD
  obtain ⟨r, h1, h2⟩ := ZcT (body := Xr l) (s0 := []) (N := l.length) (fun k acc => acc = l.take k) (fun r => r = l) (fun k acc hk hI => .inl (by
      obtain ⟨m, hm⟩ := ZaW hk
      subst hI
      refine ⟨l.take k ++ [m], ?_, by rw [List.take_succ, hm]; rfl⟩
      unfold Xr
      rw [if_pos (by simpa using hk), Zz hm, Option.bind_some, ZqN (hO m (List.mem_of_getElem? hm)), Option.bind_some, ZcN (by simp; omega), Option.bind_some, show i64 ((k : Int) + 1) = (k : Int) + 1 from Zl (by omega) (by omega)])) (fun acc hI => ⟨acc, by unfold Xr; rw [if_neg (by simp)], by rw [hI, List.take_length]⟩) rfl
  rw [h1, h2]; rfl
structure SpotOK (m : api_Memory) (s : ring_spot) : Prop where
  sec : (s.sector = -1 ∧ s.slot = 0) ∨ (0 ≤ s.sector ∧ s.sector < m.Sectors.length)
  slot : 0 ≤ s.slot ∧ s.slot ≤ m.Slots
  /-- the slots from there on are free -/
  free : 0 ≤ s.sector → ∀ j : Nat, s.slot ≤ j → (j : Int) < m.Slots → slotL (m.Sectors.getD s.sector.toNat []) j = List.replicate 97 255
def dfS : ring_spot := ⟨0, 0⟩
structure BankI (b : ring_bank) : Prop where
  n : 1 ≤ b.memories.length ∧ b.memories.length ≤ 8
  ok : ∀ m ∈ b.memories, MemOK m
  u8 : ∀ m ∈ b.memories, memR m
  len : b.spots.length = b.memories.length
  at_ : ∀ k, k < b.memories.length → SpotOK (b.memories.getD k dfM) (b.spots.getD k dfS)
structure RecI (r : ring_Recorder) : Prop where
  bank : BankI r.bank
  cp : 1 ≤ r.copies ∧ r.copies ≤ r.bank.memories.length
theorem ZnU {l : List Int} (hl : l.length = 97) : stV l = 0 ↔ l = List.replicate 97 255 := by
  constructor
  · intro h
    unfold stV at h
    split at h
    · cases h
    · split at h
      · cases h
      · rename_i q
        rw [List.eq_replicate_iff]
        refine ⟨hl, fun x hx => ?_⟩
        have : l.any (fun x => !decide (x = 255)) = false := by simpa using q
        rw [List.any_eq_false] at this
        simpa using this x hx
  · rintro rfl
    decide
theorem Zl0 {m : api_Memory} (hm : memR m) (ok : MemOK m) : ∃ s, JK m = some s ∧ SpotOK m s := by
  unfold JK
  obtain ⟨h1, h2, h3, h4⟩ := Zlp hm ok
  obtain ⟨l1, l2⟩ := ZkQ hm ok
  rw [h1, Option.bind_some]
  by_cases h : (ZeB m).length = 0
  · rw [if_pos (by rw [decide_eq_true_eq]; omega)]
    exact ⟨_, rfl, .inl ⟨rfl, rfl⟩, ⟨Int.le_refl _, by have := ok.slots; simp only; omega⟩, fun q => by simp at q⟩
  · rw [if_neg (by rw [decide_eq_true_eq]; omega), show i64 (((ZeB m).length : Int) - 1) = (((ZeB m).length - 1 : Nat) : Int) from (Zl (by omega) (by omega)).trans (by omega), Zz (Xs (by omega) 0), Option.bind_some]
    have hb := l2 _ (ZaS (X := ZeB m) (t := (ZeB m).length - 1) (by omega))
    obtain ⟨i, hi⟩ := Int.eq_ofNat_of_zero_le hb.1
    rw [hi] at hb ⊢
    have hil : i < m.Sectors.length := by omega
    have hs := ok.slots
    obtain ⟨z, z1, z2⟩ := ZcT (body := XC m (i : Int)) (s0 := (0 : Int)) (N := m.Slots.toNat) (fun k z => 0 ≤ z ∧ z ≤ (k : Int) ∧ ∀ j : Nat, z ≤ j → j < k → slotL (m.Sectors.getD i []) j = List.replicate 97 255)
      (fun z => 0 ≤ z ∧ z ≤ m.Slots ∧ ∀ j : Nat, z ≤ j → (j : Int) < m.Slots → slotL (m.Sectors.getD i []) j = List.replicate 97 255) (fun k z hk hI => .inl (by
        obtain ⟨b1, b2⟩ := row_bd ok hil (j := k) (by omega)
        obtain ⟨v, hv, hvl⟩ := ZjH (by omega) b2
        have h97 := ZbH b2
        unfold XC
        rw [if_pos (by simp; omega), Zz (Xs hil []), Option.bind_some, hv, Option.bind_some, Zkp hvl h97, Option.bind_some, show i64 ((k : Int) + 1) = (k : Int) + 1 from Zl (by omega) (by omega)]
        by_cases q : stV (slotL (m.Sectors.getD i []) k) = 0
        · refine ⟨z, by rw [if_neg (by rw [q]; decide)], hI.1, by omega, fun j hj hjk => ?_⟩
          by_cases e : j = k
          · subst e; exact (ZnU h97).1 q
          · exact hI.2.2 j hj (by omega)
        · refine ⟨(k : Int) + 1, by rw [if_pos (by rw [decide_eq_false q]; rfl)], by omega, by omega, fun j hj hjk => by omega⟩)) (fun z hI => ⟨z, by unfold XC; rw [if_neg (by simp; omega)], hI.1, by omega, fun j hj hjk => hI.2.2 j hj (by omega)⟩) ⟨Int.le_refl _, Int.le_refl _, fun j _ hj => by omega⟩
    rw [z1]
    exact ⟨_, rfl, .inr ⟨by simp only; omega, by simp only; omega⟩, ⟨z2.1, z2.2.1⟩, fun _ j hj hjs => z2.2.2 j hj hjs⟩
theorem Zps {l : List api_Memory} (hR : ∀ m ∈ l, memR m) (copies : Int) : ∃ c, Xh l = some c ∧ ((∃ e, e ≠ 0 ∧ Jq l copies = some (.inl e)) ∨
    (c = 0 ∧ ∃ spots frozen, Jq l copies = some (.inr (⟨⟨l, spots⟩, copies, frozen, false, 0, false⟩, 0)) ∧ RecI ⟨⟨l, spots⟩, copies, frozen, false, 0, false⟩)) := by
  obtain ⟨c, c1, c2, c3, c4⟩ := Zpy l
  refine ⟨c, c1, ?_⟩
  unfold Jq
  rw [c1, Zd4]
  simp only [Option.bind_some]
  by_cases q : c = 0
  · obtain ⟨hl, hO⟩ := c3 q
    rw [if_neg (show ¬ (!decide (c = 0)) = true by simp [q])]
    by_cases hc : 1 ≤ copies ∧ copies ≤ (l.length : Int)
    · right
      simp only [decide_eq_true hc.1, decide_eq_true hc.2, Bool.and_self, Bool.not_true, Bool.false_eq_true, if_false]
      rw [Zkn hl.2 hO, Option.bind_some]
      obtain ⟨⟨sp, fr⟩, s1, s2, s3⟩ := Zlq (body := JP l) (a0 := ([] : List ring_spot)) (b0 := false) (N := l.length) (fun k sp fr => sp.length = k ∧ ∀ j, j < k → SpotOK (l.getD j dfM) (sp.getD j dfS)) (fun r => r.1.length = l.length ∧ ∀ j, j < l.length → SpotOK (l.getD j dfM) (r.1.getD j dfS)) (fun k sp fr hk hI => .inl (by
        obtain ⟨g1, g2⟩ := Zfz hk
        obtain ⟨s, s1, s2⟩ := Zl0 (hR _ g1) (hO _ g1)
        have new : ∀ j, j < k + 1 → SpotOK (l.getD j dfM) ((sp ++ [s]).getD j dfS) := fun j hj => by
          by_cases e : j = k
          · subst e
            rw [List.getD_eq_getElem?_getD (l := sp ++ [s]), List.getElem?_append_right (by omega), hI.1]
            simpa using s2
          · have := hI.2 j (by omega)
            rwa [List.getD_eq_getElem?_getD (l := sp ++ [s]), List.getElem?_append_left (by omega), ← List.getD_eq_getElem?_getD]
        have ek : i64 ((k : Int) + 1) = (k : Int) + 1 := Zl (by omega) (by omega)
        unfold JP
        rw [if_pos (by simpa using hk), Zz g2, Option.bind_some, s1, Option.bind_some, Zd3 (by simp; omega), Option.bind_some, ek]
        by_cases hs : 0 ≤ s.sector
        · rw [if_pos (by simpa using hs)]
          have hlt : s.sector < (l.getD k dfM).Sectors.length := by
            rcases s2.sec with w | w
            · omega
            · exact w.2
          obtain ⟨i, hi⟩ := Int.eq_ofNat_of_zero_le hs
          rw [hi, Zz (Xs (s := (l.getD k dfM).Sectors) (k := i) (by omega) []), Option.bind_some, Zjd (ZcR (hR _ g1) i), Option.bind_some]
          exact ⟨_, _, rfl, by simp [hI.1], new⟩
        · rw [if_neg (by simpa using hs)]
          exact ⟨_, _, rfl, by simp [hI.1], new⟩)) (fun sp fr hI => ⟨(sp, fr), by unfold JP; rw [if_neg (by simp)], hI.1, hI.2⟩) ⟨rfl, fun j hj => absurd hj (Nat.not_lt_zero _)⟩
      rw [s1]
      exact ⟨q, sp, fr, rfl, ⟨⟨hl, hO, hR, s2, s3⟩, hc⟩⟩
    · left
      have hf : (decide (1 ≤ copies) && decide (copies ≤ (l.length : Int))) = false := by simpa using hc
      exact ⟨9, by decide, by rw [hf]; rfl⟩
  · left
    rw [if_pos (show (!decide (c = 0)) = true by simp [q])]
    exact ⟨c, q, rfl⟩
end Go.Vx

namespace Go.Vx
open Go Go.RowKit
theorem Zml (a b : Int) : 0 ≤ Qn .u8 a b ∧ Qn .u8 a b ≤ 255 := by
  rw [ZpJ]
  have := (BitVec.ofInt 8 a &&& BitVec.ofInt 8 b).isLt
  omega
theorem Zi9 : ∀ (d s : List Int) (a : Nat) (p : Int), u8R s → u8R (Zac s a d p).2.2
  | [], s, a, p, h => h
  | b :: tl, s, a, p, h => by
    have hs : ∀ z : Int, 0 ≤ z ∧ z ≤ 255 → u8R (s.set a z) := fun z hz x hx => by
      rcases List.mem_or_eq_of_mem_set hx with q | rfl
      · exact h x q
      · exact hz
    unfold Zac
    split
    · exact hs _ (Zml ..)
    · exact Zi9 tl _ _ _ (hs _ (Zml ..))
theorem Zdi {s : List Int} {a k : Nat} {z : Int} (h : a ≠ k) : (s.set a z).getD k 0 = s.getD k 0 := by
  rw [List.getD_eq_getElem?_getD, List.getElem?_set_ne h, List.getD_eq_getElem?_getD]
theorem ZiF {s : List Int} {a : Nat} {z : Int} (h : a < s.length) : (s.set a z).getD a 0 = z := by
  rw [List.getD_eq_getElem?_getD, List.getElem?_set_self h]; rfl
theorem ZfX : ∀ (d s : List Int) (a : Nat) (p : Int) (k : Nat), k < a ∨ a + d.length ≤ k → (Zac s a d p).2.2.getD k 0 = s.getD k 0
  | [], s, a, p, k, h => rfl
  | b :: tl, s, a, p, k, h => by
    rw [List.length_cons] at h
    unfold Zac
    split
    · exact Zdi (by omega)
    · rw [ZfX tl _ _ _ k (by omega), Zdi (by omega)]
theorem ZmF : ∀ (d s : List Int) (a : Nat) (p : Int), a + d.length ≤ s.length → (Zac s a d p).2.1 = true → ∀ t, t < d.length → (Zac s a d p).2.2.getD (a + t) 0 = Qn .u8 (s.getD (a + t) 0) (d.getD t 0)
  | [], s, a, p, hl, h, t, ht => absurd ht (Nat.not_lt_zero _)
  | b :: tl, s, a, p, hl, h, t, ht => by
    rw [List.length_cons] at hl ht
    unfold Zac at h ⊢
    split at h
    · cases h
    · rename_i q
      rw [if_neg q]
      cases t with
      | zero =>
        rw [ZfX tl _ _ _ _ (by omega), Nat.add_zero, ZiF (by omega)]; rfl
      | succ t =>
        have := ZmF tl (s.set a (Qn .u8 (s.getD a 0) b)) (a + 1) (p - 1) (by rw [List.length_set]; omega) h t (by omega)
        rw [show a + (t + 1) = a + 1 + t by omega, this, Zdi (by omega)]; rfl
theorem Zkc : ∀ (d s : List Int) (z : Int) (a : Nat) (p : Int), a + d.length < s.length → (Zac s a (d ++ [z]) p).2.1 = false →
    (Zac s a (d ++ [z]) p).2.2.getD (a + d.length) 0 = s.getD (a + d.length) 0 ∨ (Zac s a (d ++ [z]) p).2.2.getD (a + d.length) 0 = Qn .u8 (s.getD (a + d.length) 0) (bor .u8 z 15)
  | [], s, z, a, p, hl, h => by
    rw [List.length_nil, Nat.add_zero] at hl
    rw [List.nil_append, List.length_nil, Nat.add_zero] at *
    unfold Zac at h ⊢
    split at h
    · rename_i q
      rw [if_pos q]
      right
      exact ZiF hl
    · unfold Zac at h; cases h
  | b :: tl, s, z, a, p, hl, h => by
    rw [List.length_cons] at hl
    rw [List.cons_append] at h ⊢
    rw [List.length_cons]
    unfold Zac at h ⊢
    split at h
    · rename_i q
      rw [if_pos q]
      left
      exact Zdi (by omega)
    · rename_i q
      rw [if_neg q]
      have := Zkc tl (s.set a (Qn .u8 (s.getD a 0) b)) z (a + 1) (p - 1) (by rw [List.length_set]; omega) h
      rw [Zdi (by omega)] at this
      rw [show a + (tl.length + 1) = a + 1 + tl.length by omega]
      exact this
theorem Zgj {s t : List Int} (hl : s.length = t.length) (h : ∀ k, k < s.length → s.getD k 0 = t.getD k 0) : s = t := by
  apply List.ext_getElem hl
  intro i h1 h2
  have := h i h1
  rwa [List.getD_eq_getElem?_getD, List.getD_eq_getElem?_getD, List.getElem?_eq_getElem h1, List.getElem?_eq_getElem h2] at this
theorem ZhO {s : List Int} {j t : Nat} (h : 16 + j * 97 + 97 ≤ s.length) (ht : t < 97) : (slotL s j).getD t 0 = s.getD (16 + j * 97 + t) 0 := by
  unfold slotL
  rw [List.getD_eq_getElem?_getD, List.getElem?_drop, List.getElem?_take_of_lt (by omega), List.getD_eq_getElem?_getD]
theorem ZgR {s t : List Int} {j : Nat} (hl : s.length = t.length) (h1 : 16 + j * 97 + 97 ≤ s.length) (h : ∀ k, 16 + j * 97 ≤ k → k < 16 + j * 97 + 97 → s.getD k 0 = t.getD k 0) : slotL s j = slotL t j := by
  have e1 := ZbH h1
  have e2 := ZbH (s := t) (i := j) (by omega)
  refine Zgj (by omega) fun k hk => ?_
  rw [ZhO h1 (by omega), ZhO (by omega) (by omega)]
  exact h _ (by omega) (by omega)
theorem ZjJ {s t : List Int} (hl : s.length = t.length) (h : ∀ k, k < 10 → s.getD k 0 = t.getD k 0) : (Xy s).1 = (Xy t).1 ∧ (Xy s).2.2 = (Xy t).2.2 := by
  unfold Xy
  rw [hl]
  by_cases q : t.length < 16
  · rw [if_pos q, if_pos q]; exact ⟨rfl, rfl⟩
  · rw [if_neg q, if_neg q]
    have e : s.take 10 = t.take 10 := by
      refine Zgj (by rw [List.length_take, List.length_take]; omega) fun k hk => ?_
      rw [List.length_take] at hk
      rw [List.getD_eq_getElem?_getD, List.getElem?_take_of_lt (by omega), ← List.getD_eq_getElem?_getD, h k (by omega), List.getD_eq_getElem?_getD (l := t.take 10), List.getElem?_take_of_lt (by omega), List.getD_eq_getElem?_getD]
    simp only
    rw [h 2 (by omega), h 3 (by omega), h 4 (by omega), h 5 (by omega), e]
    split <;> exact ⟨rfl, rfl⟩
theorem ZkG {m : api_Memory} {z : Int} : ∀ {k : Nat}, z ∈ hdM m k ↔ ∃ i : Nat, i < k ∧ okM m i = true ∧ z = i
  | 0 => ⟨fun h => (by cases h), fun ⟨i, h, _⟩ => absurd h (Nat.not_lt_zero _)⟩
  | k + 1 => by
    rw [Zkj, List.mem_append, ZkG]
    constructor
    · rintro (⟨i, a, b, c⟩ | h)
      · exact ⟨i, by omega, b, c⟩
      · split at h
        · rename_i q
          exact ⟨k, by omega, q, List.mem_singleton.1 h⟩
        · cases h
    · rintro ⟨i, a, b, c⟩
      by_cases e : i = k
      · subst e
        right
        rw [if_pos b, c]; exact List.mem_singleton.2 rfl
      · exact .inl ⟨i, by omega, b, c⟩
def InS (m : api_Memory) (mi : Int) (i : Nat) (x : api_Kept) : Prop := ∃ j : Nat, (j : Int) < m.Slots ∧ stV (slotL (m.Sectors.getD i []) j) = 1 ∧ x = ⟨mi, i, (Xy (m.Sectors.getD i [])).1, j, frV (m.Sectors.getD i []) j⟩
theorem Zgp {m : api_Memory} (hm : memR m) (ok : MemOK m) {mi : Int} {x : api_Kept} : x ∈ keptM m mi ↔ ∃ i : Nat, i < m.Sectors.length ∧ okM m i = true ∧ InS m mi i x := by
  unfold keptM
  rw [List.mem_flatMap]
  obtain ⟨_, _, p, _⟩ := Zlp hm ok
  constructor
  · rintro ⟨z, hz, hx⟩
    obtain ⟨i, a, b, rfl⟩ := ZkG.1 (p.mem_iff.1 hz)
    obtain ⟨j, c, d, e⟩ := Zne hx
    exact ⟨i, a, b, j, c, d, e⟩
  · rintro ⟨i, a, b, j, c, d, rfl⟩
    refine ⟨i, p.mem_iff.2 (ZkG.2 ⟨i, a, b, rfl⟩), ?_⟩
    unfold ZgH
    rw [List.mem_flatMap]
    refine ⟨j, List.mem_range.2 (by omega), ?_⟩
    simp only [Int.toNat_natCast]
    rw [if_pos d]
    exact List.mem_singleton.2 rfl
def Jh (m : api_Memory) (i : Nat) (S : List Int) (W : List Int) : api_Memory := ⟨m.Slots, m.Limit, m.Sectors.set i S, W, m.Bad⟩
theorem Zgr {l : List (List Int)} {i k : Nat} {S : List Int} (hi : i < l.length) : (l.set i S).getD k [] = if k = i then S else l.getD k [] := by
  rw [List.getD_eq_getElem?_getD, List.getElem?_set]
  by_cases e : i = k
  · subst e; rw [if_pos rfl, if_pos hi, if_pos rfl]; rfl
  · rw [if_neg e, if_neg (fun q => e q.symm), List.getD_eq_getElem?_getD]
theorem Zhv {m : api_Memory} (ok : MemOK m) (hm : memR m) {i : Nat} (hi : i < m.Sectors.length) {S W : List Int} (hS : S.length = (m.Sectors.getD i []).length) (hu : u8R S) (hW : W.length = m.Wear.length) (hw : ∀ x ∈ W, 0 ≤ x ∧ x ≤ m.Limit) :
    MemOK (Jh m i S W) ∧ memR (Jh m i S W) := by
  refine ⟨⟨ok.slots, ok.limit, by unfold Jh; simpa using ok.n, by unfold Jh; simp only [List.length_set]; rw [hW]; exact ok.wear, by unfold Jh; simpa using ok.bad, fun s hs => ?_, hw⟩, fun s hs => ?_⟩
  · rcases List.mem_or_eq_of_mem_set hs with q | rfl
    · exact ok.row s q
    · rw [hS]; exact ok.row _ (row_bd.getD_memL hi)
  · rcases List.mem_or_eq_of_mem_set hs with q | rfl
    · exact hm s q
    · exact hu
theorem Zgq {m : api_Memory} (ok : MemOK m) (hm : memR m) {i : Nat} (hi : i < m.Sectors.length) {S W : List Int} (hS : S.length = (m.Sectors.getD i []).length) (hu : u8R S) (hW : W.length = m.Wear.length) (hw : ∀ x ∈ W, 0 ≤ x ∧ x ≤ m.Limit)
    {mi : Int} {x : api_Kept} (hx : x ∈ keptM (Jh m i S W) mi) :
    x ∈ keptM m mi ∨ ((Xy S).2.2 = true ∧ m.Bad.getD i false = false ∧ ∃ j : Nat, (j : Int) < m.Slots ∧ stV (slotL S j) = 1 ∧ x = ⟨mi, i, (Xy S).1, j, frV S j⟩) := by
  obtain ⟨o', r'⟩ := Zhv ok hm hi hS hu hW hw
  obtain ⟨k, k1, k2, j, j1, j2, rfl⟩ := (Zgp r' o').1 hx
  have hk : k < m.Sectors.length := by simpa [Jh] using k1
  have e : (Jh m i S W).Sectors.getD k [] = if k = i then S else m.Sectors.getD k [] := Zgr hi
  unfold okM at k2
  rw [Bool.and_eq_true] at k2
  have hb : (Jh m i S W).Bad = m.Bad := rfl
  by_cases q : k = i
  · subst q
    rw [if_pos rfl] at e
    rw [e, hb] at k2
    right
    refine ⟨k2.1, by simpa using k2.2, j, j1, by rwa [e] at j2, by rw [e]⟩
  · rw [if_neg q] at e
    left
    rw [e] at k2 j2
    exact (Zgp hm ok).2 ⟨k, hk, by unfold okM; rw [Bool.and_eq_true]; exact ⟨k2.1, by rw [hb] at k2; exact k2.2⟩, j, j1, j2, by rw [e]⟩
theorem ZoZ {s : List Int} {p : Int} (hl : s.length ≤ 7000) (hl2 : 2 ≤ s.length) (hp : 0 ≤ p ∧ p ≤ 1000000000) : QW s p = some (if p = 0 then (0, false, List.replicate (s.length / 2) 255 ++ s.drop (s.length / 2)) else (p - 1, true, List.replicate s.length 255)) := by
  have setf : ∀ (n : Nat), n ≤ s.length → ∀ {body : List Int → Int → Option ((List Int × Int) ⊕ List Int)}, (∀ (k : Nat) (o : List Int), k < n → o.length = s.length → body o k = some (.inl (o.set k 255, (k : Int) + 1))) → (∀ o, body o n = some (.inr o)) →
      loop (t2 body) (s, 0) = some (List.replicate n 255 ++ s.drop n) := by
    intro n hn body h1 h2
    obtain ⟨r, r1, r2⟩ := ZcT (body := body) (s0 := s) (N := n) (fun k o => o = List.replicate k 255 ++ s.drop k) (fun r => r = List.replicate n 255 ++ s.drop n) (fun k o hk hI => .inl (by
      have hol : o.length = s.length := by rw [hI]; simp; omega
      refine ⟨o.set k 255, h1 k o hk hol, ?_⟩
      obtain ⟨x, hx⟩ := ZaW (xs := s) (k := k) (by omega)
      rw [hI, ZcG hx, List.set_append, if_neg (by simp), List.length_replicate, Nat.sub_self, List.set_cons_zero, List.replicate_succ']
      simp)) (fun o hI => ⟨o, h2 o, hI⟩) (by simp)
    rw [r1, r2]
  unfold QW
  by_cases q : p = 0
  · subst q
    have e3 : Int.tdiv (s.length : Int) 2 = ((s.length / 2 : Nat) : Int) := rfl
    rw [if_pos (by decide), Zpm (by omega), Option.bind_some]
    have sl : slp s 0 ((s.length / 2 : Nat) : Int) = some () := by
      unfold slp
      have a1 : (((s.length / 2 : Nat) : Int)) ≤ (s.length : Int) := by omega
      simp [ck]
      omega
    rw [sl, Option.bind_some]
    have en : ((Int.toNat (((s.length / 2 : Nat) : Int) - 0) : Nat) : Int) = ((s.length / 2 : Nat) : Int) := by omega
    rw [setf (s.length / 2) (by omega) (fun k o hk hol => by
      unfold Qh
      rw [en]
      have a0 : decide ((0 : Int) ≤ (k : Int)) = true := by simp
      have a1 : decide ((k : Int) < ((s.length / 2 : Nat) : Int)) = true := decide_eq_true (by omega)
      rw [if_pos a1, a0, a1]
      obtain ⟨x, hx⟩ := ZaW (xs := o) (k := k) (by omega)
      simp only [Bool.and_self, ck, if_true, Option.bind_some, Int.zero_add, Int.toNat_natCast]
      rw [Zz hx, Option.bind_some, show i64 ((k : Int) + 1) = (k : Int) + 1 from Zl (by omega) (by omega)]) (fun o => by
      unfold Qh
      rw [en, if_neg (by simp)])]
    simp only [Option.bind_some, Xl, if_true]
    rfl
  · rw [if_neg (by simpa using q), if_neg q]
    rw [setf s.length (Nat.le_refl _) (fun k o hk hol => by
      unfold Qi
      obtain ⟨x, hx⟩ := ZaW (xs := o) (k := k) (by omega)
      rw [if_pos (by simpa using hk), Zz hx, Option.bind_some, Int.toNat_natCast, show i64 ((k : Int) + 1) = (k : Int) + 1 from Zl (by omega) (by omega)]) (fun o => by
      unfold Qi
      rw [if_neg (by simp)])]
    simp only [Option.bind_some, Xl]
    rw [show i64 (p - 1) = p - 1 from Zl (by omega) (by omega), decide_eq_true (show 0 < p by omega), List.drop_length, List.append_nil, show max (p - 1) 0 = p - 1 by omega]
end Go.Vx

namespace Go.Vx
open Go Go.RowKit
def Zdy (p : Nat → Bool) : Nat → Option Nat
  | 0 => none
  | n + 1 => match Zdy p n with
    | some k => some k
    | none => if p n = true then some n else none
theorem Zix {p : Nat → Bool} {k z : Nat} (h : Zdy p k = some z) : ∀ {n : Nat}, k ≤ n → Zdy p n = some z
  | 0, hn => by
    obtain rfl : k = 0 := by omega
    exact h
  | n + 1, hn => by
    by_cases e : k = n + 1
    · subst e; exact h
    · have := Zix h (n := n) (by omega)
      unfold Zdy; rw [this]
theorem ZiK {p : Nat → Bool} : ∀ {n z : Nat}, Zdy p n = some z → z < n ∧ p z = true
  | 0, z, h => by cases h
  | n + 1, z, h => by
    unfold Zdy at h
    split at h
    · rename_i k hk
      cases h
      have := ZiK hk
      exact ⟨by omega, this.2⟩
    · split at h
      · rename_i q
        cases h
        exact ⟨by omega, q⟩
      · cases h
def Zg6 (m : api_Memory) (z : Nat) : Bool := !(m.Bad.getD z false) && decide (m.Wear.getD z 0 < m.Limit)
def ZeJ (m : api_Memory) (sec : Int) (i : Nat) : Nat := ((sec + 1).toNat + i) % m.Sectors.length
def ZaG (m : api_Memory) (sec : Int) : Int := match Zdy (fun i => Zg6 m (ZeJ m sec i)) m.Sectors.length with
  | some i => (ZeJ m sec i : Int)
  | none => -1
theorem Zll {m : api_Memory} {sec : Int} (h : 0 ≤ ZaG m sec) (hn : 0 < m.Sectors.length) : ZaG m sec < m.Sectors.length ∧ Zg6 m (ZaG m sec).toNat = true := by
  unfold ZaG at h ⊢
  split at h
  · rename_i i hi
    have := (ZiK hi).2
    have hlt : ZeJ m sec i < m.Sectors.length := Nat.mod_lt _ hn
    exact ⟨by omega, by simpa using this⟩
  · omega
theorem Zoz {b : ring_bank} {k : Nat} {m : api_Memory} {s : ring_spot} (hm : b.memories[k]? = some m) (hs : b.spots[k]? = some s) (ok : MemOK m) (h1 : -1 ≤ s.sector) (h2 : s.sector < m.Sectors.length) : Q6 b (k : Int) = some (ZaG m s.sector) := by
  have hn := ok.n
  unfold Q6
  rw [Zz hm, Option.bind_some]
  obtain ⟨r, r1, r2⟩ := Zfp (body := Xn b (k : Int) m) (N := m.Sectors.length) (fun j => Zdy (fun i => Zg6 m (ZeJ m s.sector i)) j = none) (fun r => Sum.elim (fun q => q) (fun _ => (-1 : Int)) r = ZaG m s.sector) (fun j hj hI => by
    have hlt : ZeJ m s.sector j < m.Sectors.length := Nat.mod_lt _ (by omega)
    have e1 : i64 (s.sector + 1) = s.sector + 1 := Zl (by omega) (by omega)
    have e2 : i64 (s.sector + 1 + (j : Int)) = (((s.sector + 1).toNat + j : Nat) : Int) := (Zl (by omega) (by omega)).trans (by omega)
    have e3 : rem (((s.sector + 1).toNat + j : Nat) : Int) (m.Sectors.length : Int) = some (ZeJ m s.sector j : Int) := by
      unfold rem ZeJ
      rw [if_neg (by omega)]
      rfl
    unfold Xn
    rw [if_pos (by simpa using hj), Zz hs, Option.bind_some, e1, e2, e3, Option.bind_some, Zz (Xs (s := m.Bad) (by have := ok.bad; omega) false), Option.bind_some, show i64 ((j : Int) + 1) = (j : Int) + 1 from Zl (by omega) (by omega), Zz (Xs (s := m.Wear) (by have := ok.wear; omega) 0)]
    have hp : Zg6 m (ZeJ m s.sector j) = (!(m.Bad.getD (ZeJ m s.sector j) false) && decide (m.Wear.getD (ZeJ m s.sector j) 0 < m.Limit)) := rfl
    cases hB : m.Bad.getD (ZeJ m s.sector j) false with
    | true =>
      rw [hB] at hp
      left
      refine ⟨by simp [gd], ?_⟩
      unfold Zdy
      rw [hI, hp]; rfl
    | false =>
      rw [hB] at hp
      simp only [Bool.not_false, gd, beq_self_eq_true, if_true, Option.bind_some, Bool.true_and] at hp ⊢
      by_cases q : m.Wear.getD (ZeJ m s.sector j) 0 < m.Limit
      · right
        refine ⟨_, by rw [if_pos (decide_eq_true q)], ?_⟩
        have : Zdy (fun i => Zg6 m (ZeJ m s.sector i)) (j + 1) = some j := by
          unfold Zdy
          rw [hI, hp, decide_eq_true q]; rfl
        unfold ZaG
        rw [Zix this (by omega)]; rfl
      · left
        refine ⟨by rw [if_neg (by simpa using q)], ?_⟩
        unfold Zdy
        rw [hI, hp, decide_eq_false q]; rfl) (fun hI => ⟨.inr (), by unfold Xn; rw [if_neg (by simp)], by unfold ZaG; rw [hI]; rfl⟩) rfl
  rw [r1]
  cases r with
  | inl q => simp only [Option.bind_some, Sum.elim_inl] at r2 ⊢; rw [← r2]
  | inr q => simp only [Option.bind_some, Sum.elim_inr] at r2 ⊢; rw [← r2]; rfl
def ZhF (m : api_Memory) (sec : Int) : Nat → Int
  | 0 => 0
  | k + 1 => if ((Xy (m.Sectors.getD k [])).2.2 && !decide ((k : Int) = sec)) = true then max (ZhF m sec k) (Xy (m.Sectors.getD k [])).1 else ZhF m sec k
theorem ZkA (m : api_Memory) (sec : Int) : ∀ k, 0 ≤ ZhF m sec k ∧ ZhF m sec k ≤ 1073741824
  | 0 => by simp [ZhF]
  | k + 1 => by
    have h := ZkA m sec k
    have := Zje (m.Sectors.getD k [])
    unfold ZhF
    split <;> omega
def ZfE (m : api_Memory) (sec : Int) : Int := ZhF m sec m.Sectors.length + 1
theorem ZpF {b : ring_bank} {k : Nat} {m : api_Memory} (hm : b.memories[k]? = some m) (hR : memR m) (ok : MemOK m) (sec : Int) : QC b (k : Int) sec = some (ZfE m sec) := by
  have hn := ok.n
  unfold QC
  rw [Zz hm, Option.bind_some]
  obtain ⟨r, r1, r2⟩ := ZcT (body := QM sec m) (s0 := (0 : Int)) (N := m.Sectors.length) (fun j z => z = ZhF m sec j) (fun z => z = ZhF m sec m.Sectors.length) (fun j z hj hI => .inl (by
    unfold QM
    rw [if_pos (by simpa using hj), Zz (Xs hj []), Option.bind_some, Zjd (ZcR hR j), Option.bind_some, show i64 ((j : Int) + 1) = (j : Int) + 1 from Zl (by omega) (by omega), hI]
    by_cases q : ((Xy (m.Sectors.getD j [])).2.2 && !decide ((j : Int) = sec)) = true
    · exact ⟨_, by rw [if_pos q], by show _ = ZhF m sec (j + 1); rw [ZhF, if_pos q]⟩
    · exact ⟨_, by rw [if_neg q], by show _ = ZhF m sec (j + 1); rw [ZhF, if_neg q]⟩)) (fun z hI => ⟨z, by unfold QM; rw [if_neg (by simp)], hI⟩) rfl
  have := ZkA m sec m.Sectors.length
  rw [r1, Option.bind_some, Xl, r2, show i64 (ZhF m sec m.Sectors.length + 1) = _ from Zl (by omega) (by omega)]
  rfl
def ZaY (m : api_Memory) (s : ring_spot) : Bool := decide (s.sector < 0) || decide (s.slot = m.Slots)
theorem Zlj {b : ring_bank} {k : Nat} {m : api_Memory} {s : ring_spot} (hm : b.memories[k]? = some m) (hs : b.spots[k]? = some s) : QI b (k : Int) = some (ZaY m s) := by
  unfold QI ZaY
  rw [Zz hs, Option.bind_some, Zz hm]
  by_cases q : s.sector < 0
  · simp [q, gd]
  · simp [q, gd]
def Zep (s : List Int) : List Int := List.replicate (s.length / 2) 255 ++ s.drop (s.length / 2)
def ZdJ (m : api_Memory) (s : ring_spot) (p : Int) : Int × Bool × api_Memory × ring_spot :=
  let y := ZaG m s.sector
  let S := m.Sectors.getD y.toNat []
  let W := m.Wear.set y.toNat (m.Wear.getD y.toNat 0 + 1)
  if p = 0 then (0, false, Jh m y.toNat (Zep S) W, s) else
  let q := Zac (List.replicate S.length 255) 0 (hdL (ZfE m y)) (p - 1)
  (q.1, q.2.1, Jh m y.toNat q.2.2 W, cond q.2.1 ⟨y, 0⟩ s)
def upd (r : ring_Recorder) (k : Nat) (m : api_Memory) (sp : List ring_spot) : ring_Recorder := ⟨⟨r.bank.memories.set k m, sp⟩, r.copies, r.frozen, r.stopped, r.last, r.some_⟩
theorem Zrx {r : ring_Recorder} {k : Nat} {m : api_Memory} {s : ring_spot} (hm : r.bank.memories[k]? = some m) (hs : r.bank.spots[k]? = some s) (hR : memR m) (ok : MemOK m) (h1 : -1 ≤ s.sector) (h2 : s.sector < m.Sectors.length) (hx : 0 ≤ ZaG m s.sector) (hq : ZfE m (ZaG m s.sector) ≤ 1073741824) {p : Int} (hp : 0 ≤ p ∧ p ≤ 1000000000) :
    Xi r (k : Int) p = some ((ZdJ m s p).1, (ZdJ m s p).2.1, upd r k (ZdJ m s p).2.2.1 (if (ZdJ m s p).2.1 = true then r.bank.spots.set k (ZdJ m s p).2.2.2 else r.bank.spots)) := by
  have hn := ok.n
  obtain ⟨b1, b2⟩ := Zll hx (by omega)
  have hkl := (List.getElem?_eq_some_iff.1 hm).1
  unfold Xi
  rw [Zz hm, Option.bind_some, Zoz hm hs ok h1 h2, Option.bind_some, ZpF hm hR ok, Option.bind_some]
  obtain ⟨y, hy⟩ := Int.eq_ofNat_of_zero_le hx
  unfold ZdJ
  rw [hy] at b1 b2 hq ⊢
  simp only [Int.toNat_natCast] at b2 ⊢
  have hyl : y < m.Sectors.length := by omega
  have hyw : y < m.Wear.length := by have := ok.wear; omega
  have hw := ok.wr _ (ZaS hyw)
  have hrow := ok.row _ (row_bd.getD_memL hyl)
  have hsl := ok.slots
  have hlim := ok.limit
  rw [Zz (Xs hyw 0), Option.bind_some, Option.bind_some, Zz (Xs hyl []), Option.bind_some, ZoZ (by omega) (by omega) hp, Option.bind_some, show i64 (m.Wear.getD y 0 + 1) = m.Wear.getD y 0 + 1 from Zl (by omega) (by omega)]
  by_cases q : p = 0
  · rw [if_pos q, if_pos q]
    simp only [Bool.not_false, if_true, Bool.false_eq_true, if_false]
    rw [List.set_set]
    rfl
  · rw [if_neg q, if_neg q]
    simp only [Bool.not_true, Bool.false_eq_true, if_false]
    rw [List.set_set]
    have g1 : (r.bank.memories.set k (Jh m y (List.replicate (m.Sectors.getD y []).length 255) (m.Wear.set y (m.Wear.getD y 0 + 1))))[k]? = some (Jh m y (List.replicate (m.Sectors.getD y []).length 255) (m.Wear.set y (m.Wear.getD y 0 + 1))) := List.getElem?_set_self hkl
    have g2 : (Jh m y (List.replicate (m.Sectors.getD y []).length 255) (m.Wear.set y (m.Wear.getD y 0 + 1))).Sectors[y]? = some (List.replicate (m.Sectors.getD y []).length 255) := List.getElem?_set_self hyl
    have hs1 : 1 ≤ ZfE m (y : Int) := by have := ZkA m (y : Int) m.Sectors.length; unfold ZfE; omega
    have hput := Zl8 (s := List.replicate (m.Sectors.getD y []).length 255) (d := hdL (ZfE m (y : Int))) (a := 0) (p := p - 1) (by rw [List.length_replicate]; omega) (by rw [List.length_replicate]; simp only [hdL, List.length_cons, List.length_nil]; omega) (by omega)
    have em : api_Memory.mk m.Slots m.Limit (m.Sectors.set y (List.replicate (m.Sectors.getD y []).length 255)) (m.Wear.set y (m.Wear.getD y 0 + 1)) m.Bad = Jh m y (List.replicate (m.Sectors.getD y []).length 255) (m.Wear.set y (m.Wear.getD y 0 + 1)) := rfl
    rw [em, Zz g1, Option.bind_some, Zz g2, Option.bind_some, Option.bind_some, ZlA ⟨hs1, hq⟩, Option.bind_some]
    have hput' : Qm (List.replicate (m.Sectors.getD y []).length 255) 0 (hdL (ZfE m (y : Int))) (p - 1) = some (Zac (List.replicate (m.Sectors.getD y []).length 255) 0 (hdL (ZfE m (y : Int))) (p - 1)) := hput
    rw [hput', Option.bind_some]
    have e3 : ∀ P : Int × Bool × List Int, (r.bank.memories.set k (Jh m y (List.replicate (m.Sectors.getD y []).length 255) (m.Wear.set y (m.Wear.getD y 0 + 1)))).set k (api_Memory.mk (Jh m y (List.replicate (m.Sectors.getD y []).length 255) (m.Wear.set y (m.Wear.getD y 0 + 1))).Slots (Jh m y (List.replicate (m.Sectors.getD y []).length 255) (m.Wear.set y (m.Wear.getD y 0 + 1))).Limit ((Jh m y (List.replicate (m.Sectors.getD y []).length 255) (m.Wear.set y (m.Wear.getD y 0 + 1))).Sectors.set y P.2.2) (Jh m y (List.replicate (m.Sectors.getD y []).length 255) (m.Wear.set y (m.Wear.getD y 0 + 1))).Wear (Jh m y (List.replicate (m.Sectors.getD y []).length 255) (m.Wear.set y (m.Wear.getD y 0 + 1))).Bad) = r.bank.memories.set k (Jh m y P.2.2 (m.Wear.set y (m.Wear.getD y 0 + 1))) := fun P => by
      rw [List.set_set]; unfold Jh; simp
    rw [e3]
    cases hP : (Zac (List.replicate (m.Sectors.getD y []).length 255) 0 (hdL (ZfE m (y : Int))) (p - 1)).2.1 with
    | true =>
      simp only [if_true, cond_true, Zz hs, Option.bind_some, ZpN]
      rfl
    | false =>
      simp only [Bool.false_eq_true, if_false, cond_false, Option.bind_some, ZpN]
      rfl
def ZiX (m : api_Memory) (s : ring_spot) (data : List Int) (p : Int) : Int × Bool × api_Memory × ring_spot :=
  let q := Zac (m.Sectors.getD s.sector.toNat []) (16 + s.slot.toNat * 97) (data ++ [0]) p
  (q.1, q.2.1, Jh m s.sector.toNat q.2.2 m.Wear, ⟨s.sector, s.slot + 1⟩)
theorem Zmw {r : ring_Recorder} {k : Nat} {m : api_Memory} {s : ring_spot} {data : List Int} {p : Int} {mems : List api_Memory} {spots : List ring_spot} (hm : mems[k]? = some m) (hs : spots[k]? = some s) (ok : MemOK m) (h1 : 0 ≤ s.sector) (h2 : s.sector < m.Sectors.length) (h3 : 0 ≤ s.slot ∧ s.slot < m.Slots) (hd : data.length = 96) (hp : 0 ≤ p ∧ p ≤ 1000000000) :
    ((idx spots (k : Int)).bind fun x => (idx mems (k : Int)).bind fun x2 => (idx x2.Sectors x.sector).bind fun x3 => (idx mems (k : Int)).bind fun x4 => (idx x2.Sectors x.sector).bind fun x5 => (apz 1 data ([0] : List Int)).bind fun l =>
      (Qm x3 (i64 (16 + (i64 (x.slot * 97)))) l p).bind fun y3 =>
      some (y3.1, y3.2.1, (ring_Recorder.mk (ring_bank.mk (mems.set (Int.toNat (k : Int)) (api_Memory.mk x2.Slots x2.Limit (x2.Sectors.set x.sector.toNat y3.2.2) x2.Wear x2.Bad)) (spots.set (Int.toNat (k : Int)) (ring_spot.mk x.sector (i64 (x.slot + 1))))) r.copies r.frozen r.stopped r.last r.some_))) =
    some ((ZiX m s data p).1, (ZiX m s data p).2.1, ⟨⟨mems.set k (ZiX m s data p).2.2.1, spots.set k (ZiX m s data p).2.2.2⟩, r.copies, r.frozen, r.stopped, r.last, r.some_⟩) := by
  have hsl := ok.slots
  obtain ⟨i, hi⟩ := Int.eq_ofNat_of_zero_le h1
  obtain ⟨j, hj⟩ := Int.eq_ofNat_of_zero_le h3.1
  unfold ZiX
  rw [Zz hs, Option.bind_some, Zz hm, Option.bind_some, hi, hj]
  have hil : i < m.Sectors.length := by omega
  have hrow := row_bd ok hil (j := j) (by omega)
  rw [Zz (Xs hil []), Option.bind_some, Option.bind_some, Option.bind_some, Zd3 (by simp; omega), Option.bind_some]
  rw [show i64 ((j : Int) * 97) = (j : Int) * 97 from Zl (by omega) (by omega), show i64 (16 + (j : Int) * 97) = ((16 + j * 97 : Nat) : Int) from (Zl (by omega) (by omega)).trans (by omega)]
  rw [Zl8 (by omega) (by rw [List.length_append]; simp only [List.length_cons, List.length_nil]; omega) hp, Option.bind_some, show i64 ((j : Int) + 1) = (j : Int) + 1 from Zl (by omega) (by omega)]
  simp only [Int.toNat_natCast]
  rfl
def Zd2 (m : api_Memory) (s : ring_spot) (data : List Int) (p : Int) : Int × Bool × api_Memory × ring_spot :=
  if ZaY m s = true then
    if (ZdJ m s p).2.1 = true then ZiX (ZdJ m s p).2.2.1 (ZdJ m s p).2.2.2 data (ZdJ m s p).1 else ((ZdJ m s p).1, false, (ZdJ m s p).2.2.1, s)
  else ZiX m s data p
end Go.Vx

namespace Go.Vx
open Go Go.RowKit
structure WP (m m' : api_Memory) (s' : ring_spot) (all : Bool) (f : Vector Int 64) : Prop where
  slots : m'.Slots = m.Slots
  n : m'.Sectors.length = m.Sectors.length
  ok : MemOK m'
  u8 : memR m'
  at_ : all = true → SpotOK m' s'
  kept : ∀ mi x, x ∈ keptM m' mi → x ∈ keptM m mi ∨ (all = true ∧ x.Frame = f)
theorem Znb {n j : Nat} (h : 16 + j * 97 + 97 ≤ n) : slotL (List.replicate n (255 : Int)) j = List.replicate 97 255 := by
  unfold slotL
  rw [List.take_replicate, List.drop_replicate]
  congr 1; omega
theorem Zop {n k : Nat} (h : k < n) : (List.replicate n (255 : Int)).getD k 0 = 255 := by
  rw [List.getD_eq_getElem?_getD, List.getElem?_replicate, if_pos h]; rfl
theorem Zp6 (n : Nat) : u8R (List.replicate n 255) := fun x hx => by rw [List.eq_of_mem_replicate hx]; omega
theorem Zog {s : List Int} (h : u8R s) : u8R (Zep s) := fun x hx => by
  rcases List.mem_append.1 hx with q | q
  · rw [List.eq_of_mem_replicate q]; omega
  · exact h x (List.mem_of_mem_drop q)
theorem Zm0 (s : List Int) : (Zep s).length = s.length := by unfold Zep; simp; omega
theorem Zmh {s : List Int} (h : 2 ≤ s.length) : (Xy (Zep s)).2.2 = false := by
  unfold Xy
  split
  · rfl
  · simp only
    rw [if_neg]
    rintro ⟨_, _, e⟩
    have this : ((Zep s).take 10).getD 0 0 = (hdL (Zle ((Zep s).getD 2 0) ((Zep s).getD 3 0) ((Zep s).getD 4 0) ((Zep s).getD 5 0))).getD 0 0 := by rw [e]
    rw [List.getD_eq_getElem?_getD, List.getElem?_take_of_lt (by omega)] at this
    have e2 : (Zep s)[0]? = some 255 := by
      unfold Zep
      rw [List.getElem?_append_left (by simp; omega), List.getElem?_replicate, if_pos (by omega)]
    rw [e2] at this
    simp [hdL] at this
theorem Zpl {m : api_Memory} (ok : MemOK m) {i : Nat} (hi : i < m.Sectors.length) (hx : Zg6 m i = true) : (m.Wear.set i (m.Wear.getD i 0 + 1)).length = m.Wear.length ∧ ∀ x ∈ m.Wear.set i (m.Wear.getD i 0 + 1), 0 ≤ x ∧ x ≤ m.Limit := by
  refine ⟨List.length_set .., fun x hx' => ?_⟩
  unfold Zg6 at hx
  rw [Bool.and_eq_true] at hx
  have h1 := of_decide_eq_true hx.2
  rcases List.mem_or_eq_of_mem_set hx' with q | rfl
  · exact ok.wr x q
  · have := ok.wr _ (ZaS (X := m.Wear) (t := i) (by have := ok.wear; omega)); omega
theorem Zqa {m : api_Memory} {s : ring_spot} (ok : MemOK m) (hR : memR m) (hx : 0 ≤ ZaG m s.sector) (p : Int) (f : Vector Int 64) :
    WP m (ZdJ m s p).2.2.1 (ZdJ m s p).2.2.2 (ZdJ m s p).2.1 f ∧ (∀ mi x, x ∈ keptM (ZdJ m s p).2.2.1 mi → x ∈ keptM m mi) ∧ ((ZdJ m s p).2.1 = true → 0 ≤ (ZdJ m s p).2.2.2.sector ∧ (ZdJ m s p).2.2.2.slot = 0) := by
  have hn := ok.n
  obtain ⟨b1, b2⟩ := Zll hx (by omega)
  obtain ⟨y, hy⟩ := Int.eq_ofNat_of_zero_le hx
  have hsl := ok.slots
  unfold ZdJ
  rw [hy] at b1 b2 ⊢
  simp only [Int.toNat_natCast] at b2 ⊢
  have hyl : y < m.Sectors.length := by omega
  obtain ⟨w1, w2⟩ := Zpl ok hyl b2
  have hrow := ok.row _ (row_bd.getD_memL hyl)
  by_cases q : p = 0
  · rw [if_pos q]
    have hS : (Zep (m.Sectors.getD y [])).length = (m.Sectors.getD y []).length := Zm0 _
    have hu := Zog (ZcR hR y)
    obtain ⟨o', r'⟩ := Zhv ok hR hyl hS hu w1 w2
    have kk : ∀ mi x, x ∈ keptM (Jh m y (Zep (m.Sectors.getD y [])) (m.Wear.set y (m.Wear.getD y 0 + 1))) mi → x ∈ keptM m mi := fun mi x hx' => by
      rcases Zgq ok hR hyl hS hu w1 w2 hx' with w | ⟨w, _⟩
      · exact w
      · rw [Zmh (by omega)] at w; cases w
    exact ⟨⟨rfl, by simp [Jh], o', r', (fun h => by cases h), fun mi x hx' => .inl (kk mi x hx')⟩, kk, fun h => by cases h⟩
  · rw [if_neg q]
    have hout : ∀ k, 10 ≤ k → k < (m.Sectors.getD y []).length → (Zac (List.replicate (m.Sectors.getD y []).length 255) 0 (hdL (ZfE m (y : Int))) (p - 1)).2.2.getD k 0 = 255 := fun k h1 h2 => by
      rw [ZfX _ _ _ _ _ (.inr (by simp only [hdL, List.length_cons, List.length_nil]; omega)), Zop h2]
    have hlen := Zhz (hdL (ZfE m (y : Int))) (List.replicate (m.Sectors.getD y []).length 255) 0 (p - 1)
    have hu := Zi9 (hdL (ZfE m (y : Int))) (List.replicate (m.Sectors.getD y []).length 255) 0 (p - 1) (Zp6 _)
    generalize Zac (List.replicate (m.Sectors.getD y []).length 255) 0 (hdL (ZfE m (y : Int))) (p - 1) = P at hout hlen hu
    rw [List.length_replicate] at hlen
    obtain ⟨o', r'⟩ := Zhv ok hR hyl hlen hu w1 w2
    have free : ∀ j : Nat, (j : Int) < m.Slots → slotL P.2.2 j = List.replicate 97 255 := fun j hj => by
      have hb : 16 + j * 97 + 97 ≤ (m.Sectors.getD y []).length := by omega
      rw [ZgR (t := List.replicate (m.Sectors.getD y []).length 255) (by rw [hlen, List.length_replicate]) (by omega) (fun k h1 h2 => by rw [hout k (by omega) (by omega), Zop (by omega)]), Znb hb]
    have kk : ∀ mi x, x ∈ keptM (Jh m y P.2.2 (m.Wear.set y (m.Wear.getD y 0 + 1))) mi → x ∈ keptM m mi := fun mi x hx' => by
      rcases Zgq ok hR hyl hlen hu w1 w2 hx' with w | ⟨_, _, j, j1, j2, _⟩
      · exact w
      · rw [free j j1] at j2
        have : stV (List.replicate 97 255) = 0 := by decide
        rw [this] at j2; cases j2
    refine ⟨⟨rfl, by simp [Jh], o', r', fun h => ?_, fun mi x hx' => .inl (kk mi x hx')⟩, kk, fun h => ?_⟩
    · rw [show P.2.1 = true from h, cond_true]
      refine ⟨.inr ⟨by simp only; omega, by simp only [Jh, List.length_set]; omega⟩, ⟨Int.le_refl _, by simp only [Jh]; omega⟩, fun _ j _ hj => ?_⟩
      simp only [Int.toNat_natCast]
      rw [show (Jh m y P.2.2 (m.Wear.set y (m.Wear.getD y 0 + 1))).Sectors.getD y [] = P.2.2 from (Zgr hyl).trans (by rw [if_pos rfl])]
      exact free j hj
    · rw [show P.2.1 = true from h, cond_true]; exact ⟨by simp only; omega, rfl⟩
theorem ZmZ {d e : List Int} (hd : d.length = 96) {i : Nat} (hi : i < 64) : Zag (d ++ e) i = Zag d i := by
  have g : ∀ k, k < 96 → (d ++ e).getD k 0 = d.getD k 0 := fun k hk => by
    rw [List.getD_eq_getElem?_getD, List.getElem?_append_left (by omega), ← List.getD_eq_getElem?_getD]
  unfold Zag
  rw [g _ (by omega), g _ (by omega), g _ (by omega)]
theorem Zos {b : Int} (h : 0 ≤ b ∧ b ≤ 255) : Qn .u8 255 b = b := by
  have key : (List.range 256).all (fun n => decide (Qn .u8 255 (n : Int) = (n : Int))) = true := by decide +kernel
  obtain ⟨n, rfl⟩ := Int.eq_ofNat_of_zero_le h.1
  exact of_decide_eq_true (List.all_eq_true.1 key n (List.mem_range.2 (by omega)))
theorem Znz {m : api_Memory} {s : ring_spot} (ok : MemOK m) (hR : memR m) (hs : SpotOK m s) (h1 : 0 ≤ s.sector) (h3 : s.slot < m.Slots) {data : List Int} (hd : data.length = 96) (hu : u8R data) (p : Int) :
    WP m (ZiX m s data p).2.2.1 (ZiX m s data p).2.2.2 (ZiX m s data p).2.1 (Zfa (Zag data)) := by
  have hn := ok.n
  have hsl := ok.slots
  have h2 : s.sector < m.Sectors.length := by
    rcases hs.sec with w | w
    · omega
    · exact w.2
  have hfree := hs.free h1
  have hslot := hs.slot
  unfold ZiX
  generalize hsec : s.sector = sec at *
  generalize hslt : s.slot = slt at *
  obtain ⟨i, rfl⟩ := Int.eq_ofNat_of_zero_le h1
  obtain ⟨j, rfl⟩ := Int.eq_ofNat_of_zero_le hslot.1
  simp only [Int.toNat_natCast] at hfree ⊢
  have hil : i < m.Sectors.length := by omega
  have hrow := ok.row _ (row_bd.getD_memL hil)
  have hfj := hfree j (Int.le_refl _) h3
  have hdl : (data ++ [(0 : Int)]).length = 97 := by rw [List.length_append, hd]; rfl
  have hlen := Zhz (data ++ [0]) (m.Sectors.getD i []) (16 + j * 97) p
  have hpu := Zi9 (data ++ [0]) (m.Sectors.getD i []) (16 + j * 97) p (ZcR hR i)
  have hout : ∀ k, k < 16 + j * 97 ∨ 16 + j * 97 + 97 ≤ k → (Zac (m.Sectors.getD i []) (16 + j * 97) (data ++ [0]) p).2.2.getD k 0 = (m.Sectors.getD i []).getD k 0 := fun k hk => ZfX _ _ _ _ _ (by rw [hdl]; exact hk)
  have old : ∀ t, t < 97 → (m.Sectors.getD i []).getD (16 + j * 97 + t) 0 = 255 := fun t ht => by
    rw [← ZhO (by omega) ht, hfj, Zop ht]
  have hin := ZmF (data ++ [0]) (m.Sectors.getD i []) (16 + j * 97) p (by rw [hdl]; omega)
  have hlast := Zkc data (m.Sectors.getD i []) 0 (16 + j * 97) p (by omega)
  rw [hd] at hlast
  generalize Zac (m.Sectors.getD i []) (16 + j * 97) (data ++ [0]) p = P at hlen hpu hout hin hlast
  have hw : ∀ x ∈ m.Wear, 0 ≤ x ∧ x ≤ m.Limit := ok.wr
  obtain ⟨o', r'⟩ := Zhv ok hR hil hlen hpu rfl hw
  have oth : ∀ k : Nat, (k : Int) < m.Slots → k ≠ j → slotL P.2.2 k = slotL (m.Sectors.getD i []) k := fun k hk hkj => by
    refine ZgR hlen (by omega) fun z z1 z2 => hout z ?_
    rcases Nat.lt_or_ge k j with w | w
    · left; omega
    · right; omega
  have hhead := ZjJ (s := P.2.2) (t := m.Sectors.getD i []) hlen (fun k hk => hout k (.inl (by omega)))
  refine ⟨rfl, by simp [Jh], o', r', fun hall => ?_, fun mi x hx => ?_⟩
  · refine ⟨.inr ⟨by simp only; omega, by simp only [Jh, List.length_set]; omega⟩, ⟨by simp only; omega, by simp only [Jh]; omega⟩, fun _ k hk hks => ?_⟩
    simp only [Int.toNat_natCast] at hk ⊢
    rw [show (Jh m i P.2.2 m.Wear).Sectors.getD i [] = P.2.2 from (Zgr hil).trans (by rw [if_pos rfl])]
    have hks' : (k : Int) < m.Slots := hks
    rw [oth k hks' (by omega)]
    exact hfree k (by omega) hks'
  · rcases Zgq ok hR hil hlen hpu rfl hw hx with w | ⟨w1, w2, k, k1, k2, rfl⟩
    · exact .inl w
    · by_cases e : k = j
      · subst e
        cases hall : P.2.1 with
        | true =>
          right
          refine ⟨rfl, ?_⟩
          have hS : slotL P.2.2 k = data ++ [0] := by
            refine Zgj (by rw [ZbH (by omega), hdl]) fun t ht => ?_
            rw [ZbH (by omega)] at ht
            rw [ZhO (by omega) ht, hin hall t (by omega), old t ht, Zos]
            rcases Nat.lt_or_ge t 96 with q | q
            · rw [List.getD_eq_getElem?_getD, List.getElem?_append_left (by omega), ← List.getD_eq_getElem?_getD]; exact Zcw hu t
            · obtain rfl : t = 96 := by omega
              rw [List.getD_eq_getElem?_getD, List.getElem?_append_right (by omega), hd]; simp
          have hF : frV P.2.2 k = Zfa (Zag data) := by
            unfold frV
            rw [hS]
            exact ZkD fun z hz => by rw [Zgl _ hz, Zgl _ hz, ZmZ hd hz]
          simp only
          exact hF
        | false =>
          have h96 : (slotL P.2.2 k).getD 96 0 ≠ 0 := by
            rw [ZhO (by omega) (by omega)]
            have o96 := old 96 (by omega)
            rcases hlast hall with q | q
            · rw [q, o96]; decide
            · rw [q, o96]; decide
          unfold stV at k2
          rw [if_neg h96] at k2
          split at k2 <;> simp at k2
      · left
        rw [oth k k1 e] at k2
        refine (Zgp hR ok).2 ⟨i, hil, ?_, k, k1, k2, ?_⟩
        · unfold okM
          rw [w2, ← hhead.2, w1]; rfl
        · have hF : frV P.2.2 k = frV (m.Sectors.getD i []) k := by unfold frV; rw [oth k k1 e]
          rw [hhead.1, hF]
theorem ZmY {α : Type} {l : List α} {k : Nat} {x : α} (h : l[k]? = some x) : l.set k x = l := by
  refine List.ext_getElem? fun j => ?_
  rw [List.getElem?_set]
  split
  · rename_i e
    subst e
    rw [if_pos (List.getElem?_eq_some_iff.1 h).1, h]
  · rfl
theorem ZoE {m : api_Memory} {s : ring_spot} {p : Int} (hp : 0 ≤ p) : 0 ≤ (ZdJ m s p).1 ∧ (ZdJ m s p).1 ≤ p := by
  unfold ZdJ
  simp only
  split
  · exact ⟨Int.le_refl _, by simp only; omega⟩
  · have := ZfL (hdL (ZfE m (ZaG m s.sector))) (List.replicate (m.Sectors.getD (ZaG m s.sector).toNat []).length 255) 0 (p - 1) (by omega)
    exact ⟨this.1, by simp only; omega⟩
theorem Zph {r : ring_Recorder} {k : Nat} {m : api_Memory} {s : ring_spot} (hm : r.bank.memories[k]? = some m) (hs : r.bank.spots[k]? = some s) (hR : memR m) (ok : MemOK m) (hsp : SpotOK m s)
    (hl : ZaY m s = true → 0 ≤ ZaG m s.sector ∧ ZfE m (ZaG m s.sector) ≤ 1073741824) {data : List Int} (hd : data.length = 96) (hu : u8R data) {p : Int} (hp : 0 ≤ p ∧ p ≤ 1000000000) :
    XZ r (k : Int) data p = some ((Zd2 m s data p).1, (Zd2 m s data p).2.1, ⟨⟨r.bank.memories.set k (Zd2 m s data p).2.2.1, r.bank.spots.set k (Zd2 m s data p).2.2.2⟩, r.copies, r.frozen, r.stopped, r.last, r.some_⟩) ∧
    WP m (Zd2 m s data p).2.2.1 (Zd2 m s data p).2.2.2 (Zd2 m s data p).2.1 (Zfa (Zag data)) ∧ 0 ≤ (Zd2 m s data p).1 ∧ (Zd2 m s data p).1 ≤ p := by
  have hkl := (List.getElem?_eq_some_iff.1 hm).1
  have hks := (List.getElem?_eq_some_iff.1 hs).1
  have hsec : -1 ≤ s.sector ∧ s.sector < m.Sectors.length := by
    have := ok.n
    rcases hsp.sec with w | w <;> omega
  unfold XZ Zd2
  rw [Zlj hm hs, Option.bind_some]
  by_cases h : ZaY m s = true
  · obtain ⟨x1, x2⟩ := hl h
    obtain ⟨a1, a2, a3⟩ := Zqa ok hR x1 p (Zfa (Zag data))
    have a4 := ZoE (m := m) (s := s) hp.1
    rw [if_pos h, if_pos h, Zrx hm hs hR ok hsec.1 hsec.2 x1 x2 hp, Option.bind_some]
    generalize ZdJ m s p = A at a1 a2 a3 a4
    cases hA : A.2.1 with
    | true =>
      obtain ⟨c1, c2⟩ := a3 hA
      have sp := a1.at_ hA
      simp only [Bool.not_true, Bool.false_eq_true, if_false, if_true, Option.bind_some, Sum.elim_inr, ZnT, upd]
      have hsl := a1.ok.slots
      have c3 : A.2.2.2.sector < A.2.2.1.Sectors.length := by
        rcases sp.sec with w | w
        · omega
        · exact w.2
      have g1 : (r.bank.memories.set k A.2.2.1)[k]? = some A.2.2.1 := List.getElem?_set_self hkl
      have g2 : (r.bank.spots.set k A.2.2.2)[k]? = some A.2.2.2 := List.getElem?_set_self hks
      have pe := Zmw (r := r) (p := A.1) (data := data) g1 g2 a1.ok c1 c3 ⟨by omega, by omega⟩ hd (by omega)
      refine ⟨?_, ?_, ?_⟩
      · refine pe.trans ?_
        rw [List.set_set, List.set_set]
      · have wp := Znz a1.ok a1.u8 sp c1 (by omega) hd hu A.1
        exact ⟨wp.slots.trans a1.slots, wp.n.trans a1.n, wp.ok, wp.u8, wp.at_, fun mi x hx => by
          rcases wp.kept mi x hx with w | w
          · exact .inl (a2 mi x w)
          · exact .inr w⟩
      · have := ZfL (data ++ [0]) (A.2.2.1.Sectors.getD A.2.2.2.sector.toNat []) (16 + A.2.2.2.slot.toNat * 97) A.1 a4.1
        unfold ZiX
        exact ⟨this.1, by simp only; omega⟩
    | false =>
      simp only [Bool.not_false, if_true, Bool.false_eq_true, if_false, Option.bind_some, Sum.elim_inl, upd]
      refine ⟨by rw [ZmY hs], ⟨a1.slots, a1.n, a1.ok, a1.u8, (fun w => by cases w), fun mi x hx => .inl (a2 mi x hx)⟩, a4⟩
  · rw [if_neg h, if_neg h]
    simp only [Option.bind_some, Sum.elim_inr, ZnT]
    have hh : ¬ s.sector < 0 ∧ ¬ s.slot = m.Slots := by
      unfold ZaY at h
      rw [Bool.or_eq_true, decide_eq_true_eq, decide_eq_true_eq] at h
      exact ⟨fun w => h (.inl w), fun w => h (.inr w)⟩
    have hb := hsp.slot
    refine ⟨Zmw hm hs ok (by omega) hsec.2 ⟨hb.1, by omega⟩ hd hp, Znz ok hR hsp (by omega) (by omega) hd hu p, ?_⟩
    have := ZfL (data ++ [0]) (m.Sectors.getD s.sector.toNat []) (16 + s.slot.toNat * 97) p hp.1
    exact this
end Go.Vx

namespace Go.Vx
open Go Go.RowKit
def rbV (v : Vector Int 96) (t : Nat) : Int := v.toList.getD t 0
theorem Zi4 (v : Vector Int 96) {k : Nat} (hk : k < 96) (x : Int) (t : Nat) : rbV (XN v (k : Int) x) t = if t = k then x else rbV v t := by
  unfold rbV
  rw [ZdP, Int.toNat_natCast, List.getD_eq_getElem?_getD, List.getElem?_set, List.getD_eq_getElem?_getD]
  by_cases h : t = k
  · subst h; rw [if_pos rfl, if_pos (by simpa using hk), if_pos rfl]; rfl
  · rw [if_neg (fun q => h q.symm), if_neg h]
theorem Zjq (v : Vector Int 96) {k : Nat} (hk : k < 96) : ZI v (k : Int) = some (rbV v k) := ZhQ (by unfold rbV; exact Xs (by simpa using hk) 0)
def bS (f : Vector Int 64) (i t : Nat) : Int :=
  if t % 3 = 0 then (if 2 * (t / 3) < i then wd f (2 * (t / 3)) / 16 else 0) else
  if t % 3 = 1 then (if 2 * (t / 3) < i then wd f (2 * (t / 3)) % 16 * 16 else 0) + (if 2 * (t / 3) + 1 < i then wd f (2 * (t / 3) + 1) / 256 else 0) else
  (if 2 * (t / 3) + 1 < i then wd f (2 * (t / 3) + 1) % 256 else 0)
theorem ZpZ : (List.range 4096).all (fun n => decide (Qn .u16 (n : Int) 15 = ((n % 16 : Nat) : Int))) = true := by decide +kernel
theorem sb1 {w : Int} (h : 0 ≤ w ∧ w ≤ 4095) : Qn .u16 w 15 = w % 16 := by
  obtain ⟨x, rfl⟩ := Int.eq_ofNat_of_zero_le h.1
  exact (of_decide_eq_true (List.all_eq_true.1 ZpZ x (List.mem_range.2 (by omega)))).trans (by omega)
theorem ZpK : (List.range 256).all (fun n => decide (bor .u8 (n : Int) (Qn .u8 0 15) = (n : Int)) && decide (bor .u8 (Qn .u8 ((n / 16 * 16 : Nat) : Int) 240) ((n % 16 : Nat) : Int) = (n : Int))) = true := by decide +kernel
theorem sb2 {x : Int} (h : 0 ≤ x ∧ x ≤ 255) : bor .u8 x (Qn .u8 0 15) = x := by
  obtain ⟨x, rfl⟩ := Int.eq_ofNat_of_zero_le h.1
  have := List.all_eq_true.1 ZpK x (List.mem_range.2 (by omega))
  rw [Bool.and_eq_true] at this
  exact of_decide_eq_true this.1
theorem sb3 {a b : Int} (ha : 0 ≤ a ∧ a ≤ 15) (hb : 0 ≤ b ∧ b ≤ 15) : bor .u8 (Qn .u8 (a * 16) 240) b = a * 16 + b := by
  obtain ⟨a, rfl⟩ := Int.eq_ofNat_of_zero_le ha.1
  obtain ⟨b, rfl⟩ := Int.eq_ofNat_of_zero_le hb.1
  have h := List.all_eq_true.1 ZpK (a * 16 + b) (List.mem_range.2 (by omega))
  rw [Bool.and_eq_true] at h
  have h := of_decide_eq_true h.2
  rw [show (a * 16 + b) / 16 * 16 = a * 16 by omega, show (a * 16 + b) % 16 = b by omega, show ((a * 16 : Nat) : Int) = (a : Int) * 16 by omega, show ((a * 16 + b : Nat) : Int) = (a : Int) * 16 + b by omega] at h
  exact h
theorem bS0 (f : Vector Int 64) (i k : Nat) : bS f i (3 * k) = if 2 * k < i then wd f (2 * k) / 16 else 0 := by
  unfold bS
  rw [if_pos (by omega), show 3 * k / 3 = k by omega]
theorem bS1 (f : Vector Int 64) (i k : Nat) : bS f i (3 * k + 1) = (if 2 * k < i then wd f (2 * k) % 16 * 16 else 0) + (if 2 * k + 1 < i then wd f (2 * k + 1) / 256 else 0) := by
  unfold bS
  rw [if_neg (by omega), if_pos (by omega), show (3 * k + 1) / 3 = k by omega]
theorem bS2 (f : Vector Int 64) (i k : Nat) : bS f i (3 * k + 2) = if 2 * k + 1 < i then wd f (2 * k + 1) % 256 else 0 := by
  unfold bS
  rw [if_neg (by omega), if_neg (by omega), show (3 * k + 2) / 3 = k by omega]
theorem three (t : Nat) : ∃ k, t = 3 * k ∨ t = 3 * k + 1 ∨ t = 3 * k + 2 := ⟨t / 3, by omega⟩
theorem Zm2 {f : Vector Int 64} (hf : fN f) {v : Vector Int 96} {i : Nat} (hi : i < 64) (hI : ∀ t, t < 96 → rbV v t = bS f i t) :
    ∃ v', X8 v (i : Int) (wd f i) = some v' ∧ ∀ t, t < 96 → rbV v' t = bS f (i + 1) t := by
  have hw := hf i
  unfold X8
  rw [Zpm (by omega), Option.bind_some, Zqi, Option.bind_some]
  obtain ⟨k, hk⟩ : ∃ k, i = 2 * k ∨ i = 2 * k + 1 := ⟨i / 2, by omega⟩
  have ek : i / 2 = k := by omega
  rw [ek]
  have e1 : i64 ((k : Int) * 3) = ((3 * k : Nat) : Int) := (Zl (by omega) (by omega)).trans (by omega)
  have e2 : i64 (((3 * k : Nat) : Int) + 1) = ((3 * k + 1 : Nat) : Int) := (Zl (by omega) (by omega)).trans (by omega)
  have e3 : i64 (((3 * k : Nat) : Int) + 2) = ((3 * k + 2 : Nat) : Int) := (Zl (by omega) (by omega)).trans (by omega)
  rw [e1, e2, e3]
  have k0 : 3 * k < 96 := by omega
  have k1 : 3 * k + 1 < 96 := by omega
  have k2 : 3 * k + 2 < 96 := by omega
  rcases hk with rfl | rfl
  · have s1 : shr .u16 (wd f (2 * k)) 4 = some (wd f (2 * k) / 16) := ZkO (wd f (2 * k)) (k := 4) (by omega)
    have s2 : shl .u16 (wd f (2 * k) % 16) 4 = some (wd f (2 * k) % 16 * 16) := by
      unfold shl
      rw [if_neg (by decide)]
      show some (IntKind.u16.wrap (wd f (2 * k) % 16 * 2 ^ 4)) = _
      rw [show IntKind.u16.wrap (wd f (2 * k) % 16 * 2 ^ 4) = (wd f (2 * k) % 16 * 2 ^ 4) % 65536 from rfl]
      congr 1; omega
    have o1' : rbV v (3 * k + 1) = 0 := by
      rw [hI _ k1, bS1, if_neg (by omega), if_neg (by omega)]; rfl
    rw [if_pos (by simp), s1, Option.bind_some, Zjq v k1, Option.bind_some, Zjq v k0, Option.bind_some, sb1 hw, s2, Option.bind_some]
    have u1 : u8 (wd f (2 * k) / 16) = wd f (2 * k) / 16 := by rw [u8m]; omega
    have u2 : u8 (wd f (2 * k) % 16 * 16) = wd f (2 * k) % 16 * 16 := by rw [u8m]; omega
    rw [u1, u2, Zjq (XN v ((3 * k : Nat) : Int) (wd f (2 * k) / 16)) k1, Option.bind_some, o1', sb2 (by omega)]
    refine ⟨_, rfl, fun t ht => ?_⟩
    rw [Zi4 _ k1, Zi4 v k0 _ t]
    obtain ⟨q, rfl | rfl | rfl⟩ := three t
    · rw [if_neg (by omega), bS0]
      by_cases e : q = k
      · subst e; rw [if_pos rfl, if_pos (by omega)]
      · rw [if_neg (by omega), hI _ ht, bS0]
        have c : (2 * q < 2 * k) ↔ (2 * q < 2 * k + 1) := by omega
        simp only [c]
    · rw [bS1]
      by_cases e : q = k
      · subst e; rw [if_pos rfl, if_pos (by omega), if_neg (by omega), Int.add_zero]
      · rw [if_neg (by omega), if_neg (by omega), hI _ ht, bS1]
        have c : (2 * q < 2 * k) ↔ (2 * q < 2 * k + 1) := by omega
        have c' : (2 * q + 1 < 2 * k) ↔ (2 * q + 1 < 2 * k + 1) := by omega
        simp only [c, c']
    · rw [if_neg (by omega), if_neg (by omega), hI _ ht, bS2, bS2]
      have c' : (2 * q + 1 < 2 * k) ↔ (2 * q + 1 < 2 * k + 1) := by omega
      simp only [c']
  · have s1 : shr .u16 (wd f (2 * k + 1)) 8 = some (wd f (2 * k + 1) / 256) := ZkO (wd f (2 * k + 1)) (k := 8) (by omega)
    have hp := hf (2 * k)
    have o1' : rbV v (3 * k + 1) = wd f (2 * k) % 16 * 16 := by
      rw [hI _ k1, bS1, if_pos (by omega), if_neg (by omega), Int.add_zero]
    have u1 : u8 (wd f (2 * k + 1) / 256) = wd f (2 * k + 1) / 256 := by rw [u8m]; omega
    rw [if_neg (by rw [decide_eq_true_eq]; omega), Zjq v k1, Option.bind_some, s1, Option.bind_some, Option.bind_some, Zjq _ k2, Option.bind_some, o1', u1, sb3 (by omega) (by omega), show u8 (wd f (2 * k + 1)) = wd f (2 * k + 1) % 256 from u8m _]
    refine ⟨_, rfl, fun t ht => ?_⟩
    rw [Zi4 _ k2, Zi4 v k1 _ t]
    obtain ⟨q, rfl | rfl | rfl⟩ := three t
    · rw [if_neg (by omega), if_neg (by omega), hI _ ht, bS0, bS0]
      have c : (2 * q < 2 * k + 1) ↔ (2 * q < 2 * k + 1 + 1) := by omega
      simp only [c]
    · rw [if_neg (by omega), bS1]
      by_cases e : q = k
      · subst e; rw [if_pos rfl, if_pos (by omega), if_pos (by omega)]
      · rw [if_neg (by omega), hI _ ht, bS1]
        have c : (2 * q < 2 * k + 1) ↔ (2 * q < 2 * k + 1 + 1) := by omega
        have c' : (2 * q + 1 < 2 * k + 1) ↔ (2 * q + 1 < 2 * k + 1 + 1) := by omega
        simp only [c, c']
    · rw [bS2]
      by_cases e : q = k
      · subst e; rw [if_pos rfl, if_pos (by omega)]
      · rw [if_neg (by omega), if_neg (by omega), hI _ ht, bS2]
        have c' : (2 * q + 1 < 2 * k + 1) ↔ (2 * q + 1 < 2 * k + 1 + 1) := by omega
        simp only [c']
def Zar (f : Vector Int 64) : List Int := (List.range 96).map fun t => bS f 64 t
theorem Zf3 (f : Vector Int 64) {t : Nat} (h : t < 96) : (Zar f).getD t 0 = bS f 64 t := by
  unfold Zar
  rw [List.getD_eq_getElem?_getD, List.getElem?_map, List.getElem?_range h]; rfl
theorem Zfh (f : Vector Int 64) : (Zar f).length = 96 := by simp [Zar]
theorem ZqW {f : Vector Int 64} (hf : fN f) (t : Nat) : 0 ≤ bS f 64 t ∧ bS f 64 t ≤ 255 := by
  have h1 := hf (2 * (t / 3))
  have h2 := hf (2 * (t / 3) + 1)
  unfold bS
  split
  · split <;> omega
  · split
    · split <;> split <;> omega
    · split <;> omega
theorem Zm3 {f : Vector Int 64} (hf : fN f) : u8R (Zar f) := fun x hx => by
  obtain ⟨t, ht, rfl⟩ := List.mem_map.1 hx
  exact ZqW hf t
theorem Zk7 {f : Vector Int 64} (hf : fN f) : Zfa (Zag (Zar f)) = f := by
  refine ZkD fun i hi => ?_
  rw [Zgl _ hi]
  show _ = wd f i
  unfold Zag
  obtain ⟨k, hk⟩ : ∃ k, i = 2 * k ∨ i = 2 * k + 1 := ⟨i / 2, by omega⟩
  have ek : i / 2 = k := by omega
  rw [ek]
  have h1 := hf (2 * k)
  have h2 := hf (2 * k + 1)
  rcases hk with rfl | rfl
  · rw [if_pos (by omega), Zf3 f (by omega), Zf3 f (by omega), bS0, bS1, if_pos (by omega), if_pos (by omega), if_pos (by omega)]
    omega
  · rw [if_neg (by omega), Zf3 f (by omega), Zf3 f (by omega), bS1, bS2, if_pos (by omega), if_pos (by omega), if_pos (by omega)]
    omega
theorem ZmX {f : Vector Int 64} (hf : fN f) : JW f = some (Zar f, 0) := by
  unfold JW
  have hnb : Zbp f = true := List.all_eq_true.2 fun k _ => by unfold XE; exact decide_eq_true (hf k).2
  rw [Zqe, hnb, Option.bind_some, if_neg (by decide)]
  unfold Zcy
  obtain ⟨v, v1, v2⟩ := ZcT (body := JV f) (s0 := Vector.replicate 96 (0 : Int)) (N := 64) (fun i v => ∀ t, t < 96 → rbV v t = bS f i t) (fun v => ∀ t, t < 96 → rbV v t = bS f 64 t) (fun i v hi hI => .inl (by
    obtain ⟨v', w1, w2⟩ := Zm2 hf hi hI
    refine ⟨v', ?_, w2⟩
    unfold JV
    rw [if_pos (by simp; omega), JA f hi, Option.bind_some, w1, Option.bind_some, show i64 ((i : Int) + 1) = (i : Int) + 1 from Zl (by omega) (by omega)])) (fun v hI => ⟨v, by unfold JV; rw [if_neg (by decide)], hI⟩) (fun t ht => by
    have : rbV (Vector.replicate 96 (0 : Int)) t = 0 := by
      have e : (Vector.replicate 96 (0 : Int)).toList = List.replicate 96 0 := rfl
      unfold rbV
      rw [e, List.getD_eq_getElem?_getD, List.getElem?_replicate, if_pos ht]; rfl
    rw [this]
    unfold bS
    split
    · rw [if_neg (by omega)]
    · split
      · rw [if_neg (by omega), if_neg (by omega)]; rfl
      · rw [if_neg (by omega)])
  rw [v1, Option.bind_some]
  have hv : v.toList = Zar f := Zgj (by rw [Zfh]; simp) fun t ht => by
    have ht' : t < 96 := by simpa using ht
    rw [Zf3 f ht']; exact v2 t ht'
  rw [hv, show slc (Zar f) 0 96 = some (Zar f) from (ZdZ (a := 0) (b := 96) (by omega) (by rw [Zfh]; omega)).trans (by rw [List.take_of_length_le (by rw [Zfh]; omega), List.drop_zero]), Option.bind_some]
end Go.Vx

namespace Go.Vx
open Go Go.RowKit
structure BankJ (mems : List api_Memory) (spots : List ring_spot) : Prop where
  n : 1 ≤ mems.length ∧ mems.length ≤ 8
  ok : ∀ m ∈ mems, MemOK m
  u8 : ∀ m ∈ mems, memR m
  len : spots.length = mems.length
def BankA (mems : List api_Memory) (spots : List ring_spot) : Prop := ∀ k, k < mems.length → SpotOK (mems.getD k dfM) (spots.getD k dfS)
structure RecJ (r : ring_Recorder) : Prop where
  b : BankJ r.bank.memories r.bank.spots
  a : r.stopped = false → BankA r.bank.memories r.bank.spots
  cp : 1 ≤ r.copies ∧ r.copies ≤ r.bank.memories.length
theorem Zn0 {l : List api_Memory} {k : Nat} (h : k < l.length) : l[k]? = some (l.getD k dfM) := (Zfz h).2
theorem Zme {l : List ring_spot} {k : Nat} (h : k < l.length) : l[k]? = some (l.getD k dfS) := by
  rw [List.getD_eq_getElem?_getD, List.getElem?_eq_getElem h]; rfl
theorem ZdS {α : Type} {l : List α} {i k : Nat} {x d : α} (hi : i < l.length) : (l.set i x).getD k d = if k = i then x else l.getD k d := by
  rw [List.getD_eq_getElem?_getD, List.getElem?_set]
  by_cases e : i = k
  · subst e; rw [if_pos rfl, if_pos hi, if_pos rfl]; rfl
  · rw [if_neg e, if_neg (fun q => e q.symm), List.getD_eq_getElem?_getD]
theorem Zid {l : List api_Memory} {x : api_Kept} : x ∈ JX l ↔ ∃ k : Nat, k < l.length ∧ x ∈ keptM (l.getD k dfM) (k : Int) := by
  unfold JX
  rw [List.mem_flatMap]
  exact ⟨fun ⟨k, a, b⟩ => ⟨k, List.mem_range.1 a, b⟩, fun ⟨k, a, b⟩ => ⟨k, List.mem_range.2 a, b⟩⟩
theorem Zlz {l : List api_Memory} {k : Nat} {m' : api_Memory} (hk : k < l.length) {P : api_Kept → Prop} (h : ∀ x, x ∈ keptM m' (k : Int) → x ∈ keptM (l.getD k dfM) (k : Int) ∨ P x) {x : api_Kept} (hx : x ∈ JX (l.set k m')) : x ∈ JX l ∨ P x := by
  obtain ⟨z, z1, z2⟩ := Zid.1 hx
  rw [List.length_set] at z1
  rw [ZdS hk] at z2
  by_cases e : z = k
  · subst e
    rw [if_pos rfl] at z2
    rcases h x z2 with w | w
    · exact .inl (Zid.2 ⟨z, z1, w⟩)
    · exact .inr w
  · rw [if_neg e] at z2
    exact .inl (Zid.2 ⟨z, z1, z2⟩)
theorem BankJ.set {mems : List api_Memory} {spots : List ring_spot} (h : BankJ mems spots) {k : Nat} {m' : api_Memory} (ok : MemOK m') (u : memR m') {spots' : List ring_spot} (hl : spots'.length = spots.length) : BankJ (mems.set k m') spots' := by
  refine ⟨by rw [List.length_set]; exact h.n, fun m hm => ?_, fun m hm => ?_, by rw [List.length_set, hl]; exact h.len⟩
  · rcases List.mem_or_eq_of_mem_set hm with q | rfl
    · exact h.ok m q
    · exact ok
  · rcases List.mem_or_eq_of_mem_set hm with q | rfl
    · exact h.u8 m q
    · exact u
theorem Zp5 {f : Vector Int 64} (hf : fU f) (h : Zib f = true) : fN f ∧ Jc f = some (Zk4 f) ∧ 0 ≤ (Zk4 f).1 ∧ (Zk4 f).1 ≤ 4194303 := by
  unfold Zib at h
  rw [Bool.and_eq_true] at h
  have hn : fN f := fun i => by
    refine ⟨(hf i).1, ?_⟩
    by_cases hi : i < 64
    · exact ZhZ h.1 i hi
    · have : wd f i = 0 := by
        unfold wd
        rw [List.getD_eq_getElem?_getD, List.getElem?_eq_none (by simp; omega)]; rfl
      omega
  refine ⟨hn, (Zof hf (hn 1).2 (hn 2).2).1, ?_⟩
  have := Zkt f
  unfold Zk4
  split
  · simp only; omega
  · simp
def tgV (a c n : Nat) : List Int := (List.range c).map fun k => (((a + k) % n : Nat) : Int)
theorem ZmN {a c n : Nat} (h1 : a ≤ 4194303) (h2 : 1 ≤ n ∧ n ≤ 8) (h3 : 1 ≤ c ∧ c ≤ n) : Zap (a : Int) (n : Int) (c : Int) = some (tgV a c n) := by
  unfold Zap
  rw [ZrH (number := (a : Int)) (memories := (n : Int)) (copies := (c : Int)) ⟨by omega, by omega⟩ ⟨by omega, by omega⟩ ⟨by omega, by omega⟩]
  rfl
theorem Zmf {a c n k : Nat} (h : k < c) : (tgV a c n)[k]? = some (((a + k) % n : Nat) : Int) := by
  unfold tgV
  rw [List.getElem?_map, List.getElem?_range h]; rfl
theorem ZqD {a n i j : Nat} (hi : i < n) (hj : j < n) (h : (a + i) % n = (a + j) % n) : i = j := by
  rcases Nat.lt_trichotomy i j with w | w | w
  · have := Nat.sub_mod_eq_zero_of_mod_eq h.symm
    rw [show a + j - (a + i) = j - i by omega, Nat.mod_eq_of_lt (by omega)] at this
    omega
  · exact w
  · have := Nat.sub_mod_eq_zero_of_mod_eq h
    rw [show a + i - (a + j) = i - j by omega, Nat.mod_eq_of_lt (by omega)] at this
    omega
def Zku (m : api_Memory) (s : ring_spot) : Prop := ZaY m s = true → 0 ≤ ZaG m s.sector ∧ ZfE m (ZaG m s.sector) ≤ 1073741824
theorem Zks {m : api_Memory} {s : ring_spot} (ok : MemOK m) (h : SpotOK m s) : -1 ≤ s.sector ∧ s.sector < m.Sectors.length := by
  have := ok.n
  rcases h.sec with w | w <;> omega
theorem Zpq {b : ring_bank} (hJ : BankJ b.memories b.spots) (hA : BankA b.memories b.spots) {c n : Nat} (a : Nat) (hn : n = b.memories.length) (hc : c ≤ n) :
    ∃ e, XW b (tgV a c n) = some e ∧ (e = 0 ↔ ∀ i, i < c → Zku (b.memories.getD ((a + i) % n) dfM) (b.spots.getD ((a + i) % n) dfS)) := by
  have hb := hJ.n
  have hlen : (tgV a c n).length = c := by simp [tgV]
  have at_ : ∀ i, i < c → ((a + i) % n) < b.memories.length := fun i hi => by rw [← hn]; exact Nat.mod_lt _ (by omega)
  have w : ∀ i, i < c → QI b (((a + i) % n : Nat) : Int) = some (ZaY (b.memories.getD ((a + i) % n) dfM) (b.spots.getD ((a + i) % n) dfS)) ∧
      Q6 b (((a + i) % n : Nat) : Int) = some (ZaG (b.memories.getD ((a + i) % n) dfM) (b.spots.getD ((a + i) % n) dfS).sector) ∧
      ∀ z, QC b (((a + i) % n : Nat) : Int) z = some (ZfE (b.memories.getD ((a + i) % n) dfM) z) := fun i hi => by
    have h1 := Zn0 (at_ i hi)
    have h2 := Zme (l := b.spots) (k := (a + i) % n) (by rw [hJ.len]; exact at_ i hi)
    have hm := (Zfz (at_ i hi)).1
    have sp := Zks (hJ.ok _ hm) (hA _ (at_ i hi))
    exact ⟨Zlj h1 h2, Zoz h1 h2 (hJ.ok _ hm) sp.1 sp.2, fun z => ZpF h1 (hJ.u8 _ hm) (hJ.ok _ hm) z⟩
  unfold XW
  obtain ⟨r1, e1, q1⟩ := Zfp (body := Q8 b (tgV a c n)) (N := c) (fun k => ∀ i, i < k → ZaY (b.memories.getD ((a + i) % n) dfM) (b.spots.getD ((a + i) % n) dfS) = true → 0 ≤ ZaG (b.memories.getD ((a + i) % n) dfM) (b.spots.getD ((a + i) % n) dfS).sector)
    (fun r => (∃ e, r = .inl e ∧ e ≠ 0 ∧ ∃ i, i < c ∧ ZaY (b.memories.getD ((a + i) % n) dfM) (b.spots.getD ((a + i) % n) dfS) = true ∧ ZaG (b.memories.getD ((a + i) % n) dfM) (b.spots.getD ((a + i) % n) dfS).sector < 0) ∨ (r = .inr () ∧ ∀ i, i < c → ZaY (b.memories.getD ((a + i) % n) dfM) (b.spots.getD ((a + i) % n) dfS) = true → 0 ≤ ZaG (b.memories.getD ((a + i) % n) dfM) (b.spots.getD ((a + i) % n) dfS).sector)) (fun k hk hI => by
      obtain ⟨w1, w2, w3⟩ := w k hk
      unfold Q8
      rw [if_pos (by rw [hlen]; simpa using hk), Zz (Zmf hk), Option.bind_some, w1, Option.bind_some, w2, show i64 ((k : Int) + 1) = (k : Int) + 1 from Zl (by omega) (by omega)]
      cases hL : ZaY (b.memories.getD ((a + k) % n) dfM) (b.spots.getD ((a + k) % n) dfS) with
      | false =>
        left
        refine ⟨by simp [gd], fun i hi hLi => ?_⟩
        by_cases e : i = k
        · subst e; rw [hL] at hLi; cases hLi
        · exact hI i (by omega) hLi
      | true =>
        simp only [gd, beq_self_eq_true, if_true, Option.bind_some, Bool.true_and]
        by_cases q : ZaG (b.memories.getD ((a + k) % n) dfM) (b.spots.getD ((a + k) % n) dfS).sector < 0
        · right
          exact ⟨_, by rw [if_pos (decide_eq_true q)], .inl ⟨4, rfl, by decide, k, hk, hL, q⟩⟩
        · left
          refine ⟨by rw [if_neg (by rw [decide_eq_true_eq]; exact q)], fun i hi hLi => ?_⟩
          by_cases e : i = k
          · subst e; omega
          · exact hI i (by omega) hLi) (fun hI => ⟨.inr (), by unfold Q8; rw [hlen, if_neg (by simp)], .inr ⟨rfl, hI⟩⟩) (fun i hi => absurd hi (Nat.not_lt_zero _))
  rw [e1]
  rcases q1 with ⟨e, rfl, he, i, i1, i2, i3⟩ | ⟨rfl, q1⟩
  · refine ⟨e, rfl, fun q => absurd q he, fun h => ?_⟩
    have := (h i i1 i2).1
    omega
  · simp only [Option.bind_some, Sum.elim_inr, Zoi]
    obtain ⟨r2, e2, q2⟩ := Zfp (body := Q9 b (tgV a c n)) (N := c) (fun k => ∀ i, i < k → Zku (b.memories.getD ((a + i) % n) dfM) (b.spots.getD ((a + i) % n) dfS))
      (fun r => (∃ e, r = .inl e ∧ e ≠ 0 ∧ ∃ i, i < c ∧ ¬ Zku (b.memories.getD ((a + i) % n) dfM) (b.spots.getD ((a + i) % n) dfS)) ∨ (r = .inr () ∧ ∀ i, i < c → Zku (b.memories.getD ((a + i) % n) dfM) (b.spots.getD ((a + i) % n) dfS))) (fun k hk hI => by
        obtain ⟨w1, w2, w3⟩ := w k hk
        unfold Q9
        rw [if_pos (by rw [hlen]; simpa using hk), Zz (Zmf hk), Option.bind_some, w1, Option.bind_some, w2, show i64 ((k : Int) + 1) = (k : Int) + 1 from Zl (by omega) (by omega)]
        cases hL : ZaY (b.memories.getD ((a + k) % n) dfM) (b.spots.getD ((a + k) % n) dfS) with
        | false =>
          left
          refine ⟨by simp [gd], fun i hi hLi => ?_⟩
          by_cases e : i = k
          · subst e; rw [hL] at hLi; cases hLi
          · exact hI i (by omega) hLi
        | true =>
          simp only [gd, beq_self_eq_true, if_true, Option.bind_some, Bool.true_and]
          rw [w3, Option.bind_some]
          by_cases q : 1073741824 < ZfE (b.memories.getD ((a + k) % n) dfM) (ZaG (b.memories.getD ((a + k) % n) dfM) (b.spots.getD ((a + k) % n) dfS).sector)
          · right
            exact ⟨_, by rw [if_pos (decide_eq_true q)], .inl ⟨3, rfl, by decide, k, hk, fun h => by have := (h hL).2; omega⟩⟩
          · left
            refine ⟨by rw [if_neg (by rw [decide_eq_true_eq]; exact q)], fun i hi hLi => ?_⟩
            by_cases e : i = k
            · subst e; exact ⟨q1 i hk hL, by omega⟩
            · exact hI i (by omega) hLi) (fun hI => ⟨.inr (), by unfold Q9; rw [hlen, if_neg (by simp)], .inr ⟨rfl, hI⟩⟩) (fun i hi => absurd hi (Nat.not_lt_zero _))
    rw [e2]
    rcases q2 with ⟨e, rfl, he, i, i1, i2⟩ | ⟨rfl, q2⟩
    · exact ⟨e, rfl, fun q => absurd q he, fun h => absurd (h i i1) i2⟩
    · exact ⟨0, rfl, fun _ => q2, fun _ => rfl⟩
theorem ZnO (r : ring_Recorder) (p : Int) : ∃ e, QT r p = some e ∧ (e = 0 ↔ r.stopped = false ∧ r.frozen = false ∧ 0 ≤ p ∧ p ≤ 1000000000) := by
  unfold QT
  rw [Zd4]
  cases h1 : r.stopped with
  | true => exact ⟨15, by simp, by simp⟩
  | false =>
    cases h2 : r.frozen with
    | true => exact ⟨11, by simp, by simp⟩
    | false =>
      by_cases h : 0 ≤ p ∧ p ≤ 1000000000
      · exact ⟨0, by simp [h.1, h.2], by simp [h.1, h.2]⟩
      · have hf : (decide (0 ≤ p) && decide (p ≤ 1000000000)) = false := by simpa using h
        refine ⟨9, by simp [hf], ?_⟩
        constructor
        · intro q; cases q
        · rintro ⟨_, _, q⟩; exact absurd q h
end Go.Vx

namespace Go.Vx
open Go Go.RowKit
theorem ZnE {r : ring_Recorder} (hJ : RecJ r) {f : Vector Int 64} (hf : fU f) (p : Int) :
    ∃ left all e r', Qu r f p = some (left, all, e, r') ∧ RecJ r' ∧ r'.bank.memories.length = r.bank.memories.length ∧ r'.copies = r.copies ∧
      ∀ x ∈ JX r'.bank.memories, x ∈ JX r.bank.memories ∨ (Zib f = true ∧ x.Frame = f) := by
  obtain ⟨e, e1, e2⟩ := ZnO r p
  unfold Qu
  rw [e1, Option.bind_some]
  have same : ∀ x ∈ JX r.bank.memories, x ∈ JX r.bank.memories ∨ (Zib f = true ∧ x.Frame = f) := fun x hx => .inl hx
  by_cases h0 : e = 0
  · rw [if_neg (by simp [h0]), Zo8 hf, Option.bind_some]
    have hfl := Znm hf
    by_cases hs : Zib f = false
    · rw [if_pos (by rw [decide_eq_true_eq]; have := hfl.2 hs; omega)]
      exact ⟨_, _, _, r, rfl, hJ, rfl, rfl, same⟩
    · have hs' : Zib f = true := by simpa using hs
      rw [if_neg (by rw [decide_eq_true_eq]; intro q; exact hs (hfl.1 (by omega)))]
      obtain ⟨fn, fq, fb1, fb2⟩ := Zp5 hf hs'
      obtain ⟨st, fz, hp⟩ := e2.1 h0
      have hA := hJ.a st
      have hn := hJ.b.n
      have hcp := hJ.cp
      obtain ⟨a, ha⟩ := Int.eq_ofNat_of_zero_le fb1
      obtain ⟨c, hc⟩ := Int.eq_ofNat_of_zero_le (show 0 ≤ r.copies by omega)
      obtain ⟨q, q1, q2⟩ := Zpq (b := r.bank) hJ.b hA (c := c) a rfl (by omega)
      rw [fq, Option.bind_some, ha, hc, ZmN (by omega) hn (by omega), Option.bind_some, q1, Option.bind_some]
      by_cases hq : q = 0
      · have hr := q2.1 hq
        rw [if_neg (by simp [hq]), ZmX fn, Option.bind_some]
        have hlen : (tgV a c r.bank.memories.length).length = c := by simp [tgV]
        have at_ : ∀ i, i < c → ((a + i) % r.bank.memories.length) < r.bank.memories.length := fun i hi => Nat.mod_lt _ (by omega)
        -- round by round
        obtain ⟨z, z1, z2⟩ := ZeU (body := t9 (ZX (tgV a c r.bank.memories.length) (Zar f, 0))) (fun s => ∃ (mems : List api_Memory) (spots : List ring_spot) (pw : Int) (k : Nat), s = (mems, spots, r.copies, r.frozen, r.stopped, r.last, r.some_, pw, (k : Int)) ∧ k ≤ c ∧ (0 ≤ pw ∧ pw ≤ 1000000000) ∧
            mems.length = r.bank.memories.length ∧ BankJ mems spots ∧ BankA mems spots ∧ (∀ i, k ≤ i → i < c → mems.getD ((a + i) % r.bank.memories.length) dfM = r.bank.memories.getD ((a + i) % r.bank.memories.length) dfM ∧ spots.getD ((a + i) % r.bank.memories.length) dfS = r.bank.spots.getD ((a + i) % r.bank.memories.length) dfS) ∧
            ∀ x ∈ JX mems, x ∈ JX r.bank.memories ∨ (Zib f = true ∧ x.Frame = f)) (fun s => c - s.2.2.2.2.2.2.2.2.toNat)
          (fun z => (∃ left all e r', z = .inl (left, all, e, r') ∧ RecJ r' ∧ r'.bank.memories.length = r.bank.memories.length ∧ r'.copies = r.copies ∧ ∀ x ∈ JX r'.bank.memories, x ∈ JX r.bank.memories ∨ (Zib f = true ∧ x.Frame = f)) ∨
            (∃ mems spots pw, z = .inr (mems, spots, r.copies, r.frozen, r.stopped, r.last, r.some_, pw) ∧ mems.length = r.bank.memories.length ∧ BankJ mems spots ∧ BankA mems spots ∧ ∀ x ∈ JX mems, x ∈ JX r.bank.memories ∨ (Zib f = true ∧ x.Frame = f))) (by
            rintro s ⟨mems, spots, pw, k, rfl, hk, hpw, hl, bJ, bA, un, kp⟩
            show (∃ s', ZX (tgV a c r.bank.memories.length) (Zar f, 0) mems spots r.copies r.frozen r.stopped r.last r.some_ pw (k : Int) = some (.inl s') ∧ _) ∨ ∃ z, ZX (tgV a c r.bank.memories.length) (Zar f, 0) mems spots r.copies r.frozen r.stopped r.last r.some_ pw (k : Int) = some (.inr z) ∧ _
            unfold ZX
            rcases Nat.lt_or_ge k c with hkc | hkc
            · have hlt := at_ k hkc
              have ht : ((a + k) % r.bank.memories.length) < mems.length := by rw [hl]; exact hlt
              have g1 := Zn0 ht
              have g2 := Zme (l := spots) (k := (a + k) % r.bank.memories.length) (by rw [bJ.len]; exact ht)
              obtain ⟨u1, u2⟩ := un k (Nat.le_refl _) hkc
              have hm := (Zfz ht).1
              have hrd := hr k hkc
              rw [← u1, ← u2] at hrd
              obtain ⟨w1, w2, w3, w4⟩ := Zph (r := ⟨⟨mems, spots⟩, r.copies, r.frozen, r.stopped, r.last, r.some_⟩) g1 g2 (bJ.u8 _ hm) (bJ.ok _ hm) (bA _ ht) hrd (Zfh f) (Zm3 fn) hpw
              rw [if_pos (by rw [hlen]; simpa using hkc), Zz (Zmf hkc), Option.bind_some,
                show slc (Zar f) 0 ((Zar f).length : Int) = some (Zar f) from (ZdZ (a := 0) (b := (Zar f).length) (by omega) (Nat.le_refl _)).trans (by rw [List.take_length, List.drop_zero]), Option.bind_some, w1, Option.bind_some, show i64 ((k : Int) + 1) = (k : Int) + 1 from Zl (by omega) (by omega)]
              generalize Zd2 (mems.getD ((a + k) % r.bank.memories.length) dfM) (spots.getD ((a + k) % r.bank.memories.length) dfS) (Zar f) pw = A at w2 w3 w4
              have nJ : BankJ (mems.set ((a + k) % r.bank.memories.length) A.2.2.1) (spots.set ((a + k) % r.bank.memories.length) A.2.2.2) := bJ.set w2.ok w2.u8 (List.length_set ..)
              have nk : ∀ x ∈ JX (mems.set ((a + k) % r.bank.memories.length) A.2.2.1), x ∈ JX r.bank.memories ∨ (Zib f = true ∧ x.Frame = f) := fun x hx => by
                rcases Zlz ht (P := fun x => x.Frame = f) (fun y hy => by
                  rcases w2.kept _ y hy with v | ⟨_, v⟩
                  · exact .inl v
                  · right; rw [v, Zk7 fn]) hx with v | v
                · exact kp x v
                · exact .inr ⟨hs', v⟩
              cases hall : A.2.1 with
              | false =>
                right
                refine ⟨.inl (A.1, false, 0, ⟨⟨mems.set ((a + k) % r.bank.memories.length) A.2.2.1, spots.set ((a + k) % r.bank.memories.length) A.2.2.2⟩, r.copies, r.frozen, true, r.last, r.some_⟩), by simp only [Bool.not_false, if_true], .inl ⟨A.1, false, 0, ⟨⟨mems.set ((a + k) % r.bank.memories.length) A.2.2.1, spots.set ((a + k) % r.bank.memories.length) A.2.2.2⟩, r.copies, r.frozen, true, r.last, r.some_⟩, rfl, ⟨nJ, fun q => by simp at q, ?_⟩, by simp only [List.length_set]; exact hl, rfl, nk⟩⟩
                simp only [List.length_set]; rw [hl]; exact hJ.cp
              | true =>
                left
                have sp := w2.at_ hall
                refine ⟨(mems.set ((a + k) % r.bank.memories.length) A.2.2.1, spots.set ((a + k) % r.bank.memories.length) A.2.2.2, r.copies, r.frozen, r.stopped, r.last, r.some_, A.1, (k : Int) + 1), by simp only [Bool.not_true, Bool.false_eq_true, if_false], ⟨_, _, A.1, k + 1, rfl, hkc, by omega, by rw [List.length_set]; exact hl, nJ, fun j hj => ?_, fun i hi hic => ?_, nk⟩, by simp only; omega⟩
                · rw [List.length_set] at hj
                  rw [ZdS ht, ZdS (by rw [bJ.len]; exact ht)]
                  by_cases e' : j = (a + k) % r.bank.memories.length
                  · rw [if_pos e', if_pos e']; exact sp
                  · rw [if_neg e', if_neg e']; exact bA j hj
                · have hne : (a + i) % r.bank.memories.length ≠ (a + k) % r.bank.memories.length := fun q => by
                    have := ZqD (a := a) (n := r.bank.memories.length) (by omega) (by omega) q
                    omega
                  rw [ZdS ht, ZdS (by rw [bJ.len]; exact ht), if_neg hne, if_neg hne]
                  exact un i (by omega) hic
            · have : k = c := by omega
              subst this
              right
              exact ⟨_, by rw [if_neg (by rw [hlen]; simp)], .inr ⟨mems, spots, pw, rfl, hl, bJ, bA, kp⟩⟩) (r.bank.memories, r.bank.spots, r.copies, r.frozen, r.stopped, r.last, r.some_, p, 0) ⟨_, _, p, 0, rfl, Nat.zero_le _, hp, rfl, hJ.b, hA, fun i _ _ => ⟨rfl, rfl⟩, same⟩
        have hloop : loop (t9 (ZX (tgV a c r.bank.memories.length) (Zar f, 0))) (r.bank.memories, r.bank.spots, (c : Int), r.frozen, r.stopped, r.last, r.some_, p, 0) = some z := by rw [← hc]; exact z1
        rw [hloop, Option.bind_some]
        rcases z2 with ⟨left, all, e', r', rfl, k1, k2, k3, k4⟩ | ⟨mems, spots, pw, rfl, k1, k2, k3, k4⟩
        · exact ⟨left, all, e', r', rfl, k1, k2, k3.trans hc, k4⟩
        · simp only [Sum.elim_inr, ZnT]
          refine ⟨_, _, _, _, rfl, ⟨k2, fun _ => k3, ?_⟩, k1, hc, k4⟩
          simp only; rw [k1]; exact hJ.cp
      · rw [if_pos (by simp [hq])]
        exact ⟨_, _, _, r, rfl, hJ, rfl, hc, same⟩
  · rw [if_pos (by simp [h0])]
    exact ⟨_, _, _, r, rfl, hJ, rfl, rfl, same⟩
theorem Zp2 {m : api_Memory} {s : ring_spot} (ok : MemOK m) (hR : memR m) (hs : SpotOK m s) (h1 : 0 ≤ s.sector) (p : Int) :
    MemOK (Jh m s.sector.toNat (Zac (m.Sectors.getD s.sector.toNat []) 10 [0] p).2.2 m.Wear) ∧ memR (Jh m s.sector.toNat (Zac (m.Sectors.getD s.sector.toNat []) 10 [0] p).2.2 m.Wear) ∧
    SpotOK (Jh m s.sector.toNat (Zac (m.Sectors.getD s.sector.toNat []) 10 [0] p).2.2 m.Wear) s ∧
    ∀ mi x, x ∈ keptM (Jh m s.sector.toNat (Zac (m.Sectors.getD s.sector.toNat []) 10 [0] p).2.2 m.Wear) mi → x ∈ keptM m mi := by
  have hb := Zks ok hs
  obtain ⟨i, hi⟩ := Int.eq_ofNat_of_zero_le h1
  rw [hi]
  simp only [Int.toNat_natCast]
  have hil : i < m.Sectors.length := by omega
  have hrow := ok.row _ (row_bd.getD_memL hil)
  have hsl := ok.slots
  have hlen := Zhz [0] (m.Sectors.getD i []) 10 p
  have hpu := Zi9 [0] (m.Sectors.getD i []) 10 p (ZcR hR i)
  have hout : ∀ k, k < 10 ∨ 11 ≤ k → (Zac (m.Sectors.getD i []) 10 [0] p).2.2.getD k 0 = (m.Sectors.getD i []).getD k 0 := fun k hk => ZfX _ _ _ _ _ (by simpa using hk)
  generalize Zac (m.Sectors.getD i []) 10 [0] p = P at hlen hpu hout
  obtain ⟨o', r'⟩ := Zhv ok hR hil hlen hpu rfl ok.wr
  have oth : ∀ k : Nat, (k : Int) < m.Slots → slotL P.2.2 k = slotL (m.Sectors.getD i []) k := fun k hk => ZgR hlen (by omega) fun z z1 z2 => hout z (.inr (by omega))
  have hhead := ZjJ (s := P.2.2) (t := m.Sectors.getD i []) hlen (fun k hk => hout k (.inl hk))
  refine ⟨o', r', ⟨by simpa [Jh] using hs.sec, hs.slot, fun hz j hj hjs => ?_⟩, fun mi x hx => ?_⟩
  · have hjs' : (j : Int) < m.Slots := hjs
    have := hs.free h1 j hj hjs'
    rw [hi] at this ⊢
    simp only [Int.toNat_natCast] at this ⊢
    rw [show (Jh m i P.2.2 m.Wear).Sectors.getD i [] = P.2.2 from (Zgr hil).trans (by rw [if_pos rfl]), oth j hjs']
    exact this
  · rcases Zgq ok hR hil hlen hpu rfl ok.wr hx with w | ⟨w1, w2, k, k1, k2, rfl⟩
    · exact w
    · rw [oth k k1] at k2
      have hF : frV P.2.2 k = frV (m.Sectors.getD i []) k := by unfold frV; rw [oth k k1]
      refine (Zgp hR ok).2 ⟨i, hil, ?_, k, k1, k2, by rw [hhead.1, hF]⟩
      unfold okM
      rw [w2, ← hhead.2, w1]; rfl
theorem ZnW {r : ring_Recorder} (hJ : RecJ r) (p : Int) :
    ∃ left all e r', XR r p = some (left, all, e, r') ∧ RecJ r' ∧ r'.bank.memories.length = r.bank.memories.length ∧ r'.copies = r.copies ∧
      ∀ x ∈ JX r'.bank.memories, x ∈ JX r.bank.memories := by
  obtain ⟨e, e1, e2⟩ := ZnO r p
  unfold XR
  rw [e1, Option.bind_some]
  by_cases h0 : e = 0
  · obtain ⟨st, fz, hp⟩ := e2.1 h0
    have hA := hJ.a st
    have hn := hJ.b.n
    rw [if_neg (by simp [h0])]
    obtain ⟨z, z1, z2⟩ := Zlq (body := Xd r) (a0 := r.bank.memories) (b0 := p) (N := r.bank.spots.length) (fun k mems pw => (0 ≤ pw ∧ pw ≤ 1000000000) ∧ mems.length = r.bank.memories.length ∧ BankJ mems r.bank.spots ∧ BankA mems r.bank.spots ∧ ∀ x ∈ JX mems, x ∈ JX r.bank.memories)
      (fun z => (∃ left all e r', z = .inl (left, all, e, r') ∧ RecJ r' ∧ r'.bank.memories.length = r.bank.memories.length ∧ r'.copies = r.copies ∧ ∀ x ∈ JX r'.bank.memories, x ∈ JX r.bank.memories) ∨
        (∃ mems pw, z = .inr (mems, pw) ∧ mems.length = r.bank.memories.length ∧ BankJ mems r.bank.spots ∧ BankA mems r.bank.spots ∧ ∀ x ∈ JX mems, x ∈ JX r.bank.memories)) (fun k mems pw hk hI => by
        obtain ⟨hpw, hl, bJ, bA, kp⟩ := hI
        have hkm : k < mems.length := by rw [← bJ.len]; exact hk
        have g1 := Zn0 hkm
        have g2 := Zme hk
        have hm := (Zfz hkm).1
        have sp := bA k hkm
        have ok := bJ.ok _ hm
        have hsl := ok.slots
        have ek : i64 ((k : Int) + 1) = (k : Int) + 1 := Zl (by omega) (by omega)
        unfold Xd
        rw [if_pos (by simpa using hk), Zz g2, Option.bind_some, ek]
        by_cases hs : (r.bank.spots.getD k dfS).sector < 0
        · left
          exact ⟨mems, pw, by rw [if_pos (decide_eq_true hs)], hpw, hl, bJ, bA, kp⟩
        · have hs0 : 0 ≤ (r.bank.spots.getD k dfS).sector := by omega
          have hb := Zks ok sp
          obtain ⟨f1, f2, f3, f4⟩ := Zp2 ok (bJ.u8 _ hm) sp hs0 pw
          have hpow := ZfL [0] ((mems.getD k dfM).Sectors.getD (r.bank.spots.getD k dfS).sector.toNat []) 10 pw hpw.1
          obtain ⟨i, hi⟩ := Int.eq_ofNat_of_zero_le hs0
          have hil : i < (mems.getD k dfM).Sectors.length := by omega
          have hrow := ok.row _ (row_bd.getD_memL hil)
          rw [if_neg (by rw [decide_eq_true_eq]; exact hs), Zz g1, Option.bind_some, hi, Zz (Xs hil []), Option.bind_some, Option.bind_some, Option.bind_some]
          rw [hi] at f1 f2 f3 f4 hpow
          simp only [Int.toNat_natCast] at f1 f2 f3 f4 hpow ⊢
          rw [show Qm ((mems.getD k dfM).Sectors.getD i []) 10 [0] pw = some (Zac ((mems.getD k dfM).Sectors.getD i []) 10 [0] pw) from Zl8 (a := 10) (by omega) (by simp only [List.length_cons, List.length_nil]; omega) hpw, Option.bind_some]
          generalize Zac ((mems.getD k dfM).Sectors.getD i []) 10 [0] pw = P at f1 f2 f3 f4 hpow
          have nJ : BankJ (mems.set k (Jh (mems.getD k dfM) i P.2.2 (mems.getD k dfM).Wear)) r.bank.spots := bJ.set f1 f2 rfl
          have nA : BankA (mems.set k (Jh (mems.getD k dfM) i P.2.2 (mems.getD k dfM).Wear)) r.bank.spots := fun j hj => by
            rw [List.length_set] at hj
            rw [ZdS hkm]
            by_cases e' : j = k
            · rw [if_pos e', e']; exact f3
            · rw [if_neg e']; exact bA j hj
          have nk : ∀ x ∈ JX (mems.set k (Jh (mems.getD k dfM) i P.2.2 (mems.getD k dfM).Wear)), x ∈ JX r.bank.memories := fun x hx => by
            rcases Zlz hkm (P := fun _ => False) (fun y hy => .inl (f4 _ y hy)) hx with v | v
            · exact kp x v
            · exact v.elim
          cases hall : P.2.1 with
          | false =>
            right
            refine ⟨.inl (P.1, false, 0, ⟨⟨mems.set k (Jh (mems.getD k dfM) i P.2.2 (mems.getD k dfM).Wear), r.bank.spots⟩, r.copies, true, true, r.last, r.some_⟩), by simp only [Bool.not_false, if_true]; rfl, .inl ⟨P.1, false, 0, ⟨⟨mems.set k (Jh (mems.getD k dfM) i P.2.2 (mems.getD k dfM).Wear), r.bank.spots⟩, r.copies, true, true, r.last, r.some_⟩, rfl, ⟨nJ, fun q => by simp at q, ?_⟩, by simp only [List.length_set]; exact hl, rfl, nk⟩⟩
            simp only [List.length_set]; rw [hl]; exact hJ.cp
          | true =>
            left
            exact ⟨mems.set k (Jh (mems.getD k dfM) i P.2.2 (mems.getD k dfM).Wear), P.1, by simp only [Bool.not_true, Bool.false_eq_true, if_false]; rfl, by omega, by rw [List.length_set]; exact hl, nJ, nA, nk⟩) (fun mems pw hI => ⟨.inr (mems, pw), by unfold Xd; rw [if_neg (by simp)], .inr ⟨mems, pw, rfl, hI.2.1, hI.2.2.1, hI.2.2.2.1, hI.2.2.2.2⟩⟩) ⟨hp, rfl, hJ.b, hA, fun x hx => hx⟩
    rw [z1, Option.bind_some]
    rcases z2 with ⟨left, all, e', r', rfl, k1, k2, k3, k4⟩ | ⟨mems, pw, rfl, k1, k2, k3, k4⟩
    · exact ⟨left, all, e', r', rfl, k1, k2, k3, k4⟩
    · simp only [Sum.elim_inr, QU]
      refine ⟨_, _, _, _, rfl, ⟨k2, fun _ => k3, ?_⟩, k1, rfl, k4⟩
      simp only; rw [k1]; exact hJ.cp
  · rw [if_pos (by simp [h0])]
    exact ⟨_, _, _, r, rfl, hJ, rfl, rfl, fun x hx => hx⟩
end Go.Vx

namespace Go.Vx
open Go Go.RowKit
theorem ZqS {s : List api_Kept} (hl : s.length ≤ 9223372036854775806) (v : api_Kept) : ∃ b, Qb s v = some b ∧ (v ∈ s → b = true) := by
  unfold Qb QX
  obtain ⟨r, r1, r2⟩ := Zfp (body := Qc s v) (N := s.length) (fun k => ∀ j, j < k → s[j]? ≠ some v) (fun r => (∃ z : Int, r = .inl z ∧ 0 ≤ z) ∨ (r = .inr () ∧ v ∉ s)) (fun k hk hI => by
    obtain ⟨x, hx⟩ := ZaW hk
    unfold Qc
    rw [if_pos (by simpa using hk), Zz hx, Option.bind_some, show i64 ((k : Int) + 1) = (k : Int) + 1 from Zl (by omega) (by omega)]
    by_cases q : v = x
    · right
      subst q
      exact ⟨_, by rw [if_pos (by simp)], .inl ⟨k, rfl, by omega⟩⟩
    · left
      refine ⟨by
        rw [if_neg]
        intro h
        simp only [Bool.and_eq_true, decide_eq_true_eq, and_true] at h
        obtain ⟨h1, h2, h3, h4, h5⟩ := h
        apply q
        cases v; cases x
        simp only at h1 h2 h3 h4 h5
        subst h1 h2 h3 h4 h5; rfl, fun j hj => ?_⟩
      by_cases e : j = k
      · subst e; rw [hx]; exact fun w => q (Option.some.inj w).symm
      · exact hI j (by omega)) (fun hI => ⟨.inr (), by unfold Qc; rw [if_neg (by simp)], .inr ⟨rfl, fun hv => by
        obtain ⟨j, hj, e⟩ := List.getElem_of_mem hv
        exact hI j hj (by rw [List.getElem?_eq_getElem hj, e])⟩⟩) (fun j hj => absurd hj (Nat.not_lt_zero _))
  rw [r1]
  rcases r2 with ⟨z, rfl, hz⟩ | ⟨rfl, hn⟩
  · exact ⟨_, rfl, fun _ => decide_eq_true hz⟩
  · exact ⟨_, rfl, fun h => absurd h hn⟩
theorem Zk8 (l : List api_Memory) (copies : Int) (deeds : List law3_Deed) (hl : wfL Zc0 l) (hd : wfL Ze5 deeds) (z0 : deeds.length ≤ 140737488355328) : Xo l copies deeds = some true := by
  have hR : ∀ m ∈ l, memR m := fun m hm => Zo4 (hl.2 m hm)
  have hD : ∀ d ∈ deeds, fU d.Frame := fun d hd' => Zq3 (hd.2 d hd').2.1
  unfold Xo
  obtain ⟨c, c1, c2, c3, c4, c5, c6⟩ := ZpT hR
  obtain ⟨c', d1, d2⟩ := Zps hR copies
  rw [c1] at d1
  cases d1
  rw [c3, Option.bind_some]
  rcases d2 with ⟨e, he, hM⟩ | ⟨hc, spots, frozen, hM, hI⟩
  · rw [hM, Option.bind_some]
    simp only [Sum.elim_inl]
    rw [if_pos (by simp [he]), Zox]; rfl
  · subst hc
    rw [hM, Option.bind_some]
    simp only [Sum.elim_inr]
    rw [if_neg (by simp)]
    simp only [if_true] at c3 ⊢
    have hJ : RecJ ⟨⟨l, spots⟩, copies, frozen, false, 0, false⟩ := ⟨⟨hI.bank.n, hI.bank.ok, hI.bank.u8, hI.bank.len⟩, fun _ => hI.bank.at_, hI.cp⟩
    obtain ⟨z, z1, z2⟩ := ZeU (body := t8 (Z8 deeds)) (fun s => ∃ (r : ring_Recorder) (k : Nat), s = (r.bank.memories, r.bank.spots, r.copies, r.frozen, r.stopped, r.last, r.some_, (k : Int)) ∧ k ≤ deeds.length ∧ RecJ r ∧
        ∀ x ∈ JX r.bank.memories, x ∈ JX l ∨ ∃ d ∈ deeds, d.Freeze = false ∧ d.Frame = x.Frame) (fun s => deeds.length - s.2.2.2.2.2.2.2.toNat)
      (fun z => ∃ r : ring_Recorder, z = (r.bank.memories, r.bank.spots, r.copies, r.frozen, r.stopped, r.last, r.some_) ∧ RecJ r ∧ ∀ x ∈ JX r.bank.memories, x ∈ JX l ∨ ∃ d ∈ deeds, d.Freeze = false ∧ d.Frame = x.Frame) (by
        rintro s ⟨r, k, rfl, hk, rJ, kp⟩
        show (∃ s', Z8 deeds r.bank.memories r.bank.spots r.copies r.frozen r.stopped r.last r.some_ (k : Int) = some (.inl s') ∧ _) ∨ ∃ z, Z8 deeds r.bank.memories r.bank.spots r.copies r.frozen r.stopped r.last r.some_ (k : Int) = some (.inr z) ∧ _
        unfold Z8
        rcases Nat.lt_or_ge k deeds.length with h | h
        · left
          obtain ⟨d, hdk⟩ := ZaW h
          have dm := List.mem_of_getElem? hdk
          have er : ring_Recorder.mk (ring_bank.mk r.bank.memories r.bank.spots) r.copies r.frozen r.stopped r.last r.some_ = r := rfl
          have ek : i64 ((k : Int) + 1) = (k : Int) + 1 := Zl (by omega) (by omega)
          rw [if_pos (by simpa using h), Zz hdk, Option.bind_some, ek, er]
          cases hF : d.Freeze with
          | true =>
            obtain ⟨a1, a2, a3, r', f1, f2, f3, f4, f5⟩ := ZnW rJ d.Power
            rw [if_pos rfl, f1, Option.bind_some]
            exact ⟨_, rfl, ⟨r', k + 1, rfl, h, f2, fun x hx => kp x (f5 x hx)⟩, by simp only; omega⟩
          | false =>
            obtain ⟨a1, a2, a3, r', f1, f2, f3, f4, f5⟩ := ZnE rJ (hD d dm) d.Power
            rw [if_neg (by decide), f1, Option.bind_some]
            refine ⟨_, rfl, ⟨r', k + 1, rfl, h, f2, fun x hx => ?_⟩, by simp only; omega⟩
            rcases f5 x hx with w | ⟨_, w⟩
            · exact kp x w
            · exact .inr ⟨d, dm, hF, w.symm⟩
        · have : k = deeds.length := by omega
          subst this
          right
          exact ⟨_, by rw [if_neg (by simp)], r, rfl, rJ, kp⟩) (l, spots, copies, frozen, false, 0, false, 0) ⟨⟨⟨l, spots⟩, copies, frozen, false, 0, false⟩, 0, rfl, Nat.zero_le _, hJ, fun x hx => .inl hx⟩
    rw [z1, Option.bind_some]
    obtain ⟨r, rfl, rJ, kp⟩ := z2
    simp only [Zrq]
    unfold Qw
    simp only
    rw [Zkn rJ.b.n.2 rJ.b.ok]
    simp only [Option.bind_some]
    obtain ⟨c', e1, e2, e3, e4, e5, e6⟩ := ZpT (l := r.bank.memories) rJ.b.u8
    have hc' := e6 ⟨rJ.b.n, rJ.b.ok⟩
    subst hc'
    rw [e3]
    simp only [if_true, Option.bind_some, decide_true, Bool.not_true, Bool.false_eq_true, if_false]
    have hlen := ZkW rJ.b.n.2 rJ.b.u8 rJ.b.ok
    have hlen0 := ZkW (c5 rfl).1.2 hR (c5 rfl).2
    obtain ⟨q, q1, q2⟩ := Zfp (body := Qt deeds (JX l, 0) (JX r.bank.memories, 0)) (N := (JX r.bank.memories).length) (fun _ => True) (fun q => q = .inr ()) (fun k hk _ => by
      left
      obtain ⟨x, hx⟩ := ZaW hk
      obtain ⟨b, b1, b2⟩ := ZqS (s := JX l) (by omega) x
      have ek : i64 ((k : Int) + 1) = (k : Int) + 1 := Zl (by omega) (by omega)
      obtain ⟨w, w1, w2⟩ := ZcT (body := Qq deeds x) (s0 := b) (N := deeds.length) (fun j g => (x ∈ JX l → g = true) ∧ ∀ i d, i < j → deeds[i]? = some d → d.Freeze = false → d.Frame = x.Frame → g = true) (fun g => (x ∈ JX l → g = true) ∧ ∀ d ∈ deeds, d.Freeze = false → d.Frame = x.Frame → g = true) (fun j g hj hI => .inl (by
        obtain ⟨d, hdj⟩ := ZaW hj
        unfold Qq
        rw [if_pos (by simpa using hj), Zz hdj, Option.bind_some, show i64 ((j : Int) + 1) = (j : Int) + 1 from Zl (by omega) (by omega)]
        refine ⟨_, rfl, fun h => by rw [hI.1 h]; rfl, fun i d' hi hd' h1 h2 => ?_⟩
        by_cases e : i = j
        · subst e
          rw [hdj] at hd'; cases hd'
          rw [h1, decide_eq_true h2]; simp
        · rw [hI.2 i d' (by omega) hd' h1 h2]; rfl)) (fun g hI => ⟨g, by unfold Qq; rw [if_neg (by simp)], hI.1, fun d hd' h1 h2 => by
        obtain ⟨i, hi, e⟩ := List.getElem_of_mem hd'
        exact hI.2 i d hi (by rw [List.getElem?_eq_getElem hi, e]) h1 h2⟩) ⟨b2, fun i d hi => absurd hi (Nat.not_lt_zero _)⟩
      have hw : w = true := by
        rcases kp x (List.mem_of_getElem? hx) with h | ⟨d, h1, h2, h3⟩
        · exact w2.1 h
        · exact w2.2 d h1 h2 h3
      unfold Qt
      rw [if_pos (by simpa using hk), Zz hx, Option.bind_some, b1, Option.bind_some, w1, Option.bind_some, Xl, hw, ek]
      exact ⟨rfl, trivial⟩) (fun _ => ⟨.inr (), by unfold Qt; rw [if_neg (by simp)], rfl⟩) trivial
    rw [q1, q2]
    simp only [Option.bind_some, Sum.elim_inr, Zoi]
    rw [Zox]; rfl
end Go.Vx
