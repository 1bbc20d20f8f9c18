/- A text of the proof: a verified executor of the program form, or the contracts of the functions that the law reaches. -/
import Derived.Test.YtnlmjeleocelgaaGreatDoorPC
set_option linter.all false
namespace Go.Vx
open Go Go.RowKit
theorem Zpw : Zc9 = ring_checkAll_L1 := by
  funext l i
  unfold Zc9 ring_checkAll_L1
  simp only [Zpx]
theorem Zo5 (l : List api_Memory) : ∃ c, Q0 l = some c ∧ ZbL l = some c ∧ (c = 0 → (1 ≤ l.length ∧ l.length ≤ 8) ∧ ∀ m ∈ l, MemOK m) ∧ (((1 ≤ l.length ∧ l.length ≤ 8) ∧ ∀ m ∈ l, MemOK m) → c = 0) := by
  unfold Q0 ZbL
  rw [ZeT, Zpw]
  simp only [Option.bind_some]
  by_cases h : 1 ≤ l.length ∧ l.length ≤ 8
  · have a1 : ((1 : Int) ≤ (l.length : Int)) := by omega
    have a2 : ((l.length : Int) ≤ 8) := by omega
    have a3 : ¬ ((l.length : Int) = 0) := by omega
    have a4 : ¬ (8 < (l.length : Int)) := by omega
    simp only [decide_eq_true a1, decide_eq_true a2, decide_eq_false a3, decide_eq_false a4, Bool.and_self, Bool.not_true, Bool.or_self, Bool.false_eq_true, if_false]
    obtain ⟨r, h1, h2⟩ := ZhG (body := ring_checkAll_L1 l) (N := l.length) (fun k => ∀ j, j < k → ∀ m, l[j]? = some m → MemOK m)
      (fun r => (∃ e, r = .inl e ∧ e ≠ 0 ∧ ¬ ∀ m ∈ l, MemOK m) ∨ (r = .inr () ∧ ∀ m ∈ l, MemOK m)) (fun k hk hI => by
        obtain ⟨m, hm⟩ := Zbp hk
        obtain ⟨c, c1, c2, c3⟩ := Zqp m
        unfold ring_checkAll_L1
        rw [if_pos (by simpa using hk), ZY hm, Option.bind_some, c1, Option.bind_some, show i64 ((k : Int) + 1) = (k : Int) + 1 from Zt (by omega) (by omega)]
        by_cases q : c = 0
        · left
          refine ⟨by rw [if_neg (by simp [q])], fun j hj m' hm' => ?_⟩
          by_cases e : j = k
          · subst e; rw [hm] at hm'; cases hm'; exact c2 q
          · exact hI j (by omega) m' hm'
        · right
          exact ⟨_, by rw [if_pos (by simp [q])], .inl ⟨c, rfl, q, fun w => q (c3 (w m (List.mem_of_getElem? hm)))⟩⟩) (fun hI => ⟨.inr (), by unfold ring_checkAll_L1; rw [if_neg (by simp)], .inr ⟨rfl, fun m hm => by
        obtain ⟨j, hj, e⟩ := List.getElem_of_mem hm
        exact hI j hj m (by rw [List.getElem?_eq_getElem hj, e])⟩⟩) (fun j hj => absurd hj (Nat.not_lt_zero _))
    rw [h1]
    rcases h2 with ⟨e, rfl, he, hno⟩ | ⟨rfl, hall⟩
    · exact ⟨e, rfl, rfl, fun q => absurd q he, fun w => absurd w.2 hno⟩
    · exact ⟨0, rfl, rfl, fun _ => ⟨h, hall⟩, fun _ => rfl⟩
  · have a1 : (decide ((1 : Int) ≤ (l.length : Int)) && decide ((l.length : Int) ≤ 8)) = false := by simp; omega
    have a2 : (decide ((l.length : Int) = 0) || decide (8 < (l.length : Int))) = true := by rw [Bool.or_eq_true, decide_eq_true_eq, decide_eq_true_eq]; omega
    rw [a1, a2]
    exact ⟨3, by simp, by simp, fun q => by simp at q, fun w => absurd w.1 h⟩
theorem Ze3 {α : Type} {n : Nat} {body : List α → Int → Option ((List α × Int) ⊕ List α)} (g : Nat → List α) {c B : Nat} (acc0 : List α) (hB : acc0.length + n * c ≤ B) (hg : ∀ k, k < n → (g k).length ≤ c)
    (h : ∀ (k : Nat) acc, k < n → acc.length + c ≤ B → body acc (k : Int) = some (.inl (acc ++ g k, (k : Int) + 1))) (hend : ∀ acc, body acc (n : Int) = some (.inr acc)) :
    loop (t2 body) (acc0, 0) = some (acc0 ++ (List.range n).flatMap g) := by
  obtain ⟨r, h1, h2⟩ := Zfm (body := body) (s0 := acc0) (N := n) (fun k acc => acc = acc0 ++ (List.range k).flatMap g ∧ acc.length ≤ acc0.length + k * c) (fun r => r = acc0 ++ (List.range n).flatMap g) (fun k acc hk hI => .inl (by
    have e : (k + 1) * c ≤ n * c := Nat.mul_le_mul_right _ hk
    rw [Nat.add_mul] at e
    refine ⟨acc ++ g k, h k acc hk (by omega), ?_, ?_⟩
    · rw [List.range_succ, List.flatMap_append, ← List.append_assoc, ← hI.1]; simp
    · have := hg k hk
      rw [List.length_append, Nat.add_mul]; omega)) (fun acc hI => ⟨acc, hend acc, hI.1⟩) ⟨by simp, by omega⟩
  rw [h1, h2]
theorem ZjG {α β : Type} {l : List α} {g : α → List β} {c : Nat} (h : ∀ x ∈ l, (g x).length ≤ c) : (l.flatMap g).length ≤ l.length * c := by
  induction l with
  | nil => simp
  | cons x l ih =>
    have h1 := h x (List.mem_cons_self ..)
    have h2 := ih fun y hy => h y (List.mem_cons_of_mem _ hy)
    rw [List.flatMap_cons, List.length_append, List.length_cons, Nat.add_mul]; omega
theorem Zlx {α β : Type} (l : List α) (d : α) (g : α → List β) : (List.range l.length).flatMap (fun k => g (l.getD k d)) = l.flatMap g := by
  induction l with
  | nil => rfl
  | cons x l ih =>
    rw [List.length_cons, List.range_succ_eq_map, List.flatMap_cons, List.flatMap_map, List.flatMap_cons]
    congr 1
noncomputable def Zf2 (m : api_Memory) : List Int := (Xb m).getD []
theorem Znt {m : api_Memory} (hm : Zf7 m) (ok : MemOK m) : Xb m = some (Zf2 m) ∧ Za0 m = some (Zf2 m) ∧ (Zf2 m).Perm (hdM m m.Sectors.length) ∧ Srt (Zd9 m) (Zf2 m) := by
  obtain ⟨l, a1, a2, a3, a4⟩ := Zn8 hm ok.n.2 ok.bad
  have : Zf2 m = l := by unfold Zf2; rw [a1]; rfl
  rw [this]
  exact ⟨a1, a2, a3, a4⟩
theorem Zmi {m : api_Memory} (hm : Zf7 m) (ok : MemOK m) : (Zf2 m).length ≤ 64 ∧ ∀ i ∈ Zf2 m, 0 ≤ i ∧ i < m.Sectors.length := by
  obtain ⟨_, _, p, _⟩ := Znt hm ok
  refine ⟨by rw [p.length_eq]; have := ZhB m m.Sectors.length; have := ok.n; omega, fun i hi => Zje m _ i (p.mem_iff.1 hi)⟩
def frV (s : List Int) (j : Nat) : Vector Int 64 := ZfS (Zav (ZbY s j))
def ZgZ (m : api_Memory) (mi i : Int) : List api_Kept := (List.range m.Slots.toNat).flatMap fun j => if stV (ZbY (m.Sectors.getD i.toNat []) j) = 1 then [api_Kept.mk mi i (ZaK (m.Sectors.getD i.toNat [])).1 (j : Int) (frV (m.Sectors.getD i.toNat []) j)] else []
def dfM : api_Memory := ⟨0, 0, [], [], []⟩
noncomputable def Zjv (m : api_Memory) (mi : Int) : List api_Kept := (Zf2 m).flatMap (ZgZ m mi)
noncomputable def Zdh (l : List api_Memory) : List api_Kept := (List.range l.length).flatMap fun k => Zjv (l.getD k dfM) (k : Int)
theorem Zin {m : api_Memory} (ok : MemOK m) (mi i : Int) : (ZgZ m mi i).length ≤ 64 := by
  have := ZjG (l := List.range m.Slots.toNat) (c := 1) (g := fun j => if stV (ZbY (m.Sectors.getD i.toNat []) j) = 1 then [api_Kept.mk mi i (ZaK (m.Sectors.getD i.toNat [])).1 (j : Int) (frV (m.Sectors.getD i.toNat []) j)] else []) (fun x _ => by split <;> simp)
  have h := ok.slots
  rw [List.length_range] at this
  unfold ZgZ; omega
theorem Zh3 {m : api_Memory} (hm : Zf7 m) (ok : MemOK m) (mi : Int) : (Zjv m mi).length ≤ 4096 := by
  have := ZjG (l := Zf2 m) (c := 64) (g := ZgZ m mi) (fun x _ => Zin ok mi x)
  have := (Zmi hm ok).1
  unfold Zjv; omega
theorem row_bd {m : api_Memory} (ok : MemOK m) {i : Nat} (hi : i < m.Sectors.length) {j : Nat} (hj : (j : Int) < m.Slots) : (m.Sectors.getD i []).length ≤ 7000 ∧ 16 + j * 97 + 97 ≤ (m.Sectors.getD i []).length := by
  have h := ok.row _ (getD_memL hi)
  have := ok.slots
  omega
where
  getD_memL {α : Type} {l : List (List α)} {i : Nat} (h : i < l.length) : l.getD i [] ∈ l := by
    rw [List.getD_eq_getElem?_getD, List.getElem?_eq_getElem h]; exact List.getElem_mem h
theorem ZmQ {m : api_Memory} (ok : MemOK m) {i : Nat} (hi : i < m.Sectors.length) : Zex (m.Sectors.getD i []) = some m.Slots.toNat := by
  have h := ok.row _ (row_bd.getD_memL hi)
  have := ok.slots
  unfold Zex
  rw [if_pos (by omega)]
  congr 1; omega
theorem ZpN {m : api_Memory} (hm : Zf7 m) (ok : MemOK m) {mi : Int} {i : Nat} (hi : i < m.Sectors.length) (acc : List api_Kept) (ha : acc.length ≤ 40000) :
    loop (t2 (XR mi m (i : Int) (ZaK (m.Sectors.getD i [])))) (acc, 0) = some (acc ++ ZgZ m mi (i : Int)) := by
  have hs := ok.slots
  refine Ze3 (n := m.Slots.toNat) (c := 1) (B := 40064) _ acc (by omega) (fun k _ => by split <;> simp) (fun k a hk hl => ?_) (fun a => ?_)
  · obtain ⟨b1, b2⟩ := row_bd ok hi (j := k) (by omega)
    have hd := Zal (s := m.Sectors) hi []
    obtain ⟨v, hv, hvl⟩ := Zk0 (by omega) b2
    have h97 := Zh1 b2
    unfold XR
    rw [if_pos (by simp; omega), ZY hd, Option.bind_some, hv, Option.bind_some, Zmz hvl h97, Option.bind_some, show i64 ((k : Int) + 1) = (k : Int) + 1 from Zt (by omega) (by omega)]
    simp only [Int.toNat_natCast]
    by_cases q : stV (ZbY (m.Sectors.getD i []) k) = 1
    · rw [if_pos (by simpa using q), if_pos q, hvl, show slc (ZbY (m.Sectors.getD i []) k) 0 (97 : Int) = some (ZbY (m.Sectors.getD i []) k) from (Zfu (a := 0) (b := 97) (by omega) (by omega)).trans (by rw [List.take_of_length_le (by omega), List.drop_zero]), Option.bind_some,
        (Zmn (Zjh (Zfo hm i) k) (by omega)).1, Option.bind_some, Zef (by simp; omega), Option.bind_some]
      rfl
    · rw [if_neg (by simpa using q), if_neg q, List.append_nil]
  · unfold XR
    rw [if_neg (by simp; omega)]
theorem ZpD {m : api_Memory} (hm : Zf7 m) (ok : MemOK m) {mi : Int} {i : Nat} (hi : i < m.Sectors.length) (acc : List api_Kept) (ha : acc.length ≤ 40000) :
    loop (t2 (Zax mi m (i : Int) (ZaK (m.Sectors.getD i [])))) (acc, 0) = some (acc ++ ZgZ m mi (i : Int)) := by
  have hs := ok.slots
  refine Ze3 (n := m.Slots.toNat) (c := 1) (B := 40064) _ acc (by omega) (fun k _ => by split <;> simp) (fun k a hk hl => ?_) (fun a => ?_)
  · obtain ⟨b1, b2⟩ := row_bd ok hi (j := k) (by omega)
    have hd := Zal (s := m.Sectors) hi []
    unfold Zax
    rw [if_pos (by simp; omega), ZY hd, Option.bind_some, Zoc (by omega) b2, Option.bind_some, show i64 ((k : Int) + 1) = (k : Int) + 1 from Zt (by omega) (by omega)]
    simp only [Int.toNat_natCast]
    by_cases q : stV (ZbY (m.Sectors.getD i []) k) = 1
    · rw [if_pos (by simpa using q), if_pos q, Option.bind_some, (Zlh (Zfo hm i) (by omega) (k : Int)).2, Option.bind_some]
      have hF : ZiH (m.Sectors.getD i []) (k : Int) = (frV (m.Sectors.getD i []) k, 0) := by
        unfold ZiH
        rw [ZmQ ok hi]
        simp only [Int.toNat_natCast]
        rw [if_pos (by omega)]; rfl
      rw [hF, Zef (by simp; omega), Option.bind_some]
    · rw [if_neg (by simpa using q), if_neg q, List.append_nil]
  · unfold Zax
    rw [if_neg (by simp; omega)]
theorem ZmS {m : api_Memory} (hm : Zf7 m) (ok : MemOK m) {mi : Int} (acc : List api_Kept) (ha : acc.length ≤ 35000) :
    loop (t2 (XS mi m (Zf2 m))) (acc, 0) = some (acc ++ Zjv m mi) ∧ loop (t2 (Zas mi m (Zf2 m))) (acc, 0) = some (acc ++ Zjv m mi) := by
  obtain ⟨l1, l2⟩ := Zmi hm ok
  have e : Zjv m mi = (List.range (Zf2 m).length).flatMap fun k => ZgZ m mi ((Zf2 m).getD k 0) := (Zlx _ 0 _).symm
  rw [e]
  constructor
  · refine Ze3 (n := (Zf2 m).length) (c := 64) (B := 39200) _ acc (by omega) (fun k _ => Zin ok _ _) (fun k a hk hl => ?_) (fun a => ?_)
    · have hd := Zal hk 0
      have hb := l2 _ (Zdk hk)
      unfold XS
      rw [if_pos (by simpa using hk), ZY hd, Option.bind_some]
      obtain ⟨i, hi⟩ := Int.eq_ofNat_of_zero_le hb.1
      rw [hi, ZY (Zal (s := m.Sectors) (k := i) (by omega) []), Option.bind_some, ZlI (Zfo hm i), Option.bind_some, ZpN hm ok (by omega) a (by omega), Option.bind_some, Q7, show i64 ((k : Int) + 1) = (k : Int) + 1 from Zt (by omega) (by omega)]
    · unfold XS
      rw [if_neg (by simp)]
  · refine Ze3 (n := (Zf2 m).length) (c := 64) (B := 39200) _ acc (by omega) (fun k _ => Zin ok _ _) (fun k a hk hl => ?_) (fun a => ?_)
    · have hd := Zal hk 0
      have hb := l2 _ (Zdk hk)
      unfold Zas
      rw [if_pos (by simpa using hk), ZY hd, Option.bind_some]
      obtain ⟨i, hi⟩ := Int.eq_ofNat_of_zero_le hb.1
      rw [hi, ZY (Zal (s := m.Sectors) (k := i) (by omega) []), Option.bind_some, ZlS (Zfo hm i), Option.bind_some, ZpD hm ok (by omega) a (by omega), Option.bind_some, Q7, show i64 ((k : Int) + 1) = (k : Int) + 1 from Zt (by omega) (by omega)]
    · unfold Zas
      rw [if_neg (by simp)]
theorem ZiA {l : List api_Memory} {k : Nat} (h : k < l.length) : l.getD k dfM ∈ l ∧ l[k]? = some (l.getD k dfM) := by
  rw [List.getD_eq_getElem?_getD, List.getElem?_eq_getElem h]
  exact ⟨List.getElem_mem h, rfl⟩
theorem Zld {l : List api_Memory} (hl : l.length ≤ 8) (hR : ∀ m ∈ l, Zf7 m) (hO : ∀ m ∈ l, MemOK m) : (Zdh l).length ≤ 32768 := by
  have := ZjG (l := List.range l.length) (c := 4096) (g := fun k => Zjv (l.getD k dfM) (k : Int)) (fun k hk => by
    have := ZiA (List.mem_range.1 hk)
    exact Zh3 (hR _ this.1) (hO _ this.1) _)
  rw [List.length_range] at this
  unfold Zdh; omega
theorem ZoP {l : List api_Memory} (hR : ∀ m ∈ l, Zf7 m) : ∃ c, Q0 l = some c ∧ ZbL l = some c ∧ JD l = some (if c = 0 then Zdh l else [], c) ∧ Zbh l = some (if c = 0 then Zdh l else [], c) ∧
    (c = 0 → (1 ≤ l.length ∧ l.length ≤ 8) ∧ ∀ m ∈ l, MemOK m) ∧ (((1 ≤ l.length ∧ l.length ≤ 8) ∧ ∀ m ∈ l, MemOK m) → c = 0) := by
  obtain ⟨c, c1, c2, c3, c4⟩ := Zo5 l
  refine ⟨c, c1, c2, ?_⟩
  unfold JD Zbh
  rw [c1, c2]
  simp only [Option.bind_some]
  by_cases q : c = 0
  · obtain ⟨hl, hO⟩ := c3 q
    rw [if_pos q, if_neg (by simp [q]), if_neg (by simp [q])]
    have A : loop (t2 (XO l)) ([], 0) = some ([] ++ Zdh l) := by
      refine Ze3 (n := l.length) (c := 4096) (B := 35000) _ [] (by simp; omega) (fun k hk => Zh3 (hR _ (ZiA hk).1) (hO _ (ZiA hk).1) _) (fun k a hk hb => ?_) (fun a => ?_)
      · obtain ⟨g1, g2⟩ := ZiA hk
        unfold XO
        rw [if_pos (by simpa using hk), ZY g2, Option.bind_some, (Znt (hR _ g1) (hO _ g1)).1, Option.bind_some, (ZmS (hR _ g1) (hO _ g1) a (by omega)).1, Option.bind_some, Q7, show i64 ((k : Int) + 1) = (k : Int) + 1 from Zt (by omega) (by omega)]
      · unfold XO
        rw [if_neg (by simp)]
    have B : loop (t2 (Zap l)) ([], 0) = some ([] ++ Zdh l) := by
      refine Ze3 (n := l.length) (c := 4096) (B := 35000) _ [] (by simp; omega) (fun k hk => Zh3 (hR _ (ZiA hk).1) (hO _ (ZiA hk).1) _) (fun k a hk hb => ?_) (fun a => ?_)
      · obtain ⟨g1, g2⟩ := ZiA hk
        unfold Zap
        rw [if_pos (by simpa using hk), ZY g2, Option.bind_some, (Znt (hR _ g1) (hO _ g1)).2.1, Option.bind_some, (ZmS (hR _ g1) (hO _ g1) a (by omega)).2, Option.bind_some, Q7, show i64 ((k : Int) + 1) = (k : Int) + 1 from Zt (by omega) (by omega)]
      · unfold Zap
        rw [if_neg (by simp)]
    rw [A, B]
    simp only [Option.bind_some, Q7, List.nil_append]
    exact ⟨by rw [q], by rw [q], c3, c4⟩
  · rw [if_neg q, if_pos (by simp [q]), if_pos (by simp [q])]
    exact ⟨rfl, rfl, c3, c4⟩
end Go.Vx

namespace Go.Vx
open Go Go.RowKit
theorem ZhY {V : Type} {k x : Int} {a : V} : ∀ {m : List (Int × V)}, mget kqI (Zg9 kqI m k a) x = if x = k then some a else mget kqI m x
  | [] => by rw [ZmP, Zd3]
  | (c, v) :: m => by
    rw [ZlJ]
    by_cases h : k = c
    · subst h
      rw [if_pos rfl, Zd3, Zd3]
      by_cases hx : x = k
      · rw [if_pos hx, if_pos hx]
      · rw [if_neg hx, if_neg hx, if_neg hx]
    · rw [if_neg h, Zd3, Zd3, ZhY]
      by_cases hx : x = c
      · rw [if_pos hx, if_pos hx, if_neg (fun e => h (by rw [← e, hx]))]
      · rw [if_neg hx, if_neg hx]
theorem ZnV {l : List Int} (h : u8R l) (i : Nat) : 0 ≤ Zav l i ∧ Zav l i ≤ 4095 := by
  unfold Zav
  have a := Zb0 h (3 * (i / 2))
  have b := Zb0 h (3 * (i / 2) + 1)
  have c := Zb0 h (3 * (i / 2) + 2)
  split <;> omega
theorem Zox {l : List Int} (h : u8R l) (i : Nat) : 0 ≤ wd (ZfS (Zav l)) i ∧ wd (ZfS (Zav l)) i ≤ 4095 := by
  by_cases hi : i < 64
  · have : wd (ZfS (Zav l)) i = Zav l i := Zi1 _ hi
    rw [this]; exact ZnV h i
  · have : wd (ZfS (Zav l)) i = 0 := by
      unfold wd
      rw [List.getD_eq_getElem?_getD, List.getElem?_eq_none (by simp; omega)]; rfl
    rw [this]; omega
def fN (f : Vector Int 64) : Prop := ∀ i, 0 ≤ wd f i ∧ wd f i ≤ 4095
theorem fN.u {f : Vector Int 64} (h : fN f) : fU f := fun i => ⟨(h i).1, by have := (h i).2; omega⟩
theorem ZmK {m : api_Memory} {mi i : Int} {x : api_Kept} (h : x ∈ ZgZ m mi i) : ∃ j : Nat, (j : Int) < m.Slots ∧ stV (ZbY (m.Sectors.getD i.toNat []) j) = 1 ∧ x = ⟨mi, i, (ZaK (m.Sectors.getD i.toNat [])).1, j, frV (m.Sectors.getD i.toNat []) j⟩ := by
  unfold ZgZ at h
  obtain ⟨j, hj, hx⟩ := List.mem_flatMap.1 h
  split at hx
  · rename_i q
    exact ⟨j, by have := List.mem_range.1 hj; omega, q, List.mem_singleton.1 hx⟩
  · cases hx
theorem Znd {l : List api_Memory} {x : api_Kept} (h : x ∈ Zdh l) : ∃ k : Nat, k < l.length ∧ ∃ i ∈ Zf2 (l.getD k dfM), x ∈ ZgZ (l.getD k dfM) (k : Int) i := by
  unfold Zdh at h
  obtain ⟨k, hk, hx⟩ := List.mem_flatMap.1 h
  obtain ⟨i, hi, hx⟩ := List.mem_flatMap.1 hx
  exact ⟨k, List.mem_range.1 hk, i, hi, hx⟩
theorem ZoH {l : List api_Memory} (hR : ∀ m ∈ l, Zf7 m) : ∀ x ∈ Zdh l, fN x.Frame := by
  intro x hx
  obtain ⟨k, hk, i, hi, hx⟩ := Znd hx
  obtain ⟨j, _, _, rfl⟩ := ZmK hx
  exact Zox (Zjh (Zfo (hR _ (ZiA hk).1) _) j)
noncomputable def nmK (x : api_Kept) : Int := (Ze1 x.Frame).1
theorem ZoD {body : Int → Option (Int ⊕ Int)} {R : List api_Kept} {n : Int} (h1 : ∀ (k : Nat) y, R[k]? = some y → body k = if n ≤ nmK y then some (.inr (k : Int)) else some (.inl ((k : Int) + 1))) (h2 : body R.length = some (.inr (R.length : Int))) :
    ∃ r : Nat, loop (t1 body) 0 = some (r : Int) ∧ r ≤ R.length ∧ (∀ k y, k < r → R[k]? = some y → nmK y < n) ∧ (∀ y, R[r]? = some y → n ≤ nmK y) := by
  obtain ⟨z, e, r, rfl, q1, q2, q3⟩ := ZhG (body := body) (N := R.length) (fun k => ∀ j y, j < k → R[j]? = some y → nmK y < n) (fun z => ∃ r : Nat, z = (r : Int) ∧ r ≤ R.length ∧ (∀ k y, k < r → R[k]? = some y → nmK y < n) ∧ (∀ y, R[r]? = some y → n ≤ nmK y)) (fun k hk hI => by
      obtain ⟨y, hy⟩ := Zbp hk
      rw [h1 k y hy]
      by_cases q : n ≤ nmK y
      · right
        exact ⟨_, by rw [if_pos q], k, rfl, by omega, hI, fun y' hy' => by rw [hy] at hy'; cases hy'; exact q⟩
      · left
        refine ⟨by rw [if_neg q], fun j y' hj hy' => ?_⟩
        by_cases e : j = k
        · subst e; rw [hy] at hy'; cases hy'; omega
        · exact hI j y' (by omega) hy') (fun hI => ⟨_, h2, R.length, rfl, Nat.le_refl _, hI, fun y hy => by rw [List.getElem?_eq_none (Nat.le_refl _)] at hy; cases hy⟩) (fun j y hj => absurd hj (Nat.not_lt_zero _))
  exact ⟨r, e, q1, q2, q3⟩
structure FrI (R : List api_Kept) (M : List (Int × api_Kept)) (N : List Int) : Prop where
  srt : R.Pairwise fun a b => nmK a < nmK b
  prm : N.Perm (R.map nmK)
  get : ∀ x ∈ R, mget kqI M (nmK x) = some x
  non : ∀ n, (∀ x ∈ R, nmK x ≠ n) → mget kqI M n = none
  num : ∀ x ∈ R, fN x.Frame
theorem ZmC {R : List api_Kept} {M : List (Int × api_Kept)} {N : List Int} (hI : FrI R M N) (hl : R.length ≤ 100000) {x : api_Kept} (hx : fN x.Frame) {y : (List api_Kept) × Int} {k : Nat} (hk : y.1[k]? = some x) (hy : y.1.length ≤ 100000) :
    ∃ R' M' N', QY y M N (k : Int) = some (.inl (M', N', (k : Int) + 1)) ∧ XB y R (k : Int) = some (.inl (R', (k : Int) + 1)) ∧ FrI R' M' N' ∧ R'.length ≤ R.length + 1 ∧ (∀ z ∈ R', z ∈ R ∨ (z = x ∧ ZjL x.Frame = true)) ∧
      ((∀ y ∈ R, ∃ w ∈ R', nmK w = nmK y ∧ y.Sequence ≤ w.Sequence) ∧ (ZjL x.Frame = true → ∃ y ∈ R', nmK y = nmK x ∧ x.Sequence ≤ y.Sequence)) := by
  have hlt := (List.getElem?_eq_some_iff.1 hk).1
  have ek : i64 ((k : Int) + 1) = (k : Int) + 1 := Zt (by omega) (by omega)
  have hN : N.length = R.length := by rw [hI.prm.length_eq, List.length_map]
  unfold QY XB
  rw [if_pos (by simpa using hlt), if_pos (by simpa using hlt), ZY hk, Option.bind_some, Option.bind_some, ek, Zom hx.u, Zlc hx.u, Option.bind_some, Option.bind_some]
  have hfl := Zm2 hx.u
  by_cases hs : ZjL x.Frame = false
  · refine ⟨R, M, N, by rw [if_pos (by simpa using hfl.2 hs)], by rw [hs]; rfl, hI, by omega, fun z hz => .inl hz, fun y hy => ⟨y, hy, rfl, Int.le_refl _⟩, fun h => absurd h (by simp [hs])⟩
  · have hs' : ZjL x.Frame = true := by simpa using hs
    have h0 : ¬ 0 < (ZlP x.Frame).length := fun q => hs (hfl.1 q)
    rw [if_neg (by rw [decide_eq_true_eq]; omega), hs']
    simp only [Bool.not_true, Bool.false_eq_true, if_false]
    have nn : ∀ f : Vector Int 64, fN f → XZ f = some (Ze1 f) ∧ Jz f = some (Ze1 f) := fun f hf => ZnW hf.u (hf 1).2 (hf 2).2
    rw [(nn _ hx).1, (nn _ hx).2, Option.bind_some, Option.bind_some, Option.bind_some]
    obtain ⟨r, q1, q2, q3, q4⟩ := ZoD (body := ZaP R (Ze1 x.Frame)) (R := R) (n := nmK x) (fun j z hj => by
      have hjl := (List.getElem?_eq_some_iff.1 hj).1
      unfold ZaP
      rw [if_pos (by simpa using hjl), ZY hj, Option.bind_some, (nn _ (hI.num z (List.mem_of_getElem? hj))).2, Option.bind_some, show i64 ((j : Int) + 1) = (j : Int) + 1 from Zt (by omega) (by omega)]
      by_cases q : nmK x ≤ nmK z
      · rw [if_pos (by simpa [nmK] using q), if_pos q]
      · rw [if_neg (by simpa [nmK] using q), if_neg q]) (by
      unfold ZaP
      rw [if_neg (by simp)])
    rw [q1]
    simp only [Option.bind_some, Q7]
    have split' : R = R.take r ++ R.drop r := (List.take_append_drop ..).symm
    have lt1 : ∀ z ∈ R.take r, nmK z < nmK x := fun z hz => by
      obtain ⟨j, hj, e⟩ := List.getElem_of_mem hz
      rw [List.length_take] at hj
      refine q3 j z (by omega) ?_
      rw [← List.getElem?_take_of_lt (show j < r by omega), List.getElem?_eq_getElem (by rw [List.length_take]; exact hj), e]
    by_cases hat : ∃ z, R[r]? = some z ∧ nmK z = nmK x
    · obtain ⟨z, hz, hzn⟩ := hat
      have hrl := (List.getElem?_eq_some_iff.1 hz).1
      have zm := List.mem_of_getElem? hz
      have hg := hI.get z zm
      rw [hzn] at hg
      have hg' : mget kqI M (Ze1 x.Frame).1 = some z := hg
      rw [hg']
      simp only [Option.isSome_some, Bool.not_true, Bool.false_eq_true, if_false, Option.bind_some, Q7, Bool.false_or, Option.getD_some]
      rw [if_pos (show decide ((r : Int) < (R.length : Int)) = true by simpa using hrl), ZY hz, Option.bind_some, (nn _ (hI.num z zm)).2, Option.bind_some, if_pos (show decide ((Ze1 z.Frame).1 = (Ze1 x.Frame).1) = true from decide_eq_true hzn), Option.bind_some]
      have hset : R.set r x = R.take r ++ x :: R.drop (r + 1) := List.set_eq_take_append_cons_drop .. |>.trans (by rw [if_pos hrl])
      have hR : R = R.take r ++ z :: R.drop (r + 1) := by
        have := ZcE hz
        rw [← this]; exact split'
      by_cases hq : z.Sequence < x.Sequence
      · refine ⟨R.set r x, Zg9 kqI M (Ze1 x.Frame).1 x, N, by rw [if_pos (by simpa using hq)], ?_, ⟨?_, ?_, ?_, ?_, ?_⟩, by simp, fun w hw => ?_, fun y hy => ?_, fun _ => ⟨x, by rw [hset]; simp, rfl, Int.le_refl _⟩⟩
        · rw [if_pos (by simpa using hq)]
          simp only [Option.bind_some, Int.toNat_natCast, Sum.elim_inl, Q7]
        · have h := hI.srt
          rw [hR] at h
          rw [hset]
          rw [List.pairwise_append, List.pairwise_cons] at h ⊢
          refine ⟨h.1, ⟨fun b hb => by rw [← hzn]; exact h.2.1.1 b hb, h.2.1.2⟩, fun a ha b hb => ?_⟩
          rcases List.mem_cons.1 hb with rfl | hb
          · rw [← hzn]; exact h.2.2 a ha z (List.mem_cons_self ..)
          · exact h.2.2 a ha b (List.mem_cons_of_mem _ hb)
        · have : (R.set r x).map nmK = R.map nmK := by
            rw [List.map_set, ← hzn]
            refine List.ext_getElem? fun j => ?_
            rw [List.getElem?_set]
            split
            · rename_i e
              subst e
              rw [if_pos (by simpa using hrl), List.getElem?_map, hz]; rfl
            · rfl
          rw [this]; exact hI.prm
        · intro w hw
          rw [ZhY]
          rcases List.mem_or_eq_of_mem_set hw with hw' | rfl
          · by_cases e : nmK w = (Ze1 x.Frame).1
            · rw [if_pos e]
              -- two of one number in R: the same place
              rw [hset] at hw
              rcases List.mem_append.1 hw with p | p
              · have := lt1 w p
                unfold nmK at this e; omega
              · rcases List.mem_cons.1 p with rfl | p
                · rfl
                · have h := hI.srt
                  rw [hR, List.pairwise_append, List.pairwise_cons] at h
                  have := h.2.1.1 w p
                  rw [hzn] at this
                  unfold nmK at this e; omega
            · rw [if_neg e]; exact hI.get w hw'
          · exact if_pos rfl
        · intro n hn
          rw [ZhY]
          have hxn : n ≠ (Ze1 x.Frame).1 := fun e => hn x (by rw [hset]; simp) e.symm
          rw [if_neg hxn]
          refine hI.non n fun w hw => ?_
          rw [hR] at hw
          rcases List.mem_append.1 hw with p | p
          · exact hn w (by rw [hset]; simp [p])
          · rcases List.mem_cons.1 p with rfl | p
            · rw [hzn]; exact fun e => hxn e.symm
            · exact hn w (by rw [hset]; simp [p])
        · intro w hw
          rcases List.mem_or_eq_of_mem_set hw with hw' | rfl
          · exact hI.num w hw'
          · exact hx
        · rcases List.mem_or_eq_of_mem_set hw with p | p
          · exact .inl p
          · exact .inr ⟨p, trivial⟩
        · rw [hR] at hy
          rcases List.mem_append.1 hy with p | p
          · exact ⟨y, by rw [hset]; simp [p], rfl, Int.le_refl _⟩
          · rcases List.mem_cons.1 p with rfl | p
            · exact ⟨x, by rw [hset]; simp, hzn.symm, by omega⟩
            · exact ⟨y, by rw [hset]; simp [p], rfl, Int.le_refl _⟩
      · refine ⟨R, M, N, by rw [if_neg (by simpa using hq)], ?_, hI, by omega, fun z hz => .inl hz, fun y hy => ⟨y, hy, rfl, Int.le_refl _⟩, fun _ => ⟨z, zm, hzn, by omega⟩⟩
        rw [if_neg (by simpa using hq)]
        simp only [Option.bind_some, Sum.elim_inl, Q7]
    · have gt1 : ∀ z ∈ R.drop r, nmK x < nmK z := by
        intro z hz
        cases hd : R[r]? with
        | none =>
          have := List.getElem?_eq_none_iff.1 hd
          rw [List.drop_of_length_le this] at hz; cases hz
        | some w =>
          have hw : nmK x < nmK w := by
            have := q4 w hd
            have hne : nmK w ≠ nmK x := fun e => hat ⟨w, hd, e⟩
            omega
          rw [ZcE hd] at hz
          rcases List.mem_cons.1 hz with rfl | hz
          · exact hw
          · have h := hI.srt
            rw [split', ZcE hd, List.pairwise_append, List.pairwise_cons] at h
            have := h.2.1.1 z hz
            omega
      have hno : mget kqI M (Ze1 x.Frame).1 = none := hI.non _ fun w hw => by
        rw [split'] at hw
        rcases List.mem_append.1 hw with p | p
        · have := lt1 w p; unfold nmK at *; omega
        · have := gt1 w p; unfold nmK at *; omega
      rw [hno]
      simp only [Option.isSome_none, Bool.not_false, if_true, Bool.true_or, Option.bind_some]
      rw [show apz 8 N [(Ze1 x.Frame).1] = some (N ++ [(Ze1 x.Frame).1]) from Zef (by simp; omega)]
      have hmid : (if decide ((r : Int) < (R.length : Int)) = true then (idx R (r : Int)).bind fun x3 => (Jz x3.Frame).bind fun y5 => if decide (y5.1 = (Ze1 x.Frame).1) = true then (idx R (r : Int)).bind fun x4 => if decide (x4.Sequence < x.Sequence) = true then (idx R (r : Int)).bind fun x5 => some (.inl (R.set (Int.toNat (r : Int)) x)) else some (.inl R) else some (.inr ()) else some (.inr ())) = some (.inr () : List api_Kept ⊕ Unit) := by
        by_cases hr : r < R.length
        · obtain ⟨z, hz⟩ := Zbp hr
          rw [if_pos (by simpa using hr), ZY hz, Option.bind_some, (nn _ (hI.num z (List.mem_of_getElem? hz))).2, Option.bind_some, if_neg]
          have : nmK z ≠ nmK x := fun e => hat ⟨z, hz, e⟩
          simpa [nmK] using this
        · rw [if_neg (by simpa using hr)]
      refine ⟨R.take r ++ x :: R.drop r, Zg9 kqI M (Ze1 x.Frame).1 x, N ++ [(Ze1 x.Frame).1], rfl, ?_, ⟨?_, ?_, ?_, ?_, ?_⟩, ?_, fun w hw => ?_, fun y hy => ⟨y, ?_, rfl, Int.le_refl _⟩, fun _ => ⟨x, by simp, rfl, Int.le_refl _⟩⟩
      · rw [hmid, Option.bind_some]
        simp only [Sum.elim_inr, ZoX]
        rw [show apz 160 R [x] = some (R ++ [x]) from Zef (by simp; omega), Option.bind_some, show i64 ((r : Int) + 1) = ((r + 1 : Nat) : Int) from (Zt (by omega) (by omega)).trans (by omega)]
        have hL : (R ++ [x]).length = R.length + 1 := by simp
        have sq : ∀ j : Nat, j ≤ R.length + 1 → slq (R ++ [x]) (j : Int) ((R ++ [x]).length : Int) = some () := fun j hj => by
          unfold slq; rw [hL]
          have a1 : (j : Int) ≤ ((R.length + 1 : Nat) : Int) := by omega
          simp only [decide_eq_true (show (0 : Int) ≤ (j : Int) by omega), decide_eq_true a1, decide_eq_true (Nat.succ_pos _), decide_eq_true (Nat.le_refl _), Bool.and_self]
          simp [ck]
        rw [sq (r + 1) (by omega), Option.bind_some, sq r (by omega), Option.bind_some]
        have t1' : Int.toNat (((R ++ [x]).length : Int) - ((r + 1 : Nat) : Int)) = (R.length + 1) - (r + 1) := by rw [hL]; omega
        have t2' : Int.toNat (((R ++ [x]).length : Int) - (r : Int)) = (R.length + 1) - r := by rw [hL]; omega
        rw [t1', t2']
        simp only [Int.toNat_natCast]
        obtain ⟨z, hz⟩ := Zbp (xs := cpy (R ++ [x]) (r + 1) ((R.length + 1) - (r + 1)) r ((R.length + 1) - r)) (k := r) (by rw [JE (by rw [hL]; omega) (by rw [hL]; omega), hL]; omega)
        rw [ZY hz, Option.bind_some, Zl3 x q2]
        rfl
      · have h := hI.srt
        rw [split', List.pairwise_append] at h
        rw [List.pairwise_append, List.pairwise_cons]
        refine ⟨h.1, ⟨gt1, h.2.1⟩, fun a ha b hb => ?_⟩
        rcases List.mem_cons.1 hb with rfl | hb
        · exact lt1 a ha
        · exact h.2.2 a ha b hb
      · rw [List.map_append, List.map_cons]
        refine (List.Perm.append_right _ hI.prm).trans ?_
        have e : R.map nmK = (R.take r).map nmK ++ (R.drop r).map nmK := by rw [← List.map_append, List.take_append_drop]
        rw [e, List.append_assoc]
        exact List.Perm.append_left _ (List.perm_append_comm (l₁ := (R.drop r).map nmK) (l₂ := [nmK x]))
      · intro w hw
        rw [ZhY]
        rcases List.mem_append.1 hw with p | p
        · have := lt1 w p
          rw [if_neg (by unfold nmK at this ⊢; omega)]
          exact hI.get w (List.mem_of_mem_take p)
        · rcases List.mem_cons.1 p with rfl | p
          · exact if_pos rfl
          · have := gt1 w p
            rw [if_neg (by unfold nmK at this ⊢; omega)]
            exact hI.get w (List.mem_of_mem_drop p)
      · intro n hn
        rw [ZhY]
        have hxn : n ≠ (Ze1 x.Frame).1 := fun e => hn x (by simp) e.symm
        rw [if_neg hxn]
        refine hI.non n fun w hw => ?_
        rw [split'] at hw
        rcases List.mem_append.1 hw with p | p
        · exact hn w (List.mem_append_left _ p)
        · exact hn w (List.mem_append_right _ (List.mem_cons_of_mem _ p))
      · intro w hw
        rcases List.mem_append.1 hw with p | p
        · exact hI.num w (List.mem_of_mem_take p)
        · rcases List.mem_cons.1 p with rfl | p
          · exact hx
          · exact hI.num w (List.mem_of_mem_drop p)
      · simp only [List.length_append, List.length_cons, List.length_take, List.length_drop]; omega
      · rcases List.mem_append.1 hw with p | p
        · exact .inl (List.mem_of_mem_take p)
        · rcases List.mem_cons.1 p with rfl | p
          · exact .inr ⟨rfl, trivial⟩
          · exact .inl (List.mem_of_mem_drop p)
      · rw [split'] at hy
        rcases List.mem_append.1 hy with p | p
        · exact List.mem_append_left _ p
        · exact List.mem_append_right _ (List.mem_cons_of_mem _ p)
end Go.Vx

namespace Go.Vx
open Go Go.RowKit
theorem ZnH {N : List Int} {R : List api_Kept} (hl : N.length ≤ 100000) (hp : N.Perm (R.map nmK)) (hs : R.Pairwise fun a b => nmK a < nmK b) : ZgY N = some (R.map nmK) := by
  unfold ZgY
  rw [if_pos (by omega)]
  have hR : (R.map nmK).Pairwise (· < ·) := by rw [List.pairwise_map]; exact hs
  have hm := List.mergeSort_perm N (fun x y => decide (x ≤ y))
  have ha := List.pairwise_mergeSort (le := fun x y : Int => decide (x ≤ y)) (fun a b c h1 h2 => by simp at *; omega) (fun a b => by simp; omega) N
  have hnd : (N.mergeSort fun x y => decide (x ≤ y)).Nodup := (hm.trans hp).nodup_iff.2 (hR.imp (fun h => Int.ne_of_lt h))
  have hb : Srt (fun z => z) (N.mergeSort fun x y => decide (x ≤ y)) := by
    refine (List.Pairwise.and ha hnd).imp ?_
    intro a b h
    have := of_decide_eq_true h.1
    have := h.2
    show a < b ∨ (a = b ∧ a < b)
    omega
  have hc : Srt (fun z => z) (R.map nmK) := hR.imp (fun h => .inl h)
  rw [Zhk (hm.trans hp) hb hc]
theorem Zn2 {l : List api_Memory} (hR : ∀ m ∈ l, Zf7 m) : ∃ (c : Int) (R : List api_Kept), J5 l = some (if c = 0 then R.map (·.Frame) else [], c) ∧ Zdf l = some (if c = 0 then R.map (·.Frame) else [], c) ∧ Q0 l = some c ∧
    (c = 0 → R.length ≤ 32768 ∧ (∀ x ∈ R, x ∈ Zdh l ∧ ZjL x.Frame = true) ∧ R.Pairwise (fun a b => nmK a < nmK b) ∧ ∀ x ∈ Zdh l, ZjL x.Frame = true → ∃ y ∈ R, nmK y = nmK x ∧ x.Sequence ≤ y.Sequence) := by
  obtain ⟨c, c1, c2, c3, c4, c5, c6⟩ := ZoP hR
  refine ⟨c, ?_⟩
  unfold J5 Zdf
  rw [c3, c4]
  simp only [Option.bind_some]
  by_cases q : c = 0
  · obtain ⟨hl, hO⟩ := c5 q
    have hlen := Zld hl.2 hR hO
    subst q
    simp only [decide_true, Bool.not_true, Bool.false_eq_true, if_false, if_true]
    -- both loops side by side
    have key : ∀ k : Nat, k ≤ (Zdh l).length → ∃ R M N, FrI R M N ∧ R.length ≤ k ∧ (∀ x ∈ R, x ∈ Zdh l ∧ ZjL x.Frame = true) ∧
        (∀ j x, j < k → (Zdh l)[j]? = some x → ZjL x.Frame = true → ∃ y ∈ R, nmK y = nmK x ∧ x.Sequence ≤ y.Sequence) ∧
        loop (t3 (QY (Zdh l, 0))) (([] : List (Int × api_Kept)), ([] : List Int), (0 : Int)) = loop (t3 (QY (Zdh l, 0))) (M, N, (k : Int)) ∧
        loop (t2 (XB (Zdh l, 0))) (([] : List api_Kept), (0 : Int)) = loop (t2 (XB (Zdh l, 0))) (R, (k : Int)) := by
      intro k
      induction k with
      | zero => intro _; exact ⟨[], [], [], ⟨.nil, .refl _, (fun x h => by cases h), (fun n _ => rfl), (fun x h => by cases h)⟩, Nat.le_refl _, (fun x h => by cases h), fun j x hj => absurd hj (Nat.not_lt_zero _), rfl, rfl⟩
      | succ k ih =>
        intro hk
        obtain ⟨R, M, N, i1, i2, i3, i4, i5, i6⟩ := ih (by omega)
        obtain ⟨x, hx⟩ := Zbp (xs := Zdh l) (k := k) (by omega)
        obtain ⟨R', M', N', s1, s2, s3, s4, s5, s6⟩ := ZmC i1 (by omega) (ZoH hR x (List.mem_of_getElem? hx)) (y := (Zdh l, 0)) hx (by show (Zdh l).length ≤ _; omega)
        refine ⟨R', M', N', s3, by omega, fun z hz => ?_, fun j z hj hz hsz => ?_, ?_, ?_⟩
        · rcases s5 z hz with p | ⟨p, ps⟩
          · exact i3 z p
          · rw [p]; exact ⟨List.mem_of_getElem? hx, ps⟩
        · by_cases e : j = k
          · subst e
            rw [hx] at hz; cases hz
            exact s6.2 hsz
          · obtain ⟨y, y1, y2, y3⟩ := i4 j z (by omega) hz hsz
            obtain ⟨w, w1, w2, w3⟩ := s6.1 y y1
            exact ⟨w, w1, by rw [w2, y2], by omega⟩
        · rw [i5, Zgt]
          simp only [Zdi]
          rw [s1]; rfl
        · rw [i6, Zgt]
          simp only [QL]
          rw [s2]; rfl
    obtain ⟨R, M, N, i1, i2, i3, i4, i5, i6⟩ := key _ (Nat.le_refl _)
    have e1 : loop (t3 (QY (Zdh l, 0))) (M, N, ((Zdh l).length : Int)) = some (M, N) := Zbo (by
      simp only [Zdi]
      unfold QY
      rw [if_neg (by simp)])
    have e2 : loop (t2 (XB (Zdh l, 0))) (R, ((Zdh l).length : Int)) = some R := Zbo (by
      simp only [QL]
      unfold XB
      rw [if_neg (by simp)])
    have hN : N.length = R.length := by rw [i1.prm.length_eq, List.length_map]
    rw [i5, i6, e1, e2]
    simp only [Option.bind_some, Q7, QL]
    rw [ZnH (by omega) i1.prm i1.srt]
    simp only [Option.bind_some]
    have hm : (R.map nmK).length = R.length := List.length_map ..
    refine ⟨R, ?_, ?_, c1, fun _ => ⟨by omega, i3, i1.srt, fun x hx hs => ?_⟩⟩
    · obtain ⟨o, o1, o2⟩ := Zfm (body := Jj M (R.map nmK)) (s0 := []) (N := R.length) (fun k acc => acc = (R.take k).map (·.Frame)) (fun r => r = R.map (·.Frame)) (fun k acc hk hI => .inl (by
        obtain ⟨x, hx⟩ := Zbp hk
        subst hI
        refine ⟨(R.take k).map (·.Frame) ++ [x.Frame], ?_, by rw [List.take_succ, hx]; simp⟩
        unfold Jj
        rw [if_pos (by rw [hm]; simpa using hk), ZY (x := nmK x) (by rw [List.getElem?_map, hx]; rfl), Option.bind_some, i1.get x (List.mem_of_getElem? hx), Option.bind_some, Zef (by simp; omega), Option.bind_some, show i64 ((k : Int) + 1) = (k : Int) + 1 from Zt (by omega) (by omega)]
        rfl)) (fun acc hI => ⟨acc, by unfold Jj; rw [if_neg (by rw [hm]; simp)], by rw [hI, List.take_length]⟩) rfl
      rw [o1, o2]; rfl
    · obtain ⟨o, o1, o2⟩ := Zfm (body := Za6 R) (s0 := []) (N := R.length) (fun k acc => acc = (R.take k).map (·.Frame)) (fun r => r = R.map (·.Frame)) (fun k acc hk hI => .inl (by
        obtain ⟨x, hx⟩ := Zbp hk
        subst hI
        refine ⟨(R.take k).map (·.Frame) ++ [x.Frame], ?_, by rw [List.take_succ, hx]; simp⟩
        unfold Za6
        rw [if_pos (by simpa using hk), ZY hx, Option.bind_some, Zef (by simp; omega), Option.bind_some, show i64 ((k : Int) + 1) = (k : Int) + 1 from Zt (by omega) (by omega)])) (fun acc hI => ⟨acc, by unfold Za6; rw [if_neg (by simp)], by rw [hI, List.take_length]⟩) rfl
      rw [o1, o2]; rfl
    · obtain ⟨j, hj, e⟩ := List.getElem_of_mem hx
      exact i4 j x hj (by rw [List.getElem?_eq_getElem hj, e]) hs
  · refine ⟨[], ?_, ?_, c1, fun w => absurd w q⟩
    · rw [if_pos (by simp [q]), if_neg q]
    · rw [if_pos (by simp [q]), if_neg q]
theorem Zpm : ZcN = ring_Capacity_L1 := rfl
theorem ZpZ {l : List api_Memory} (copies : Int) : ∃ r, Zbw l copies = some r ∧ ZbC l copies = some r := by
  obtain ⟨c, c1, c2, c3, c4⟩ := Zo5 l
  unfold Zbw ZbC
  rw [c1, c2, ZeT, Zid, Zpm]
  simp only [Option.bind_some]
  by_cases q : c = 0
  · obtain ⟨hl, hO⟩ := c3 q
    rw [if_neg (show ¬ (!decide (c = 0)) = true by simp [q])]
    by_cases hc : 1 ≤ copies ∧ copies ≤ (l.length : Int)
    · simp only [decide_eq_true hc.1, decide_eq_true hc.2, Bool.and_self, Bool.not_true, Bool.false_eq_true, if_false]
      obtain ⟨z, z1, _⟩ := Zfm (body := ring_Capacity_L1 l) (s0 := (-1 : Int)) (N := l.length) (fun _ _ => True) (fun _ => True) (fun k acc hk _ => .inl (by
        obtain ⟨m, hm⟩ := Zbp hk
        have ok := hO m (List.mem_of_getElem? hm)
        obtain ⟨g, g1, _⟩ := Zfm (body := JS m) (s0 := (0 : Int)) (N := m.Bad.length) (fun _ _ => True) (fun _ => True) (fun j acc hj _ => .inl (by
          obtain ⟨b, hb⟩ := Zbp hj
          have ej : i64 ((j : Int) + 1) = (j : Int) + 1 := Zt (by omega) (by have := ok.bad; have := ok.n; omega)
          unfold JS
          rw [if_pos (by simpa using hj), ZY hb, Option.bind_some, ej]
          cases b
          · exact ⟨i64 (acc + 1), by rw [if_pos (by decide)], trivial⟩
          · exact ⟨acc, by rw [if_neg (by decide)], trivial⟩)) (fun acc _ => ⟨acc, by unfold JS; rw [if_neg (by simp)], trivial⟩) trivial
        have ek : i64 ((k : Int) + 1) = (k : Int) + 1 := Zt (by omega) (by omega)
        unfold ring_Capacity_L1
        rw [if_pos (by simpa using hk), ZY hm, Option.bind_some, g1, Option.bind_some, Q7, ek]
        split
        · exact ⟨_, rfl, trivial⟩
        · exact ⟨_, rfl, trivial⟩)) (fun acc _ => ⟨acc, by unfold ring_Capacity_L1; rw [if_neg (by simp)], trivial⟩) trivial
      rw [z1]
      simp only [Option.bind_some, Q7]
      unfold quo
      rw [if_neg (by omega)]
      exact ⟨_, rfl, rfl⟩
    · have hf : (decide (1 ≤ copies) && decide (copies ≤ (l.length : Int))) = false := by simpa using hc
      rw [hf]
      exact ⟨_, rfl, rfl⟩
  · rw [if_pos (show (!decide (c = 0)) = true by simp [q])]
    exact ⟨_, rfl, rfl⟩
theorem eqK {a : List api_Kept} (ha : a.length ≤ 9223372036854775807) : Qt a a = some true := by
  unfold Qt
  rw [if_neg (by simp)]
  obtain ⟨r, h1, h2⟩ := ZhG (body := Qj a a) (N := a.length) (fun _ => True) (fun r => r = .inr ()) (fun k hk _ => by
    obtain ⟨x, hx⟩ := Zbp hk
    left
    unfold Qj
    rw [if_pos (by simpa using hk), ZY hx, Option.bind_some, Option.bind_some, show i64 ((k : Int) + 1) = (k : Int) + 1 from Zt (by omega) (by omega)]
    exact ⟨by rw [if_neg (by simp)], trivial⟩) (fun _ => ⟨.inr (), by unfold Qj; rw [if_neg (by simp)], rfl⟩) trivial
  rw [h1, h2]; rfl
theorem ZqC {a : List (Vector Int 64)} (ha : a.length ≤ 9223372036854775807) : Ql a a = some true := by
  unfold Ql
  rw [if_neg (by simp)]
  obtain ⟨r, h1, h2⟩ := ZhG (body := Qa a a) (N := a.length) (fun _ => True) (fun r => r = .inr ()) (fun k hk _ => by
    obtain ⟨x, hx⟩ := Zbp hk
    left
    unfold Qa
    rw [if_pos (by simpa using hk), ZY hx, Option.bind_some, Option.bind_some, show i64 ((k : Int) + 1) = (k : Int) + 1 from Zt (by omega) (by omega)]
    exact ⟨by rw [if_neg (by simp)], trivial⟩) (fun _ => ⟨.inr (), by unfold Qa; rw [if_neg (by simp)], rfl⟩) trivial
  rw [h1, h2]; rfl
theorem Zot {m : api_Memory} (hm : Zc6 m) : Zf7 m := fun s hs x hx => by
  have := (hm.2.2.1.2 s hs).2 x hx
  have := (by simpa [wfI, Lit.wf] using this : IntKind.u8.min ≤ x ∧ x ≤ IntKind.u8.max)
  exact ⟨this.1, this.2⟩
theorem Zks (l : List api_Memory) (copies : Int) (hl : wfL Zc6 l) : Q6 l copies = some true := by
  have hR : ∀ m ∈ l, Zf7 m := fun m hm => Zot (hl.2 m hm)
  unfold Q6
  obtain ⟨c, c1, c2, c3, c4, c5, c6⟩ := ZoP hR
  obtain ⟨d, R, d1, d2, d3, d4⟩ := Zn2 hR
  obtain ⟨r, r1, r2⟩ := ZpZ (l := l) copies
  have hb : (if c = 0 then Zdh l else []).length ≤ 9223372036854775807 := by
    split
    · rename_i q
      have := Zld (c5 q).1.2 hR (c5 q).2; omega
    · simp
  have hb2 : (if d = 0 then R.map (·.Frame) else []).length ≤ 9223372036854775807 := by
    split
    · rename_i q
      have := (d4 q).1; rw [List.length_map]; omega
    · simp
  rw [c3, c4]
  simp only [Option.bind_some, decide_true, Bool.not_true, gd, beq_self_eq_true, if_true]
  rw [eqK hb]
  simp only [Option.bind_some, Bool.not_true, Bool.or_self, Bool.false_eq_true, if_false]
  rw [d1, d2]
  simp only [Option.bind_some, decide_true, Bool.not_true, gd, beq_self_eq_true, if_true]
  rw [ZqC hb2]
  simp only [Option.bind_some, Bool.not_true, Bool.or_self, Bool.false_eq_true, if_false]
  rw [r1, r2]
  simp [ZpS]
end Go.Vx
