/- A text of the proof: a verified executor of the program form, or the contracts of the functions that the law reaches. -/
import Derived.Test.YtjfoenlooacoiaaDoorPC
import Derived.Test.YtjfoenlooacoiaaDoorPB
import Derived.Test.YtjfoenlooacoiaaDoorPA
set_option linter.all false
namespace Go.Vx
open Go Go.RowKit
set_option maxHeartbeats 1000000
theorem Zjx {m0 m : api_Memory} {gs : List (Vector Int 64)} {s : ring_spot} (h : PgM m0 gs m s) (ok : MemOK m) (hb : ∀ i, m0.Bad.getD i false = false) (hlim : 100 ≤ m0.Limit) (hlt : gs.length < 100) {f : Vector Int 64} (hf : fN f) {p : Int} (hp : 1000 ≤ p) :
    ZeC m s ∧ (Q3 m s (bytesF f) p).2.1 = true ∧ p - 108 ≤ (Q3 m s (bytesF f) p).1 ∧ PgM m0 (gs ++ [f]) (Q3 m s (bytesF f) p).2.2.1 (Q3 m s (bytesF f) p).2.2.2 := by
  by_cases ht : gs.length % m.Slots.toNat = 0
  · obtain ⟨a, b, c, d⟩ := Zlv h ok hb hlim hlt ht hf hp
    exact ⟨a, b, by omega, d⟩
  · obtain ⟨a, b, c, d⟩ := Zlr h ok ht hf hp
    exact ⟨fun w => (by rw [a] at w; cases w), b, by omega, d⟩
def isT (a i n j : Nat) : Bool := (List.range i).any fun k => decide ((a + k) % n = j)
theorem ZkM (a i n j : Nat) : isT a (i + 1) n j = (isT a i n j || decide ((a + i) % n = j)) := by
  unfold isT
  rw [List.range_succ, List.any_append]; simp
theorem Zn5 {a i n : Nat} (hi : i < n) : isT a i n ((a + i) % n) = false := by
  unfold isT
  rw [List.any_eq_false]
  intro k hk
  have hk' := List.mem_range.1 hk
  rw [decide_eq_true_eq]
  intro e
  have := Zof (a := a) (n := n) (by omega) hi e
  omega
def gsJ (F : Nat → Vector Int 64) (a c n j : Nat) : Nat → List (Vector Int 64)
  | 0 => []
  | K + 1 => gsJ F a c n j K ++ if isT (a + K) c n j = true then [F K] else []
theorem ZhN (F : Nat → Vector Int 64) (a c n j : Nat) : ∀ K, (gsJ F a c n j K).length ≤ K
  | 0 => Nat.le_refl _
  | K + 1 => by
    have := ZhN F a c n j K
    unfold gsJ
    rw [List.length_append]
    split <;> simp <;> omega
structure BlkM (m : api_Memory) : Prop where
  bad : ∀ i, m.Bad.getD i false = false
  lim : 100 ≤ m.Limit
structure KI (l : List api_Memory) (G : Nat → List (Vector Int 64)) (r : ring_Recorder) (c : Nat) : Prop where
  j : RecJ r
  st : r.stopped = false
  fz : r.frozen = false
  n : r.bank.memories.length = l.length
  c : r.copies = (c : Int)
  pg : ∀ k, k < l.length → PgM (l.getD k dfM) (G k) (r.bank.memories.getD k dfM) (r.bank.spots.getD k dfS)
theorem Zlt {l : List api_Memory} (hB : ∀ m ∈ l, BlkM m) {r : ring_Recorder} {G : Nat → List (Vector Int 64)} {c : Nat} (hK : KI l G r c) (hG : ∀ k, (G k).length < 100) {f : Vector Int 64} (hf : fU f) (hs : sndB f = true) {a : Nat} (ha : (numN f).1 = (a : Int)) {p : Int} (hp : 2000 ≤ p ∧ p ≤ 1000000000) :
    ∃ left r', Xf r f p = some (left, true, 0, r') ∧ p - 1000 ≤ left ∧ left ≤ p ∧ KI l (fun k => G k ++ if isT a c l.length k = true then [f] else []) r' c := by
  obtain ⟨fn, fq, fb1, fb2⟩ := Zog hf hs
  have hJ := hK.j
  have hA := hJ.a hK.st
  have hn := hJ.b.n
  have hcp := hJ.cp
  have hc := hK.c
  have hnl := hK.n
  obtain ⟨e, e1, e2⟩ := Zn6 r p
  have h0 : e = 0 := e2.2 ⟨hK.st, hK.fz, by omega⟩
  obtain ⟨q, q1, q2⟩ := Zmp (b := r.bank) hJ.b hA (c := c) (n := r.bank.memories.length) a rfl (by omega)
  have stp : ∀ k, k < l.length → ZeC (r.bank.memories.getD k dfM) (r.bank.spots.getD k dfS) := fun k hk => (Zjx (hK.pg k hk) (hJ.b.ok _ (X6 (by rw [hnl]; exact hk)).1) (hB _ (X6 hk).1).bad (hB _ (X6 hk).1).lim (hG k) fn (p := 1000) (Int.le_refl _)).1
  have hq : q = 0 := q2.2 fun i hi => stp _ (by rw [hnl]; exact Nat.mod_lt _ (by omega))
  unfold Xf
  rw [e1, Option.bind_some, if_neg (by simp [h0]), ZjO hf, Option.bind_some]
  have hfl := Zio hf
  rw [if_neg (by rw [decide_eq_true_eq]; intro w; have := hfl.1 (by omega); rw [hs] at this; cases this)]
  rw [fq, Option.bind_some, ha, hc, Zka (by omega) hn (by omega), Option.bind_some, q1, Option.bind_some, if_neg (by simp [hq]), Zks fn, Option.bind_some]
  have hlen : (tgV a c r.bank.memories.length).length = c := by simp [tgV]
  obtain ⟨z, z1, z2⟩ := Zbd (body := t9 (ZZ (tgV a c r.bank.memories.length) (bytesF f, 0))) (fun s => ∃ (mems : List api_Memory) (spots : List ring_spot) (pw : Int) (k : Nat), s = (mems, spots, r.copies, r.frozen, r.stopped, r.last, r.some_, pw, (k : Int)) ∧ k ≤ c ∧ (p - 108 * k ≤ pw ∧ pw ≤ p) ∧
        mems.length = l.length ∧ BankJ mems spots ∧ BankA mems spots ∧ ∀ j, j < l.length → PgM (l.getD j dfM) (G j ++ if isT a k l.length j = true then [f] else []) (mems.getD j dfM) (spots.getD j dfS)) (fun s => c - s.2.2.2.2.2.2.2.2.toNat)
      (fun z => ∃ mems spots pw, z = .inr (mems, spots, r.copies, r.frozen, r.stopped, r.last, r.some_, pw) ∧ (p - 108 * c ≤ pw ∧ pw ≤ p) ∧ mems.length = l.length ∧ BankJ mems spots ∧ BankA mems spots ∧ ∀ j, j < l.length → PgM (l.getD j dfM) (G j ++ if isT a c l.length j = true then [f] else []) (mems.getD j dfM) (spots.getD j dfS)) (by
        rintro s ⟨mems, spots, pw, k, rfl, hk, hpw, hl, bJ, bA, pg⟩
        show (∃ s', ZZ (tgV a c r.bank.memories.length) (bytesF f, 0) mems spots r.copies r.frozen r.stopped r.last r.some_ pw (k : Int) = some (.inl s') ∧ _) ∨ ∃ z, ZZ (tgV a c r.bank.memories.length) (bytesF f, 0) mems spots r.copies r.frozen r.stopped r.last r.some_ pw (k : Int) = some (.inr z) ∧ _
        unfold ZZ
        rcases Nat.lt_or_ge k c with hkc | hkc
        · left
          have htl : (a + k) % l.length < l.length := Nat.mod_lt _ (by omega)
          have ht : (a + k) % l.length < mems.length := by rw [hl]; exact htl
          have g1 := Zm3 ht
          have g2 := ZkV (l := spots) (k := (a + k) % l.length) (by rw [bJ.len]; exact ht)
          have hm := (X6 ht).1
          have pgt := pg _ htl
          rw [Zn5 (by omega), if_neg (by decide), List.append_nil] at pgt
          obtain ⟨x1, x2, x3, x4⟩ := Zjx pgt (bJ.ok _ hm) (hB _ (X6 htl).1).bad (hB _ (X6 htl).1).lim (hG _) fn (p := pw) (by omega)
          obtain ⟨w1, w2, w3, w4⟩ := ZmL (r := ⟨⟨mems, spots⟩, r.copies, r.frozen, r.stopped, r.last, r.some_⟩) g1 g2 (bJ.u8 _ hm) (bJ.ok _ hm) (bA _ ht) x1 (Xx f) (Zhj fn) (p := pw) (by omega)
          rw [if_pos (by rw [hlen]; simpa using hkc), Zm (ZiX hkc), Option.bind_some,
            show slc (bytesF f) 0 ((bytesF f).length : Int) = some (bytesF f) from (Zce (a := 0) (b := (bytesF f).length) (by omega) (Nat.le_refl _)).trans (by rw [List.take_length, List.drop_zero]), Option.bind_some, hnl, w1, Option.bind_some, show i64 ((k : Int) + 1) = (k : Int) + 1 from Zh (by omega) (by omega)]
          generalize Q3 (mems.getD ((a + k) % l.length) dfM) (spots.getD ((a + k) % l.length) dfS) (bytesF f) pw = A at w2 w3 w4 x2 x3 x4
          have sp := w2.at_ x2
          refine ⟨(mems.set ((a + k) % l.length) A.2.2.1, spots.set ((a + k) % l.length) A.2.2.2, r.copies, r.frozen, r.stopped, r.last, r.some_, A.1, (k : Int) + 1), by simp only [x2, Bool.not_true, Bool.false_eq_true, if_false], ⟨_, _, A.1, k + 1, rfl, hkc, by push_cast; omega, by rw [List.length_set]; exact hl, bJ.set w2.ok w2.u8 (List.length_set ..), fun j hj => ?_, fun j hj => ?_⟩, by simp only; omega⟩
          · rw [List.length_set] at hj
            rw [Zeg ht, Zeg (by rw [bJ.len]; exact ht)]
            by_cases e' : j = (a + k) % l.length
            · rw [if_pos e', if_pos e']; exact sp
            · rw [if_neg e', if_neg e']; exact bA j hj
          · rw [Zeg ht, Zeg (by rw [bJ.len]; exact ht), ZkM]
            by_cases e' : j = (a + k) % l.length
            · rw [if_pos e', if_pos e', e', decide_eq_true rfl, Bool.or_true, if_pos rfl]; exact x4
            · rw [if_neg e', if_neg e', decide_eq_false (fun w => e' w.symm), Bool.or_false]; exact pg j hj
        · have : k = c := by omega
          subst this
          right
          exact ⟨_, by rw [if_neg (by rw [hlen]; simp)], mems, spots, pw, rfl, hpw, hl, bJ, bA, pg⟩) (r.bank.memories, r.bank.spots, r.copies, r.frozen, r.stopped, r.last, r.some_, p, 0) ⟨_, _, p, 0, rfl, Nat.zero_le _, by simp, hnl, hJ.b, hA, fun j hj => by
        have : isT a 0 l.length j = false := rfl
        rw [this, if_neg (by decide), List.append_nil]; exact hK.pg j hj⟩
  have hloop : loop (t9 (ZZ (tgV a c r.bank.memories.length) (bytesF f, 0))) (r.bank.memories, r.bank.spots, (c : Int), r.frozen, r.stopped, r.last, r.some_, p, 0) = some z := by rw [← hc]; exact z1
  rw [hloop, Option.bind_some]
  obtain ⟨mems, spots, pw, rfl, k0, k1, k2, k3, k4⟩ := z2
  simp only [Sum.elim_inr, ZjZ]
  refine ⟨_, _, rfl, by omega, k0.2, ⟨⟨k2, fun _ => k3, ?_⟩, hK.st, hK.fz, k1, hc, k4⟩⟩
  simp only; rw [k1, ← hnl]; exact hJ.cp
end Go.Vx

namespace Go.Vx
open Go Go.RowKit
noncomputable def Znc (n : Nat) : Bool := match QK (n : Int) with
  | some w => decide (0 ≤ w) && (decide (w ≤ 4095) && (decide (w % 2048 = (n : Int)) && Zd6 w))
  | none => false
theorem ZkX : (List.range 2048).all Znc = true := by decide +kernel
noncomputable def wdv (d : Int) : Int := (QK d).getD 0
theorem JR {d : Int} (h : 0 ≤ d ∧ d ≤ 2047) : QK d = some (wdv d) ∧ (0 ≤ wdv d ∧ wdv d ≤ 4095) ∧ wdv d % 2048 = d ∧ Zd6 (wdv d) = true := by
  obtain ⟨n, rfl⟩ : ∃ n : Nat, d = n := ⟨d.toNat, by omega⟩
  have := List.all_eq_true.1 ZkX n (List.mem_range.2 (by omega))
  unfold Znc at this
  unfold wdv
  cases hw : QK (n : Int) with
  | none => rw [hw] at this; cases this
  | some w =>
    rw [hw] at this
    simp only [Bool.and_eq_true, decide_eq_true_eq] at this
    obtain ⟨a, b, c, d⟩ := this
    exact ⟨rfl, ⟨a, b⟩, c, d⟩
theorem ZcH (f : Vector Int 64) {i : Nat} (x : Int) (hi : i < 64) (j : Nat) : wd (Qo f (i : Int) x) j = if j = i then x else wd f j := by
  unfold wd
  rw [Zbo, Int.toNat_natCast, List.getD_eq_getElem?_getD, List.getElem?_set]
  by_cases h : i = j
  · subst h
    rw [if_pos rfl, if_pos (by simp; omega), if_pos rfl]; rfl
  · rw [if_neg h, if_neg (fun e => h e.symm), List.getD_eq_getElem?_getD]
theorem Zjz (j : Nat) : wd (Vector.replicate 64 (0 : Int)) j = 0 := by
  unfold wd
  rw [Vector.toList_replicate, List.getD_eq_getElem?_getD, List.getElem?_replicate]; split <;> rfl
theorem ZgM {f g : Vector Int 64} : ∀ k, (∀ i, 1 ≤ i → i ≤ k → wd f i = wd g i) → Jj f k = Jj g k
  | 0, _ => rfl
  | k + 1, h => by rw [Jj, Jj, ZgM k (fun i a b => h i a (by omega)), h (k + 1) (by omega) (by omega)]
theorem Zi3 {f g : Vector Int 64} (h : ∀ i, i < 62 → wd f i = wd g i) : ZaH f = ZaH g := by
  funext j
  unfold ZaH
  by_cases hj : j < 744
  · rw [h (j / 12) (by omega)]
  · rw [decide_eq_false hj]; rfl
noncomputable def JJ (f0 : Vector Int 64) (data : List Int) : Nat → Vector Int 64
  | 0 => f0
  | k + 1 => Qo (JJ f0 data k) ((3 + k : Nat) : Int) (wdv (data.getD k 0))
theorem ZhM (f0 : Vector Int 64) (data : List Int) (j : Nat) : ∀ k, k ≤ 58 → wd (JJ f0 data k) j = if 3 ≤ j ∧ j < 3 + k then wdv (data.getD (j - 3) 0) else wd f0 j
  | 0, _ => by rw [JJ, if_neg (by omega)]
  | k + 1, hk => by
    rw [JJ, ZcH _ _ (by omega), ZhM f0 data j k (by omega)]
    by_cases hj : j = 3 + k
    · subst hj
      rw [if_pos rfl, if_pos (by omega), show 3 + k - 3 = k by omega]
    · rw [if_neg hj]
      by_cases h2 : 3 ≤ j ∧ j < 3 + k
      · rw [if_pos h2, if_pos (by omega)]
      · rw [if_neg h2, if_neg (by omega)]
noncomputable def Zdl (f : Vector Int 64) : Vector Int 64 := Qo f ((0 : Nat) : Int) (Xw (QF f))
noncomputable def ZaK (f : Vector Int 64) : Vector Int 64 := Qo (Zdl f) ((61 : Nat) : Int) (wdv (Jj (Zdl f) 60))
noncomputable def Zi0 (f : Vector Int 64) : Vector Int 64 := Qo (ZaK f) ((62 : Nat) : Int) (wdv (ckS (ZaK f) 744 / 2048))
noncomputable def Zcv (f : Vector Int 64) : Vector Int 64 := Qo (Zi0 f) ((63 : Nat) : Int) (wdv (ckS (ZaK f) 744 % 2048))
theorem ZkN (f : Vector Int 64) (k : Nat) : 0 ≤ ckS f k ∧ ckS f k < 4194304 := by
  unfold ckS
  have := (pS (ZaH f) k).isLt
  omega
theorem Zju (n : Int) : 0 ≤ Xw n ∧ Xw n ≤ 4095 := by
  unfold Xw
  have h : n % 4 = 0 ∨ n % 4 = 1 ∨ n % 4 = 2 ∨ n % 4 = 3 := by omega
  rcases h with e | e | e | e <;> rw [e] <;> decide
theorem Zh3 {f : Vector Int 64} (h : fU f) {i : Nat} (hi : i < 64) {x : Int} (hx : 0 ≤ x ∧ x ≤ 65535) : fU (Qo f (i : Int) x) := by
  intro j
  rw [ZcH f x hi]
  split
  · exact hx
  · exact h j
theorem ZlW {f : Vector Int 64} (h : fU f) : Jo f = some (Zcv f) := by
  have hb := Zgn f
  have hsy := Zju (QF f)
  have h1 : fU (Zdl f) := Zh3 h (by decide) (by omega)
  have hsb := ZhV (Zdl f) 60
  obtain ⟨w1, w2, _, _⟩ := JR (d := Jj (Zdl f) 60) (by omega)
  have h2 : fU (ZaK f) := Zh3 h1 (by decide) (by omega)
  have hcb := ZkN (ZaK f) 744
  obtain ⟨v1, v2, _, _⟩ := JR (d := ckS (ZaK f) 744 / 2048) (by omega)
  obtain ⟨u1, u2, _, _⟩ := JR (d := ckS (ZaK f) 744 % 2048) (by omega)
  have i0 : ZH f 0 = some (wd f 0) := QJ f (i := 0) (by decide)
  have i61 : ZH (Zdl f) 61 = some (wd (Zdl f) 61) := QJ _ (i := 61) (by decide)
  have i62 : ZH (ZaK f) 62 = some (wd (ZaK f) 62) := QJ _ (i := 62) (by decide)
  have i63 : ZH (Zi0 f) 63 = some (wd (Zi0 f) 63) := QJ _ (i := 63) (by decide)
  have e1 : Qo f 0 (Xw (QF f)) = Zdl f := rfl
  have e2 : Qo (Zdl f) 61 (wdv (Jj (Zdl f) 60)) = ZaK f := rfl
  have e3 : Qo (ZaK f) 62 (wdv (ckS (ZaK f) 744 / 2048)) = Zi0 f := rfl
  have e4 : Qo (Zi0 f) 63 (wdv (ckS (ZaK f) 744 % 2048)) = Zcv f := rfl
  have sh : shr .i64 (ckS (ZaK f) 744) 11 = some (ckS (ZaK f) 744 / 2048) := ZhG _ (k := 11) (by decide)
  have bd : Qt .i64 (ckS (ZaK f) 744) 2047 = ckS (ZaK f) 744 % 2048 := Ze7 (v := ckS (ZaK f) 744) (n := 11) (by decide)
  unfold Jo
  rw [(ZhQ h).1, Option.bind_some, (ZfC hb.1).1, Option.bind_some, (ZfC hb.1).2, Option.bind_some, i0, Option.bind_some, e1, (ZhK h1).1, Option.bind_some, w1, Option.bind_some, i61, Option.bind_some, e2, Zhn h2, Option.bind_some, sh, Option.bind_some, v1, Option.bind_some, bd, u1, Option.bind_some, i62, Option.bind_some, e3, i63, Option.bind_some, e4]
structure Made (f : Vector Int 64) (n : Int) (data : List Int) : Prop where
  u : fU f
  nar : ∀ i, wd f i ≤ 4095
  snd : sndB f = true
  num : numN f = (n, true)
  dat : ∀ j, j < 58 → wd f (3 + j) % 2048 = data.getD j 0
noncomputable def beg (n : Int) : Vector Int 64 := Qo (Qo (Vector.replicate 64 (0 : Int)) ((1 : Nat) : Int) (wdv (n % 2048))) ((2 : Nat) : Int) (wdv (n / 2048))
theorem Zmk {n : Int} {data : List Int} (hn : 0 ≤ n ∧ n < 4194304) (hl : data.length = 58) (hd : ∀ d ∈ data, 0 ≤ d ∧ d ≤ 2047) : (∀ j, wd (JJ (beg n) data 58) j = if 3 ≤ j ∧ j < 61 then wdv (data.getD (j - 3) 0) else if j = 2 then wdv (n / 2048) else if j = 1 then wdv (n % 2048) else 0) ∧ ∀ j, 0 ≤ wd (JJ (beg n) data 58) j ∧ wd (JJ (beg n) data 58) j ≤ 4095 := by
  obtain ⟨a1, a2, a3, a4⟩ := JR (d := n % 2048) (by omega)
  obtain ⟨b1, b2, b3, b4⟩ := JR (d := n / 2048) (by omega)
  have hg : ∀ k, k < 58 → 0 ≤ data.getD k 0 ∧ data.getD k 0 ≤ 2047 := fun k hk => by
    obtain ⟨x, hx⟩ := Xd (xs := data) (k := k) (by omega)
    rw [List.getD_eq_getElem?_getD, hx]
    exact hd x (List.mem_of_getElem? hx)
  have hbeg : ∀ j, wd (beg n) j = if j = 2 then wdv (n / 2048) else if j = 1 then wdv (n % 2048) else 0 := fun j => by
    unfold beg
    rw [ZcH _ _ (by decide), ZcH _ _ (by decide), Zjz]
  have hW : ∀ j, wd (JJ (beg n) data 58) j = if 3 ≤ j ∧ j < 61 then wdv (data.getD (j - 3) 0) else if j = 2 then wdv (n / 2048) else if j = 1 then wdv (n % 2048) else 0 := fun j => by
    rw [ZhM _ _ _ 58 (by decide), hbeg]
  have hU : ∀ j, 0 ≤ wd (JJ (beg n) data 58) j ∧ wd (JJ (beg n) data 58) j ≤ 4095 := fun j => by
    rw [hW]
    split
    · exact (JR (hg (j - 3) (by omega))).2.1
    · split
      · exact b2
      · split
        · exact a2
        · omega
  exact ⟨hW, hU⟩
theorem ZoD {n : Int} {data : List Int} (hn : 0 ≤ n ∧ n < 4194304) (hl : data.length = 58) (hd : ∀ d ∈ data, 0 ≤ d ∧ d ≤ 2047) : XO n data = some (Zcv (JJ (beg n) data 58), 0) := by
  obtain ⟨a1, a2, a3, a4⟩ := JR (d := n % 2048) (by omega)
  obtain ⟨b1, b2, b3, b4⟩ := JR (d := n / 2048) (by omega)
  obtain ⟨_, hU⟩ := Zmk hn hl hd
  have hfU : fU (JJ (beg n) data 58) := fun j => by have := hU j; omega
  have L := Zeb (body := XW data) (JJ (beg n) data) (.inr (JJ (beg n) data 58) : (Vector Int 64 × Int) ⊕ Vector Int 64) (a := 0) (b := 58) (by decide) (fun k _ hk => by
    obtain ⟨x, hx⟩ := Xd (xs := data) (k := k) (by omega)
    have hdx := hd x (List.mem_of_getElem? hx)
    have hgx : data.getD k 0 = x := by rw [List.getD_eq_getElem?_getD, hx]; rfl
    unfold XW
    rw [if_pos (by rw [decide_eq_true_eq]; omega), Zm hx, Option.bind_some, if_neg (by rw [decide_eq_false (by omega), decide_eq_false (by omega)]; decide), (JR hdx).1, Option.bind_some, ZaX (z := 3 + (k : Int)) (by omega) (by omega), show 3 + (k : Int) = ((3 + k : Nat) : Int) by push_cast; rfl, QJ _ (by omega), Option.bind_some, ZaX (by omega) (by omega), JJ, hgx]) (by
    unfold XW
    rw [if_neg (by rw [decide_eq_true_eq]; omega)])
  have e0 : Qt .i64 n 2047 = n % 2048 := Ze7 (v := n) (n := 11) (by decide)
  have e1 : shr .i64 n 11 = some (n / 2048) := ZhG _ (k := 11) (by decide)
  have i1 : ZH (Vector.replicate 64 (0 : Int)) 1 = some (wd (Vector.replicate 64 (0 : Int)) 1) := QJ _ (i := 1) (by decide)
  have i2 : ZH (Qo (Vector.replicate 64 0) 1 (wdv (n % 2048))) 2 = some (wd (Qo (Vector.replicate 64 0) 1 (wdv (n % 2048))) 2) := QJ _ (i := 2) (by decide)
  have eb : Qo (Qo (Vector.replicate 64 0) 1 (wdv (n % 2048))) 2 (wdv (n / 2048)) = JJ (beg n) data 0 := rfl
  unfold XO
  rw [if_neg (by rw [decide_eq_false (by omega), decide_eq_false (by omega)]; decide), if_neg (by rw [decide_eq_true (by omega)]; decide), e0, a1, Option.bind_some, e1, Option.bind_some, b1, Option.bind_some, i1, Option.bind_some, i2, Option.bind_some, eb]
  have L' : loop (t2 (XW data)) (JJ (beg n) data 0, 0) = some (.inr (JJ (beg n) data 58)) := L
  rw [L', Option.bind_some, Sum.elim_inr, Qp, ZlW hfU, Option.bind_some]
theorem Zow {n : Int} {data : List Int} (hn : 0 ≤ n ∧ n < 4194304) (hl : data.length = 58) (hd : ∀ d ∈ data, 0 ≤ d ∧ d ≤ 2047) : ∃ f, XO n data = some (f, 0) ∧ Made f n data := by
  obtain ⟨a1, a2, a3, a4⟩ := JR (d := n % 2048) (by omega)
  obtain ⟨b1, b2, b3, b4⟩ := JR (d := n / 2048) (by omega)
  have hg : ∀ k, k < 58 → 0 ≤ data.getD k 0 ∧ data.getD k 0 ≤ 2047 := fun k hk => by
    obtain ⟨x, hx⟩ := Xd (xs := data) (k := k) (by omega)
    rw [List.getD_eq_getElem?_getD, hx]
    exact hd x (List.mem_of_getElem? hx)
  have hbeg : ∀ j, wd (beg n) j = if j = 2 then wdv (n / 2048) else if j = 1 then wdv (n % 2048) else 0 := fun j => by
    unfold beg
    rw [ZcH _ _ (by decide), ZcH _ _ (by decide), Zjz]
  have hW : ∀ j, wd (JJ (beg n) data 58) j = if 3 ≤ j ∧ j < 61 then wdv (data.getD (j - 3) 0) else if j = 2 then wdv (n / 2048) else if j = 1 then wdv (n % 2048) else 0 := fun j => by
    rw [ZhM _ _ _ 58 (by decide), hbeg]
  have hU : ∀ j, 0 ≤ wd (JJ (beg n) data 58) j ∧ wd (JJ (beg n) data 58) j ≤ 4095 := fun j => by
    rw [hW]
    split
    · exact (JR (hg (j - 3) (by omega))).2.1
    · split
      · exact b2
      · split
        · exact a2
        · omega
  have hfU : fU (JJ (beg n) data 58) := fun j => by have := hU j; omega
  refine ⟨Zcv (JJ (beg n) data 58), ZoD hn hl hd, ?_⟩
  generalize hF : JJ (beg n) data 58 = F at hU hfU hW
  have hsy := Zju (QF F)
  have h1 : fU (Zdl F) := Zh3 hfU (by decide) (by omega)
  have hsb := ZhV (Zdl F) 60
  obtain ⟨_, w2, w3, w4⟩ := JR (d := Jj (Zdl F) 60) (by omega)
  have h2 : fU (ZaK F) := Zh3 h1 (by decide) (by omega)
  have hcb := ZkN (ZaK F) 744
  obtain ⟨_, v2, v3, v4⟩ := JR (d := ckS (ZaK F) 744 / 2048) (by omega)
  obtain ⟨_, u2, u3, u4⟩ := JR (d := ckS (ZaK F) 744 % 2048) (by omega)
  have g1 : ∀ j, wd (Zdl F) j = if j = 0 then Xw (QF F) else wd F j := fun j => ZcH _ _ (by decide) j
  have g2 : ∀ j, wd (ZaK F) j = if j = 61 then wdv (Jj (Zdl F) 60) else wd (Zdl F) j := fun j => ZcH _ _ (by decide) j
  have g3 : ∀ j, wd (Zi0 F) j = if j = 62 then wdv (ckS (ZaK F) 744 / 2048) else wd (ZaK F) j := fun j => ZcH _ _ (by decide) j
  have g4 : ∀ j, wd (Zcv F) j = if j = 63 then wdv (ckS (ZaK F) 744 % 2048) else wd (Zi0 F) j := fun j => ZcH _ _ (by decide) j
  have G : ∀ j, 1 ≤ j → j ≤ 60 → wd (Zcv F) j = wd F j := fun j a b => by rw [g4, if_neg (by omega), g3, if_neg (by omega), g2, if_neg (by omega), g1, if_neg (by omega)]
  have G1 : ∀ j, 1 ≤ j → j ≤ 60 → wd (Zdl F) j = wd F j := fun j a b => by rw [g1, if_neg (by omega)]
  have K0 : wd (Zcv F) 0 = Xw (QF F) := by rw [g4, if_neg (by decide), g3, if_neg (by decide), g2, if_neg (by decide), g1, if_pos rfl]
  have K61 : wd (Zcv F) 61 = wdv (Jj (Zdl F) 60) := by rw [g4, if_neg (by decide), g3, if_neg (by decide), g2, if_pos rfl]
  have K62 : wd (Zcv F) 62 = wdv (ckS (ZaK F) 744 / 2048) := by rw [g4, if_neg (by decide), g3, if_pos rfl]
  have K63 : wd (Zcv F) 63 = wdv (ckS (ZaK F) 744 % 2048) := by rw [g4, if_pos rfl]
  have f1 : wd F 1 = wdv (n % 2048) := by rw [hW, if_neg (by omega), if_neg (by decide), if_pos rfl]
  have f2 : wd F 2 = wdv (n / 2048) := by rw [hW, if_neg (by omega), if_pos rfl]
  have fD : ∀ j, j < 58 → wd F (3 + j) = wdv (data.getD j 0) := fun j hj => by rw [hW, if_pos (by omega), show 3 + j - 3 = j by omega]
  have efn : QF (Zcv F) = QF F := by unfold QF; rw [G 1 (by decide) (by decide), G 2 (by decide) (by decide)]
  have fnv : QF F = n := by unfold QF; rw [f1, f2, a3, b3]; omega
  have hall : ∀ j, 0 ≤ wd (Zcv F) j ∧ wd (Zcv F) j ≤ 4095 := fun j => by
    rw [g4]; split
    · exact u2
    · rw [g3]; split
      · exact v2
      · rw [g2]; split
        · exact w2
        · rw [g1]; split
          · exact hsy
          · exact hU j
  have o1 : Zd6 (wd (Zcv F) 1) = true := by rw [G 1 (by decide) (by decide), f1]; exact a4
  have o2 : Zd6 (wd (Zcv F) 2) = true := by rw [G 2 (by decide) (by decide), f2]; exact b4
  have odd : ∀ j, 1 ≤ j → j < 64 → Zd6 (wd (Zcv F) j) = true := fun j a b => by
    rcases Nat.lt_or_ge j 61 with hj | hj
    · rcases (show j = 1 ∨ j = 2 ∨ 3 ≤ j by omega) with rfl | rfl | h3
      · exact o1
      · exact o2
      · rw [G j a (by omega), show j = 3 + (j - 3) by omega, fD _ (by omega)]
        exact (JR (hg _ (by omega))).2.2.2
    · rcases (show j = 61 ∨ j = 62 ∨ j = 63 by omega) with rfl | rfl | rfl
      · rw [K61]; exact w4
      · rw [K62]; exact v4
      · rw [K63]; exact u4
  refine ⟨fun j => by have := hall j; omega, fun j => (hall j).2, ?_, ?_, fun j hj => ?_⟩
  · unfold sndB
    have n1 : Zaa (Zcv F) = true := List.all_eq_true.2 fun k _ => decide_eq_true (hall k).2
    have n2 : (List.range' 1 63).all (Zga (Zcv F)) = true := List.all_eq_true.2 fun k hk => by
      obtain ⟨i, hi, rfl⟩ := List.mem_range'.1 hk
      exact odd _ (by omega) (by omega)
    have n3 : Jj (Zcv F) 60 = Jj (Zdl F) 60 := ZgM 60 fun i a b => by rw [G i a b, G1 i a b]
    have n4 : ZaH (Zcv F) = ZaH (ZaK F) := Zi3 fun i hi => by rw [g4, if_neg (by omega), g3, if_neg (by omega)]
    have n5 : ckS (Zcv F) 744 = ckS (ZaK F) 744 := by unfold ckS; rw [n4]
    have n6 : ckW (Zcv F) = ckS (ZaK F) 744 := by unfold ckW; rw [K62, K63, v3, u3]; omega
    rw [n1, n2, n3, n5, n6, K0, efn, K61, w3, decide_eq_true rfl, decide_eq_true rfl, decide_eq_true rfl]
    rfl
  · unfold numN
    rw [o1, o2, efn, fnv]
    rfl
  · rw [G _ (by omega) (by omega), fD j hj]
    exact (JR (hg j hj)).2.2.1
end Go.Vx

namespace Go.Vx
open Go Go.RowKit
theorem ZmJ : ZdX = some true := by decide +kernel
theorem Zl4 : Zb4 = some true := ZhH true ZmJ
end Go.Vx

namespace Go.Vx
open Go Go.RowKit
set_option maxHeartbeats 1000000
structure BlankM (m : api_Memory) : Prop where
  ok : MemOK m
  lim : 100 ≤ m.Limit
  wear : ∀ i, i < m.Sectors.length → m.Wear.getD i 0 = 0
  bad : ∀ i, i < m.Sectors.length → m.Bad.getD i false = false
  row : ∀ i, i < m.Sectors.length → ∃ k, m.Sectors.getD i [] = List.replicate k 255
theorem BlankM.m {m : api_Memory} (h : BlankM m) : BlkM m := ⟨fun i => by
  rcases Nat.lt_or_ge i m.Sectors.length with w | w
  · exact h.bad i w
  · rw [List.getD_eq_getElem?_getD, List.getElem?_eq_none (by rw [h.ok.bad]; exact w)]; rfl, h.lim⟩
theorem BlankM.u8 {m : api_Memory} (h : BlankM m) : memR m := fun s hs => by
  obtain ⟨i, hi, rfl⟩ := List.getElem_of_mem hs
  obtain ⟨k, hk⟩ := h.row i hi
  rw [List.getD_eq_getElem?_getD, List.getElem?_eq_getElem hi] at hk
  have : m.Sectors[i] = List.replicate k 255 := hk
  rw [this]; exact Zli k
theorem ZlK (l : List api_Memory) : ∃ b, Zcc l 100 = some b ∧ (b = true → (1 ≤ l.length ∧ l.length ≤ 8) ∧ ∀ m ∈ l, BlankM m) := by
  obtain ⟨c, c1, c2, c3, c4⟩ := Zix l
  unfold Zcc
  rw [c2, Option.bind_some]
  by_cases q : c = 0
  · obtain ⟨hl, hO⟩ := c3 q
    rw [if_neg (by simp [q])]
    obtain ⟨r, r1, r2⟩ := Zbf (body := Zao l 100) (N := l.length) (fun k => ∀ j, j < k → BlankM (l.getD j dfM)) (fun r => (∃ b, r = .inl b ∧ b = false) ∨ (r = .inr () ∧ ∀ j, j < l.length → BlankM (l.getD j dfM))) (fun k hk hI => by
      obtain ⟨g1, g2⟩ := X6 hk
      have ok := hO _ g1
      have ek : i64 ((k : Int) + 1) = (k : Int) + 1 := Zh (by omega) (by omega)
      unfold Zao
      rw [if_pos (by simpa using hk), Zm g2, Option.bind_some, ek]
      by_cases hlim : (l.getD k dfM).Limit < 100
      · right
        refine ⟨.inl false, ?_, .inl ⟨false, rfl, rfl⟩⟩
        rw [if_pos (decide_eq_true hlim)]; rfl
      · rw [if_neg (by rw [decide_eq_true_eq]; exact hlim)]
        obtain ⟨z, z1, z2⟩ := Zbf (body := Zai (l.getD k dfM)) (N := (l.getD k dfM).Sectors.length) (fun i => ∀ j, j < i → (l.getD k dfM).Wear.getD j 0 = 0 ∧ (l.getD k dfM).Bad.getD j false = false ∧ ∃ n, (l.getD k dfM).Sectors.getD j [] = List.replicate n 255)
          (fun z => (∃ b, z = .inl b ∧ b = false) ∨ (z = .inr () ∧ ∀ j, j < (l.getD k dfM).Sectors.length → (l.getD k dfM).Wear.getD j 0 = 0 ∧ (l.getD k dfM).Bad.getD j false = false ∧ ∃ n, (l.getD k dfM).Sectors.getD j [] = List.replicate n 255)) (fun i hi hJ => by
            have hn := ok.n
            have ei : i64 ((i : Int) + 1) = (i : Int) + 1 := Zh (by omega) (by omega)
            have hrow := ok.row _ (row_bd.getD_memL hi)
            have hsl := ok.slots
            unfold Zai
            rw [if_pos (by simpa using hi), Zm (QL hi []), Option.bind_some, Zm (QL (s := (l.getD k dfM).Wear) (by have := ok.wear; omega) 0), Option.bind_some, Zm (QL (s := (l.getD k dfM).Bad) (by have := ok.bad; omega) false), ei]
            by_cases hw : (l.getD k dfM).Wear.getD i 0 = 0
            · rw [hw]
              cases hbd : (l.getD k dfM).Bad.getD i false with
              | true =>
                right
                exact ⟨.inl false, by simp [gd], .inl ⟨false, rfl, rfl⟩⟩
              | false =>
                obtain ⟨y, y1, y2⟩ := Zbf (body := Zav ((l.getD k dfM).Sectors.getD i [])) (N := ((l.getD k dfM).Sectors.getD i []).length) (fun j => ∀ t, t < j → ((l.getD k dfM).Sectors.getD i []).getD t 0 = 255)
                  (fun y => (∃ b, y = .inl b ∧ b = false) ∨ (y = .inr () ∧ ∀ t, t < ((l.getD k dfM).Sectors.getD i []).length → ((l.getD k dfM).Sectors.getD i []).getD t 0 = 255)) (fun j hj hT => by
                    unfold Zav
                    rw [if_pos (by simpa using hj), Zm (QL hj 0), Option.bind_some, show i64 ((j : Int) + 1) = (j : Int) + 1 from Zh (by omega) (by omega)]
                    by_cases e : ((l.getD k dfM).Sectors.getD i []).getD j 0 = 255
                    · left
                      refine ⟨by rw [if_neg (by rw [e]; decide)], fun t ht => ?_⟩
                      by_cases et : t = j
                      · subst et; exact e
                      · exact hT t (by omega)
                    · right
                      exact ⟨_, by rw [if_pos (by rw [decide_eq_false e]; rfl)], .inl ⟨false, rfl, rfl⟩⟩) (fun hT => ⟨.inr (), by unfold Zav; rw [if_neg (by simp)], .inr ⟨rfl, hT⟩⟩) (fun t ht => absurd ht (Nat.not_lt_zero _))
                simp only [decide_true, Bool.not_true, gd, beq_self_eq_true, if_true, Option.bind_some, Bool.or_self, Bool.false_eq_true, if_false]
                rw [y1]
                rcases y2 with ⟨b, rfl, hb⟩ | ⟨rfl, hT⟩
                · right
                  exact ⟨.inl b, rfl, .inl ⟨b, rfl, hb⟩⟩
                · left
                  refine ⟨rfl, fun j hj => ?_⟩
                  by_cases e : j = i
                  · subst e
                    refine ⟨hw, hbd, _, ZaT (t := List.replicate ((l.getD k dfM).Sectors.getD j []).length 255) (by simp) fun t ht => by rw [hT t ht, ZfT ht]⟩
                  · exact hJ j (by omega)
            · right
              refine ⟨.inl false, ?_, .inl ⟨false, rfl, rfl⟩⟩
              rw [decide_eq_false hw]
              simp [gd]) (fun hJ => ⟨.inr (), by unfold Zai; rw [if_neg (by simp)], .inr ⟨rfl, hJ⟩⟩) (fun j hj => absurd hj (Nat.not_lt_zero _))
        rw [z1]
        rcases z2 with ⟨b, rfl, hb⟩ | ⟨rfl, hJ⟩
        · right
          exact ⟨.inl b, rfl, .inl ⟨b, rfl, hb⟩⟩
        · left
          refine ⟨rfl, fun j hj => ?_⟩
          by_cases e : j = k
          · subst e
            exact ⟨ok, by omega, fun i hi => (hJ i hi).1, fun i hi => (hJ i hi).2.1, fun i hi => (hJ i hi).2.2⟩
          · exact hI j (by omega)) (fun hI => ⟨.inr (), by unfold Zao; rw [if_neg (by simp)], .inr ⟨rfl, hI⟩⟩) (fun j hj => absurd hj (Nat.not_lt_zero _))
    rw [r1]
    rcases r2 with ⟨b, rfl, hb⟩ | ⟨rfl, hI⟩
    · exact ⟨b, rfl, fun w => by rw [hb] at w; cases w⟩
    · refine ⟨true, rfl, fun _ => ⟨hl, fun m hm => ?_⟩⟩
      obtain ⟨j, hj, e⟩ := List.getElem_of_mem hm
      have := hI j hj
      rw [List.getD_eq_getElem?_getD, List.getElem?_eq_getElem hj] at this
      rw [← e]; exact this
  · rw [if_pos (by simp [q])]
    exact ⟨false, rfl, fun w => by cases w⟩
theorem Ziy {m : api_Memory} (h : BlankM m) : Zaw m = some ⟨-1, 0⟩ := by
  have hd : ∀ k, k ≤ m.Sectors.length → hdM m k = [] := by
    intro k
    induction k with
    | zero => intro _; rfl
    | succ k ih =>
      intro hk
      rw [ZgQ, ih (by omega)]
      obtain ⟨n, hn⟩ := h.row k (by omega)
      have hrow := h.ok.row _ (row_bd.getD_memL (show k < m.Sectors.length by omega))
      have hsl := h.ok.slots
      rw [hn, List.length_replicate] at hrow
      have : okM m k = false := by
        unfold okM
        rw [hn, ZgI (by omega)]; rfl
      rw [this]; rfl
  obtain ⟨s1, _, s3, _⟩ := Ziv h.u8 h.ok
  rw [hd _ (Nat.le_refl _)] at s3
  have : Zdw m = [] := s3.eq_nil
  unfold Zaw
  rw [s1, this]; rfl
theorem ZmG {m : api_Memory} (h : BlankM m) : PgM m [] m ⟨-1, 0⟩ := by
  have hsl := h.ok.slots
  have hn := h.ok.n
  have hp : pgs m.Slots.toNat 0 = 0 := by
    unfold pgs
    rw [Nat.zero_add]; exact Nat.div_eq_of_lt (by omega)
  refine ⟨rfl, rfl, rfl, rfl, fun i hi => ?_, fun P _ q2 => ?_, fun P _ q2 => ?_, fun i _ hi => h.row i hi, fun _ => rfl, fun w => absurd w (Nat.lt_irrefl _)⟩
  · rw [List.length_nil, hp, h.wear i hi]
    unfold cntP
    rw [Nat.zero_add, Nat.div_eq_of_lt (by omega)]; rfl
  · rw [List.length_nil, hp] at q2; exact absurd q2 (Nat.not_lt_zero _)
  · rw [List.length_nil, hp] at q2; exact absurd q2 (Nat.not_lt_zero _)
theorem Zms {l : List api_Memory} (hl : 1 ≤ l.length ∧ l.length ≤ 8) (hB : ∀ m ∈ l, BlankM m) {c : Nat} (hc : 1 ≤ c ∧ c ≤ l.length) :
    ZaM l (c : Int) = some (.inr (⟨⟨l, List.replicate l.length ⟨-1, 0⟩⟩, c, false, false, 0, false⟩, 0)) := by
  obtain ⟨e, c1, c2, c3, c4⟩ := Zix l
  have he : e = 0 := c4 ⟨hl, fun m hm => (hB m hm).ok⟩
  unfold ZaM
  rw [c1, ZbH]
  have a1 : (1 : Int) ≤ (c : Int) := by omega
  have a2 : (c : Int) ≤ (l.length : Int) := by omega
  simp only [Option.bind_some, he, decide_true, Bool.not_true, Bool.false_eq_true, if_false, decide_eq_true a1, decide_eq_true a2, Bool.and_self]
  rw [Zhv hl.2 (fun m hm => (hB m hm).ok), Option.bind_some]
  obtain ⟨r, r1, r2⟩ := Zlc (body := Zar l) (a0 := ([] : List ring_spot)) (b0 := false) (N := l.length) (fun k sp fr => sp = List.replicate k ⟨-1, 0⟩ ∧ fr = false) (fun r => r = (List.replicate l.length ⟨-1, 0⟩, false)) (fun k sp fr hk hI => .inl (by
    obtain ⟨rfl, rfl⟩ := hI
    obtain ⟨g1, g2⟩ := X6 hk
    have ek : i64 ((k : Int) + 1) = (k : Int) + 1 := Zh (by omega) (by omega)
    unfold Zar
    rw [if_pos (by simpa using hk), Zm g2, Option.bind_some, Ziy (hB _ g1), Option.bind_some, JS (by simp; omega), Option.bind_some, ek, if_neg (by decide)]
    exact ⟨_, _, rfl, by rw [List.replicate_succ'], rfl⟩)) (fun sp fr hI => ⟨(sp, fr), by unfold Zar; rw [if_neg (by simp)], by rw [hI.1, hI.2]⟩) ⟨rfl, rfl⟩
  rw [r1, r2]; rfl
theorem Zl6 {l : List api_Memory} (hl : 1 ≤ l.length ∧ l.length ≤ 8) (hB : ∀ m ∈ l, BlankM m) {c : Nat} (hc : 1 ≤ c ∧ c ≤ l.length) (F : Nat → Vector Int 64) (a : Nat) : KI l (fun j => gsJ F a c l.length j 0) ⟨⟨l, List.replicate l.length ⟨-1, 0⟩⟩, c, false, false, 0, false⟩ c := by
  have sp : ∀ k, k < l.length → (List.replicate l.length (⟨-1, 0⟩ : ring_spot)).getD k dfS = ⟨-1, 0⟩ := fun k hk => by
    rw [List.getD_eq_getElem?_getD, List.getElem?_replicate, if_pos hk]; rfl
  refine ⟨⟨⟨hl, fun m hm => (hB m hm).ok, fun m hm => (hB m hm).u8, by simp⟩, fun _ k hk => ?_, by simp only; omega⟩, rfl, rfl, rfl, rfl, fun k hk => ?_⟩
  · have hk' : k < l.length := hk
    have ok := (hB _ (X6 hk').1).ok
    have := ok.slots
    show SpotOK (l.getD k dfM) ((List.replicate l.length (⟨-1, 0⟩ : ring_spot)).getD k dfS)
    rw [sp k hk']
    exact ⟨.inl ⟨rfl, rfl⟩, ⟨Int.le_refl _, by simp only; omega⟩, fun w => by simp at w⟩
  · show PgM (l.getD k dfM) [] (l.getD k dfM) ((List.replicate l.length (⟨-1, 0⟩ : ring_spot)).getD k dfS)
    rw [sp k hk]
    exact ZmG (hB _ (X6 hk).1)
theorem Znx {l : List api_Memory} (hl : 1 ≤ l.length ∧ l.length ≤ 8) (hB : ∀ m ∈ l, BlankM m) {c : Nat} (hc : 1 ≤ c ∧ c ≤ l.length) {Fs : List (Vector Int 64)} {F : Nat → Vector Int 64} {a : Nat} (hF : ∀ k, k < Fs.length → Fs[k]? = some (F k) ∧ fU (F k) ∧ sndB (F k) = true ∧ (numN (F k)).1 = ((a + k : Nat) : Int)) (hlen : Fs.length ≤ 100) :
    ∃ r, Zap l (c : Int) Fs 1000000000 = some (Fs, r.bank.memories, true) ∧ KI l (fun j => gsJ F a c l.length j Fs.length) r c := by
  unfold Zap
  rw [Zms hl hB hc, Option.bind_some]
  simp only [Sum.elim_inr]
  rw [if_neg (by decide)]
  obtain ⟨z, z1, r, rfl, z2⟩ := Zbd (body := t10 (Xr Fs)) (fun s => ∃ (r : ring_Recorder) (p : Int) (k : Nat), s = (p, r.bank.memories, r.bank.spots, r.copies, r.frozen, r.stopped, r.last, r.some_, Fs.take k, (k : Int)) ∧ k ≤ Fs.length ∧ (1000000000 - 1000 * k ≤ p ∧ p ≤ 1000000000) ∧ KI l (fun j => gsJ F a c l.length j k) r c) (fun s => Fs.length - s.2.2.2.2.2.2.2.2.2.toNat)
    (fun z => ∃ r : ring_Recorder, z = (r.bank.memories, r.bank.spots, r.copies, r.frozen, r.stopped, r.last, r.some_, Fs) ∧ KI l (fun j => gsJ F a c l.length j Fs.length) r c) (by
      rintro s ⟨r, p, k, rfl, hk, hp, hK⟩
      show (∃ s', Xr Fs p r.bank.memories r.bank.spots r.copies r.frozen r.stopped r.last r.some_ (Fs.take k) (k : Int) = some (.inl s') ∧ _) ∨ ∃ z, Xr Fs p r.bank.memories r.bank.spots r.copies r.frozen r.stopped r.last r.some_ (Fs.take k) (k : Int) = some (.inr z) ∧ _
      unfold Xr
      rcases Nat.lt_or_ge k Fs.length with h | h
      · left
        obtain ⟨f1, f2, f3, f4⟩ := hF k h
        obtain ⟨left, r', w1, w2, w3, w4⟩ := Zlt (fun m hm => (hB m hm).m) hK (fun j => by have := ZhN F a c l.length j k; omega) f2 f3 f4 (p := p) (by omega)
        have er : ring_Recorder.mk (ring_bank.mk r.bank.memories r.bank.spots) r.copies r.frozen r.stopped r.last r.some_ = r := rfl
        rw [if_pos (by simpa using h), Zm f1, Option.bind_some, er, w1, Option.bind_some]
        simp only [decide_true, Bool.not_true, Bool.false_eq_true, if_false]
        rw [Zbs (by simp; omega), Option.bind_some, show i64 ((k : Int) + 1) = (k : Int) + 1 from Zh (by omega) (by omega)]
        refine ⟨_, rfl, ⟨r', left, k + 1, by rw [List.take_succ, f1]; rfl, h, by push_cast; omega, w4⟩, by simp only; omega⟩
      · have : k = Fs.length := by omega
        subst this
        right
        exact ⟨_, by rw [if_neg (by simp)], r, by rw [List.take_length], hK⟩) (1000000000, l, List.replicate l.length ⟨-1, 0⟩, (c : Int), false, false, 0, false, [], 0) ⟨_, 1000000000, 0, rfl, Nat.zero_le _, by simp, Zl6 hl hB hc F a⟩
  rw [z1, Option.bind_some]
  simp only [ZjZ]
  unfold Xm
  rw [Zhv z2.j.b.n.2 z2.j.b.ok]
  exact ⟨r, rfl, z2⟩
end Go.Vx

namespace Go.Vx
open Go Go.RowKit
set_option maxHeartbeats 1000000
def gB (n c : Nat) : Nat → Nat
  | 0 => 0
  | d + 1 => gB n c d + if (List.range c).any (fun i => decide ((d + 1 + i) % n = 0)) = true then 1 else 0
theorem Zpq (n c d : Nat) : gB n c (d + 1) = gB n c d + if (List.range c).any (fun i => decide ((d + 1 + i) % n = 0)) = true then 1 else 0 := rfl
theorem Zns : (List.range 9).all (fun n => (List.range 9).all fun c => (List.range 101).all fun d => !(decide (1 ≤ c) && decide (c ≤ n)) || decide (gB n c d * n ≤ d * c)) = true := by decide +kernel
theorem Zo3 {n c d : Nat} (h1 : 1 ≤ c ∧ c ≤ n) (h2 : n ≤ 8) (h3 : d ≤ 100) : gB n c d * n ≤ d * c := by
  have a := List.all_eq_true.1 Zns n (List.mem_range.2 (by omega))
  have b := List.all_eq_true.1 a c (List.mem_range.2 (by omega))
  have e := List.all_eq_true.1 b d (List.mem_range.2 (by omega))
  rw [decide_eq_true h1.1, decide_eq_true h1.2] at e
  simpa using e
theorem ZiZ {x y n : Nat} : (x + y) % n = x % n ↔ y % n = 0 := by
  constructor
  · intro h
    have := Nat.sub_mod_eq_zero_of_mod_eq h
    rwa [Nat.add_sub_cancel_left] at this
  · intro h
    have := Nat.div_add_mod y n
    rw [h, Nat.add_zero] at this
    rw [← this, Nat.add_mul_mod_self_left]
theorem Znl {a k d c n : Nat} : isT (a + (k + 1 + d)) c n ((a + k) % n) = (List.range c).any (fun i => decide ((d + 1 + i) % n = 0)) := by
  unfold isT
  congr 1
  funext i
  have : (a + (k + 1 + d) + i) % n = (a + k) % n ↔ (d + 1 + i) % n = 0 := by
    rw [show a + (k + 1 + d) + i = (a + k) + (d + 1 + i) by omega]; exact ZiZ
  simp only [this]
theorem Zm1 (F : Nat → Vector Int 64) (a c n j K : Nat) : gsJ F a c n j (K + 1) = gsJ F a c n j K ++ if isT (a + K) c n j = true then [F K] else [] := rfl
theorem ZlI (F : Nat → Vector Int 64) {a k c n : Nat} (hc : 1 ≤ c) : ∀ d, (gsJ F a c n ((a + k) % n) (k + 1 + d)).length = (gsJ F a c n ((a + k) % n) k).length + 1 + gB n c d
  | 0 => by
    show (gsJ F a c n ((a + k) % n) k ++ _).length = _
    have : isT (a + k) c n ((a + k) % n) = true := by
      unfold isT
      rw [List.any_eq_true]
      exact ⟨0, List.mem_range.2 hc, by simp⟩
    rw [this, if_pos rfl, List.length_append]; rfl
  | d + 1 => by
    have ih := ZlI F (a := a) (k := k) (c := c) (n := n) hc d
    rw [show k + 1 + (d + 1) = k + 1 + d + 1 from rfl, Zm1, List.length_append, ih, Znl]
    rw [Zpq]
    by_cases hh : ((List.range c).any fun i => decide ((d + 1 + i) % n = 0)) = true
    · rw [if_pos hh, if_pos hh]; simp only [List.length_cons, List.length_nil]; omega
    · rw [if_neg hh, if_neg hh]; simp only [List.length_nil]; omega
theorem Zjr (F : Nat → Vector Int 64) (a c n j k : Nat) : ∀ d, ∃ r, gsJ F a c n j (k + d) = gsJ F a c n j k ++ r
  | 0 => ⟨[], by simp⟩
  | d + 1 => by
    obtain ⟨r, hr⟩ := Zjr F a c n j k d
    refine ⟨r ++ if isT (a + (k + d)) c n j = true then [F (k + d)] else [], ?_⟩
    rw [show k + (d + 1) = k + d + 1 from rfl, Zm1, hr, List.append_assoc]
theorem ZhJ (F : Nat → Vector Int 64) (a c n j : Nat) : ∀ {K : Nat} {x}, x ∈ gsJ F a c n j K → ∃ k, k < K ∧ x = F k
  | 0, x, h => by cases h
  | K + 1, x, h => by
    rcases List.mem_append.1 h with q | q
    · obtain ⟨k, hk, e⟩ := ZhJ F a c n j q
      exact ⟨k, by omega, e⟩
    · split at q
      · exact ⟨K, by omega, List.mem_singleton.1 q⟩
      · cases q
theorem ZnU (F : Nat → Vector Int 64) {a c n k K : Nat} (hc : 1 ≤ c) (hk : k < K) : (gsJ F a c n ((a + k) % n) K).getD (gsJ F a c n ((a + k) % n) k).length zF64 = F k := by
  obtain ⟨d, rfl⟩ : ∃ d, K = k + 1 + d := ⟨K - k - 1, by omega⟩
  obtain ⟨r, hr⟩ := Zjr F a c n ((a + k) % n) (k + 1) d
  have : isT (a + k) c n ((a + k) % n) = true := by
    unfold isT
    rw [List.any_eq_true]
    exact ⟨0, List.mem_range.2 hc, by simp⟩
  have e : gsJ F a c n ((a + k) % n) (k + 1) = gsJ F a c n ((a + k) % n) k ++ [F k] := by
    show gsJ F a c n ((a + k) % n) k ++ _ = _
    rw [this, if_pos rfl]
  rw [hr, e, List.append_assoc, List.getD_eq_getElem?_getD, List.getElem?_append_right (Nat.le_refl _)]
  simp
theorem ZnZ {f : Vector Int 64} : stV (bytesF f ++ [0]) = 1 := by
  unfold stV
  rw [if_pos]
  rw [List.getD_eq_getElem?_getD, List.getElem?_append_right (by rw [Xx]; omega), Xx]; rfl
theorem ZmU {f : Vector Int 64} (hf : fN f) : ZbT (Xa (bytesF f ++ [0])) = f := by
  rw [← ZfY hf]
  exact ZgL fun z hz => by rw [ZbV _ hz, ZbV _ hz, Zhy (Xx _) hz, ZfY hf]
theorem Zmc {m0 m : api_Memory} {gs : List (Vector Int 64)} {s : ring_spot} (h : PgM m0 gs m s) (ok : MemOK m) (hR : memR m) (hN : ∀ x ∈ gs, fN x) {mi : Int} {x : api_Kept} (hx : x ∈ keptM m mi) : x.Frame ∈ gs := by
  have hn := ok.n
  have hsl := ok.slots
  have hnpos : 0 < m.Sectors.length := by omega
  obtain ⟨i, i1, i2, j, j1, j2, rfl⟩ := (ZcR hR ok).1 hx
  rcases Nat.lt_or_ge i (pgs m.Slots.toNat gs.length) with w | w
  · obtain ⟨P, p1, p2, rfl⟩ : ∃ P, P < pgs m.Slots.toNat gs.length ∧ pgs m.Slots.toNat gs.length < P + 1 + m.Sectors.length ∧ P % m.Sectors.length = i := by
      generalize pgs m.Slots.toNat gs.length = q at *
      refine ⟨i + m.Sectors.length * ((q - 1 - i) / m.Sectors.length), ?_, ?_, ?_⟩
      · have := Nat.div_mul_le_self (q - 1 - i) m.Sectors.length
        rw [Nat.mul_comm] at this; omega
      · have a := Nat.div_add_mod (q - 1 - i) m.Sectors.length
        have b := Nat.mod_lt (q - 1 - i) hnpos
        omega
      · rw [Nat.add_mul_mod_self_left, Nat.mod_eq_of_lt i1]
    have hr := h.row P p2 p1 j (by omega)
    rw [hr] at j2
    by_cases c : P * m.Slots.toNat + j < gs.length
    · have hm : gs.getD (P * m.Slots.toNat + j) zF64 ∈ gs := by
        rw [List.getD_eq_getElem?_getD, List.getElem?_eq_getElem c]; exact List.getElem_mem c
      rw [if_pos c] at hr
      have : frV (m.Sectors.getD (P % m.Sectors.length) []) j = gs.getD (P * m.Slots.toNat + j) zF64 := by
        unfold frV
        rw [hr]; exact ZmU (hN _ hm)
      simp only
      rw [this]; exact hm
    · rw [if_neg c] at j2
      have : stV (List.replicate 97 255) = 0 := by decide
      rw [this] at j2; cases j2
  · obtain ⟨k, hk⟩ := h.blank i w i1
    have hr := ok.row _ (row_bd.getD_memL i1)
    rw [hk, List.length_replicate] at hr
    unfold okM at i2
    rw [hk, ZgI (by omega)] at i2; cases i2
theorem ZkT {m0 m : api_Memory} {gs : List (Vector Int 64)} {s : ring_spot} (h : PgM m0 gs m s) (ok : MemOK m) (hR : memR m) (hb : ∀ i, m0.Bad.getD i false = false) (hg : gs.length ≤ 100) {i0 : Nat} (hi : i0 < gs.length) (hN : fN (gs.getD i0 zF64)) (hlate : gs.length ≤ i0 + (m.Sectors.length - 1) * m.Slots.toNat) (mi : Int) :
    ∃ x ∈ keptM m mi, x.Frame = gs.getD i0 zF64 := by
  have hn := ok.n
  have hsl := ok.slots
  have hS : 0 < m.Slots.toNat := by omega
  have hd := Nat.div_add_mod i0 m.Slots.toNat
  have hm := Nat.mod_lt i0 hS
  have hcomm : i0 / m.Slots.toNat * m.Slots.toNat = m.Slots.toNat * (i0 / m.Slots.toNat) := Nat.mul_comm ..
  generalize hP : i0 / m.Slots.toNat = P at *
  generalize hj : i0 % m.Slots.toNat = j at *
  have p1 : P < pgs m.Slots.toNat gs.length := by
    unfold pgs
    have : P + 1 ≤ (gs.length + (m.Slots.toNat - 1)) / m.Slots.toNat := by
      rw [Nat.le_div_iff_mul_le hS, Nat.add_mul, Nat.one_mul]; omega
    omega
  have p2 : pgs m.Slots.toNat gs.length < P + 1 + m.Sectors.length := by
    unfold pgs
    rw [Nat.div_lt_iff_lt_mul hS]
    have e : (P + 1 + m.Sectors.length) * m.Slots.toNat = P * m.Slots.toNat + 2 * m.Slots.toNat + (m.Sectors.length - 1) * m.Slots.toNat := by
      rw [show P + 1 + m.Sectors.length = P + 2 + (m.Sectors.length - 1) by omega, Nat.add_mul, Nat.add_mul]
    rw [e]; omega
  have hil : P % m.Sectors.length < m.Sectors.length := Nat.mod_lt _ (by omega)
  have hrl := ok.row _ (row_bd.getD_memL hil)
  have hpb : pgs m.Slots.toNat gs.length ≤ gs.length + 64 := by
    unfold pgs
    exact Nat.le_trans (Nat.div_le_self ..) (by omega)
  have hh := Zna (s := m.Sectors.getD (P % m.Sectors.length) []) (by omega) (v := (P : Int) + 1) (by omega) (h.head P p2 p1)
  have hr := h.row P p2 p1 j hm
  rw [if_pos (by omega), show P * m.Slots.toNat + j = i0 by omega] at hr
  refine ⟨⟨mi, ((P % m.Sectors.length : Nat) : Int), (Ql (m.Sectors.getD (P % m.Sectors.length) [])).1, (j : Int), frV (m.Sectors.getD (P % m.Sectors.length) []) j⟩, (ZcR hR ok).2 ⟨P % m.Sectors.length, hil, ?_, j, by omega, by rw [hr]; exact ZnZ, rfl⟩, ?_⟩
  · unfold okM
    rw [hh.2, h.bad, hb]; rfl
  · simp only
    unfold frV
    rw [hr]; exact ZmU hN
theorem ZoS {s : List (Vector Int 64)} (hl : s.length ≤ 9223372036854775806) {v : Vector Int 64} (hv : v ∈ s) : ZV s v = some true := by
  unfold ZV Qn
  obtain ⟨r, r1, r2⟩ := Zbf (body := Z4 s v) (N := s.length) (fun k => ∀ j, j < k → s[j]? ≠ some v) (fun r => ∃ z : Int, r = .inl z ∧ 0 ≤ z) (fun k hk hI => by
    obtain ⟨x, hx⟩ := Xd hk
    unfold Z4
    rw [if_pos (by simpa using hk), Zm hx, Option.bind_some, show i64 ((k : Int) + 1) = (k : Int) + 1 from Zh (by omega) (by omega)]
    by_cases q : v = x
    · right
      subst q
      exact ⟨_, by rw [if_pos (by simp)], k, rfl, by omega⟩
    · left
      refine ⟨by rw [if_neg (by simpa using q)], fun j hj => ?_⟩
      by_cases e : j = k
      · subst e; rw [hx]; exact fun w => q (Option.some.inj w).symm
      · exact hI j (by omega)) (fun hI => by
      obtain ⟨j, hj, e⟩ := List.getElem_of_mem hv
      exact absurd (by rw [List.getElem?_eq_getElem hj, e]) (hI j hj)) (fun j hj => absurd hj (Nat.not_lt_zero _))
  rw [r1]
  obtain ⟨z, rfl, hz⟩ := r2
  simp only [Option.bind_some, Sum.elim_inl]
  rw [decide_eq_true hz]
end Go.Vx

namespace Go.Vx
open Go Go.RowKit
set_option maxHeartbeats 1000000
theorem ZoA {l : List Int} (h : 0 < l.length) (hl : l.length ≤ 1000) : ∃ z, XF l = some z ∧ z ∈ l := by
  unfold XF
  rw [if_neg (by rw [decide_eq_true_eq]; omega)]
  obtain ⟨x, hx⟩ := Xd h
  rw [show idx l 0 = some x from Zm (k := 0) hx, Option.bind_some]
  obtain ⟨z, z1, z2⟩ := Zbd (body := t2 (XI l)) (fun s => ∃ k : Nat, s.2 = (k : Int) ∧ k ≤ l.length ∧ s.1 ∈ l) (fun s => l.length - s.2.toNat) (fun z => z ∈ l) (by
    rintro ⟨m, i⟩ ⟨k, hk, hkl, hm⟩
    simp only at hk hm
    subst hk
    simp only [Qg]
    unfold XI
    rcases Nat.lt_or_ge k l.length with w | w
    · left
      obtain ⟨y, hy⟩ := Xd w
      rw [if_pos (by simpa using w), Zm hy, Option.bind_some, show i64 ((k : Int) + 1) = (k : Int) + 1 from Zh (by omega) (by omega)]
      refine ⟨_, rfl, ⟨k + 1, by push_cast; rfl, w, ?_⟩, by simp only; omega⟩
      simp only
      rcases Int.le_total m y with q | q
      · rw [Int.max_eq_right q]; exact List.mem_of_getElem? hy
      · rw [Int.max_eq_left q]; exact hm
    · right
      exact ⟨m, by rw [if_neg (by rw [decide_eq_true_eq]; omega)], hm⟩) (x, 1) ⟨1, rfl, h, List.mem_of_getElem? hx⟩
  rw [z1]
  exact ⟨z, rfl, z2⟩
theorem Zoo {l : List Int} (h : 0 < l.length) (hl : l.length ≤ 1000) : ∃ z, XE l = some z ∧ z ∈ l := by
  unfold XE
  rw [if_neg (by rw [decide_eq_true_eq]; omega)]
  obtain ⟨x, hx⟩ := Xd h
  rw [show idx l 0 = some x from Zm (k := 0) hx, Option.bind_some]
  obtain ⟨z, z1, z2⟩ := Zbd (body := t2 (XH l)) (fun s => ∃ k : Nat, s.2 = (k : Int) ∧ k ≤ l.length ∧ s.1 ∈ l) (fun s => l.length - s.2.toNat) (fun z => z ∈ l) (by
    rintro ⟨m, i⟩ ⟨k, hk, hkl, hm⟩
    simp only at hk hm
    subst hk
    simp only [Qg]
    unfold XH
    rcases Nat.lt_or_ge k l.length with w | w
    · left
      obtain ⟨y, hy⟩ := Xd w
      rw [if_pos (by simpa using w), Zm hy, Option.bind_some, show i64 ((k : Int) + 1) = (k : Int) + 1 from Zh (by omega) (by omega)]
      refine ⟨_, rfl, ⟨k + 1, by push_cast; rfl, w, ?_⟩, by simp only; omega⟩
      simp only
      rcases Int.le_total m y with q | q
      · rw [Int.min_eq_left q]; exact hm
      · rw [Int.min_eq_right q]; exact List.mem_of_getElem? hy
    · right
      exact ⟨m, by rw [if_neg (by rw [decide_eq_true_eq]; omega)], hm⟩) (x, 1) ⟨1, rfl, h, List.mem_of_getElem? hx⟩
  rw [z1]
  exact ⟨z, rfl, z2⟩
def Zc2 (m : api_Memory) : Nat := (m.Sectors.length - 1) * m.Slots.toNat
theorem Zii {m : api_Memory} (ok : MemOK m) : Zc2 m ≤ 4096 := by
  have := ok.n
  have := ok.slots
  unfold Zc2
  exact Nat.le_trans (Nat.mul_le_mul (show m.Sectors.length - 1 ≤ 64 by omega) (show m.Slots.toNat ≤ 64 by omega)) (by decide)
theorem ZoB {l : List api_Memory} (hl : 1 ≤ l.length ∧ l.length ≤ 8) (hB : ∀ m ∈ l, BlankM m) {c : Nat} (hc : 1 ≤ c ∧ c ≤ l.length) :
    ∃ (cap least : Nat), Zal l (c : Int) = some ((cap : Int), 0) ∧ cap * c ≤ least * l.length ∧ ∀ m ∈ l, least ≤ Zc2 m := by
  obtain ⟨e, c1, c2, c3, c4⟩ := Zix l
  have he : e = 0 := c4 ⟨hl, fun m hm => (hB m hm).ok⟩
  unfold Zal
  rw [c1, ZbH]
  have a1 : (1 : Int) ≤ (c : Int) := by omega
  have a2 : (c : Int) ≤ (l.length : Int) := by omega
  simp only [Option.bind_some, he, decide_true, Bool.not_true, Bool.false_eq_true, if_false, decide_eq_true a1, decide_eq_true a2, Bool.and_self]
  obtain ⟨z, z1, L, rfl, z2⟩ := JY (body := Je l) (s0 := (-1 : Int)) (N := l.length) (fun k z => (k = 0 ∧ z = -1) ∨ (0 < k ∧ ∃ L : Nat, z = (L : Int) ∧ L ≤ 4096 ∧ ∀ j, j < k → L ≤ Zc2 (l.getD j dfM))) (fun z => ∃ L : Nat, z = (L : Int) ∧ L ≤ 4096 ∧ ∀ j, j < l.length → L ≤ Zc2 (l.getD j dfM)) (fun k z hk hI => .inl (by
    obtain ⟨g1, g2⟩ := X6 hk
    have bm := hB _ g1
    have ok := bm.ok
    have hn := ok.n
    have hsl := ok.slots
    obtain ⟨g, w1, w2⟩ := JY (body := Jf (l.getD k dfM)) (s0 := (0 : Int)) (N := (l.getD k dfM).Bad.length) (fun j g => g = (j : Int)) (fun g => g = ((l.getD k dfM).Bad.length : Int)) (fun j g hj hG => .inl (by
      have ej : i64 ((j : Int) + 1) = (j : Int) + 1 := Zh (by omega) (by have := ok.bad; omega)
      unfold Jf
      rw [if_pos (by simpa using hj), Zm (QL hj false), Option.bind_some, bm.m.bad j, if_pos (by decide), hG, ej]
      exact ⟨_, rfl, by push_cast; rfl⟩)) (fun g hG => ⟨g, by unfold Jf; rw [if_neg (by simp)], hG⟩) rfl
    have hrm := Zii ok
    have hv : i64 ((max (i64 (((l.getD k dfM).Bad.length : Int) - 1)) 0) * (l.getD k dfM).Slots) = (Zc2 (l.getD k dfM) : Int) := by
      rw [show i64 (((l.getD k dfM).Bad.length : Int) - 1) = (((l.getD k dfM).Sectors.length - 1 : Nat) : Int) from (Zh (by have := ok.bad; omega) (by have := ok.bad; omega)).trans (by have := ok.bad; omega)]
      rw [show max ((((l.getD k dfM).Sectors.length - 1 : Nat)) : Int) 0 = (((l.getD k dfM).Sectors.length - 1 : Nat) : Int) by omega]
      have es : (l.getD k dfM).Slots = (((l.getD k dfM).Slots.toNat : Nat) : Int) := by omega
      have em : ((((l.getD k dfM).Sectors.length - 1 : Nat)) : Int) * (l.getD k dfM).Slots = (Zc2 (l.getD k dfM) : Int) := by
        unfold Zc2
        rw [Int.natCast_mul, ← es]
      rw [em]
      exact Zh (by omega) (by omega)
    have ek : i64 ((k : Int) + 1) = (k : Int) + 1 := Zh (by omega) (by omega)
    unfold Je
    rw [if_pos (by simpa using hk), Zm g2, Option.bind_some, w1, w2, Option.bind_some, Qp, hv, ek]
    by_cases hlt : z < 0 ∨ (Zc2 (l.getD k dfM) : Int) < z
    · refine ⟨(Zc2 (l.getD k dfM) : Int), by rw [if_pos (by rw [Bool.or_eq_true, decide_eq_true_eq, decide_eq_true_eq]; exact hlt)], .inr ⟨by omega, _, rfl, hrm, fun j hj => ?_⟩⟩
      by_cases e' : j = k
      · subst e'; exact Nat.le_refl _
      · rcases hI with ⟨k0, _⟩ | ⟨_, L, hz, _, hL⟩
        · omega
        · have := hL j (by omega); omega
    · refine ⟨z, by rw [if_neg (by rw [Bool.or_eq_true, decide_eq_true_eq, decide_eq_true_eq]; exact hlt)], ?_⟩
      rcases hI with ⟨_, hz⟩ | ⟨_, L, hz, hb, hL⟩
      · omega
      · refine .inr ⟨by omega, L, hz, hb, fun j hj => ?_⟩
        by_cases e' : j = k
        · subst e'; omega
        · exact hL j (by omega))) (fun z hI => ⟨z, by unfold Je; rw [if_neg (by simp)], by
      rcases hI with ⟨k0, _⟩ | ⟨_, h⟩
      · omega
      · exact h⟩) (.inl ⟨rfl, rfl⟩)
  rw [z1]
  simp only [Option.bind_some, Qp]
  have hLn : L * l.length ≤ 4096 * 8 := Nat.mul_le_mul z2.1 hl.2
  rw [show i64 ((L : Int) * (l.length : Int)) = ((L * l.length : Nat) : Int) from (Zh (by rw [← Int.natCast_mul]; omega) (by rw [← Int.natCast_mul]; omega)).trans (by push_cast; rfl)]
  have hq : quo .i64 ((L * l.length : Nat) : Int) (c : Int) = some ((L * l.length / c : Nat) : Int) := by
    unfold quo
    rw [if_neg (by omega)]
    have e3 : Int.tdiv ((L * l.length : Nat) : Int) (c : Int) = ((L * l.length / c : Nat) : Int) := rfl
    have hQ : L * l.length / c ≤ 32768 := Nat.le_trans (Nat.div_le_self ..) hLn
    rw [e3]
    generalize L * l.length / c = Q at hQ
    rw [Zh (by omega) (by omega)]
  rw [hq]
  refine ⟨L * l.length / c, L, rfl, Nat.div_mul_le_self .., fun m hm => ?_⟩
  obtain ⟨j, hj, e'⟩ := List.getElem_of_mem hm
  have := z2.2 j hj
  rwa [List.getD_eq_getElem?_getD, List.getElem?_eq_getElem hj, Option.getD_some, e'] at this
noncomputable def frF (first : Int) (k : Nat) : Vector Int 64 := ((XO (first + k) (List.replicate 58 0)).getD (zF64, 0)).1
theorem Zov {first : Int} {k : Nat} (h : 0 ≤ first + k ∧ first + k < 4194304) : XO (first + k) (List.replicate 58 0) = some (frF first k, 0) ∧ Made (frF first k) (first + k) (List.replicate 58 0) := by
  obtain ⟨f, h1, h2⟩ := Zow (data := List.replicate 58 0) h (by simp) (fun d hd => by rw [List.eq_of_mem_replicate hd]; omega)
  have : frF first k = f := by unfold frF; rw [h1]; rfl
  rw [this]
  exact ⟨h1, h2⟩
end Go.Vx

namespace Go.Vx
open Go Go.RowKit
set_option maxHeartbeats 1000000
theorem Zjf (l : List api_Memory) (copies first count : Int) (hw : wfL ZcE l) : QW l copies first count = some true := by
  unfold QW
  rw [Zl4, Option.bind_some, if_neg (by decide)]
  obtain ⟨b, b1, b2⟩ := ZlK l
  rw [b1, Option.bind_some]
  by_cases hcond : (((((((!b) || (decide (copies < 1))) || (decide ((l.length : Int) < copies))) || (decide (first < 0))) || (decide (4194104 < first))) || (decide (count < 0))) || (decide (100 < count))) = true
  · rw [if_pos hcond]
  · rw [if_neg hcond]
    have hc0 : b = true ∧ ¬ copies < 1 ∧ ¬ (l.length : Int) < copies ∧ ¬ first < 0 ∧ ¬ 4194104 < first ∧ ¬ count < 0 ∧ ¬ 100 < count := by
      simp only [Bool.or_eq_true, Bool.not_eq_true', decide_eq_true_eq, not_or] at hcond
      obtain ⟨⟨⟨⟨⟨⟨h1, h2⟩, h3⟩, h4⟩, h5⟩, h6⟩, h7⟩ := hcond
      exact ⟨by simpa using h1, h2, h3, h4, h5, h6, h7⟩
    obtain ⟨h1, h2, h3, h4, h5, h6, h7⟩ := hc0
    obtain ⟨hl, hB⟩ := b2 h1
    obtain ⟨c, rfl⟩ := Int.eq_ofNat_of_zero_le (show 0 ≤ copies by omega)
    obtain ⟨a, rfl⟩ := Int.eq_ofNat_of_zero_le (show 0 ≤ first by omega)
    obtain ⟨K, rfl⟩ := Int.eq_ofNat_of_zero_le (show 0 ≤ count by omega)
    have hc : 1 ≤ c ∧ c ≤ l.length := by omega
    have hfr : ∀ k, k < K → XO ((a : Int) + k) (List.replicate 58 0) = some (frF a k, 0) ∧ Made (frF a k) ((a : Int) + k) (List.replicate 58 0) := fun k hk => Zov (by omega)
    obtain ⟨z, z1, z2⟩ := JY (body := Qd (a : Int) (K : Int)) (s0 := []) (N := K) (fun k acc => acc = (List.range k).map (frF a)) (fun z => z = .inr ((List.range K).map (frF a))) (fun k acc hk hI => .inl (by
      subst hI
      unfold Qd
      rw [if_pos (by simpa using hk), show mks (58 : Int) (0 : Int) = some (List.replicate 58 0) from rfl, Option.bind_some, show i64 ((a : Int) + (k : Int)) = (a : Int) + k from Zh (by omega) (by omega), (hfr k hk).1, Option.bind_some]
      refine ⟨(List.range k).map (frF a) ++ [frF a k], ?_, by rw [List.range_succ, List.map_append]; rfl⟩
      rw [if_neg (by simp), Zbs (by simp; omega), Option.bind_some, show i64 ((k : Int) + 1) = (k : Int) + 1 from Zh (by omega) (by omega)])) (fun acc hI => ⟨.inr acc, by unfold Qd; rw [if_neg (by simp)], by rw [hI]⟩) rfl
    rw [z1, z2]
    simp only [Option.bind_some, Sum.elim_inr, Qp]
    have hlen : ((List.range K).map (frF a)).length = K := by simp
    have hat : ∀ k, k < K → ((List.range K).map (frF (a : Int)))[k]? = some (frF a k) := fun k hk => by
      rw [List.getElem?_map, List.getElem?_range hk]; rfl
    obtain ⟨r, r1, r2⟩ := Znx hl hB hc (Fs := (List.range K).map (frF a)) (F := frF a) (a := a) (fun k hk => by
      rw [hlen] at hk
      have m := (hfr k hk).2
      exact ⟨hat k hk, m.u, m.snd, by rw [m.num]; push_cast; rfl⟩) (by rw [hlen]; omega)
    rw [hlen] at r2
    rw [r1]
    simp only [Option.bind_some]
    rw [if_neg (by rw [hlen]; simp)]
    have hJ := r2.j
    have hnl := r2.n
    -- the frames found
    obtain ⟨d, R, d1, d2, d3, d4⟩ := Zk5 (l := r.bank.memories) hJ.b.u8
    obtain ⟨e, e1, e2, e3, e4⟩ := Zix r.bank.memories
    have he : e = 0 := e4 ⟨hJ.b.n, hJ.b.ok⟩
    have hd0 : d = 0 := by
      rw [e1] at d3
      rw [← he]; exact (Option.some.inj d3).symm
    subst hd0
    obtain ⟨f1, f2, f3, f4⟩ := d4 rfl
    rw [d1]
    simp only [if_true, Option.bind_some, decide_true, Bool.not_true, Bool.false_eq_true, if_false]
    obtain ⟨cap, least, k1, k2, k3⟩ := ZoB hl hB hc
    rw [k1]
    simp only [Option.bind_some, decide_true, Bool.not_true, Bool.false_eq_true, if_false]
    have only : ∀ j, j < l.length → ∀ mi x, x ∈ keptM (r.bank.memories.getD j dfM) mi → ∃ k, k < K ∧ x.Frame = frF a k := fun j hj mi x hx => by
      have hm := (X6 (l := r.bank.memories) (k := j) (by rw [hnl]; exact hj)).1
      have := Zmc (r2.pg j hj) (hJ.b.ok _ hm) (hJ.b.u8 _ hm) (fun y hy => by
        obtain ⟨k, hk, rfl⟩ := ZhJ _ _ _ _ _ hy
        have m := (hfr k hk).2
        exact fun i => ⟨(m.u i).1, m.nar i⟩) hx
      exact ZhJ _ _ _ _ _ this
    have there : ∀ k, k < K → K ≤ k + cap → frF (a : Int) k ∈ R.map (·.Frame) := fun k hk hcap => by
      have hjn : (a + k) % l.length < l.length := Nat.mod_lt _ (by omega)
      have hjm : (a + k) % l.length < r.bank.memories.length := by rw [hnl]; exact hjn
      have hm := (X6 hjm).1
      have hm0 := (X6 hjn).1
      have pg := r2.pg _ hjn
      have m := (hfr k hk).2
      have hN : fN (frF (a : Int) k) := fun i => ⟨(m.u i).1, m.nar i⟩
      have hG := ZlI (frF (a : Int)) (a := a) (k := k) (c := c) (n := l.length) hc.1 (K - k - 1)
      rw [show k + 1 + (K - k - 1) = K by omega] at hG
      have hat' := ZnU (frF (a : Int)) (a := a) (c := c) (n := l.length) hc.1 hk
      have hgb := Zo3 (n := l.length) (c := c) (d := K - k - 1) hc hl.2 (by omega)
      have hroom := k3 _ hm0
      have hlt : gB l.length c (K - k - 1) + 1 ≤ Zc2 (l.getD ((a + k) % l.length) dfM) := by
        have s1 : (K - k - 1) * c + c ≤ cap * c := by
          have := Nat.mul_le_mul_right c (show K - k - 1 + 1 ≤ cap by omega)
          rw [Nat.add_mul, Nat.one_mul] at this; exact this
        have s2 : gB l.length c (K - k - 1) * l.length < least * l.length := by omega
        have s3 : gB l.length c (K - k - 1) < least := Nat.lt_of_mul_lt_mul_right s2
        omega
      have hrm : Zc2 (l.getD ((a + k) % l.length) dfM) = ((r.bank.memories.getD ((a + k) % l.length) dfM).Sectors.length - 1) * (r.bank.memories.getD ((a + k) % l.length) dfM).Slots.toNat := by
        unfold Zc2
        rw [pg.n, pg.slots]
      have hgl := ZhN (frF (a : Int)) a c l.length ((a + k) % l.length) K
      obtain ⟨x, x1, x2⟩ := ZkT pg (hJ.b.ok _ hm) (hJ.b.u8 _ hm) (hB _ hm0).m.bad (by omega) (i0 := (gsJ (frF (a : Int)) a c l.length ((a + k) % l.length) k).length) (by omega) (by rw [hat']; exact hN) (by rw [← hrm]; omega) (((a + k) % l.length : Nat) : Int)
      rw [hat'] at x2
      have xr : x ∈ Zbi r.bank.memories := Zhl.2 ⟨_, hjm, x1⟩
      obtain ⟨y, y1, y2, _⟩ := f4 x xr (by rw [x2]; exact m.snd)
      have yr := (f2 y y1).1
      obtain ⟨j', j1, j2⟩ := Zhl.1 yr
      obtain ⟨k', hk', hy⟩ := only j' (by rw [← hnl]; exact j1) _ y j2
      have hnum : k' = k := by
        have m' := (hfr k' hk').2
        have e1' : nmK y = (a : Int) + k' := by unfold nmK; rw [hy, m'.num]
        have e2' : nmK x = (a : Int) + k := by unfold nmK; rw [x2, m.num]
        rw [e1', e2'] at y2
        omega
      rw [hnum] at hy
      exact List.mem_map.2 ⟨y, y1, hy⟩
    have hstart : max (0 : Int) (i64 ((K : Int) - (cap : Int))) = ((K - cap : Nat) : Int) := by
      have hcb : cap ≤ 4096 * 8 := by
        have q1 := k3 _ (X6 (l := l) (k := 0) (by omega)).1
        have q2 := Zii (hB _ (X6 (l := l) (k := 0) (by omega)).1).ok
        have q3 : cap ≤ cap * c := Nat.le_mul_of_pos_right _ (by omega)
        have q4 : least * l.length ≤ 4096 * 8 := Nat.mul_le_mul (by omega) hl.2
        omega
      rw [show i64 ((K : Int) - (cap : Int)) = (K : Int) - cap from Zh (by omega) (by omega)]
      omega
    rw [hstart]
    have hloop : loop (t1 (Qe (K : Int) ((List.range K).map (frF a)) (R.map (·.Frame), 0))) ((K - cap : Nat) : Int) = some (.inr ()) := by
      obtain ⟨z, z1, z2⟩ := Zbd (body := t1 (Qe (K : Int) ((List.range K).map (frF a)) (R.map (·.Frame), 0))) (fun i => ∃ k : Nat, i = (k : Int) ∧ k ≤ K ∧ K ≤ k + cap) (fun i => K - i.toNat) (fun z => z = .inr ()) (by
        rintro i ⟨k, rfl, hk, hcap⟩
        simp only [Qp]
        unfold Qe
        rcases Nat.lt_or_ge k K with w | w
        · left
          rw [if_pos (by simpa using w), Zm (hat k w), Option.bind_some, ZoS (by rw [List.length_map]; omega) (there k w hcap), Option.bind_some, if_neg (by decide), show i64 ((k : Int) + 1) = (k : Int) + 1 from Zh (by omega) (by omega)]
          exact ⟨_, rfl, ⟨k + 1, by push_cast; rfl, w, by omega⟩, by omega⟩
        · right
          exact ⟨.inr (), by rw [if_neg (by rw [decide_eq_true_eq]; omega)], rfl⟩) ((K - cap : Nat) : Int) ⟨K - cap, rfl, by omega, by omega⟩
      rw [z1, z2]
    rw [hloop]
    simp only [Option.bind_some, Sum.elim_inr, ZjD]
    obtain ⟨y, y1, y2⟩ := Zbf (body := Qf ((List.range K).map (frF a), r.bank.memories, true)) (N := r.bank.memories.length) (fun _ => True) (fun y => y = .inr ()) (fun k hk _ => by
      left
      obtain ⟨g1, g2⟩ := X6 hk
      have ok := hJ.b.ok _ g1
      have hn := ok.n
      have pg := r2.pg k (by rw [← hnl]; exact hk)
      have hwl := ok.wear
      have hnk : r.bank.memories.length ≤ 8 := hJ.b.n.2
      unfold Qf
      obtain ⟨u, u1, u2⟩ := ZoA (l := (r.bank.memories.getD k dfM).Wear) (by omega) (by omega)
      obtain ⟨v, v1, v2⟩ := Zoo (l := (r.bank.memories.getD k dfM).Wear) (by omega) (by omega)
      have bd : ∀ w ∈ (r.bank.memories.getD k dfM).Wear, ((pgs (r.bank.memories.getD k dfM).Slots.toNat (gsJ (frF (a : Int)) a c l.length k K).length / (r.bank.memories.getD k dfM).Sectors.length : Nat) : Int) ≤ w ∧ w ≤ ((pgs (r.bank.memories.getD k dfM).Slots.toNat (gsJ (frF (a : Int)) a c l.length k K).length / (r.bank.memories.getD k dfM).Sectors.length : Nat) : Int) + 1 := fun w hw' => by
        obtain ⟨i, hi, rfl⟩ := List.getElem_of_mem hw'
        have hi' : i < (r.bank.memories.getD k dfM).Sectors.length := by omega
        have q := pg.wear i hi'
        rw [List.getD_eq_getElem?_getD, List.getElem?_eq_getElem hi, Option.getD_some] at q
        have := ZjN (p := pgs (r.bank.memories.getD k dfM).Slots.toNat (gsJ (frF (a : Int)) a c l.length k K).length) (show 0 < (r.bank.memories.getD k dfM).Sectors.length by omega) hi'
        rw [q]
        omega
      have bu := bd u u2
      have bv := bd v v2
      have wb := ok.wr u u2
      have wb2 := ok.wr v v2
      have hlim := ok.limit
      rw [if_pos (by simpa using hk), Zm g2, Option.bind_some, u1, Option.bind_some, v1, Option.bind_some, show i64 (u - v) = u - v from Zh (by omega) (by omega), if_neg (by rw [decide_eq_true_eq]; omega), show i64 ((k : Int) + 1) = (k : Int) + 1 from Zh (by omega) (by omega)]
      exact ⟨rfl, trivial⟩) (fun _ => ⟨.inr (), by unfold Qf; rw [if_neg (by simp)], rfl⟩) trivial
    rw [y1, y2]; rfl
end Go.Vx
