/- A text of the proof: a verified executor of the program form, or the contracts of the functions that the law reaches. -/
import Derived.Test.YtpfdelgflppgnabDoorPB
import Derived.Test.YtpfdelgflppgnabDoorPA
set_option linter.all false
namespace Go.Vx
open Go Go.RowKit
abbrev WL := List (api_Place × Nat)
structure Pre (out : Vector (List Int) 16) (W : WL) (ver : Int) : Prop where
  dat : DatOK out
  pl : ∀ w ∈ W, placeR w.1 ∧ w.2 < 2 ^ w.1.Bits.toNat ∧ chunk out w.1 = 0
  dis : W.Pairwise fun a b => disj a.1 b.1
  ver : ∀ x ∈ out.toList, x.getD 0 0 = ver
theorem Zn5 {l : Vector (List Int) 16} {ver : Int} (h : ∀ x ∈ l.toList, x.getD 0 0 = ver) {q : api_Place} {v : Nat} (hq : placeR q) : ∀ x ∈ (wr l (q, v)).toList, x.getD 0 0 = ver := by
  intro x hx
  obtain ⟨k, hk⟩ := List.getElem?_of_mem hx
  rw [Zkn hq] at hk
  split at hk
  · cases hk
    have := h _ (List.mem_of_getElem? (ZfQ (l := l) hq))
    obtain ⟨_, a, _⟩ := hq
    rw [List.getD_eq_getElem?_getD, List.getElem?_set_ne (by omega), ← List.getD_eq_getElem?_getD]
    exact this
  · exact h x (List.mem_of_getElem? hk)
theorem Pre.step {out : Vector (List Int) 16} {w : api_Place × Nat} {W : WL} {ver : Int} (h : Pre out (w :: W) ver) : Pre (wr out w) W ver := by
  obtain ⟨q, v⟩ := w
  obtain ⟨h1, h2, h3⟩ := h.pl _ List.mem_cons_self
  obtain ⟨g1, g2, g3⟩ := Zo5 h.dat h1 h3 h2
  have hd := List.pairwise_cons.1 h.dis
  refine ⟨g1, fun w hw => ?_, hd.2, Zn5 h.ver h1⟩
  obtain ⟨a1, a2, a3⟩ := h.pl w (List.mem_cons_of_mem _ hw)
  exact ⟨a1, a2, by rw [g3 _ a1 (hd.1 w hw)]; exact a3⟩
def wrF : Vector (List Int) 16 → WL → Vector (List Int) 16
  | out, [] => out
  | out, w :: W => wrF (wr out w) W
theorem Pre.app {ver : Int} : ∀ {W1 W2 : WL} {out : Vector (List Int) 16}, Pre out (W1 ++ W2) ver → Pre (wrF out W1) W2 ver
  | [], _, _, h => h
  | w :: W1, W2, out, h => Pre.app (W1 := W1) (Pre.step (by simpa using h))
theorem Zi2 : ∀ (W1 W2 : WL) (out : Vector (List Int) 16), wrF out (W1 ++ W2) = wrF (wrF out W1) W2
  | [], _, _ => rfl
  | w :: W1, W2, out => Zi2 W1 W2 (wr out w)
theorem Pre.left {ver : Int} {W1 W2 : WL} {out : Vector (List Int) 16} (h : Pre out (W1 ++ W2) ver) : Pre out W1 ver :=
  ⟨h.dat, fun w hw => h.pl w (List.mem_append_left _ hw), (List.pairwise_append.1 h.dis).1, h.ver⟩
def wc (e : Nat) : List api_Place → WL
  | [] => []
  | q :: tl => (q, e / 2 ^ sB tl % 2 ^ q.Bits.toNat) :: wc e tl
theorem ZlI (e : Nat) : ∀ ps : List api_Place, (wc e ps).map (·.1) = ps
  | [] => rfl
  | q :: tl => by simp [wc, ZlI e tl]
theorem ZoD (a b : List api_Place) : sB (a ++ b) = sB a + sB b := by simp [sB]
theorem Zkr (q : api_Place) (tl : List api_Place) : sB (q :: tl) = q.Bits.toNat + sB tl := by simp [sB]
theorem ZjU {out : Vector (List Int) 16} {q : api_Place} {e r : Nat} (hq : placeR q) (hl : DatOK out) (h0 : chunk out q = 0) (hr : r ≤ 40) (he : e < 2 ^ 40) :
    ∃ row, ZJ out q.Frame = some row ∧ idx row (i64 (q.Word - 3)) = some (ZaU out q : Int) ∧ shr .i64 (e : Int) (r : Int) = some ((e / 2 ^ r : Nat) : Int) ∧ shl .i64 1 q.Bits = some ((2 ^ q.Bits.toNat : Nat) : Int) ∧
      Jq .i64 ((e / 2 ^ r : Nat) : Int) (i64 (((2 ^ q.Bits.toNat : Nat) : Int) - 1)) = ((e / 2 ^ r % 2 ^ q.Bits.toNat : Nat) : Int) ∧ rem ((e / 2 ^ r : Nat) : Int) ((2 ^ q.Bits.toNat : Nat) : Int) = some ((e / 2 ^ r % 2 ^ q.Bits.toNat : Nat) : Int) ∧
      shl .i64 ((e / 2 ^ r % 2 ^ q.Bits.toNat : Nat) : Int) q.Low = some ((2 ^ q.Low.toNat * (e / 2 ^ r % 2 ^ q.Bits.toNat) : Nat) : Int) ∧
      ZU out q.Frame (row.set (i64 (q.Word - 3)).toNat (bor .i64 (ZaU out q : Int) ((2 ^ q.Low.toNat * (e / 2 ^ r % 2 ^ q.Bits.toNat) : Nat) : Int))) = wr out (q, e / 2 ^ r % 2 ^ q.Bits.toNat) ∧
      ZU out q.Frame (row.set (i64 (q.Word - 3)).toNat (i64 ((ZaU out q : Int) + ((2 ^ q.Low.toNat * (e / 2 ^ r % 2 ^ q.Bits.toNat) : Nat) : Int)))) = wr out (q, e / 2 ^ r % 2 ^ q.Bits.toNat) := by
  obtain ⟨row, d1, d2, d3⟩ := ZnJ hl hq
  have hrow : row = ZgO out q := by
    have := ZfQ (l := out) hq
    obtain ⟨hf, _⟩ := hq
    unfold ZJ at d1
    rw [if_pos hf.1, this] at d1
    exact (Option.some.inj d1).symm
  have hq' := hq
  obtain ⟨a1, a2, h3, h4, h5⟩ := hq
  have hb1 : q.Bits.toNat ≤ 11 := by omega
  have hp := Nat.two_pow_pos q.Bits.toNat
  have hv : e / 2 ^ r % 2 ^ q.Bits.toNat < 2 ^ q.Bits.toNat := Nat.mod_lt _ hp
  have hbits : 2 ^ q.Bits.toNat ≤ 2 ^ 11 := Nat.pow_le_pow_right (by decide) hb1
  rw [show (2 : Nat) ^ 11 = 2048 by decide] at hbits
  have hbd := Zl7 h0 hv d3 (by omega)
  obtain ⟨hor, _⟩ := Zj9 h0 hv
  have er : min ((r : Int)).toNat IntKind.i64.bits = r := by
    have : IntKind.i64.bits = 64 := rfl
    rw [Int.toNat_natCast]; omega
  have el : min q.Low.toNat IntKind.i64.bits = q.Low.toNat := by
    have : IntKind.i64.bits = 64 := rfl
    omega
  have ep : ((2 ^ q.Bits.toNat : Nat) : Int) = (2 : Int) ^ q.Bits.toNat := by push_cast; rfl
  have epl : ((2 ^ q.Low.toNat : Nat) : Int) = (2 : Int) ^ q.Low.toNat := by push_cast; rfl
  have epr : ((2 ^ r : Nat) : Int) = (2 : Int) ^ r := by push_cast; rfl
  have h62 : (2 : Nat) ^ 64 = 18446744073709551616 := by decide
  have hw3 : i64 (q.Word - 3) = q.Word - 3 := ZN (by omega) (by omega)
  generalize hV : e / 2 ^ r % 2 ^ q.Bits.toNat = V at *
  refine ⟨row, d1, d2, ?_, ?_, ?_, ?_, ?_, ?_, ?_⟩
  · unfold shr
    rw [if_neg (by omega), er, ← epr, Int.fdiv_eq_ediv_of_nonneg _ (Int.natCast_nonneg _)]; rfl
  · rw [Zj0 (by omega) (by omega), ep]
  · have hmask : i64 (((2 ^ q.Bits.toNat : Nat) : Int) - 1) = (2 : Int) ^ q.Bits.toNat - 1 := by
      rw [ZN (by omega) (by omega), ep]
    rw [hmask, ZcK (by omega), ← ep, ← hV]
    push_cast; rfl
  · unfold rem
    rw [if_neg (by omega), Int.tmod_eq_emod_of_nonneg (Int.natCast_nonneg _), ← hV]; rfl
  · unfold shl
    rw [if_neg (by omega), el, ← epl]
    congr 1
    have : ((V : Nat) : Int) * ((2 ^ q.Low.toNat : Nat) : Int) = ((2 ^ q.Low.toNat * V : Nat) : Int) := by push_cast; rw [Int.mul_comm]
    rw [this]
    exact ZN (by omega) (by omega)
  · have hbor : bor .i64 (ZaU out q : Int) ((2 ^ q.Low.toNat * V : Nat) : Int) = ((ZaU out q + 2 ^ q.Low.toNat * V : Nat) : Int) := by
      unfold bor
      have e0 : IntKind.i64.bits = 64 := rfl
      have e1 : (BitVec.ofInt 64 ((ZaU out q : Nat) : Int)).toNat = ZaU out q := by
        rw [BitVec.ofInt_natCast, BitVec.toNat_ofNat]; exact Nat.mod_eq_of_lt (by omega)
      have e2 : (BitVec.ofInt 64 ((2 ^ q.Low.toNat * V : Nat) : Int)).toNat = 2 ^ q.Low.toNat * V := by
        rw [BitVec.ofInt_natCast, BitVec.toNat_ofNat]; exact Nat.mod_eq_of_lt (by omega)
      rw [e0, BitVec.toNat_or, e1, e2, hor]
      exact ZN (by omega) (by omega)
    rw [hbor, hw3, hrow]; rfl
  · rw [hw3, ZN (by omega) (by omega), hrow]
    rfl
theorem ZhI {c : api_Cell} {e : Nat} {ver : Int} (h8 : c.Places.length ≤ 8) (hb : sB c.Places ≤ 40) (he : e < 2 ^ 40) {body : Vector (List Int) 16 → Int → Int → Option ((Vector (List Int) 16 × Int × Int) ⊕ Vector (List Int) 16)}
    (hstep : ∀ (out : Vector (List Int) 16) (k r : Nat) (q : api_Place), c.Places[k]? = some q → placeR q → DatOK out → chunk out q = 0 → r + q.Bits.toNat ≤ 40 →
      body out ((r + q.Bits.toNat : Nat) : Int) (k : Int) = some (.inl (wr out (q, e / 2 ^ r % 2 ^ q.Bits.toNat), (r : Int), (k : Int) + 1)))
    (hend : ∀ out r, body out r c.Places.length = some (.inr out)) (out : Vector (List Int) 16) (hP : Pre out (wc e c.Places) ver) : loop (t3 body) (out, ((sB c.Places : Nat) : Int), 0) = some (wrF out (wc e c.Places)) := by
  have key : ∀ (n k : Nat) (out : Vector (List Int) 16), k + n = c.Places.length → Pre out (wc e (c.Places.drop k)) ver → loop (t3 body) (out, ((sB (c.Places.drop k) : Nat) : Int), (k : Int)) = some (wrF out (wc e (c.Places.drop k))) := by
    intro n
    induction n with
    | zero =>
      intro k out hk _
      have : k = c.Places.length := by omega
      subst this
      rw [ZG, Ze0, hend, List.drop_length]; rfl
    | succ n ih =>
      intro k out hk hP
      obtain ⟨q, hq⟩ := Qm (xs := c.Places) (k := k) (by omega)
      rw [ZP hq] at hP ⊢
      rw [wc] at hP ⊢
      obtain ⟨p1, p2, p3⟩ := hP.pl _ List.mem_cons_self
      have hs : sB (c.Places.drop (k + 1)) + q.Bits.toNat ≤ 40 := by
        have e1 : sB c.Places = sB (c.Places.take k) + sB (c.Places.drop k) := by
          rw [← ZoD, List.take_append_drop]
        rw [ZP hq, Zkr] at e1
        omega
      have e2 : ((sB (q :: c.Places.drop (k + 1)) : Nat) : Int) = ((sB (c.Places.drop (k + 1)) + q.Bits.toNat : Nat) : Int) := by rw [Zkr, Nat.add_comm]
      have e3 : ((k : Nat) : Int) + 1 = ((k + 1 : Nat) : Int) := by push_cast; rfl
      rw [e2, ZG, Ze0, hstep out k _ q hq p1 hP.dat p3 hs, e3]
      exact ih (k + 1) _ (by omega) hP.step
  exact key c.Places.length 0 out (by omega) hP
theorem Zmr {r b : Nat} {q : api_Place} (hq : placeR q) (hb : q.Bits.toNat = b) (hr : r + b ≤ 40) : i64 (((r + b : Nat) : Int) - q.Bits) = (r : Int) := by
  obtain ⟨_, _, _, h, _⟩ := hq
  rw [ZN (by omega) (by omega)]; omega
theorem Zov {c : api_Cell} {e : Nat} {ver : Int} (h8 : c.Places.length ≤ 8) (hb : sB c.Places ≤ 40) (he : e < 2 ^ 40) (out : Vector (List Int) 16) (hP : Pre out (wc e c.Places) ver) : loop (t3 (Xu c (e : Int))) (out, ((sB c.Places : Nat) : Int), 0) = some (wrF out (wc e c.Places)) := by
  refine ZhI h8 hb he (fun out k r q hq hp hl h0 hr => ?_) (fun out r => by simp [Xu]) out hP
  have hlt := Xm hq
  obtain ⟨row, s1, s2, s3, s4, s5, s6, s7, s8, s9⟩ := ZjU (e := e) (r := r) hp hl h0 (by omega) he
  simp only [Xu, hlt, decide_true, if_true, Z8 hq, Option.bind_some, s1, s2, Zmr hp rfl hr, s3, s4, s5, s7, s8]
  rw [ZN (by omega) (by omega)]
theorem Zon {c : api_Cell} {e : Nat} {ver : Int} (h8 : c.Places.length ≤ 8) (hb : sB c.Places ≤ 40) (he : e < 2 ^ 40) (out : Vector (List Int) 16) (hP : Pre out (wc e c.Places) ver) : loop (t3 (Zbw c (e : Int))) (out, ((sB c.Places : Nat) : Int), 0) = some (wrF out (wc e c.Places)) := by
  refine ZhI h8 hb he (fun out k r q hq hp hl h0 hr => ?_) (fun out r => by simp [Zbw]) out hP
  have hlt := Xm hq
  obtain ⟨row, s1, s2, s3, s4, s5, s6, s7, s8, s9⟩ := ZjU (e := e) (r := r) hp hl h0 (by omega) he
  simp only [Zbw, hlt, decide_true, if_true, Z8 hq, Option.bind_some, s1, s2, Zmr hp rfl hr, s3, s4, s6, s7, s9]
  rw [ZN (by omega) (by omega)]
end Go.Vx

namespace Go.Vx
open Go Go.RowKit
def ZbH (m : api_Map) (c : api_Cell) : api_Param := (m.Params[c.Param.toNat]?).getD ⟨[], 0, [], 0, 0, 0, 0, []⟩
def Znv (m : api_Map) (c : api_Cell) (v : Int) : WL := wc (enc (ZbH m c) v).toNat c.Places
def ZeA (m : api_Map) : List api_Cell → List Int → WL
  | c :: cs, v :: vs => Znv m c v ++ ZeA m cs vs
  | _, _ => []
def inV (m : api_Map) (c : api_Cell) (v : Int) : Bool := wiL v (lims (ZbH m c)).1 (lims (ZbH m c)).2
def ZcT (m : api_Map) : List api_Cell → List Int → Bool
  | c :: cs, v :: vs => inV m c v && ZcT m cs vs
  | _, _ => true
theorem ZeG {m : api_Map} (h : MapOK m) {c : api_Cell} (hc : c ∈ allC 0 m.Params) : idx m.Params c.Param = some (ZbH m c) ∧ ParOK (ZbH m c) ∧ c.Places.length ≤ 8 ∧ (∀ q ∈ c.Places, placeR q) ∧ sB c.Places ≤ 40 ∧ bitsN (ZbH m c) = (sB c.Places : Int) ∧ 2 * HH (ZbH m c) = 2 ^ sB c.Places := by
  obtain ⟨j, x, h1, hx, h2, f, t, h3, h4, _, h5⟩ := ZiY h hc
  obtain ⟨x', g1, g2, g3, g4, g5, g6, _⟩ := Zko h (Vector.replicate 16 []) hc
  have e : ZbH m c = x' := by unfold ZbH; rw [g2]; rfl
  have e2 : x' = x := by rw [h2, Int.toNat_natCast, h1] at g2; exact (Option.some.inj g2).symm
  have hsB : bitsN x = (sB c.Places : Int) := by
    have key : ∀ ps : List api_Part, (∀ y ∈ ps, ZbK y = true) → ((sB (ps.map (Zaw x f t)) : Nat) : Int) = (ps.map (·.Bits)).sum := by
      intro ps
      induction ps with
      | nil => intro _; rfl
      | cons y ps ih =>
        intro hy
        have := JY.1 (hy y List.mem_cons_self)
        have ih := ih fun z hz => hy z (List.mem_cons_of_mem _ hz)
        have e : sB ((y :: ps).map (Zaw x f t)) = y.Bits.toNat + sB (ps.map (Zaw x f t)) := by simp [sB, Zaw]
        rw [e, List.map_cons, List.sum_cons]
        push_cast
        omega
    rw [h5]
    exact (key _ hx.len.2).symm
  subst e2
  rw [e]
  refine ⟨g1, g3, g4, g5, g6, hsB, ?_⟩
  rw [← (ZhC g3).2.2, hsB]; congr 1
theorem ZkI {m : api_Map} (h : MapOK m) {c : api_Cell} (hc : c ∈ allC 0 m.Params) {v : Int} (hv : inV m c v = true) : ((enc (ZbH m c) v).toNat : Int) = enc (ZbH m c) v ∧ (enc (ZbH m c) v).toNat < 2 ^ sB c.Places ∧ (enc (ZbH m c) v).toNat < 2 ^ 40 ∧ dec (ZbH m c) (enc (ZbH m c) v) = (v, true) := by
  obtain ⟨_, hx, _, _, h40, _, hH⟩ := ZeG h hc
  obtain ⟨a, b⟩ := ZdL.1 hv
  obtain ⟨e1, e2, e3⟩ := Zk6 hx a b
  rw [hH] at e2
  have ep : ((2 ^ sB c.Places : Nat) : Int) = (2 : Int) ^ sB c.Places := by push_cast; rfl
  have h2 : 2 ^ sB c.Places ≤ 2 ^ 40 := Nat.pow_le_pow_right (by decide) h40
  exact ⟨by omega, by omega, by omega, e3⟩
theorem Zjf (m : api_Map) : ∀ (cs : List api_Cell) (vs : List Int), cs.length = vs.length → (ZeA m cs vs).map (·.1) = cs.flatMap fun c => c.Places
  | [], [], _ => rfl
  | c :: cs, v :: vs, h => by
    simp only [ZeA, List.map_append, List.flatMap_cons]
    rw [Zjf m cs vs (by simpa using h)]
    unfold Znv
    rw [ZlI]
theorem Zmf : ∀ {K : List layout_bit} {l : List api_Place}, okB K (Q0 l) = true → l.Pairwise disj
  | K, [], _ => List.Pairwise.nil
  | K, q :: l, h => by
    have e : Q0 (q :: l) = JK q ++ Q0 l := by simp [Q0]
    rw [e, Zcx, Bool.and_eq_true] at h
    refine List.pairwise_cons.2 ⟨fun r hr x hx => ?_, Zmf h.2⟩
    cases hxr : ZiK x r with
    | false => rfl
    | true =>
      have hm : x ∈ Q0 l := by
        unfold Q0
        exact List.mem_flatMap.2 ⟨r, hr, Ziw.2 hxr⟩
      exact absurd (List.mem_append_right _ (Ziw.2 hx)) (Zit h.2 x hm)
def Ziy (m : api_Map) : List Int := (List.replicate 58 (0 : Int)).set 0 m.Version
def Zeh (m : api_Map) : Vector (List Int) 16 := Vector.replicate 16 (Ziy m)
theorem ZlR (m : api_Map) : loop (t2 (Q3 m)) ((Vector.replicate 16 []), 0) = some (Zeh m) := by
  have key : ∀ (n k : Nat) (o : Vector (List Int) 16), k + n = 16 → (∀ i : Nat, i < k → o.toList[i]? = some (Ziy m)) → loop (t2 (Q3 m)) (o, (k : Int)) = some (Zeh m) := by
    intro n
    induction n with
    | zero =>
      intro k o hk ho
      have : k = 16 := by omega
      subst this
      rw [ZG]
      have e : o = Zeh m := by
        apply Vector.toList_inj.1
        apply List.ext_getElem?
        intro i
        by_cases hi : i < 16
        · have eo : (Zeh m).toList = List.replicate 16 (Ziy m) := rfl
          rw [ho i hi, eo, List.getElem?_replicate, if_pos hi]
        · rw [List.getElem?_eq_none (by simp; omega), List.getElem?_eq_none (by simp; omega)]
      rw [e]
      rfl
    | succ n ih =>
      intro k o hk ho
      have h16 : o.toList.length = 16 := by simp
      have hlt : (k : Int) < 16 := by omega
      obtain ⟨x, hx⟩ := Qm (xs := o.toList) (k := k) (by omega)
      have hm : mks 58 (0 : Int) = some (List.replicate 58 0) := rfl
      have hs1 : (ZU o (k : Int) (List.replicate 58 (0 : Int))).toList = o.toList.set k (List.replicate 58 0) := by simp [ZU]
      have hv1 : ZJ (ZU o (k : Int) (List.replicate 58 (0 : Int))) (k : Int) = some (List.replicate 58 0) := ZiI (by rw [hs1, List.getElem?_set_self (by omega)])
      have hi0 : idx (List.replicate 58 (0 : Int)) 0 = some 0 := rfl
      have e3 : ((k : Nat) : Int) + 1 = ((k + 1 : Nat) : Int) := by push_cast; rfl
      rw [ZG]
      simp only [ZbA, Q3, hlt, decide_true, if_true, hm, Option.bind_some, ZiI hx, hv1, hi0]
      rw [ZN (by omega) (by omega), e3]
      refine ih (k + 1) _ (by omega) (fun i hi => ?_)
      have hs2 : (ZU (ZU o (k : Int) (List.replicate 58 (0 : Int))) (k : Int) ((List.replicate 58 (0 : Int)).set (Int.toNat 0) m.Version)).toList = (o.toList.set k (List.replicate 58 0)).set k (Ziy m) := by
        simp [ZU, Ziy]
      rw [hs2, List.getElem?_set]
      by_cases hik : k = i
      · subst hik; rw [if_pos rfl, if_pos (by simp; omega)]
      · rw [if_neg hik, List.getElem?_set_ne hik]; exact ho i (by omega)
  exact key 16 0 _ (by omega) (fun i hi => by omega)
theorem Znl (m : api_Map) : ZdD m = Q3 m := rfl
theorem Zhi {m : api_Map} {x : List Int} (hx : x ∈ (Zeh m).toList) : x = Ziy m := by
  simp [Zeh] at hx; exact hx
theorem ZlB (m : api_Map) (w : Nat) (hw : 1 ≤ w) : (Ziy m).getD w 0 = 0 := by
  unfold Ziy
  rw [List.getD_eq_getElem?_getD, List.getElem?_set_ne (by omega), List.getElem?_replicate]
  split <;> rfl
theorem Zos {m : api_Map} (h : MapOK m) {l : List Int} (hl : (allC 0 m.Params).length = l.length) : Pre (Zeh m) (ZeA m (allC 0 m.Params) l) m.Version := by
  have hfst := Zjf m (allC 0 m.Params) l hl
  have hpl : ∀ w ∈ ZeA m (allC 0 m.Params) l, placeR w.1 := by
    intro w hw
    have : w.1 ∈ (ZeA m (allC 0 m.Params) l).map (·.1) := List.mem_map.2 ⟨w, hw, rfl⟩
    rw [hfst] at this
    obtain ⟨c, hc, hq⟩ := List.mem_flatMap.1 this
    exact (ZeG h hc).2.2.2.1 _ hq
  have hval : ∀ (cs : List api_Cell) (vs : List Int), ∀ w ∈ ZeA m cs vs, w.2 < 2 ^ w.1.Bits.toNat := by
    intro cs
    induction cs with
    | nil => intro vs w hw; cases hw
    | cons c cs ih =>
      intro vs w hw
      cases vs with
      | nil => cases hw
      | cons v vs =>
        rcases List.mem_append.1 hw with hw | hw
        · have : ∀ (e : Nat) (ps : List api_Place), ∀ w ∈ wc e ps, w.2 < 2 ^ w.1.Bits.toNat := by
            intro e ps
            induction ps with
            | nil => intro w hw; cases hw
            | cons q tl ih2 =>
              intro w hw
              rcases List.mem_cons.1 hw with rfl | hw
              · exact Nat.mod_lt _ (Nat.two_pow_pos _)
              · exact ih2 w hw
          exact this _ _ w hw
        · exact ih vs w hw
  refine ⟨fun x hx => ?_, fun w hw => ⟨hpl w hw, hval _ _ w hw, ?_⟩, ?_, fun x hx => ?_⟩
  · rw [Zhi hx]
    refine ⟨by simp [Ziy], fun d hd => ?_⟩
    rcases List.mem_or_eq_of_mem_set hd with hd | rfl
    · have := (List.mem_replicate.1 hd).2; omega
    · exact h.ver
  · have hq := hpl w hw
    have hm := ZfQ (l := Zeh m) hq
    have hr := Zhi (List.mem_of_getElem? hm)
    have hd : ZaU (Zeh m) w.1 = 0 := by
      have : ZaU (Zeh m) w.1 = ((ZgO (Zeh m) w.1).getD (w.1.Word - 3).toNat 0).toNat := rfl
      obtain ⟨_, a, _⟩ := hq
      rw [this, hr, ZlB m _ (by omega)]; rfl
    unfold chunk
    rw [hd]; simp
  · have hu : okB [] (Q0 ((allC 0 m.Params).flatMap fun c => c.Places)) = true := by
      have e : Q0 ((allC 0 m.Params).flatMap fun c => c.Places) = bitsC (allC 0 m.Params) := by
        simp [Q0, bitsC, List.flatMap_assoc]
      rw [e]; exact h.uniq
    have hd := Zmf hu
    rw [← hfst] at hd
    exact List.pairwise_map.1 hd
  · rw [Zhi hx]; rfl
theorem Zle {m : api_Map} (h : MapOK m) {l : List Int} (hl : (allC 0 m.Params).length = l.length) : ∀ (n k : Nat) (out : Vector (List Int) 16), k + n = l.length → Pre out (ZeA m ((allC 0 m.Params).drop k) (l.drop k)) m.Version →
    loop (t2 (Q4 m l (allC 0 m.Params))) (out, (k : Int)) = some (cond (ZcT m ((allC 0 m.Params).drop k) (l.drop k)) (.inr (wrF out (ZeA m ((allC 0 m.Params).drop k) (l.drop k)))) (.inl ((Vector.replicate 16 []), 9))) := by
  have hcnt := h.cnt
  intro n
  induction n with
  | zero =>
    intro k out hk _
    have : k = l.length := by omega
    subst this
    have e : (allC 0 m.Params).drop l.length = [] := List.drop_eq_nil_of_le (by omega)
    rw [ZG, e]
    have : ¬ (l.length : Int) < ((allC 0 m.Params).length : Int) := by omega
    simp [Q4, hl, ZeA, wrF, ZcT]
  | succ n ih =>
    intro k out hk hP
    obtain ⟨c, hc⟩ := Qm (xs := allC 0 m.Params) (k := k) (by omega)
    obtain ⟨v, hv⟩ := Qm (xs := l) (k := k) (by omega)
    have hcm := List.mem_of_getElem? hc
    have hlt := Xm hc
    obtain ⟨g1, hx, g4, g5, g6, g7, _⟩ := ZeG h hcm
    obtain ⟨num, n1, n2⟩ := Zj8 hx
    rw [ZP hc, ZP hv] at hP ⊢
    simp only [ZeA, ZcT] at hP ⊢
    rw [ZG]
    simp only [ZbA, Q4, hlt, decide_true, if_true, Z8 hc, Option.bind_some, g1, n1, Z8 hv, ZcA, n2.low, n2.high]
    have hin : wiL v (lims (ZbH m c)).1 (lims (ZbH m c)).2 = inV m c v := rfl
    rw [hin]
    cases hI : inV m c v with
    | false => rfl
    | true =>
      obtain ⟨a, b⟩ := ZdL.1 hI
      obtain ⟨e1, e2, e3, e4⟩ := ZkI h hcm hI
      have e5 : ((k : Nat) : Int) + 1 = ((k + 1 : Nat) : Int) := by push_cast; rfl
      simp only [Bool.not_true, Bool.false_eq_true, if_false, n2.encode v a b, Option.bind_some, ZdG hx.len, g7]
      rw [← e1, Zov g4 g6 e3 out hP.left, ZN (by omega) (by omega), e5]
      have := ih (k + 1) _ (by omega) hP.app
      rw [← Zi2] at this
      exact this
theorem Zoy {m : api_Map} (h : MapOK m) {l : List Int} (hl : (allC 0 m.Params).length = l.length) : loop (t1 (Zad m l (allC 0 m.Params))) 0 = some (cond (ZcT m (allC 0 m.Params) l) (.inr ()) (.inl ((Vector.replicate 16 []), 9))) := by
  have hcnt := h.cnt
  have key : ∀ (n k : Nat), k + n = l.length → loop (t1 (Zad m l (allC 0 m.Params))) (k : Int) = some (cond (ZcT m ((allC 0 m.Params).drop k) (l.drop k)) (.inr ()) (.inl ((Vector.replicate 16 []), 9))) := by
    intro n
    induction n with
    | zero =>
      intro k hk
      have : k = l.length := by omega
      subst this
      have e : (allC 0 m.Params).drop l.length = [] := List.drop_eq_nil_of_le (by omega)
      rw [ZG, e]
      simp [Zad, hl, ZcT]
    | succ n ih =>
      intro k hk
      obtain ⟨c, hc⟩ := Qm (xs := allC 0 m.Params) (k := k) (by omega)
      obtain ⟨v, hv⟩ := Qm (xs := l) (k := k) (by omega)
      have hcm := List.mem_of_getElem? hc
      have hlt := Xm hc
      obtain ⟨g1, hx, g4, g5, g6, g7, _⟩ := ZeG h hcm
      rw [ZP hc, ZP hv]
      simp only [ZcT]
      rw [ZG]
      simp only [t1, Zad, hlt, decide_true, if_true, Z8 hc, Option.bind_some, g1, ZlK hx, Z8 hv, ZcO]
      have hin : wiL v (lims (ZbH m c)).1 (lims (ZbH m c)).2 = inV m c v := rfl
      have e5 : ((k : Nat) : Int) + 1 = ((k + 1 : Nat) : Int) := by push_cast; rfl
      rw [hin, ZN (by omega) (by omega), e5]
      cases hI : inV m c v with
      | false => rfl
      | true => exact ih (k + 1) (by omega)
  exact key l.length 0 (by omega)
theorem Zkd {m : api_Map} (h : MapOK m) {l : List Int} (hl : (allC 0 m.Params).length = l.length) : ∀ (n k : Nat) (out : Vector (List Int) 16), k + n = l.length → ZcT m ((allC 0 m.Params).drop k) (l.drop k) = true → Pre out (ZeA m ((allC 0 m.Params).drop k) (l.drop k)) m.Version →
    loop (t2 (Zaj m l (allC 0 m.Params))) (out, (k : Int)) = some (wrF out (ZeA m ((allC 0 m.Params).drop k) (l.drop k))) := by
  have hcnt := h.cnt
  intro n
  induction n with
  | zero =>
    intro k out hk _ _
    have : k = l.length := by omega
    subst this
    have e : (allC 0 m.Params).drop l.length = [] := List.drop_eq_nil_of_le (by omega)
    rw [ZG, e]
    simp [Zaj, hl, ZeA, wrF]
  | succ n ih =>
    intro k out hk hA hP
    obtain ⟨c, hc⟩ := Qm (xs := allC 0 m.Params) (k := k) (by omega)
    obtain ⟨v, hv⟩ := Qm (xs := l) (k := k) (by omega)
    have hcm := List.mem_of_getElem? hc
    have hlt := Xm hc
    obtain ⟨g1, hx, g4, g5, g6, g7, _⟩ := ZeG h hcm
    rw [ZP hc, ZP hv] at hP hA ⊢
    simp only [ZeA, ZcT, Bool.and_eq_true] at hP hA ⊢
    obtain ⟨hI, hA⟩ := hA
    obtain ⟨a, b⟩ := ZdL.1 hI
    obtain ⟨e1, e2, e3, e4⟩ := ZkI h hcm hI
    have e5 : ((k : Nat) : Int) + 1 = ((k + 1 : Nat) : Int) := by push_cast; rfl
    rw [ZG]
    simp only [ZbA, Zaj, hlt, decide_true, if_true, Z8 hc, Option.bind_some, g1, Z8 hv, Zlv hx a b, ZfD, ZdG hx.len, g7]
    rw [← e1, Zon g4 g6 e3 out hP.left, ZN (by omega) (by omega), e5]
    have := ih (k + 1) _ (by omega) hA hP.app
    rw [← Zi2] at this
    exact this
def Zel (m : api_Map) (l : List Int) : Vector (List Int) 16 × Int :=
  if ZhR m = 0 then (if (allC 0 m.Params).length = l.length then (if ZcT m (allC 0 m.Params) l = true then (wrF (Zeh m) (ZeA m (allC 0 m.Params) l), 0) else (Vector.replicate 16 [], 9)) else (Vector.replicate 16 [], 3)) else (Vector.replicate 16 [], ZhR m)
theorem ZoF (m : api_Map) (l : List Int) : Jd m l = some (Zel m l) := by
  obtain ⟨a, hc⟩ := ZmK m
  unfold Jd Zel
  rw [hc, Option.bind_some]
  by_cases h : ZhR m = 0
  · have hm := Zkm h
    rw [if_neg (by simp [h]), if_pos h, Zma hm, Option.bind_some]
    by_cases hl : (allC 0 m.Params).length = l.length
    · have hl' : ((l.length : Nat) : Int) = ((allC 0 m.Params).length : Int) := by omega
      rw [if_neg (by simpa using hl'), if_pos hl, ZlR]
      simp only [Option.bind_some, t1]
      have := Zle hm hl l.length 0 (Zeh m) (by omega) (Zos hm hl)
      have this' : loop (t2 (Q4 m l (allC 0 m.Params))) (Zeh m, 0) = _ := this
      rw [this', List.drop_zero, List.drop_zero]
      cases ZcT m (allC 0 m.Params) l <;> rfl
    · have hl' : ¬ ((l.length : Nat) : Int) = ((allC 0 m.Params).length : Int) := by omega
      rw [if_pos (by simpa using hl'), if_neg hl]
  · rw [if_pos (ZkN h), if_neg h]
theorem Zm4 (m : api_Map) (l : List Int) (hs : ZbS m) : Zdj m l = some (Zel m l) := by
  obtain ⟨a, hc⟩ := Zl1 m hs
  unfold Zdj Zel
  rw [hc, Option.bind_some]
  by_cases h : ZhR m = 0
  · have hm := Zkm h
    rw [if_neg (by simp [h]), if_pos h, Zlt hm, Option.bind_some]
    by_cases hl : (allC 0 m.Params).length = l.length
    · have hl' : ((l.length : Nat) : Int) = ((allC 0 m.Params).length : Int) := by omega
      rw [if_neg (by simpa using hl'), if_pos hl, Zoy hm hl]
      cases hA : ZcT m (allC 0 m.Params) l with
      | false => rfl
      | true =>
        simp only [cond_true, Option.bind_some, Sum.elim_inr, t0, Znl, ZlR, t1, if_true]
        have := Zkd hm hl l.length 0 (Zeh m) (by omega) (by simpa using hA) (Zos hm hl)
        have this' : loop (t2 (Zaj m l (allC 0 m.Params))) (Zeh m, 0) = _ := this
        rw [this', List.drop_zero, List.drop_zero]
        rfl
    · have hl' : ¬ ((l.length : Nat) : Int) = ((allC 0 m.Params).length : Int) := by omega
      rw [if_pos (by simpa using hl'), if_neg hl]
  · rw [if_pos (ZkN h), if_neg h]
end Go.Vx

namespace Go.Vx
open Go Go.RowKit
noncomputable def mkF (n : Int) (data : List Int) : Vector Int 64 := match Zai n data with
  | some r => r.1
  | none => Vector.replicate 64 0
theorem Znw {n : Int} {data : List Int} (hn : 0 ≤ n ∧ n < 4194304) (hl : data.length = 58) (hd : ∀ d ∈ data, 0 ≤ d ∧ d ≤ 2047) : Zai n data = some (mkF n data, 0) ∧ Made (mkF n data) n data := by
  obtain ⟨f, h1, h2⟩ := Zpk hn hl hd
  unfold mkF
  rw [h1]
  exact ⟨rfl, h2⟩
def ent {α : Type} (z : α) (D : Vector α 16) (i : Nat) : α := D.toList.getD i z
theorem Zjd {α : Type} (z : α) (D : Vector α 16) {i : Nat} (hi : i < 16) : D.toList[i]? = some (ent z D i) ∧ ZJ D (i : Int) = some (ent z D i) := by
  obtain ⟨x, hx⟩ := Qm (xs := D.toList) (k := i) (by simp; omega)
  have e : ent z D i = x := by unfold ent; rw [List.getD_eq_getElem?_getD, hx]; rfl
  rw [e]
  exact ⟨hx, ZiI hx⟩
noncomputable def ZiM (first : Int) (D : Vector (List Int) 16) : Nat → Vector (Vector Int 64) 16
  | 0 => Vector.replicate 16 (Vector.replicate 64 0)
  | k + 1 => ZU (ZiM first D k) (k : Int) (mkF (first + k) (ent [] D k))
abbrev zF : Vector Int 64 := Vector.replicate 64 0
theorem ZkA {D : Vector (List Int) 16} (h : DatOK D) {i : Nat} (hi : i < 16) : (ent [] D i).length = 58 ∧ ∀ d ∈ ent [] D i, 0 ≤ d ∧ d ≤ 2047 := h _ (List.mem_of_getElem? (Zjd [] D hi).1)
theorem Zj3 {first : Int} {D : Vector (List Int) 16} (hf : 0 ≤ first ∧ first ≤ 4194288) (hD : DatOK D) (e : Int) : loop (t2 (XM first (D, e))) (Vector.replicate 16 (Vector.replicate 64 0), 0) = some (ZiM first D 16) := by
  have L := Zcs (body := XM first (D, e)) (ZiM first D) (ZiM first D 16) (a := 0) (b := 16) (by decide) (fun k _ hk => by
    obtain ⟨d1, d2⟩ := ZkA hD hk
    obtain ⟨m1, _⟩ := Znw (n := first + k) (by omega) d1 d2
    unfold XM
    rw [if_pos (by rw [decide_eq_true_eq]; omega)]
    simp only
    rw [(Zjd [] D hk).2, Option.bind_some, ZbN (z := first + (k : Int)) (by omega) (by omega), m1, Option.bind_some, (Zjd zF (ZiM first D k) hk).2, Option.bind_some, ZbN (by omega) (by omega)]
    rfl) (by
    unfold XM
    rw [if_neg (by decide)])
  exact L
theorem Zpn {m : api_Map} (h : MapOK m) {l : List Int} (hl : (allC 0 m.Params).length = l.length) : Pre (wrF (Zeh m) (ZeA m (allC 0 m.Params) l)) [] m.Version :=
  Pre.app (W2 := []) (by rw [List.append_nil]; exact Zos h hl)
end Go.Vx

namespace Go.Vx
open Go Go.RowKit
theorem Zlp : ((List.range 2048).all fun n => decide (QU (n : Int) = ZcP (n : Int)) && (ZcP (n : Int)).isSome) = true := by decide +kernel
theorem Zg6 {d : Int} (h : 0 ≤ d ∧ d ≤ 2047) : Zab d = some (wdv d) := by
  obtain ⟨n, rfl⟩ : ∃ n : Nat, d = n := ⟨d.toNat, by omega⟩
  have := List.all_eq_true.1 Zlp n (List.mem_range.2 (by omega))
  simp only [Bool.and_eq_true, decide_eq_true_eq] at this
  obtain ⟨b, hb⟩ := Option.isSome_iff_exists.1 this.2
  have e : wdv (n : Int) = b := by unfold wdv; rw [this.1, hb]; rfl
  rw [e]
  exact Zi6 _ b hb
theorem Zji {x : Int} (h : 0 ≤ x ∧ x ≤ 65535) : u16 x = x := by
  obtain ⟨n, rfl⟩ : ∃ n : Nat, x = n := ⟨x.toNat, by omega⟩
  show IntKind.u16.wrap (n : Int) = n
  simp [IntKind.wrap, IntKind.bits, IntKind.signed]
  omega
theorem ZoL {f g : Vector Int 64} (h : ∀ j, j < 64 → wd f j = wd g j) : f = g := by
  apply Vector.toList_inj.1
  apply List.ext_getElem?
  intro i
  by_cases hi : i < 64
  · obtain ⟨x, hx⟩ := Qm (xs := f.toList) (k := i) (by simp; omega)
    obtain ⟨y, hy⟩ := Qm (xs := g.toList) (k := i) (by simp; omega)
    have := h i hi
    unfold wd at this
    rw [List.getD_eq_getElem?_getD, List.getD_eq_getElem?_getD, hx, hy] at this
    rw [hx, hy]
    exact congrArg some this
  · rw [List.getElem?_eq_none (by simp; omega), List.getElem?_eq_none (by simp; omega)]
noncomputable def ZgC (g : Vector Int 64) : Nat → Vector Int 64
  | 0 => g
  | k + 1 => if k = 0 then g else ZU (ZgC g k) (k : Int) (wdv (wd g k % 2048))
theorem Zi0 (g : Vector Int 64) (j : Nat) : ∀ k, k ≤ 61 → wd (ZgC g k) j = if 1 ≤ j ∧ j < k then wdv (wd g j % 2048) else wd g j
  | 0, _ => by rw [ZgC, if_neg (by omega)]
  | k + 1, hk => by
    rw [ZgC]
    by_cases h0 : k = 0
    · rw [if_pos h0, if_neg (by omega)]
    · rw [if_neg h0, Zbn _ _ (by omega), Zi0 g j k (by omega)]
      by_cases e : j = k
      · subst e; rw [if_pos rfl, if_pos (by omega)]
      · rw [if_neg e]
        by_cases h : 1 ≤ j ∧ j < k
        · rw [if_pos h, if_pos (by omega)]
        · rw [if_neg h, if_neg (by omega)]
theorem Zmg {g : Vector Int 64} (h : fU g) : loop (t2 X6) (g, 1) = some (ZgC g 61) := by
  have L := Zcs (body := X6) (ZgC g) (ZgC g 61) (a := 1) (b := 61) (by decide) (fun k h1 hk => by
    have hw := h k
    have e1 : wd (ZgC g k) k = wd g k := by rw [Zi0 g k k (by omega), if_neg (by omega)]
    obtain ⟨_, w2, _⟩ := XH (d := wd g k % 2048) (by omega)
    unfold X6
    rw [if_pos (by rw [decide_eq_true_eq]; omega), XZ _ (by omega), Option.bind_some, e1, ZbN (z := wd g k) (by omega) (by omega), Zf4 hw.1 2048 (by decide), Option.bind_some, Zg6 (by omega), Option.bind_some, Option.bind_some, Zji (by omega), ZbN (z := (k : Int) + 1) (by omega) (by omega), ZgC, if_neg (by omega)]) (by
    unfold X6
    rw [if_neg (by decide)])
  exact L
theorem Zmb {g : Vector Int 64} (h : fU g) : Zb8 g = some (Zco (ZgC g 61)) := by
  have hF : fU (ZgC g 61) := fun j => by
    rw [Zi0 g j 61 (by decide)]
    have hw := h j
    split
    · have := (XH (d := wd g j % 2048) (by omega)).2.1; omega
    · exact hw
  generalize hFd : ZgC g 61 = F at hF
  have hb := Zkw F
  have hsy := Ziz (JX F)
  have h1 : fU (ZbY F) := Zgb hF (by decide) (by omega)
  have hsb := Zg3 (ZbY F) 60
  obtain ⟨_, w2, _, _⟩ := XH (d := ZbF (ZbY F) 60) (by omega)
  have h2 : fU (XF F) := Zgb h1 (by decide) (by omega)
  have hcb := Zkj (XF F) 744
  obtain ⟨_, v2, _, _⟩ := XH (d := ckS (XF F) 744 / 2048) (by omega)
  obtain ⟨_, u2, _, _⟩ := XH (d := ckS (XF F) 744 % 2048) (by omega)
  have i0 : ZJ F 0 = some (wd F 0) := XZ F (i := 0) (by decide)
  have i61 : ZJ (ZbY F) 61 = some (wd (ZbY F) 61) := XZ _ (i := 61) (by decide)
  have i62 : ZJ (XF F) 62 = some (wd (XF F) 62) := XZ _ (i := 62) (by decide)
  have i63 : ZJ (Zhg F) 63 = some (wd (Zhg F) 63) := XZ _ (i := 63) (by decide)
  have e1 : ZU F 0 (Zdu (JX F)) = ZbY F := rfl
  have e2 : ZU (ZbY F) 61 (wdv (ZbF (ZbY F) 60)) = XF F := rfl
  have e3 : ZU (XF F) 62 (wdv (ckS (XF F) 744 / 2048)) = Zhg F := rfl
  have e4 : ZU (Zhg F) 63 (wdv (ckS (XF F) 744 % 2048)) = Zco F := rfl
  have q1 : quo .i64 (ckS (XF F) 744) 2048 = some (ckS (XF F) 744 / 2048) := by
    unfold quo
    rw [if_neg (by decide), Int.tdiv_eq_ediv_of_nonneg hcb.1]
    exact congrArg some (ZbN (z := ckS (XF F) 744 / 2048) (by omega) (by omega))
  have hck : Zbl (XF F) = some (Zco F) := by
    unfold Zbl
    rw [Zoc h2, Option.bind_some, q1, Option.bind_some, Zg6 (by omega), Option.bind_some, Zf4 hcb.1 2048 (by decide), Option.bind_some, Zg6 (by omega), Option.bind_some, i62, Option.bind_some, Zji (by omega), e3, i63, Option.bind_some, Zji (by omega), e4]
  unfold Zb8
  rw [Zmg h, Option.bind_some, ZhT, hFd, (ZlQ hF).2, Option.bind_some, Zms hb.1, Option.bind_some, i0, Option.bind_some, Zji (x := Zdu (JX F)) (by omega), e1, (ZkC h1).2, Option.bind_some, Zg6 (by omega), Option.bind_some, i61, Option.bind_some, Zji (by omega), e2, hck, Option.bind_some]
def ZhB (g0 : Vector Int 64) (data : List Int) : Nat → Vector Int 64
  | 0 => g0
  | k + 1 => ZU (ZhB g0 data k) ((3 + k : Nat) : Int) (data.getD k 0)
theorem ZlJ (g0 : Vector Int 64) (data : List Int) (j : Nat) : ∀ k, k ≤ 58 → wd (ZhB g0 data k) j = if 3 ≤ j ∧ j < 3 + k then data.getD (j - 3) 0 else wd g0 j
  | 0, _ => by rw [ZhB, if_neg (by omega)]
  | k + 1, hk => by
    rw [ZhB, Zbn _ _ (by omega), ZlJ g0 data j k (by omega)]
    by_cases hj : j = 3 + k
    · subst hj
      rw [if_pos rfl, if_pos (by omega), show 3 + k - 3 = k by omega]
    · rw [if_neg hj]
      by_cases h2 : 3 ≤ j ∧ j < 3 + k
      · rw [if_pos h2, if_pos (by omega)]
      · rw [if_neg h2, if_neg (by omega)]
def Zh1 (n : Int) : Vector Int 64 := ZU (ZU (#v[0, 0, 0, 0, 0, 0, 0, 0, 0, 0, 0, 0, 0, 0, 0, 0, 0, 0, 0, 0, 0, 0, 0, 0, 0, 0, 0, 0, 0, 0, 0, 0, 0, 0, 0, 0, 0, 0, 0, 0, 0, 0, 0, 0, 0, 0, 0, 0, 0, 0, 0, 0, 0, 0, 0, 0, 0, 0, 0, 0, 0, 0, 0, 0] : Vector Int 64) ((1 : Nat) : Int) (n % 2048)) ((2 : Nat) : Int) (n / 2048)
theorem z64 : (#v[0, 0, 0, 0, 0, 0, 0, 0, 0, 0, 0, 0, 0, 0, 0, 0, 0, 0, 0, 0, 0, 0, 0, 0, 0, 0, 0, 0, 0, 0, 0, 0, 0, 0, 0, 0, 0, 0, 0, 0, 0, 0, 0, 0, 0, 0, 0, 0, 0, 0, 0, 0, 0, 0, 0, 0, 0, 0, 0, 0, 0, 0, 0, 0] : Vector Int 64) = Vector.replicate 64 (0 : Int) := rfl
theorem Zou {n : Int} {data : List Int} (hn : 0 ≤ n ∧ n < 4194304) (hl : data.length = 58) (hd : ∀ d ∈ data, 0 ≤ d ∧ d ≤ 2047) : Zd5 n data = Zai n data := by
  rw [Znz hn hl hd]
  have hg : ∀ k, k < 58 → 0 ≤ data.getD k 0 ∧ data.getD k 0 ≤ 2047 := fun k hk => by
    obtain ⟨x, hx⟩ := Qm (xs := data) (k := k) (by omega)
    rw [List.getD_eq_getElem?_getD, hx]
    exact hd x (List.mem_of_getElem? hx)
  have hbeg : ∀ j, wd (Zh1 n) j = if j = 2 then n / 2048 else if j = 1 then n % 2048 else 0 := fun j => by
    unfold Zh1
    rw [z64, Zbn _ _ (by decide), Zbn _ _ (by decide), ZiV]
  have hW : ∀ j, wd (ZhB (Zh1 n) data 58) j = if 3 ≤ j ∧ j < 61 then data.getD (j - 3) 0 else if j = 2 then n / 2048 else if j = 1 then n % 2048 else 0 := fun j => by
    rw [ZlJ _ _ _ 58 (by decide), hbeg]
  have hU : fU (ZhB (Zh1 n) data 58) := fun j => by
    rw [hW]
    split
    · have := hg (j - 3) (by omega); omega
    · split
      · omega
      · split <;> omega
  have hpar : ZgC (ZhB (Zh1 n) data 58) 61 = Js (beg n) data 58 := ZoL fun j hj => by
    rw [Zi0 _ _ 61 (by decide), (ZnG hn hl hd).1, hW]
    by_cases h3 : 3 ≤ j ∧ j < 61
    · have := hg (j - 3) (by omega)
      rw [if_pos (show 1 ≤ j ∧ j < 61 by omega), if_pos h3, if_pos h3, show data.getD (j - 3) 0 % 2048 = data.getD (j - 3) 0 by omega]
    · rw [if_neg h3, if_neg h3]
      by_cases h2 : j = 2
      · subst h2
        rw [if_pos (by omega), if_pos rfl, if_pos rfl, show n / 2048 % 2048 = n / 2048 by omega]
      · rw [if_neg h2, if_neg h2]
        by_cases h1 : j = 1
        · subst h1
          rw [if_pos (by omega), if_pos rfl, if_pos rfl, show n % 2048 % 2048 = n % 2048 by omega]
        · rw [if_neg h1, if_neg h1, if_neg (by omega)]
  have L := Zcs (body := Za3 data) (ZhB (Zh1 n) data) (.inr (ZhB (Zh1 n) data 58) : (Vector Int 64 × Int) ⊕ Vector Int 64) (a := 0) (b := 58) (by decide) (fun k _ hk => by
    obtain ⟨x, hx⟩ := Qm (xs := data) (k := k) (by omega)
    have hdx := hd x (List.mem_of_getElem? hx)
    have hgx : data.getD k 0 = x := by rw [List.getD_eq_getElem?_getD, hx]; rfl
    unfold Za3
    rw [if_pos (by rw [decide_eq_true_eq]; omega), Z8 hx, Option.bind_some, if_neg (by rw [decide_eq_false (by omega), decide_eq_false (by omega)]; decide), ZbN (z := 3 + (k : Int)) (by omega) (by omega), show 3 + (k : Int) = ((3 + k : Nat) : Int) by push_cast; rfl, XZ _ (by omega), Option.bind_some, Zji (by omega), ZbN (by omega) (by omega), ZhB, hgx]) (by
    unfold Za3
    rw [if_neg (by rw [decide_eq_true_eq]; omega)])
  have e1 : quo .i64 n 2048 = some (n / 2048) := by
    unfold quo
    rw [if_neg (by decide), Int.tdiv_eq_ediv_of_nonneg hn.1]
    exact congrArg some (ZbN (z := n / 2048) (by omega) (by omega))
  have i1 : ∀ v : Vector Int 64, ZJ v 1 = some (wd v 1) := fun v => XZ v (i := 1) (by decide)
  have i2 : ∀ v : Vector Int 64, ZJ v 2 = some (wd v 2) := fun v => XZ v (i := 2) (by decide)
  have L' : loop (t2 (Za3 data)) (Zh1 n, 0) = some (.inr (ZhB (Zh1 n) data 58)) := L
  unfold Zd5
  rw [if_neg (by rw [decide_eq_false (by omega), decide_eq_false (by omega)]; decide), if_neg (by rw [decide_eq_true (by omega)]; decide), Zf4 hn.1 2048 (by decide), Option.bind_some, e1, Option.bind_some, i1, Option.bind_some, i2, Option.bind_some, Zji (by omega), Zji (by omega)]
  rw [show ZU (ZU (#v[0, 0, 0, 0, 0, 0, 0, 0, 0, 0, 0, 0, 0, 0, 0, 0, 0, 0, 0, 0, 0, 0, 0, 0, 0, 0, 0, 0, 0, 0, 0, 0, 0, 0, 0, 0, 0, 0, 0, 0, 0, 0, 0, 0, 0, 0, 0, 0, 0, 0, 0, 0, 0, 0, 0, 0, 0, 0, 0, 0, 0, 0, 0, 0] : Vector Int 64) 1 (n % 2048)) 2 (n / 2048) = Zh1 n from rfl, L', Option.bind_some, Sum.elim_inr, ZhT, Zmb hU, Option.bind_some, hpar]
theorem ZjA {first : Int} {D : Vector (List Int) 16} (hf : 0 ≤ first ∧ first ≤ 4194288) (hD : DatOK D) (e : Int) : loop (t2 (JE first (D, e))) (Vector.replicate 16 (Vector.replicate 64 0), 0) = some (ZiM first D 16) := by
  have L := Zcs (body := JE first (D, e)) (ZiM first D) (ZiM first D 16) (a := 0) (b := 16) (by decide) (fun k _ hk => by
    obtain ⟨d1, d2⟩ := ZkA hD hk
    obtain ⟨m1, _⟩ := Znw (n := first + k) (by omega) d1 d2
    unfold JE
    rw [if_pos (by rw [decide_eq_true_eq]; omega)]
    simp only
    rw [(Zjd [] D hk).2, Option.bind_some, ZbN (z := first + (k : Int)) (by omega) (by omega), Zou (by omega) d1 d2, m1, Option.bind_some, (Zjd zF (ZiM first D k) hk).2, Option.bind_some, ZbN (by omega) (by omega)]
    rfl) (by
    unfold JE
    rw [if_neg (by decide)])
  exact L
theorem Zlu {m : api_Map} {l : List Int} (h : (Zel m l).2 = 0) : DatOK (Zel m l).1 := by
  unfold Zel at h ⊢
  by_cases hk : ZhR m = 0
  · rw [if_pos hk] at h ⊢
    by_cases hl : (allC 0 m.Params).length = l.length
    · rw [if_pos hl] at h ⊢
      by_cases hA : ZcT m (allC 0 m.Params) l = true
      · rw [if_pos hA]
        exact (Zpn (Zkm hk) hl).dat
      · rw [if_neg hA] at h; cases h
    · rw [if_neg hl] at h; cases h
  · rw [if_neg hk] at h
    exact (hk h).elim
theorem Zmm (m : api_Map) (first : Int) (l : List Int) (hs : ZbS m) : ∃ r, Zby m first l = some r ∧ ZcE m first l = some r := by
  unfold Zby ZcE
  rw [ZoF, Zm4 m l hs, Option.bind_some, Option.bind_some]
  by_cases h0 : (Zel m l).2 = 0
  case neg =>
    have hd : (!decide ((Zel m l).2 = 0)) = true := by rw [decide_eq_false h0]; rfl
    rw [if_pos hd, if_pos hd]
    exact ⟨_, rfl, rfl⟩
  have hd : ¬ (!decide ((Zel m l).2 = 0)) = true := by rw [decide_eq_true h0]; decide
  rw [if_neg hd, if_neg hd]
  unfold ZO Z7
  rw [Option.bind_some, Option.bind_some]
  by_cases hf : 0 ≤ first ∧ first ≤ 4194288
  case neg =>
    have h1 : (!(decide (0 ≤ first) && decide (first ≤ 4194288))) = true := by
      rw [Bool.not_eq_true', Bool.and_eq_false_iff]
      by_cases a : 0 ≤ first
      · exact .inr (decide_eq_false (fun b => hf ⟨a, b⟩))
      · exact .inl (decide_eq_false a)
    have h2 : (decide (first < 0) || decide (4194288 < first)) = true := by
      rw [Bool.or_eq_true, decide_eq_true_eq, decide_eq_true_eq]; omega
    rw [if_pos h1, if_pos h2]
    exact ⟨_, rfl, rfl⟩
  have h1 : ¬ (!(decide (0 ≤ first) && decide (first ≤ 4194288))) = true := by rw [decide_eq_true hf.1, decide_eq_true hf.2]; decide
  have h2 : ¬ (decide (first < 0) || decide (4194288 < first)) = true := by rw [decide_eq_false (by omega), decide_eq_false (by omega)]; decide
  rw [if_neg h1, if_neg h2, Zf4 hf.1 16 (by decide), Option.bind_some, Option.bind_some]
  by_cases hr : first % 16 = 0
  case neg =>
    have hd : (!decide (first % 16 = 0)) = true := by rw [decide_eq_false hr]; rfl
    rw [if_pos hd, if_pos hd]
    exact ⟨_, rfl, rfl⟩
  have hd : ¬ (!decide (first % 16 = 0)) = true := by rw [decide_eq_true hr]; decide
  have hD := Zlu h0
  rw [if_neg hd, if_neg hd]
  generalize Zel m l = y at *
  obtain ⟨D, e⟩ := y
  rw [Zj3 hf hD e, ZjA hf hD e, Option.bind_some, ZhT]
  exact ⟨_, rfl, rfl⟩
theorem Zla {α : Type} {n : Nat} {eq : α → α → Bool} (h : ∀ x, eq x x = true) (v : Vector α n) : Zho eq v v = true := by
  unfold Zho
  rw [List.all_eq_true]
  have key : ∀ l : List α, ∀ p ∈ l.zip l, eq p.1 p.2 = true := by
    intro l
    induction l with
    | nil => intro p hp; cases hp
    | cons a l ih =>
      intro p hp
      rw [List.zip_cons_cons] at hp
      rcases List.mem_cons.1 hp with rfl | hp
      · exact h a
      · exact ih p hp
  exact key _
theorem Zj7 (m : api_Map) (first : Int) (l : List Int) (hs : ZbS m) : QC m first l = some true := by
  obtain ⟨r, h1, h2⟩ := Zmm m first l hs
  unfold QC
  rw [h1, h2, Option.bind_some, Option.bind_some, Zla (eq := ZfO) (fun x => by unfold ZfO; exact decide_eq_true rfl), decide_eq_true rfl, Zmn]
  rfl
end Go.Vx
