/- A text of the proof: a verified executor of the program form, or the contracts of the functions that the law reaches. -/
import Derived.Test.YtafmdjdjabifjaaGreatDoorPY
set_option linter.all false
namespace Go.Vx
open Go Go.RowKit
theorem rHolds_s (op a b : Int) : ref8_holds op a b = some (holdsV op a b) := by
  have e : ref8_holds op a b = panel_holds op a b := rfl
  rw [e, pHolds_s]
theorem slcDrop {l : List Int} (h : 1 ≤ l.length) : slc l 1 (l.length : Int) = some (l.drop 1) := by
  unfold slc
  rw [if_pos ⟨by omega, by omega, Int.le_refl _⟩]
  simp
theorem remember_s (i : api_Instrument) (m : api_Memo) (x : api_Sample) (known : Bool) (ht : m.Tape.length ≤ 100) : ref8_remember i m x known = some (advM i m x.N known) := by
  unfold ref8_remember advM
  rw [app_of (show ([] : List Int).length + m.Tape.length ≤ 4294967296 by simp; omega), rHolds_s]
  simp only [Option.bind_some, List.nil_append, isV]
  by_cases h3 : i.Kind = 3
  · cases known <;> cases hl : m.Lit <;> cases hla : i.Latch <;> simp [h3, hl, hla]
  · by_cases h5 : i.Kind = 5
    · cases known
      · simp [h5]
      · rcases Bool.eq_false_or_eq_true (holdsV i.Op x.N i.N) with hh | hh <;> rcases Bool.eq_false_or_eq_true m.Lit with hl | hl <;> simp [h5, hh, hl]
    · by_cases h4 : i.Kind = 4
      · cases known
        · simp [h4]
        · cases hs : m.Some with
          | false => simp [h4, hs]
          | true =>
            by_cases hn : m.N < x.N
            · have : max x.N m.N = x.N := by omega
              simp [h4, hs, hn, this]
            · have : max x.N m.N = m.N := by omega
              simp [h4, hs, hn, this]
      · by_cases h6 : i.Kind = 6
        · cases known
          · simp [h6]
          · have hl : (m.Tape ++ [x.N]).length = m.Tape.length + 1 := by simp
            have hsl := slcDrop (l := m.Tape ++ [x.N]) (by rw [hl]; omega)
            rw [hl] at hsl
            rw [app_of (show m.Tape.length + [x.N].length ≤ 4294967296 by simp; omega)]
            simp only [Option.bind_some, hl, hsl]
            by_cases hz : ((m.Tape.length + 1 : Nat) : Int) ≤ i.Size
            · have hz' : ¬ i.Size < ((m.Tape.length + 1 : Nat) : Int) := by omega
              simp only [h6, shV, hz, hz', decide_true, decide_false]
              simp
            · have hz' : i.Size < ((m.Tape.length + 1 : Nat) : Int) := by omega
              simp only [h6, shV, hz, hz', decide_true, decide_false]
              simp
        · simp [h3, h4, h5, h6]
theorem rAdvance_s {p : api_Panel} {l : List api_Track} {s : api_PanelState} (hb : bothV p l = 0) (hs : stateV p s = 0) (hf : s.Frame ≠ 19999) :
    ref8_advance p l s = some (api_PanelState.mk (s.Frame + 1) ((List.range p.Instruments.length).map (nxt p l s))) := by
  obtain ⟨b1, b2, b3⟩ := bothV_ok hb
  obtain ⟨s1, s2, s3⟩ := state_ok.1 hs
  have hp := panV_len b1
  have hl := ckT_len b2
  have e0 : i64 (s.Frame + 1) = s.Frame + 1 := i64_id (by omega) (by omega)
  have h : loop (t2 (ref8_advance_L1 p l s)) ([], 0) = some ((List.range p.Instruments.length).map (nxt p l s)) := by
    refine loop_ix2 (xs := p.Instruments) (body := ref8_advance_L1 p l s) (fun a k => a = (List.range k).map (nxt p l s)) (fun _ _ => (List.range p.Instruments.length).map (nxt p l s)) (fun a k i ha hi => ?_) (fun a ha => ?_) (by simp)
    · have hlt := lt_of hi
      have him := List.mem_of_getElem? hi
      obtain ⟨j, t, t1', t2', t3'⟩ := b3 i him
      obtain ⟨m, hm⟩ := get_ex (xs := s.Memos) (k := k) (by omega)
      have hmo := s3 k i m hi hm
      have hin := panV_inst b1 him
      have htl := memo_tape hmo hin
      obtain ⟨c1, c2⟩ := ckT_ok b2 (List.mem_of_getElem? t3')
      have e1 : i64 ((k : Int) + 1) = (k : Int) + 1 := i64_id (by omega) (by omega)
      have a1 : ref8_track l i.Track = some (t, true) := by rw [track8_s hl, t2']; rfl
      have a2 := (val_s c1 c2 (frame := s.Frame + 1) (by omega) (by omega)).2
      have hn : nxt p l s k = advM i m (vV t (s.Frame + 1)).1.N (vV t (s.Frame + 1)).2 := by
        unfold nxt; rw [hi, hm]; simp only; rw [t2']
      have hal : a.length = k := by rw [ha]; simp
      left
      refine ⟨a ++ [nxt p l s k], ?_, ?_, rfl⟩
      · simp only [ref8_advance_L1, hlt, decide_true, if_true, idx_of hi, Option.bind_some, a1, e0, a2, idx_of hm]
        rw [remember_s i m _ _ htl]
        simp only [Option.bind_some]
        rw [← hn, app_of (by simp; omega)]
        simp only [Option.bind_some, e1]
      · rw [ha, List.range_succ, List.map_append]; rfl
    · rw [ha]; simp [ref8_advance_L1]
  unfold ref8_advance
  rw [h]
  simp only [Option.bind_some, t1_mk, e0]
end Go.Vx

namespace Go.Vx
open Go Go.RowKit
theorem join_snoc {xs : List Str} (h : xs ≠ []) (y sep : Str) : Go.Lib.join (xs ++ [y]) sep = Go.Lib.join xs sep ++ (sep ++ y) := by
  cases xs with
  | nil => exact absurd rfl h
  | cons a r =>
    rw [List.cons_append, Go.Lib.join_cons, Go.Lib.join_cons]
    simp [Go.Lib.joinTail, List.append_assoc]
noncomputable def dgV (den pl z : Int) : Str := (panel_digits z den pl).getD []
theorem dg_s {den pl z : Int} (hd : 1 ≤ den ∧ den ≤ 1000000) (hp : 0 ≤ pl ∧ pl ≤ 6) (hz : nb50 z = true) : panel_digits z den pl = some (dgV den pl z) ∧ ref8_digits z den pl = some (dgV den pl z) ∧ (dgV den pl z).length ≤ 41 := by
  obtain ⟨z1, z2⟩ := wi_iff.1 hz
  obtain ⟨s, h1, h2, h3⟩ := Digits_t z1 z2 hd.1 hd.2 hp.1 hp.2
  have e : dgV den pl z = s := by unfold dgV; rw [h1]; rfl
  rw [e]; exact ⟨h1, h2, h3⟩
noncomputable def tpV (den pl : Int) (tape : List Int) (k : Nat) : Str := if k = 0 then [45, 45, 45] else Go.Lib.join ((tape.take k).map (dgV den pl)) [32]
theorem take_snoc {α : Type} {l : List α} {k : Nat} {x : α} (h : l[k]? = some x) : l.take (k + 1) = l.take k ++ [x] := by rw [List.take_add_one, h]; rfl
theorem tpV_succ {den pl : Int} {tape : List Int} {k : Nat} {x : Int} (hx : tape[k]? = some x) : tpV den pl tape (k + 1) = if k = 0 then dgV den pl x else tpV den pl tape k ++ ([32] ++ dgV den pl x) := by
  unfold tpV
  rw [if_neg (by omega), take_snoc hx, List.map_append]
  by_cases h : k = 0
  · subst h; simp [Go.Lib.join_one]
  · have hk := (List.getElem?_eq_some_iff.1 hx).1
    rw [if_neg h, if_neg h]
    exact join_snoc (by
      intro e
      have := congrArg List.length e
      simp at this
      rcases this with h1 | h1
      · exact h h1
      · subst h1; simp at hk) _ _
theorem tpV_len {den pl : Int} (hd : 1 ≤ den ∧ den ≤ 1000000) (hp : 0 ≤ pl ∧ pl ≤ 6) {tape : List Int} (ha : ∀ z ∈ tape, nb50 z = true) : ∀ (k : Nat), k ≤ tape.length → (tpV den pl tape k).length ≤ 3 + 42 * k
  | 0, _ => by simp [tpV]
  | k + 1, h => by
    obtain ⟨x, hx⟩ := get_ex (xs := tape) (k := k) (by omega)
    have ih := tpV_len hd hp ha k (by omega)
    have hl := (dg_s hd hp (ha x (List.mem_of_getElem? hx))).2.2
    rw [tpV_succ hx]
    split
    · omega
    · simp only [List.length_append, List.length_cons, List.length_nil]; omega
theorem pTape_s {i : api_Instrument} {m : api_Memo} {den : Int} (hd : 1 ≤ den ∧ den ≤ 1000000) (hp : 0 ≤ i.Places ∧ i.Places ≤ 6) (ha : ∀ z ∈ m.Tape, nb50 z = true) (hl : m.Tape.length ≤ 100) :
    loop (t2 (panel_face_L1 i m den)) ([], 0) = some (m.Tape.map (dgV den i.Places)) := by
  refine loop_ix2 (xs := m.Tape) (body := panel_face_L1 i m den) (fun a k => a = (m.Tape.take k).map (dgV den i.Places)) (fun _ _ => m.Tape.map (dgV den i.Places)) (fun a k x hA hx => ?_) (fun a hA => ?_) (by simp)
  · have hlt := lt_of hx
    have e1 : i64 ((k : Int) + 1) = (k : Int) + 1 := i64_id (by omega) (by omega)
    have hdg := (dg_s hd hp (ha x (List.mem_of_getElem? hx))).1
    have hal : a.length ≤ 100 := by rw [hA, List.length_map, List.length_take]; omega
    left
    refine ⟨a ++ [dgV den i.Places x], ?_, ?_, rfl⟩
    · simp only [panel_face_L1, hlt, decide_true, if_true, idx_of hx, Option.bind_some, hdg, app_of (show a.length + [dgV den i.Places x].length ≤ 4294967296 by simp; omega), e1]
    · rw [hA, take_snoc hx, List.map_append]; rfl
  · rw [hA]; simp [panel_face_L1]
theorem rTape_s {i : api_Instrument} {m : api_Memo} {den mk : Int} (hd : 1 ≤ den ∧ den ≤ 1000000) (hp : 0 ≤ i.Places ∧ i.Places ≤ 6) (ha : ∀ z ∈ m.Tape, nb50 z = true) (hl : m.Tape.length ≤ 100) :
    loop (t2 (ref8_face_L1 i den m mk)) ([45, 45, 45], 0) = some (api_Face.mk (tpV den i.Places m.Tape m.Tape.length) 0 false mk) := by
  refine loop_ix2 (xs := m.Tape) (body := ref8_face_L1 i den m mk) (fun a k => a = tpV den i.Places m.Tape k ∧ k ≤ m.Tape.length) (fun _ _ => api_Face.mk (tpV den i.Places m.Tape m.Tape.length) 0 false mk) (fun a k x hA hx => ?_) (fun a hA => ?_) ⟨rfl, Nat.zero_le _⟩
  · have hlt := lt_of hx
    have e1 : i64 ((k : Int) + 1) = (k : Int) + 1 := i64_id (by omega) (by omega)
    obtain ⟨_, hdg, hdl⟩ := dg_s hd hp (ha x (List.mem_of_getElem? hx))
    have htl := tpV_len hd hp ha k hA.2
    left
    refine ⟨tpV den i.Places m.Tape (k + 1), ?_, ⟨rfl, by omega⟩, rfl⟩
    rw [tpV_succ hx]
    by_cases h : k = 0
    · subst h
      simp [ref8_face_L1, show (0 : Nat) < m.Tape.length by omega, idx_of hx, hdg, show idx m.Tape 0 = some x from idx_of (k := 0) hx, i64_id]
    · have h' : decide ((k : Int) = 0) = false := decide_eq_false (by omega)
      have c1 : cat [32] (dgV den i.Places x) = some ([32] ++ dgV den i.Places x) := cat_of (by simp; omega)
      have c2 : cat a ([32] ++ dgV den i.Places x) = some (a ++ ([32] ++ dgV den i.Places x)) := cat_of (by rw [hA.1]; simp; omega)
      simp only [ref8_face_L1, hlt, decide_true, if_true, idx_of hx, Option.bind_some, h', Bool.false_eq_true, if_false, hdg, c1, c2, e1, if_neg h, hA.1]
      rw [hA.1] at c2
      have c3 : cat (tpV den i.Places m.Tape k) (32 :: dgV den i.Places x) = some (tpV den i.Places m.Tape k ++ 32 :: dgV den i.Places x) := c2
      simp [c3]
  · rw [hA.1]; simp [ref8_face_L1]
end Go.Vx

namespace Go.Vx
open Go Go.RowKit
theorem inst_facts {i : api_Instrument} (h : instV i = 0) : (1 ≤ i.Kind ∧ i.Kind ≤ 6) ∧ (0 ≤ i.Places ∧ i.Places ≤ 6) ∧ (i.Kind = 2 → DialOK i) := by
  have h0 := h
  unfold instV at h
  split at h
  · cases h
  rename_i hk
  split at h
  · cases h
  split at h
  · cases h
  split at h
  · cases h
  rename_i hp
  refine ⟨wi_iff.1 (by simpa using hk), wi_iff.1 (by simpa using hp), fun h2 => ?_⟩
  exact (need_ok (n := 0) (by unfold needV; rw [if_neg (by omega), if_neg (by omega), if_neg (by decide)])).1
theorem face_t {i : api_Instrument} {m : api_Memo} (hi : instV i = 0) (hm : MemoOK i m) {den : Int} (hd : 1 ≤ den ∧ den ≤ 1000000) {x : api_Sample} {known : Bool} (hx : nb50 x.N = true) (hk : known = false → x.Mark = 0) :
    ∃ fc, panel_face i m den x known = some fc ∧ ref8_face i den m x known = some fc := by
  obtain ⟨⟨k1, k6⟩, hp, hdial⟩ := inst_facts hi
  have hl := memo_tape hm hi
  have hmk : (if known = true then some x.Mark else some 0) = some x.Mark := by
    cases known with
    | false => simp [hk rfl]
    | true => rfl
  have nlit : i.Kind ≠ 3 → i.Kind ≠ 5 → m.Lit = false := fun h3 h5 => by
    cases h : m.Lit with
    | false => rfl
    | true => rcases hm.lit h with e | e
              · exact absurd e h3
              · exact absurd e h5
  obtain ⟨d1, d2, _⟩ := dg_s hd hp hx
  obtain ⟨d3, d4, _⟩ := dg_s hd hp hm.nr
  unfold panel_face ref8_face
  rw [hmk]
  simp only [Option.bind_some, t1_mk]
  have hK : i.Kind = 1 ∨ i.Kind = 2 ∨ i.Kind = 3 ∨ i.Kind = 4 ∨ i.Kind = 5 ∨ i.Kind = 6 := by omega
  rcases hK with e | e | e | e | e | e
  · have := nlit (by omega) (by omega)
    cases known
    · exact ⟨_, by simp [e, this]; rfl, by simp [e]⟩
    · exact ⟨_, by simp [e, this, d1]; rfl, by simp [e, d2]⟩
  · have := nlit (by omega) (by omega)
    have hD := hdial e
    have n1 := pNeedle_s hD (wi_iff.1 hx)
    have n2 : ref8_needle i x.N = some (ndl i x.N) := n1
    obtain ⟨s, z1, z2⟩ := zone_t hD.zones x.N
    cases known
    · exact ⟨_, by simp [e, this]; rfl, by simp [e]⟩
    · exact ⟨_, by simp [e, this, n1, z1]; rfl, by simp [e, n2, z2]⟩
  · cases h : m.Lit
    · cases known
      · exact ⟨_, by simp [e, h]; rfl, by simp [e, h]⟩
      · exact ⟨_, by simp [e, h]; rfl, by simp [e, h]⟩
    · exact ⟨_, by simp [e, h]; rfl, by simp [e, h]⟩
  · have := nlit (by omega) (by omega)
    cases h : m.Some
    · exact ⟨_, by simp [e, this, h]; rfl, by simp [e, h]⟩
    · exact ⟨_, by simp [e, this, h, d3]; rfl, by simp [e, h, d4]⟩
  · obtain ⟨d, hd', _, _⟩ := itoa_t (z := m.Count) hm.cr.1 (by have := hm.cr.2; omega)
    exact ⟨_, by simp [e, hd']; rfl, by simp [e, hd']⟩
  · have := nlit (by omega) (by omega)
    have p1 := pTape_s (m := m) (den := den) hd hp hm.all hl
    have p2 := rTape_s (m := m) (den := den) (mk := x.Mark) hd hp hm.all hl
    have hlen := tpV_len hd hp hm.all m.Tape.length (Nat.le_refl _)
    by_cases h0 : m.Tape.length = 0
    · have ht : m.Tape = [] := List.length_eq_zero_iff.1 h0
      refine ⟨api_Face.mk [45, 45, 45] 0 false x.Mark, ?_, ?_⟩
      · simp [e, p1, ht, this]
      · simp [e, p2, ht, tpV]
    · have hj : sjoin (m.Tape.map (dgV den i.Places)) [32] = some (tpV den i.Places m.Tape m.Tape.length) := by
        have et : tpV den i.Places m.Tape m.Tape.length = Go.Lib.join (m.Tape.map (dgV den i.Places)) [32] := by unfold tpV; rw [if_neg h0, List.take_length]
        unfold sjoin
        rw [if_pos ⟨by simp; omega, by rw [← et]; omega⟩, et]
      have hg : decide ((0 : Int) < (m.Tape.length : Int)) = true := decide_eq_true (by omega)
      refine ⟨api_Face.mk (tpV den i.Places m.Tape m.Tape.length) 0 false x.Mark, ?_, ?_⟩
      · simp only [e, p1, this, Option.bind_some, t1_mk, List.length_map, hg, if_true, hj]
        simp
      · simp [e, p2]
end Go.Vx

namespace Go.Vx
open Go Go.RowKit
noncomputable def fcV (p : api_Panel) (l : List api_Track) (s : api_PanelState) (k : Nat) : api_Face :=
  match p.Instruments[k]?, s.Memos[k]? with
  | some i, some m => match tkT l i.Track with
    | some t => (panel_face i m t.Series.Den (if 0 ≤ s.Frame then (vV t s.Frame).1 else api_Sample.mk 0 0 0) (if 0 ≤ s.Frame then (vV t s.Frame).2 else false)).getD (api_Face.mk [] 0 false 0)
    | none => api_Face.mk [] 0 false 0
  | _, _ => api_Face.mk [] 0 false 0
theorem vV_mark {t : api_Track} {f : Int} (h : (vV t f).2 = false) : (vV t f).1.Mark = 0 := by
  unfold vV at h ⊢
  cases hh : heldAt t.Series.Samples (64 * f + 63) t.Long with
  | none => rfl
  | some x => rw [hh] at h; simp only [outH] at h; cases h
theorem faces_s {p : api_Panel} {l : List api_Track} {s : api_PanelState} (hb : bothV p l = 0) (hs : stateV p s = 0) :
    panel_faces p l s = some ((List.range p.Instruments.length).map (fcV p l s)) ∧ ref8_faces p l s = some ((List.range p.Instruments.length).map (fcV p l s)) := by
  obtain ⟨b1, b2, b3⟩ := bothV_ok hb
  obtain ⟨s1, s2, s3⟩ := state_ok.1 hs
  have hp := panV_len b1
  have hl := ckT_len b2
  have step : ∀ (k : Nat) i, p.Instruments[k]? = some i → ∃ (j : Nat) (t : api_Track) (m : api_Memo) (x : api_Sample) (known : Bool),
      panel_trackOf l i = some (j : Int) ∧ ref8_track l i.Track = some (t, true) ∧ l[j]? = some t ∧ s.Memos[k]? = some m ∧
      (if decide (0 ≤ s.Frame) = true then (panel_value t s.Frame).bind fun y2 => some (y2.1, y2.2) else some (api_Sample.mk 0 0 0, false)) = some (x, known) ∧
      (if decide (0 ≤ s.Frame) = true then (ref8_valueAt t s.Frame).bind fun y2 => some (y2.1, y2.2) else some (api_Sample.mk 0 0 0, false)) = some (x, known) ∧
      panel_face i m t.Series.Den x known = some (fcV p l s k) ∧ ref8_face i t.Series.Den m x known = some (fcV p l s k) := fun k i hi => by
    have him := List.mem_of_getElem? hi
    obtain ⟨j, t, t1', t2', t3'⟩ := b3 i him
    obtain ⟨m, hm⟩ := get_ex (xs := s.Memos) (k := k) (by have := (List.getElem?_eq_some_iff.1 hi).1; omega)
    have hmo := s3 k i m hi hm
    have hin := panV_inst b1 him
    obtain ⟨c1, c2⟩ := ckT_ok b2 (List.mem_of_getElem? t3')
    have hden := (ser_ok c1).den
    have a1 : panel_trackOf l i = some (j : Int) := by rw [trackOf_s hl, t1']; rfl
    have a2 : ref8_track l i.Track = some (t, true) := by rw [track8_s hl, t2']; rfl
    by_cases hf : 0 ≤ s.Frame
    · obtain ⟨v1, v2⟩ := val_s c1 c2 (frame := s.Frame) hf (by omega)
      obtain ⟨fc, f1, f2⟩ := face_t hin hmo hden (x := (vV t s.Frame).1) (known := (vV t s.Frame).2) (vV_num c1 _) vV_mark
      have e : fcV p l s k = fc := by unfold fcV; rw [hi, hm]; simp only; rw [t2']; simp only [if_pos hf, f1, Option.getD_some]
      exact ⟨j, t, m, _, _, a1, a2, t3', hm, by rw [if_pos (decide_eq_true hf), v1]; rfl, by rw [if_pos (decide_eq_true hf), v2]; rfl, by rw [e]; exact f1, by rw [e]; exact f2⟩
    · obtain ⟨fc, f1, f2⟩ := face_t hin hmo hden (x := api_Sample.mk 0 0 0) (known := false) (by decide) (fun _ => rfl)
      have e : fcV p l s k = fc := by unfold fcV; rw [hi, hm]; simp only; rw [t2']; simp only [if_neg hf, f1, Option.getD_some]
      exact ⟨j, t, m, _, _, a1, a2, t3', hm, by rw [if_neg (by simpa using hf)], by rw [if_neg (by simpa using hf)], by rw [e]; exact f1, by rw [e]; exact f2⟩
  constructor
  · have h : loop (t2 (panel_faces_L1 p l s)) ([], 0) = some ((List.range p.Instruments.length).map (fcV p l s)) := by
      refine loop_ix2 (xs := p.Instruments) (body := panel_faces_L1 p l s) (fun a k => a = (List.range k).map (fcV p l s)) (fun _ _ => (List.range p.Instruments.length).map (fcV p l s)) (fun a k i ha hi => ?_) (fun a ha => ?_) (by simp)
      · have hlt := lt_of hi
        obtain ⟨j, t, m, x, known, a1, a2, a3, a4, a5, a6, a7, a8⟩ := step k i hi
        have e1 : i64 ((k : Int) + 1) = (k : Int) + 1 := i64_id (by omega) (by omega)
        have hal : a.length = k := by rw [ha]; simp
        left
        refine ⟨a ++ [fcV p l s k], ?_, ?_, rfl⟩
        · simp only [panel_faces_L1, hlt, decide_true, if_true, idx_of hi, Option.bind_some, a1, idx_of a3, a5, t2_mk, idx_of a4, a7, app_of (show a.length + [fcV p l s k].length ≤ 4294967296 by simp; omega), e1]
        · rw [ha, List.range_succ, List.map_append]; rfl
      · rw [ha]; simp [panel_faces_L1]
    unfold panel_faces
    rw [h]; rfl
  · have h : loop (t2 (ref8_faces_L1 p l s)) ([], 0) = some ((List.range p.Instruments.length).map (fcV p l s)) := by
      refine loop_ix2 (xs := p.Instruments) (body := ref8_faces_L1 p l s) (fun a k => a = (List.range k).map (fcV p l s)) (fun _ _ => (List.range p.Instruments.length).map (fcV p l s)) (fun a k i ha hi => ?_) (fun a ha => ?_) (by simp)
      · have hlt := lt_of hi
        obtain ⟨j, t, m, x, known, a1, a2, a3, a4, a5, a6, a7, a8⟩ := step k i hi
        have e1 : i64 ((k : Int) + 1) = (k : Int) + 1 := i64_id (by omega) (by omega)
        have hal : a.length = k := by rw [ha]; simp
        left
        refine ⟨a ++ [fcV p l s k], ?_, ?_, rfl⟩
        · simp only [ref8_faces_L1, hlt, decide_true, if_true, idx_of hi, Option.bind_some, a2, a6, t2_mk, idx_of a4, a8, app_of (show a.length + [fcV p l s k].length ≤ 4294967296 by simp; omega), e1]
        · rw [ha, List.range_succ, List.map_append]; rfl
      · rw [ha]; simp [ref8_faces_L1]
    unfold ref8_faces
    rw [h]; rfl
end Go.Vx

namespace Go.Vx
open Go Go.RowKit
def advS (p : api_Panel) (l : List api_Track) (s : api_PanelState) : api_PanelState := api_PanelState.mk (s.Frame + 1) ((List.range p.Instruments.length).map (nxt p l s))
structure Inv (p : api_Panel) (s : api_PanelState) (n : Nat) : Prop where
  fr : s.Frame = (n : Int) - 1
  ok : stateV p s = 0
  cnt : ∀ m ∈ s.Memos, m.Count ≤ (n : Int)
theorem advM_cnt {i : api_Instrument} {m : api_Memo} (n : Int) (known : Bool) (h : 0 ≤ m.Count ∧ m.Count ≤ 20000) : (advM i m n known).Count ≤ m.Count + 1 := by
  have e : i64 (m.Count + 1) = m.Count + 1 := i64_id (by omega) (by omega)
  unfold advM
  split
  · simp only; omega
  · split
    · split
      · simp only [e]; omega
      · simp only; omega
    · split
      · simp only; omega
      · split
        · simp only; omega
        · omega
theorem nxt_s {p : api_Panel} {l : List api_Track} {s : api_PanelState} (hb : bothV p l = 0) (hs : stateV p s = 0) {k : Nat} {i : api_Instrument} (hi : p.Instruments[k]? = some i) :
    ∃ m t, s.Memos[k]? = some m ∧ (chk t.Series).2 = 0 ∧ MemoOK i m ∧ instV i = 0 ∧ nxt p l s k = advM i m (vV t (s.Frame + 1)).1.N (vV t (s.Frame + 1)).2 := by
  obtain ⟨b1, b2, b3⟩ := bothV_ok hb
  obtain ⟨s1, s2, s3⟩ := state_ok.1 hs
  have him := List.mem_of_getElem? hi
  obtain ⟨j, t, t1', t2', t3'⟩ := b3 i him
  obtain ⟨m, hm⟩ := get_ex (xs := s.Memos) (k := k) (by have := (List.getElem?_eq_some_iff.1 hi).1; omega)
  exact ⟨m, t, hm, (ckT_ok b2 (List.mem_of_getElem? t3')).1, s3 k i m hi hm, panV_inst b1 him, by unfold nxt; rw [hi, hm]; simp only; rw [t2']⟩
theorem adv_inv {p : api_Panel} {l : List api_Track} {s : api_PanelState} {n : Nat} (hb : bothV p l = 0) (h : Inv p s n) (hn : n ≤ 19999) : Inv p (advS p l s) (n + 1) := by
  have hf := h.fr
  refine ⟨by simp only [advS, hf]; omega, ?_, ?_⟩
  · refine state_ok.2 ⟨⟨by simp only [advS, hf]; omega, by simp only [advS, hf]; omega⟩, by simp [advS], fun k i m' hi hm' => ?_⟩
    obtain ⟨m, t, hm, hc, hmo, hin, e⟩ := nxt_s hb h.ok hi
    have hk := (List.getElem?_eq_some_iff.1 hi).1
    have : m' = nxt p l s k := by
      simp only [advS, List.getElem?_map, List.getElem?_range hk, Option.map_some, Option.some.injEq] at hm'
      exact hm'.symm
    rw [this, e]
    have := h.cnt m (List.mem_of_getElem? hm)
    exact adv_ok hmo (inst_size hin).1 (vV_num hc _) _ (by omega)
  · intro m' hm'
    simp only [advS, List.mem_map, List.mem_range] at hm'
    obtain ⟨k, hk, rfl⟩ := hm'
    obtain ⟨i, hi⟩ := get_ex (xs := p.Instruments) (k := k) hk
    obtain ⟨m, t, hm, hc, hmo, hin, e⟩ := nxt_s hb h.ok hi
    rw [e]
    have h1 := h.cnt m (List.mem_of_getElem? hm)
    have h2 := advM_cnt (i := i) (m := m) (vV t (s.Frame + 1)).1.N (vV t (s.Frame + 1)).2 hmo.cr
    omega
theorem L3_t (n : Int) (y5 y6 : api_PanelState) (f g : List api_Face) (hl : f.length = g.length) (h1 : f.length ≤ 100) :
    ∃ r, loop (t1 (panel_Differ_L3 n y5 y6 f g)) 0 = some r ∧ loop (t1 (ref8_Differ_L3 n y5 y6 f g)) 0 = some r ∧ ((∃ v, r = Sum.inl v) ∨ r = Sum.inr (y5, y6)) := by
  have e : ref8_Differ_L3 n y5 y6 f g = panel_Differ_L3 n y5 y6 f g := rfl
  have h : loop (t1 (panel_Differ_L3 n y5 y6 f g)) 0 = some (elimO Sum.inl (Sum.inr (y5, y6)) (findI (fun (k : Nat) (x2 : api_Face) => match g[k]? with
      | some x3 => if (!(decide (x2.Text = x3.Text) && (decide (x2.Needle = x3.Needle) && ((x2.Lit == x3.Lit) && (decide (x2.Mark = x3.Mark) && true))))) = true then some (n, (k : Int), true, (0 : Int)) else none
      | none => none) 0 f)) := by
    refine loop_findI (xs := f) (body := panel_Differ_L3 n y5 y6 f g) _ _ _ (fun k x hx => ?_) (by simp [panel_Differ_L3])
    have hlt := lt_of hx
    have e1 : i64 ((k : Int) + 1) = (k : Int) + 1 := i64_id (by omega) (by omega)
    obtain ⟨x3, hx3⟩ := get_ex (xs := g) (k := k) (by omega)
    simp only [panel_Differ_L3, hlt, decide_true, if_true, idx_of hx, idx_of hx3, Option.bind_some, e1, hx3]
    generalize (!(decide (x.Text = x3.Text) && (decide (x.Needle = x3.Needle) && ((x.Lit == x3.Lit) && (decide (x.Mark = x3.Mark) && true))))) = b
    cases b <;> rfl
  refine ⟨_, h, by rw [e]; exact h, ?_⟩
  cases findI (fun (k : Nat) (x2 : api_Face) => match g[k]? with
      | some x3 => if (!(decide (x2.Text = x3.Text) && (decide (x2.Needle = x3.Needle) && ((x2.Lit == x3.Lit) && (decide (x2.Mark = x3.Mark) && true))))) = true then some (n, (k : Int), true, (0 : Int)) else none
      | none => none) 0 f with
  | none => exact .inr rfl
  | some v => exact .inl ⟨v, rfl⟩
theorem L2_t {p : api_Panel} {a b : List api_Track} (ha : bothV p a = 0) (hb : bothV p b = 0) {to : Nat} (hto : to ≤ 19999) : ∀ (d n : Nat) (s t : api_PanelState), n + d = to + 1 → Inv p s n → Inv p t n →
    ∃ r, loop (t3 (panel_Differ_L2 p a b to)) (s, t, (n : Int)) = some r ∧ loop (t3 (ref8_Differ_L2 p a b to)) (s, t, (n : Int)) = some r
  | 0, n, s, t, hn, _, _ => by
    have e0 : i64 ((to : Int) + 1) = (to : Int) + 1 := i64_id (by omega) (by omega)
    obtain rfl : n = to + 1 := by omega
    refine ⟨Sum.inr (), ?_, ?_⟩
    · rw [loop_eq]
      have : decide (((to + 1 : Nat) : Int) < (to : Int) + 1) = false := decide_eq_false (by omega)
      simp only [t3_mk, panel_Differ_L2, e0, this, Bool.false_eq_true, if_false, Option.bind_some, Sum.elim_inr]
    · rw [loop_eq]
      have : decide (((to + 1 : Nat) : Int) ≤ (to : Int)) = false := decide_eq_false (by omega)
      simp only [t3_mk, ref8_Differ_L2, this, Bool.false_eq_true, if_false, Option.bind_some, Sum.elim_inr]
  | d + 1, n, s, t, hn, hs, ht => by
    have e0 : i64 ((to : Int) + 1) = (to : Int) + 1 := i64_id (by omega) (by omega)
    have e1 : i64 ((n : Int) + 1) = ((n + 1 : Nat) : Int) := by rw [show ((n + 1 : Nat) : Int) = (n : Int) + 1 by omega]; exact i64_id (by omega) (by omega)
    have hsf := hs.fr
    have htf := ht.fr
    have is := adv_inv ha hs (by omega)
    have it := adv_inv hb ht (by omega)
    have A1 := advance_s ha hs.ok (by omega)
    have A2 := advance_s hb ht.ok (by omega)
    have R1 := rAdvance_s ha hs.ok (by omega)
    have R2 := rAdvance_s hb ht.ok (by omega)
    obtain ⟨F1, G1⟩ := faces_s ha is.ok
    obtain ⟨F2, G2⟩ := faces_s hb it.ok
    have hp := panV_len (bothV_ok ha).1
    obtain ⟨r, l1, l2, hr⟩ := L3_t (n : Int) (advS p a s) (advS p b t) ((List.range p.Instruments.length).map (fcV p a (advS p a s))) ((List.range p.Instruments.length).map (fcV p b (advS p b t))) (by simp) (by simp; omega)
    obtain ⟨q, q1, q2⟩ := L2_t ha hb hto d (n + 1) (advS p a s) (advS p b t) (by omega) is it
    have c1 : decide ((n : Int) < (to : Int) + 1) = true := decide_eq_true (by omega)
    have c2 : decide ((n : Int) ≤ (to : Int)) = true := decide_eq_true (by omega)
    have A1' : panel_advance p a s = some (advS p a s) := A1
    have A2' : panel_advance p b t = some (advS p b t) := A2
    have R1' : ref8_advance p a s = some (advS p a s) := R1
    have R2' : ref8_advance p b t = some (advS p b t) := R2
    rcases hr with ⟨v, rfl⟩ | rfl
    · refine ⟨Sum.inl v, ?_, ?_⟩
      · rw [loop_eq]
        simp only [t3_mk, panel_Differ_L2, e0, c1, if_true, A1', A2', F1, F2, l1, Option.bind_some, Sum.elim_inl, Sum.elim_inr]
      · rw [loop_eq]
        simp only [t3_mk, ref8_Differ_L2, c2, if_true, R1', R2', G1, G2, l2, Option.bind_some, Sum.elim_inl, Sum.elim_inr]
    · refine ⟨q, ?_, ?_⟩
      · rw [loop_eq]
        simp only [t3_mk, panel_Differ_L2, e0, c1, if_true, A1', A2', F1, F2, l1, Option.bind_some, Sum.elim_inl, Sum.elim_inr, t2_mk, e1]
        exact q1
      · rw [loop_eq]
        simp only [t3_mk, ref8_Differ_L2, c2, if_true, R1', R2', G1, G2, l2, Option.bind_some, Sum.elim_inl, Sum.elim_inr, t2_mk, e1]
        exact q2
end Go.Vx

namespace Go.Vx
open Go Go.RowKit
def dfE (p : api_Panel) (a b : List api_Track) : Option Int := findI (fun _ x => if bothV p x ≠ 0 then some (bothV p x) else none) 0 [a, b]
theorem dfE_none {p : api_Panel} {a b : List api_Track} (h : dfE p a b = none) : bothV p a = 0 ∧ bothV p b = 0 := by
  unfold dfE at h
  simp only [findI] at h
  by_cases h1 : bothV p a = 0
  · by_cases h2 : bothV p b = 0
    · exact ⟨h1, h2⟩
    · simp [h1, h2] at h
  · simp [h1] at h
theorem pD1_s (p : api_Panel) (a b : List api_Track) : loop (t1 (panel_Differ_L1 p a b)) 0 = some (elimO (fun e => Sum.inl (0, 0, false, e)) (Sum.inr ()) (dfE p a b)) := by
  refine loop_findI (xs := [a, b]) (body := panel_Differ_L1 p a b) _ _ _ (fun k x hx => ?_) (by simp [panel_Differ_L1])
  have hlt := lt_of hx
  have e1 : i64 ((k : Int) + 1) = (k : Int) + 1 := i64K (n := 2) (by simp only [List.length_cons, List.length_nil] at hlt; omega) (by omega)
  simp only [panel_Differ_L1, hlt, decide_true, if_true, idx_of hx, Option.bind_some, e1, pBoth_s]
  by_cases h : bothV p x = 0 <;> simp [h]
theorem rD1_s (p : api_Panel) (a b : List api_Track) (hw : ∀ x ∈ p.Instruments, wfIns x) (ha : ∀ x ∈ a, wfS x.Name) (hb : ∀ x ∈ b, wfS x.Name) : loop (t1 (ref8_Differ_L1 p a b)) 0 = some (elimO (fun e => Sum.inl (0, 0, false, e)) (Sum.inr ()) (dfE p a b)) := by
  refine loop_findI (xs := [a, b]) (body := ref8_Differ_L1 p a b) _ _ _ (fun k x hx => ?_) (by simp [ref8_Differ_L1])
  have hlt := lt_of hx
  have e1 : i64 ((k : Int) + 1) = (k : Int) + 1 := i64K (n := 2) (by simp only [List.length_cons, List.length_nil] at hlt; omega) (by omega)
  have hs : ∀ y ∈ x, wfS y.Name := by
    have := List.mem_of_getElem? hx
    simp only [List.mem_cons, List.not_mem_nil, or_false] at this
    rcases this with rfl | rfl
    · exact ha
    · exact hb
  simp only [ref8_Differ_L1, hlt, decide_true, if_true, idx_of hx, Option.bind_some, e1, rBoth_s p x hw hs]
  by_cases h : bothV p x = 0 <;> simp [h]
def st0 (p : api_Panel) : api_PanelState := api_PanelState.mk (-1) (List.replicate p.Instruments.length (api_Memo.mk false false 0 0 []))
theorem st0_inv {p : api_Panel} (h : panV p = 0) : Inv p (st0 p) 0 := by
  refine ⟨rfl, state_ok.2 ⟨⟨by simp [st0], by simp [st0]⟩, by simp [st0], fun k i m hi hm => ?_⟩, fun m hm => ?_⟩
  · have hm' : m = api_Memo.mk false false 0 0 [] := (List.mem_replicate.1 (List.mem_of_getElem? hm)).2
    have hin := panV_inst h (List.mem_of_getElem? hi)
    have hsz : 0 ≤ i.Size := by
      have h0 := hin
      unfold instV at h0
      split at h0
      · cases h0
      split at h0
      · cases h0
      split at h0
      · cases h0
      rename_i hu
      by_cases h6 : i.Kind = 6
      · have := (inst_size hin).1 h6; omega
      · have hu : unV i = false := by simpa using hu
        unfold unV at hu
        simp only [Bool.or_eq_false_iff] at hu
        have h1 := hu.2
        simp only [h6, decide_false, Bool.not_false, Bool.and_true, Bool.not_eq_false', decide_eq_true_eq] at h1
        omega
    subst hm'
    refine ⟨?_, ?_, ?_, ?_, ?_, ⟨by simp, by simp⟩, by decide, by simpa using hsz, ?_⟩
    · intro h; cases h
    · intro h; cases h
    · intro h; exact absurd rfl h
    · intro h; exact absurd rfl h
    · intro h; simp at h
    · intro z hz; cases hz
  · have hm' : m = api_Memo.mk false false 0 0 [] := (List.mem_replicate.1 hm).2
    subst hm'; simp
theorem law_PDiffer (p : api_Panel) (a b : List api_Track) (to : Int) (hp : wf_api_Panel p) (hwa : wfL wf_api_Track a) (hwb : wfL wf_api_Track b) : law8_PanelDifferMatchesSpec p a b to = some true := by
  have hi : ∀ x ∈ p.Instruments, wfIns x := fun x hx => by
    have := hp.1.2 x hx
    exact ⟨this.2.1, fun z hz => (this.2.2.2.2.2.2.2.1.2 z hz).2.2.1⟩
  have key : ∃ r, panel_Differ p a b to = some r ∧ ref8_Differ p a b to = some r := by
    unfold panel_Differ ref8_Differ
    rw [pD1_s, rD1_s p a b hi (fun x hx => (hwa.2 x hx).1) (fun x hx => (hwb.2 x hx).1)]
    cases hd : dfE p a b with
    | some e => exact ⟨(0, 0, false, e), rfl, rfl⟩
    | none =>
      obtain ⟨h1, h2⟩ := dfE_none hd
      have hv := (bothV_ok h1).1
      have hlen := panV_len hv
      have w1 : panel_within to 0 19999 = some (wi to 0 19999) := rfl
      have w2 : ref8_outside to 0 19999 = some (!wi to 0 19999) := outside_s _ _ _
      simp only [elimO_none, Option.bind_some, Sum.elim_inr, t0_mk, w1, w2]
      cases hw : wi to 0 19999 with
      | false => exact ⟨(0, 0, false, 9), by simp, by simp⟩
      | true =>
        obtain ⟨t1, t2⟩ := wi_iff.1 hw
        obtain ⟨tn, rfl⟩ := Int.eq_ofNat_of_zero_le t1
        have hf : panel_first p = some (st0 p) := by unfold panel_first; rw [mks_of (by omega)]; rfl
        have hr : ref8_First p = some (st0 p, 0) := by rw [rFirst_s p hi]; unfold firstV; rw [if_neg (by simp [hv])]; rfl
        obtain ⟨q, q1, q2⟩ := L2_t h1 h2 (to := tn) (by omega) (tn + 1) 0 (st0 p) (st0 p) (by omega) (st0_inv hv) (st0_inv hv)
        have q1' : loop (t3 (panel_Differ_L2 p a b tn)) (st0 p, st0 p, 0) = some q := q1
        have q2' : loop (t3 (ref8_Differ_L2 p a b tn)) (st0 p, st0 p, 0) = some q := q2
        cases q with
        | inl v => exact ⟨v, by simp [hf, q1'], by simp [hr, q2']⟩
        | inr u =>
          cases u
          exact ⟨(0, 0, false, 0), by simp [hf, q1'], by simp [hr, q2']⟩
  obtain ⟨r, h1, h2⟩ := key
  simp [law8_PanelDifferMatchesSpec, h1, h2, shown_s]
end Go.Vx
