/- A text of the proof: a verified executor of the program form, or the contracts of the functions that the law reaches. -/
import Derived.Test.YtnlmjeleocelgaaGreatDoorVC
import Derived.SizedLaws
set_option linter.all false
namespace Go.Vx
open Go Go.RowKit Go.ChangeShapes Go.WideShapes
inductive Szd (P : Program) : AV → Prop
  | int (k : IntKind) (n : Int) : Szd P (.int k n)
  | bool (b : Bool) : Szd P (.bool b)
  | str (s : List UInt8) : Szd P (.str s)
  | sl {e : TypeId} {l : List (List AV)} : l.length * P.bytesOf e ≤ reachBytes → (∀ row ∈ l, ∀ av ∈ row, Szd P av) → Szd P (.sl e l)
def SzL (P : Program) (l : List AV) : Prop := ∀ av ∈ l, Szd P av
theorem SzL.app {P : Program} {l m : List AV} (h : SzL P l) (h2 : SzL P m) : SzL P (l ++ m) := fun a ha => (List.mem_append.1 ha).elim (h a) (h2 a)
section
variable {H : Type} {enc : TypeId × Value → H} {P : Program} {w : World} {base : Nat} {spare : Nat → Bool} {held : Bool}
def Zn8 (P : Program) (t : TypeId) (d : DataW H) : Prop := ∀ n ∈ d.weights P t, n ≤ reachBytes
theorem ZlP {e : TypeId} {n : Nat} {d : DataW H} : ∀ {l : List (DataW H)}, d ∈ l → n ∈ d.weights P e → n ∈ DataW.weightsAll P e l
  | [], h, _ => by cases h
  | x :: l, h, hn => by
    simp only [DataW.weightsAll, List.mem_append]
    rcases List.mem_cons.1 h with rfl | h
    · exact .inl hn
    · exact .inr (ZlP h hn)
theorem Zot {t e : TypeId} {n : Nat} {d : DataW H} {l r : List (DataW H)} (hu : P.underlying t = some (.slice e)) (h : d ∈ l) (hn : n ∈ d.weights P e) : n ∈ (DataW.slice l r : DataW H).weights P t := by
  simp only [DataW.weights, hu, List.mem_cons, List.mem_append]
  exact .inr (.inl (ZlP h hn))
def Zl1 (P : Program) (w : World) (ss : List Sh) (cs : List Value) : Prop := cs.length = ss.length ∧ ∃ l, (Zax ss l ∧ SzL P l) ∧ ∀ j, j < ss.length → RelD P w No (l.getD j .any) (cs.getD j undef)
theorem ZdI {s : Sh} {av : AV} {v : Value} (h : Fits s av) (hr : RelD P w No av v) (hz : Szd P av) : Zl1 P w [s] [v] := ⟨rfl, [av], ⟨ZjZ h, fun a ha => by rw [List.mem_singleton.1 ha]; exact hz⟩, fun j hj => by simp at hj; subst hj; exact hr⟩
theorem Zg0 {g : TypeId → Option (List Sh)} {m : Nat} {cs : List Value} (hg : ∀ t ss cs' y, g t = some ss → DataW.trod enc P w base spare held m t cs' = some y → Zn8 P t y.1 → Zl1 P w ss cs') :
    ∀ (fl : List Field) (off : Nat) (ss : List Sh), ZkO P g off fl = some ss → (∀ f ∈ fl, ∃ y, DataW.trod enc P w base spare held m f.type ((cs.drop f.offset).take (P.cellsOf f.type)) = some y ∧ Zn8 P f.type y.1) →
      ∃ l, (Zax ss l ∧ SzL P l) ∧ ∀ j, j < ss.length → RelD P w No (l.getD j .any) (cs.getD (off + j) undef)
  | [], off, ss, h, _ => by
    simp only [ZkO] at h; cases h
    exact ⟨[], ⟨⟨rfl, fun j hj => by cases hj⟩, fun a ha => by cases ha⟩, fun j hj => by cases hj⟩
  | f :: tl, off, ss, h, hf => by
    simp only [ZkO] at h
    split at h
    · rename_i s1 hs1
      split at h
      · rename_i hc
        simp only [Bool.and_eq_true] at hc
        obtain ⟨hc1, hc2⟩ := hc
        have hc1 := Nat.eq_of_beq_eq_true hc1
        have hc2 := Nat.eq_of_beq_eq_true hc2
        split at h
        · rename_i r hr
          cases h
          obtain ⟨y, hy, hyw⟩ := hf f (by simp)
          obtain ⟨hlen, l1, ⟨hl1, hz1⟩, hr1⟩ := hg _ _ _ _ hs1 hy hyw
          obtain ⟨l2, ⟨hl2, hz2⟩, hr2⟩ := Zg0 hg tl (off + s1.length) r hr (fun f' hf' => hf f' (by simp [hf']))
          refine ⟨l1 ++ l2, ⟨⟨by simp [hl1.1, hl2.1], fun j hj => ?_⟩, hz1.app hz2⟩, fun j hj => ?_⟩
          · by_cases hj1 : j < s1.length
            · have := hl1.2 j hj1
              simpa [List.getD_eq_getElem?_getD, List.getElem?_append, hj1, hl1.1] using this
            · have := hl2.2 (j - s1.length) (by simp at hj; omega)
              simpa [List.getD_eq_getElem?_getD, List.getElem?_append, hj1, hl1.1] using this
          · by_cases hj1 : j < s1.length
            · have := hr1 j hj1
              rw [hc1, hc2] at this
              simpa [List.getD_eq_getElem?_getD, List.getElem?_append, hj1, hl1.1, List.getElem?_take, List.getElem?_drop] using this
            · have := hr2 (j - s1.length) (by simp at hj; omega)
              rw [show off + s1.length + (j - s1.length) = off + j by omega] at this
              simpa [List.getD_eq_getElem?_getD, List.getElem?_append, hj1, hl1.1] using this
        · cases h
      · cases h
    · cases h

theorem Zii {es : List Sh} {cs : List Value} : ∀ (k : Nat), (∀ i, i < k → Zl1 P w es ((cs.drop (i * es.length)).take es.length)) →
    ∃ l, (Zax (List.replicate k es).flatten l ∧ SzL P l) ∧ ∀ j, j < (List.replicate k es).flatten.length → RelD P w No (l.getD j .any) (cs.getD j undef)
  | 0, _ => ⟨[], ⟨⟨rfl, fun j hj => by cases hj⟩, fun a ha => by cases ha⟩, fun j hj => by cases hj⟩
  | k + 1, h => by
    obtain ⟨l1, ⟨hl1, hz1⟩, hr1⟩ := Zii k (fun i hi => h i (by omega))
    obtain ⟨hlen, l2, ⟨hl2, hz2⟩, hr2⟩ := h k (by omega)
    have hfl : (List.replicate k es).flatten.length = k * es.length := by simp
    have hll : l1.length = k * es.length := by rw [hl1.1, hfl]
    have e : (List.replicate (k + 1) es).flatten = (List.replicate k es).flatten ++ es := by rw [List.replicate_succ']; simp
    rw [e]
    refine ⟨l1 ++ l2, ⟨⟨by simp [hl1.1, hl2.1], fun j hj => ?_⟩, hz1.app hz2⟩, fun j hj => ?_⟩
    · by_cases hj1 : j < k * es.length
      · have := hl1.2 j (by omega)
        simpa [List.getD_eq_getElem?_getD, List.getElem?_append, hj1, hll, hfl] using this
      · have := hl2.2 (j - k * es.length) (by simp at hj; omega)
        simpa [List.getD_eq_getElem?_getD, List.getElem?_append, hj1, hll, hfl] using this
    · by_cases hj1 : j < k * es.length
      · have := hr1 j (by omega)
        simpa [List.getD_eq_getElem?_getD, List.getElem?_append, hj1, hll, hfl] using this
      · have hj2 : j - k * es.length < es.length := by simp at hj; omega
        have := hr2 (j - k * es.length) hj2
        simp only [List.getD_eq_getElem?_getD, List.getElem?_take, List.getElem?_drop, if_pos hj2] at this
        rw [show k * es.length + (j - k * es.length) = j by omega] at this
        simpa [List.getD_eq_getElem?_getD, List.getElem?_append, hj1, hll] using this

theorem ZeX : ∀ (n : Nat) (t : TypeId) (ss : List Sh) (fuel : Nat) (cs : List Value) (x : DataW H × List MemPlace), Ziu P n t = some ss → DataW.trod enc P w base spare held fuel t cs = some x → Zn8 P t x.1 → Zl1 P w ss cs
  | 0, _, _, _, _, _, h, _, _ => by cases h
  | n + 1, t, ss, fuel, cs, x, h, hx, hw0 => by
    simp only [Ziu] at h
    split at h
    · rename_i k hu
      cases h
      obtain ⟨z, rfl, _, hw⟩ := DataW.trod_int hu hx
      exact ZdI (.int hw) (.int _ _) (.int _ _)
    · rename_i hu
      cases h
      obtain ⟨b, rfl, _⟩ := DataW.trod_bool hu hx
      exact ZdI (.bool b) (.bool _) (.bool _)
    · rename_i hu
      cases h
      obtain ⟨s, rfl, _, hs⟩ := DataW.trod_string hu hx
      refine ZdI (av := .str s.data.toList) (.str (by simpa using hs)) ?_ (.str _)
      have : s = ⟨s.data.toList.toArray⟩ := by simp
      exact this ▸ .str s.data.toList
    · rename_i e hu
      split at h
      · rename_i fs hfs
        split at h
        · rename_i hc
          simp only [Bool.and_eq_true] at hc
          have hc1 := Nat.eq_of_beq_eq_true hc.1
          have hc2 : 0 < fs.length := by simpa using hc.2
          cases h
          rcases Go.Deep.open_slice hu hx with ⟨rfl, _⟩ | ⟨a, len, cap, m, q, D, Pl, rfl, _, hl, hm, hmm, hxe, hi⟩
          · exact ZdI (av := .sl e []) (.sl (by simp) (fun row hr => by cases hr) fun i j hi => by cases hi) (.sl0 _ _ _) (.sl (by simp) fun row hr => by cases hr)
          · have hle : len ≤ m := by rw [hmm]; split <;> omega
            have key : ∀ i, i < len → ∃ p : List Value × List AV, p.1.length = fs.length ∧ (∀ j, j < fs.length → w.cell? (a.add (i * P.cellsOf e + j)) = some (p.1.getD j undef)) ∧ (Zax fs p.2 ∧ SzL P p.2) ∧ ∀ j, j < fs.length → RelD P w No (p.2.getD j .any) (p.1.getD j undef) := by
              intro i hil
              obtain ⟨cs', h1, h2⟩ := hi i (by omega)
              obtain ⟨g1, l, g2, g3⟩ := ZeX n e fs q cs' _ hfs h2 (fun z hz => hw0 z (by rw [hxe]; exact Zot hu (List.mem_map.2 ⟨i, List.mem_range.2 hil, rfl⟩) hz))
              obtain ⟨_, _, hat⟩ := World.cells?_some h1
              refine ⟨(cs', l), g1, fun j hj => ?_, g2, g3⟩
              have := hat j (by omega)
              rw [Go.Deep.add_add] at this
              show w.cell? (a.add (i * P.cellsOf e + j)) = some (cs'.getD j undef)
              rw [this, List.getElem?_eq_getElem (by omega), List.getD_eq_getElem?_getD, List.getElem?_eq_getElem (by omega)]; rfl
            obtain ⟨F, hF⟩ := Go.Deep.choose_lt (α := List Value × List AV) key
            by_cases hlen0 : len = 0
            · subst hlen0
              exact ZdI (av := .sl e []) (.sl (by simp) (fun row hr => by cases hr) fun i j hi => by cases hi) (.sl0 _ _ _) (.sl (by simp) fun row hr => by cases hr)
            · have hcell0 := (hF 0 (by omega)).2.1 0 hc2
              obtain ⟨b, off, spot⟩ := a
              have hspot : spot = none := World.cell?_spot (a := (Addr.mk b off spot).add (0 * P.cellsOf e + 0)) hcell0 |> fun h => by simpa [Addr.add] using h
              subst hspot
              have hblt := World.block_lt_of_cell? w _ hcell0
              have hL : ((List.range len).map fun i => (F i).2).length = len := by simp
              have hca : ∀ i j, i < len → cellAt ((List.range len).map fun i => (F i).2) i j = (F i).2.getD j .any := fun i j hi' => by
                simp [cellAt, List.getD_eq_getElem?_getD, hi']
              have hrows : ∀ row ∈ (List.range len).map fun i => (F i).2, row.length = fs.length := by
                intro row hr
                obtain ⟨i, hir, rfl⟩ := List.mem_map.1 hr
                exact (hF i (List.mem_range.1 hir)).2.2.1.1.1
              refine ZdI (av := .sl e ((List.range len).map fun i => (F i).2)) (.sl (by rw [hL]; omega) hrows fun i j hi' hj' => ?_) ?_ (.sl ?_ ?_)
              · rw [hL] at hi'
                rw [hca i j hi']
                exact (hF i hi').2.2.1.1.2 j hj'
              · have := RelD.sl (P := P) (w := w) (M := No) e ((List.range len).map fun i => (F i).2) b off cap (fun i j => (F i).1.getD j undef) (by simpa [Addr.add] using hblt) (fun h => h) (by rw [hL]; simp only [maxLen] at hm; omega) (by rw [hL]; omega)
                  (fun row hr => by rw [hrows row hr, hc1]) (fun i j hi' hj' => by
                    rw [hL] at hi'
                    have := (hF i hi').2.1 j (by omega)
                    rw [← this]
                    congr 1
                    simp only [Addr.add]
                    split
                    · rename_i h0; rw [h0]; rfl
                    · rfl) (fun i j hi' hj' => by
                    rw [hL] at hi'
                    rw [hca i j hi']
                    exact (hF i hi').2.2.2 j (by omega))
                rw [hL] at this
                exact this
              · rw [hL]
                have hw1 := hw0 ((((List.range len).map D).length + ((List.range (m - len)).map fun j => D (len + j)).length) * P.bytesOf e) (by rw [hxe]; simp [DataW.weights, hu])
                rw [List.length_map, List.length_range] at hw1
                exact Nat.le_trans (Nat.mul_le_mul_right _ (Nat.le_add_right _ _)) hw1
              · intro row hr
                obtain ⟨i, hir, rfl⟩ := List.mem_map.1 hr
                exact (hF i (List.mem_range.1 hir)).2.2.1.2
        · cases h
      · cases h
    · rename_i fs hu
      split at h
      · rename_i s1 hs1
        split at h
        · rename_i hc
          have hc := Nat.eq_of_beq_eq_true hc
          cases h
          obtain ⟨xs, m, _, hxe, hcl, hxl, hf⟩ := DataW.trod_struct hu hx
          obtain ⟨l, h1, h2⟩ := Zg0 (m := m) (cs := cs) (fun t ss cs' y h h' hw' => ZeX n t ss m cs' y h h' hw') fs.toList 0 _ hs1 (fun f hfm => by
            obtain ⟨i, hi, rfl⟩ := List.getElem_of_mem hfm
            have hi' : i < fs.size := by simpa using hi
            have := hf i fs[i] (by simp [hi'])
            rw [List.getElem?_eq_getElem (by omega)] at this
            refine ⟨xs[i], by simpa using this, fun z hz => hw0 z ?_⟩
            rw [hxe]
            simp only [DataW.weights, hu]
            exact DataW.weights_mem_each (j := i) (t := (fs.toList[i]).type) (d := xs[i].1) (by rw [List.getElem?_map, List.getElem?_eq_getElem hi]; rfl) (by rw [List.getElem?_map, List.getElem?_eq_getElem (by omega)]; rfl) z (by simpa using hz))
          exact ⟨by omega, l, h1, fun j hj => by simpa using h2 j hj⟩
        · cases h
      · cases h
    · rename_i k e hu
      split at h
      · rename_i es hes
        split at h
        · rename_i hc
          simp only [Bool.and_eq_true] at hc
          have hc1 := Nat.eq_of_beq_eq_true hc.1
          have hc2 := Nat.eq_of_beq_eq_true hc.2
          cases h
          obtain ⟨xs, m, _, hxe, hcl, hxl, hi⟩ := DataW.trod_array hu hx
          obtain ⟨l, h1, h2⟩ := Zii (cs := cs) (es := es) k (fun i hik => by
            have h1 := hi i hik
            rw [List.getElem?_eq_getElem (by omega)] at h1
            have := ZeX n e es m _ _ hes h1 (fun z hz => hw0 z (by rw [hxe]; simp only [DataW.weights, hu]; exact ZlP (List.mem_map.2 ⟨xs[i], List.getElem_mem _, rfl⟩) hz))
            rw [← hc2] at this; exact this)
          exact ⟨by rw [hcl, ← hc1]; simp, l, h1, h2⟩
        · cases h
      · cases h
    · cases h


theorem ZnL {t : TypeId} {s : Sh} {v : Value} {d : DataW H} {p : List MemPlace} (n : Nat) (hc : v.cells = #[v])
    (h : DataW.Trod enc P w base spare held t v d p) (hsh : Ziu P n t = some [s]) (hw : Zn8 P t d) : ∃ av, Fits s av ∧ RelD P w No av v ∧ Szd P av := by
  obtain ⟨fuel, hf⟩ := h
  rw [hc] at hf
  obtain ⟨_, l, ⟨h2, hz⟩, h3⟩ := ZeX n t [s] fuel _ _ hsh hf hw
  refine ⟨l.getD 0 .any, h2.2 0 (by simp), by simpa using h3 0 (by simp), hz _ ?_⟩
  have h1 := h2.1
  match l, h1 with
  | [a], _ => simp
theorem Zpx {ts : List TypeId} {ds : List (DataW H)} (h : (DataW.weightsEach P ts ds).all (· ≤ reachBytes) = true) {j : Nat} {t : TypeId} {d : DataW H} (ht : ts[j]? = some t) (hd : ds[j]? = some d) : Zn8 P t d := fun n hn => by
  have := List.all_eq_true.1 h _ (DataW.weights_mem_each ht hd n hn)
  simpa using this
end
theorem ZjY {P : Program} {α : Type} {f : α → List AV} {e : TypeId} {xs : List α} (h : Szd P (.sl e (xs.map f))) (s : Nat) (hs : Nat.beq (P.bytesOf e) s = true) : xs.length * s ≤ 140737488355328 ∧ ∀ x ∈ xs, SzL P (f x) := by
  cases h with
  | sl h1 h2 =>
    rw [List.length_map, Nat.eq_of_beq_eq_true hs] at h1
    have h3 : reachBytes ≤ 140737488355328 := by decide
    exact ⟨by omega, fun x hx => h2 _ (List.mem_map.2 ⟨x, hx, rfl⟩)⟩
end Go.Vx
