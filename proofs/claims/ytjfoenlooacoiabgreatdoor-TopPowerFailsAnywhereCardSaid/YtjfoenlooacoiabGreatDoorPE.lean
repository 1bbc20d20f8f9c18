/- A text of the proof: a verified executor of the program form, or the contracts of the functions that the law reaches. -/
import Derived.Test.YtjfoenlooacoiabGreatDoorPD
set_option linter.all false
namespace Go.Vx
open Go Go.RowKit
set_option maxHeartbeats 1000000
theorem ZjM (l : List api_Memory) (copies : Int) (frames : List (Vector Int 64)) (power : Int) (hw : wfL (wfV (wfI .u16)) frames) : Xe l copies frames power = some true := by
  unfold Xe
  rw [Znj, Option.bind_some, if_neg (by decide)]
  obtain ⟨b, b1, b2⟩ := Zly l 80
  by_cases hlong : (40 : Int) < (frames.length : Int)
  · rw [decide_eq_true hlong]
    exact (show _ = _ by rfl)
  · rw [decide_eq_false hlong, show (false == false) = true from rfl, ZpB, b1, Option.bind_some, Bool.false_or]
    by_cases hcond : (((((!b) || (decide (copies < 1))) || (decide ((l.length : Int) < copies))) || (decide (power < 0))) || (decide (1000000000 < power))) = true
    · rw [if_pos hcond]
    · rw [if_neg hcond]
      have hc0 : b = true ∧ ¬ copies < 1 ∧ ¬ (l.length : Int) < copies ∧ ¬ power < 0 ∧ ¬ 1000000000 < power := by
        simp only [Bool.or_eq_true, Bool.not_eq_true', decide_eq_true_eq, not_or] at hcond
        obtain ⟨⟨⟨⟨h1, h2⟩, h3⟩, h4⟩, h5⟩ := hcond
        exact ⟨by simpa using h1, h2, h3, h4, h5⟩
      obtain ⟨h1, h2, h3, h4, h5⟩ := hc0
      obtain ⟨hl, hB⟩ := b2 h1
      obtain ⟨c, rfl⟩ := Int.eq_ofNat_of_zero_le (show 0 ≤ copies by omega)
      have hc : 1 ≤ c ∧ c ≤ l.length := by omega
      have hlen : frames.length ≤ 40 := by omega
      have hfU : ∀ k, k < frames.length → fU (frames.getD k zF64) := fun k hk => ZpK (hw.2 _ (List.mem_of_getElem? (Qv hk zF64)))
      obtain ⟨z, z1, z2⟩ := Zm1 hfU hlen
      rw [z1, Option.bind_some]
      rcases z2 with rfl | ⟨last, rfl, hlast, hsn⟩
      · rfl
      simp only [Sum.elim_inr, Qx]
      have hF : ∀ k, k < frames.length → fU (frames.getD k zF64) ∧ sndB (frames.getD k zF64) = true := fun k hk => ⟨hfU k hk, (hsn k hk).1⟩
      have hN : ∀ k, k < frames.length → fN (frames.getD k zF64) := fun k hk => (ZfQ (hF k hk).1 (hF k hk).2).1
      have hmemF : ∀ k, k < frames.length → frames.getD k zF64 ∈ frames := fun k hk => List.mem_of_getElem? (Qv hk zF64)
      have hnat : ∀ k, k < frames.length → (numN (frames.getD k zF64)).1 = ((nmF (frames.getD k zF64) : Nat) : Int) := fun k hk => by
        have := (Zgy (hF k hk).1 (hF k hk).2).2.1
        unfold nmF; omega
      -- consecutive numbers
      have hcons : Zid frames → ∀ k, k < frames.length → nmF (frames.getD k zF64) = nmF (frames.getD 0 zF64) + k := fun hC k => by
        induction k with
        | zero => intro _; rfl
        | succ k ih =>
          intro hk
          have a := ih (by omega)
          have b := hC k hk
          rw [hnat (k + 1) hk, hnat k (by omega)] at b
          omega
      generalize hA : nmF (frames.getD 0 zF64) = a at hcons
      have gsN : ∀ k j, k ≤ frames.length → ∀ x ∈ gsJ (fun i => frames.getD i zF64) a c l.length j k, fN x := fun k j hk x hx => by
        obtain ⟨i, hi, rfl⟩ := ZkG _ _ _ _ _ hx
        exact hN i (by omega)
      obtain ⟨K, l2, hK, r1, r2, r3, r4, r5⟩ := Zoc hl hB hc (Fs := frames) hF (by omega)
        (Q := fun k j m s => WkM k m ∧ (∀ mi x, x ∈ keptM m mi → x.Frame ∈ frames) ∧ (Zid frames → PgM (l.getD j dfM) (gsJ (fun i => frames.getD i zF64) a c l.length j k) m s))
        (Qf := fun k j m => WkM (k + 1) m ∧ (∀ mi x, x ∈ keptM m mi → x.Frame ∈ frames) ∧ (Zid frames → Zi4 (gsJ (fun i => frames.getD i zF64) a c l.length j k) m ∧ m.Sectors.length = (l.getD j dfM).Sectors.length ∧ m.Slots = (l.getD j dfM).Slots))
        (fun j hj => by
          have bm := hB _ (JL hj).1
          refine ⟨ZmW bm, fun mi x hx => ?_, fun _ => ZkF bm⟩
          have := ZmO (ZkF bm) bm.ok bm.u8 (fun y hy => by cases hy) hx
          cases this)
        (fun k j m s hk hj ok hq => ZfD hq.1 ok (by omega) s)
        (fun k j m s pw hk hj ok hR hs hq hp => by
          have rd := ZfD hq.1 ok (by omega) s
          have kp : ∀ mi x, x ∈ keptM (ZF m s (bytesF (frames.getD k zF64)) pw).2.2.1 mi → x.Frame ∈ frames := fun mi x hx => by
            rcases ZnA ok hR hs rd (hN k hk) pw hx with v | v
            · exact hq.2.1 mi x v
            · rw [v]; exact hmemF k hk
          have wk := ZpN hq.1 ok hR (by omega) hs (bytesF (frames.getD k zF64)) hp
          have bm := hB _ (JL hj).1
          have gl := ZiB (fun i => frames.getD i zF64) a c l.length j k
          have lim := bm.lim
          refine ⟨fun hall ht => ⟨wk, kp, fun hC => ?_⟩, fun _ => ⟨wk, kp, fun hC => ⟨?_, ?_, ?_⟩⟩⟩
          · have pg := Zoh (hq.2.2 hC) ok bm.bd (by omega) (by omega) (hN k hk) hp hall
            rw [Zks, ← hcons hC k hk, ht, if_pos rfl]
            exact pg
          · exact Zm2 (hq.2.2 hC) ok hR hs bm.bd (by omega) (by omega) (gsN k j (by omega)) (hN k hk) hp
          · rw [(Zpp _ _ _ _).1]; exact (hq.2.2 hC).n
          · rw [(Zpp _ _ _ _).2]; exact (hq.2.2 hC).slots)
        (fun k j m s hk hj ht hq => ⟨hq.1.mono (Nat.le_succ k), hq.2.1, fun hC => by
          rw [Zks, ← hcons hC k hk, ht, if_neg (by decide), List.append_nil]
          exact hq.2.2 hC⟩) (p := power) (by omega)
      rw [r1]
      simp only [Option.bind_some, Bool.not_true, Bool.false_eq_true, if_false]
      have hl2 : 1 ≤ l2.length ∧ l2.length ≤ 8 := by rw [r2]; exact hl
      have okj : ∀ j, j < l.length → MemOK (l2.getD j dfM) ∧ memR (l2.getD j dfM) := fun j hj => by
        have := (JL (l := l2) (k := j) (by rw [r2]; exact hj)).1
        exact ⟨r3 _ this, r4 _ this⟩
      have wkj : ∀ j, j < l.length → WkM 45 (l2.getD j dfM) ∧ ∀ mi x, x ∈ keptM (l2.getD j dfM) mi → x.Frame ∈ frames := fun j hj => by
        rcases r5 j hj with ⟨s, q⟩ | ⟨hk, ⟨s, q⟩ | q⟩
        · exact ⟨q.1.mono (by omega), q.2.1⟩
        · exact ⟨q.1.mono (by omega), q.2.1⟩
        · exact ⟨q.1.mono (by omega), q.2.1⟩
      have only : ∀ x ∈ XD l2, x.Frame ∈ frames := fun x hx => by
        obtain ⟨j, j1, j2⟩ := Zcw.1 hx
        exact (wkj j (by rw [← r2]; exact j1)).2 _ x j2
      obtain ⟨R, f1, f2, f3, f4⟩ := Zh6 hl2 r3 r4
      rw [f1]
      simp only [Option.bind_some, decide_true, Bool.not_true, Bool.false_eq_true, if_false]
      have hRl : (R.map (·.Frame)).length ≤ 32768 := by rw [List.length_map]; exact f2
      -- what is found was given
      have hL2 : loop (t1 (Z7 frames (R.map (·.Frame), 0))) 0 = some (.inr ()) := by
        obtain ⟨z, z1, z2⟩ := ZbC (body := Z7 frames (R.map (·.Frame), 0)) (N := (R.map (·.Frame)).length) (fun _ => True) (fun z => z = .inr ()) (fun k hk _ => by
          left
          obtain ⟨x, hx⟩ := Xz hk
          have hm : x ∈ frames := by
            obtain ⟨y, y1, rfl⟩ := List.mem_map.1 (List.mem_of_getElem? hx)
            exact only y (f3 y y1).1
          refine ⟨?_, trivial⟩
          unfold Z7
          rw [if_pos (by simpa using hk), Zm hx, Option.bind_some, ZmC (by omega) hm, Option.bind_some, if_neg (by decide), show i64 ((k : Int) + 1) = (k : Int) + 1 from Zh (by omega) (by omega)]) (fun _ => ⟨.inr (), by unfold Z7; rw [if_neg (by simp)], rfl⟩) trivial
        rw [z1, z2]
      rw [hL2]
      simp only [Option.bind_some, Sum.elim_inr, Zjp]
      obtain ⟨cap, least, k1, k2, k3⟩ := Zpu hl hB hc
      rw [k1]
      simp only [Option.bind_some, decide_true, Bool.not_true, Bool.false_eq_true, if_false]
      -- the latest are there
      have there : Zid frames → ∀ k, k < K → K + 1 ≤ k + cap → frames.getD k zF64 ∈ R.map (·.Frame) := fun hC k hk hcap => by
        have hkF : k < frames.length := by omega
        have hjn : (a + k) % l.length < l.length := Nat.mod_lt _ (by omega)
        have hjm : (a + k) % l.length < l2.length := by rw [r2]; exact hjn
        have hm0 := (JL hjn).1
        have bm := hB _ hm0
        obtain ⟨ok, hR⟩ := okj _ hjn
        obtain ⟨M, M1, M2, M3, M4⟩ : ∃ M, k < M ∧ M ≤ K + 1 ∧ M ≤ 41 ∧ Zi4 (gsJ (fun i => frames.getD i zF64) a c l.length ((a + k) % l.length) M) (l2.getD ((a + k) % l.length) dfM) ∧ (l2.getD ((a + k) % l.length) dfM).Sectors.length = (l.getD ((a + k) % l.length) dfM).Sectors.length ∧ (l2.getD ((a + k) % l.length) dfM).Slots = (l.getD ((a + k) % l.length) dfM).Slots := by
          have pgH : ∀ M s, M ≤ frames.length → PgM (l.getD ((a + k) % l.length) dfM) (gsJ (fun i => frames.getD i zF64) a c l.length ((a + k) % l.length) M) (l2.getD ((a + k) % l.length) dfM) s → Zi4 (gsJ (fun i => frames.getD i zF64) a c l.length ((a + k) % l.length) M) (l2.getD ((a + k) % l.length) dfM) ∧ (l2.getD ((a + k) % l.length) dfM).Sectors.length = (l.getD ((a + k) % l.length) dfM).Sectors.length ∧ (l2.getD ((a + k) % l.length) dfM).Slots = (l.getD ((a + k) % l.length) dfM).Slots := fun M s hM pg => by
            have gl := ZiB (fun i => frames.getD i zF64) a c l.length ((a + k) % l.length) M
            exact ⟨Znq pg ok hR bm.bd (by omega) (gsN M _ hM), pg.n, pg.slots⟩
          rcases r5 _ hjn with ⟨s, q⟩ | ⟨hkk, ⟨s, q⟩ | q⟩
          · exact ⟨K, hk, by omega, by omega, pgH K s hK (q.2.2 hC)⟩
          · exact ⟨K + 1, by omega, by omega, by omega, pgH (K + 1) s hkk (q.2.2 hC)⟩
          · exact ⟨K, hk, by omega, by omega, q.2.2 hC⟩
        have hG := Zmx (fun i => frames.getD i zF64) (a := a) (k := k) (c := c) (n := l.length) hc.1 (M - k - 1)
        rw [show k + 1 + (M - k - 1) = M by omega] at hG
        have hat' := Zod (fun i => frames.getD i zF64) (a := a) (c := c) (n := l.length) hc.1 M1
        have hgb := ZpQ (n := l.length) (c := c) (d := M - k - 1) hc hl.2 (by omega)
        have hroom := k3 _ hm0
        have hlt : gB l.length c (M - k - 1) + 1 ≤ Zdh (l.getD ((a + k) % l.length) dfM) := by
          have s1 : (M - k - 1) * c + c ≤ cap * c := by
            have := Nat.mul_le_mul_right c (show M - k - 1 + 1 ≤ cap by omega)
            rw [Nat.add_mul, Nat.one_mul] at this; exact this
          have s2 : gB l.length c (M - k - 1) * l.length < least * l.length := by omega
          have s3 : gB l.length c (M - k - 1) < least := Nat.lt_of_mul_lt_mul_right s2
          omega
        have hrm : Zdh (l.getD ((a + k) % l.length) dfM) = ((l2.getD ((a + k) % l.length) dfM).Sectors.length - 1) * (l2.getD ((a + k) % l.length) dfM).Slots.toNat := by
          unfold Zdh
          rw [M4.2.1, M4.2.2]
        obtain ⟨x, x1, x2⟩ := M4.1 (gsJ (fun i => frames.getD i zF64) a c l.length ((a + k) % l.length) k).length (by omega) (by rw [← hrm]; omega) (((a + k) % l.length : Nat) : Int)
        rw [hat'] at x2
        have xr : x ∈ XD l2 := Zcw.2 ⟨_, hjm, x1⟩
        obtain ⟨y, y1, y2⟩ := f4 x xr (by rw [x2]; exact (hF k hkF).2)
        obtain ⟨k', hk', hy⟩ := List.getElem_of_mem (only y (f3 y y1).1)
        have hy' : y.Frame = frames.getD k' zF64 := by
          rw [← hy, List.getD_eq_getElem?_getD, List.getElem?_eq_getElem hk']; rfl
        have hnum : k' = k := by
          unfold nmK at y2
          rw [hy', x2, hnat k' hk', hnat k hkF, hcons hC k' hk', hcons hC k hkF] at y2
          omega
        rw [hnum] at hy'
        exact List.mem_map.2 ⟨y, y1, hy'⟩
      have hcb : cap ≤ 4096 * 8 := by
        have q1 := k3 _ (JL (l := l) (k := 0) (by omega)).1
        have q2 := Zi9 (hB _ (JL (l := l) (k := 0) (by omega)).1).ok
        have q3 : cap ≤ cap * c := Nat.le_mul_of_pos_right _ (by omega)
        have q4 : least * l.length ≤ 4096 * 8 := Nat.mul_le_mul (by omega) hl.2
        omega
      have hlt : (frames.take K).length = K := by rw [List.length_take]; omega
      obtain ⟨bc, c1, c2⟩ := Zos hF hlen
      have hL3 : (((XW frames).bind fun y9 => if y9 = true then loop (t1 (Qq (frames.take K, l2, true) (R.map (·.Frame), 0))) (max 0 (i64 (((frames.take K).length : Int) - (max 0 (i64 ((cap : Int) - 1)))))) else some (.inr ())) : Option ((Bool) ⊕ (Unit))) = some (.inr ()) := by
        rw [c1, Option.bind_some]
        cases bc with
        | false => rfl
        | true =>
          rw [if_pos rfl, hlt, show i64 ((cap : Int) - 1) = (cap : Int) - 1 from Zh (by omega) (by omega), show i64 ((K : Int) - (max 0 ((cap : Int) - 1))) = (K : Int) - (max 0 ((cap : Int) - 1)) from Zh (by omega) (by omega), show max (0 : Int) ((K : Int) - (max 0 ((cap : Int) - 1))) = ((K - (cap - 1) : Nat) : Int) by omega]
          obtain ⟨z, z1, z2⟩ := ZaE (body := t1 (Qq (frames.take K, l2, true) (R.map (·.Frame), 0))) (fun i => ∃ k : Nat, i = (k : Int) ∧ k ≤ K ∧ K ≤ k + (cap - 1)) (fun i => K - i.toNat) (fun z => z = .inr ()) (by
            rintro i ⟨k, rfl, hk, hcap⟩
            simp only [Qx]
            unfold Qq
            rcases Nat.lt_or_ge k K with w | w
            · left
              have hat : (frames.take K)[k]? = some (frames.getD k zF64) := by
                rw [List.getElem?_take_of_lt w]; exact Qv (by omega) zF64
              rw [if_pos (by rw [hlt]; simpa using w), Zm hat, Option.bind_some, ZmC (by omega) (there (c2 rfl) k w (by omega)), Option.bind_some, if_neg (by decide), show i64 ((k : Int) + 1) = (k : Int) + 1 from Zh (by omega) (by omega)]
              exact ⟨_, rfl, ⟨k + 1, by push_cast; rfl, w, by omega⟩, by omega⟩
            · right
              exact ⟨.inr (), by rw [if_neg (by rw [hlt, decide_eq_true_eq]; omega)], rfl⟩) ((K - (cap - 1) : Nat) : Int) ⟨K - (cap - 1), rfl, by omega, by omega⟩
          rw [z1, z2]
      rw [hL3]
      simp only [Option.bind_some, Sum.elim_inr, Zjp]
      have hc2 : 1 ≤ c ∧ c ≤ l2.length := by rw [r2]; exact hc
      have wkl : ∀ m ∈ l2, WkM 45 m := fun m hm => by
        obtain ⟨j, hj, e⟩ := List.getElem_of_mem hm
        have := (wkj j (by rw [← r2]; exact hj)).1
        rwa [List.getD_eq_getElem?_getD, List.getElem?_eq_getElem hj, Option.getD_some, e] at this
      obtain ⟨sp, m1, _, _⟩ := Zkk hl2 r3 r4 (fun m hm => (wkl m hm).fz) hc2
      rw [show i64 (last + 1) = last + 1 from Zh (by omega) (by omega), show mks (58 : Int) (0 : Int) = some (List.replicate 58 0) from rfl]
      by_cases hbig : last + 1 < 4194304
      · obtain ⟨f, g1, g2⟩ := ZpR (n := last + 1) (data := List.replicate 58 0) ⟨by omega, hbig⟩ (by simp) (fun d hd => by rw [List.eq_of_mem_replicate hd]; omega)
        obtain ⟨r, left, r', n1, n2, n3, n4, n5, ⟨x, n6, n6'⟩, n7⟩ := Zpk hl2 r3 r4 wkl hc2 g2.u g2.snd
        rw [n1]
        simp only [Option.bind_some, Sum.elim_inr, decide_true, Bool.not_true, Bool.false_eq_true, if_false, g1, n2, Bool.or_self]
        obtain ⟨R2, o1, o2, o3, o4⟩ := Zh6 n3 n4 n5
        unfold QH
        rw [Zez n3.2 n4]
        simp only [Option.bind_some]
        rw [o1]
        simp only [Option.bind_some, decide_true, ZlG, Bool.true_and]
        obtain ⟨y, y1, y2⟩ := o4 x n6 (by rw [n6']; exact g2.snd)
        have hy : y.Frame = f := by
          rcases n7 y (o3 y y1).1 with v | v
          · obtain ⟨k', hk', e⟩ := List.getElem_of_mem (only y v)
            have hy' : y.Frame = frames.getD k' zF64 := by
              rw [← e, List.getD_eq_getElem?_getD, List.getElem?_eq_getElem hk']; rfl
            have := (hsn k' hk').2
            unfold nmK at y2
            rw [hy', n6', g2.num] at y2
            simp only at y2
            omega
          · exact v
        rw [ZmC (by rw [List.length_map]; omega) (List.mem_map.2 ⟨y, y1, hy⟩), Option.bind_some]
      · have ge : ∃ v, XX (last + 1) (List.replicate 58 0) = some (v, 9) := by
          unfold XX
          rw [if_pos (by rw [Bool.or_eq_true, decide_eq_true_eq, decide_eq_true_eq]; omega)]
          exact ⟨_, rfl⟩
        obtain ⟨v, ge⟩ := ge
        rw [m1]
        simp only [Option.bind_some, Sum.elim_inr, ge]
        rfl
end Go.Vx
