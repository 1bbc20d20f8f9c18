/- A text of the proof: a verified executor of the program form, or the contracts of the functions that the law reaches. -/
import Derived.Test.YtecdkapjjhkanaaDoorVxX
set_option linter.all false
namespace Go.Vx
open Go Go.RowKit
theorem noneB {β γ : Type} {k : β → Option γ} {r : γ} (h : (none : Option β).bind k = some r) : False := by cases h
theorem ownE {q : Rw} {r r' n n' : Nat} (hn : n = n') (h : q.R r r') : RenR q (.own r n) (.own r' n') := by subst hn; exact .own n h
theorem retqn {c : Ctx} {st : St} {rs : Array ResultVar} {r r' : AV} (e : r' = r) (h : Ret c st rs r') : retK c rs r .normal st := by subst e; exact h
theorem retgn {c : Ctx} {st : St} {rs : Array ResultVar} {res : AV} {os' : List (Option Own)} (s : List (Option Nat)) {rs' : List ResultVar} {ds : List AV} (h1 : rs = rs'.toArray) (h2 : RetWs c st rs' ds) (h3 : SelHp c.P (selQ s st.hp) st.hp s os')
    (h4 : dupB s = true) (h5 : fixB' 0 c.n0 s = true) (h6 : RenR (selQ s st.hp) (packR ds) res) : retG c rs res os' .normal st := ⟨s, rs', ds, h1, h2, h3, h4, h5, h6⟩
theorem T_condT {c : Ctx} {x y : Code} {st : St} {K : Exit → St → Prop} (h1 : T c x st K) : T c (.cond (.const (.bool true)) x y) st K :=
  fun φ a w hc => wp_cond_split (t := true) rfl (fun _ => h1 φ a w hc) (fun h => by cases h)
theorem T_condF {c : Ctx} {x y : Code} {st : St} {K : Exit → St → Prop} (h1 : T c y st K) : T c (.cond (.const (.bool false)) x y) st K :=
  fun φ a w hc => wp_cond_split (t := false) rfl (fun h => by cases h) (fun _ => h1 φ a w hc)

section ops
variable {c : Ctx} {ops : Array Oper} {st : St} {dst : Option Tmp} {ty : TypeId} {pos : String} {after : Array Edge}

theorem v_nilCheckP {x : Operand} {r n i j : Nat} {o : Own} (h : Opv c st x (.ptr r n i j)) (ho : nth st.hp r = some o) (hn : o.es.length = n) : SVal c ops st ⟨dst, .nilCheck x, ty, pos, after, none⟩ (.ptr r n i j) :=
  .pure rfl fun φ a w hc => by
    have hO := hc.hok.obj r o ho
    obtain ⟨b, hb, hx⟩ := relF_ptr (h φ a w hc) (by rw [hO.len, hn])
    exact ⟨a.eval x, by simp only [execOp, hx]; rfl, h φ a w hc⟩
theorem v_nilCheckR {x : Operand} {cells : List AV} {o : Nat} (h : Opv c st x (.rp cells o)) : SVal c ops st ⟨dst, .nilCheck x, ty, pos, after, none⟩ (.rp cells o) :=
  .pure rfl fun φ a w hc => by
    have hr := relF_rp (h φ a w hc)
    refine ⟨a.eval x, ?_, h φ a w hc⟩
    generalize hx : a.eval x = ax at hr
    cases hr with
    | rp _ b base _ us _ _ _ _ => simp only [execOp, hx]; rfl

/-- Is a slice nil? Only an empty one may be. -/
theorem R_eqnil {e u : TypeId} {t : Nat} {x : Operand} {rest : List Oper} {l : List (List AV)} {K : Exit → St → Prop} (h : Opv c st x (.sl e l)) (ht : (match c.P.underlying t with | some (.slice _) => true | _ => false) = true) (hd : dstLt dst c.nt = true)
    (k : ∀ b, (b = true → l = []) → R c ops rest (st.puto dst (.bool b)) K) : R c ops (⟨dst, .binOp .eql t x (.const (.slice none 0 0)) u, ty, pos, after, none⟩ :: rest) st K := by
  intro φ a w hc
  have hu : ∃ e', c.P.underlying t = some (.slice e') := by
    split at ht
    · rename_i e' hu; exact ⟨e', hu⟩
    · cases ht
  obtain ⟨e', hu⟩ := hu
  have hr := relF_sl (h φ a w hc)
  generalize hx : a.eval x = ax at hr
  have key : ∀ (ad : Option Addr) n cp, ax = .slice ad n cp → (execOp a.eval ⟨dst, .binOp .eql t x (.const (.slice none 0 0)) u, ty, pos, after, none⟩).run c.P w = .ok (.value (.bool ad.isNone)) w := by
    intro ad n cp hax
    subst hax
    show ((do pure (Next.value (← (do eqGuard .eql t x (.const (.slice none 0 0)) (a.eval x) (.slice none 0 0); binOp .eql t (a.eval x) (.slice none 0 0) : Sem Value))) : Sem Next)).run c.P w = _
    rw [hx]
    have he : (Op.equal t (.slice ad n cp) (.slice none 0 0)).run c.P w = .ok ad.isNone w := by
      unfold Op.equal Op.maxDepth
      show (Op.equalIn (9999 + 1) t _ _).run c.P w = _
      generalize 9999 = d
      cases ad with
      | none => unfold Op.equalIn; rw [Sem.run_bind, run_underlying hu]; rfl
      | some b => unfold Op.equalIn; rw [Sem.run_bind, run_underlying hu]; rfl
    have hb : (binOp .eql t (.slice ad n cp) (.slice none 0 0)).run c.P w = .ok (.bool ad.isNone) w := by
      show ((do pure (Value.bool (← Op.equal t (.slice ad n cp) (.slice none 0 0))) : Sem Value)).run c.P w = _
      rw [Sem.run_bind, he]; rfl
    rw [Sem.run_bind]
    show (((do eqGuard .eql t x (.const (.slice none 0 0)) (.slice ad n cp) (.slice none 0 0); binOp .eql t (.slice ad n cp) (.slice none 0 0) : Sem Value)).run c.P w).andThen _ = _
    rw [Sem.run_bind]
    have hg : (eqGuard .eql t x (.const (.slice none 0 0)) (.slice ad n cp) (.slice none 0 0)).run c.P w = .ok () w := rfl
    rw [hg]
    simp only [Result.andThen_ok]
    rw [hb]
    rfl
  have go : ∀ ad n cp, ax = .slice ad n cp → (ad.isNone = true → l = []) → wpList c.P ops (Post c K) (⟨dst, .binOp .eql t x (.const (.slice none 0 0)) u, ty, pos, after, none⟩ :: rest) a w := by
    intro ad n cp hax hb
    unfold wpList
    rw [if_pos (wanted_none rfl)]
    left
    unfold Oper.wp
    rw [key ad n cp hax]
    exact k _ hb φ _ _ (hc.puto hd (relF_data (.bool _)))
  cases hr with
  | sl0 _ ad cp => exact go ad 0 cp rfl fun _ => rfl
  | sl _ _ b off cp us => exact go (some ⟨b, off, none⟩) _ cp rfl fun h => by cases h

/-- out = append(out, ys...), whatever ys are. -/
theorem w_append_none {α : Type} {f : α → List AV} {x y : Operand} {t e sz by_ r n : Nat} {xs : List α} (h : Opv c st x (.own r n)) (hy : SlV c st y sz []) (ht : tSl c.P t e sz by_ = true)
    (ho : nth st.hp r = some ⟨e, xs.map f⟩) (hn : xs.length = n) :
    WVal c ops st ⟨dst, .call { callee := .builtin .append, args := #[x, y], argTypes := #[t, t] }, ty, pos, after, none⟩ (.own r n) st.hp := by
  refine .run rfl fun φ a w hc => ?_
  obtain ⟨hu, inf, z, hi, hs, hby, hn0, hz, hzs, hcs⟩ := tSl.spec ht
  have hO := hc.hok.obj r _ ho
  have hx := relF_own (h φ a w hc) (by rw [hO.len]; simpa using hn)
  obtain ⟨base, cap, hyv, _, _, _⟩ := hy φ a w hc
  have hroom : n ≤ (φ r).cap := by have := hO.room; simpa [hn] using this
  refine ⟨_, w, φ, ?_, hc.hok, fun _ _ h => h, h φ a w hc⟩
  simp only [List.length_nil] at hyv
  have hfc : (Builtin.firstCells inf.size 0 (.slice base 0 cap)).run c.P w = .ok #[] w := by
    cases base with
    | none => rfl
    | some b => simp [Builtin.firstCells, loadCells, loadCellsFrom]
  have : (Builtin.append_ #[t, t] ty #[a.eval x, a.eval y]).run c.P w = .ok (a.eval x) w := by
    rw [hx, hyv]
    cases hb : (φ r).blk with
    | none => simp [Builtin.append_, run_underlying hu, sizeOf, typeInfo, hi, Builtin.lenOf, hroom, hfc]
    | some b => simp [Builtin.append_, run_underlying hu, sizeOf, typeInfo, hi, Builtin.lenOf, hroom, hfc, storeCells]
  simp only [execOp, resolve, invoke, builtin]
  simp [this]
theorem w_appendZ {α : Type} {f : α → List AV} {x y : Operand} {t e sz by_ r n : Nat} {xs ys zs : List α} (h : Opv c st x (.own r n)) (hy : SlV c st y sz (ys.map f)) (ht : tSl c.P t e sz by_ = true)
    (ho : nth st.hp r = some ⟨e, xs.map f⟩) (hn : xs.length = n) (h1 : ∀ u, ∀ v ∈ f u, Cell1 c st v) (hby : Nat.ble by_ 32768 = true) (hz : app xs ys = some zs) :
    WVal c ops st ⟨dst, .call { callee := .builtin .append, args := #[x, y], argTypes := #[t, t] }, ty, pos, after, none⟩ (.own r zs.length) (setO st.hp r (some ⟨e, zs.map f⟩)) := by
  cases ys with
  | cons u ys => exact w_appendG h hy ht ho hn rfl h1 hby hz
  | nil =>
    unfold app at hz
    split at hz
    · simp only [List.append_nil, Option.some.injEq] at hz
      subst hz
      have hset : setO st.hp r (some (⟨e, xs.map f⟩ : Own)) = st.hp := by
        generalize st.hp = hp at ho
        clear h hy
        induction hp generalizing r with
        | nil => cases ho
        | cons o hp ih =>
          cases r with
          | zero => simp only [nth] at ho; simp [setO, ho]
          | succ r => simp only [nth] at ho; simp only [setO]; rw [ih ho]
      rw [hset, hn]
      exact w_append_none h hy ht ho hn
    · cases hz
end ops
end Go.Vx
