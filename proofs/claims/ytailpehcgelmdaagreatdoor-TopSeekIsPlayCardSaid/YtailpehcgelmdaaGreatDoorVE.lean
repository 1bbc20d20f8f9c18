/- A text of the proof: a verified executor of the program form, or the contracts of the functions that the law reaches. -/
import Derived.Test.YtailpehcgelmdaaGreatDoorVD
set_option linter.all false
namespace Go.Vx
open Go Go.RowKit
theorem Zfv{β γ:Type}{k:β→Option γ}{r:γ}(h:(none:Option β).bind k=some r):False:=by cases h
theorem Zi8{q:Rw}{r r' n n':Nat}(hn:n=n')(h:q.R r r'):RenR q (.own r n) (.own r' n'):=by subst hn;exact .own n h
theorem ZfT{c:Ctx}{st:St}{rs:Array ResultVar}{res:AV}{os':List (Option Own)}(s:List (Option Nat)){rs':List ResultVar}{ds:List AV}(h1:rs=rs'.toArray)(h2:RetWs c st rs' ds)(h3:SelHp c.P (Zdp s st.hp) st.hp s os')
    (h4:dupL s os'=true) (h5:ZdH 0 c.n0 s=true) (h6:RenR (Zdp s st.hp) (ZhW ds) res):ZjM c rs res os' .normal st:=⟨s,rs',ds,h1,h2,h3,h4,h5,h6⟩
section ops
variable {c:Ctx} {ops:Array Oper} {st:St} {dst:Option Tmp} {ty:TypeId} {pos:String} {after:Array Edge}
theorem Zh{x:Operand}{r n i j:Nat}{o:Own}(h:Opv c st x (.ptr r n i j))(ho:nth st.hp r=some o)(hn:o.es.length=n):SVal c ops st ⟨dst,.nilCheck x,ty,pos,after,none⟩ (.ptr r n i j):=
  .pure rfl fun φ a w hc=>by
    have hO:=hc.hok.obj r o ho
    obtain⟨b,hb,hx⟩:=XT (h φ a w hc) (by rw [hO.len,hn])
    exact⟨a.eval x,by simp only [execOp,hx];rfl,h φ a w hc⟩
theorem ZaM{x:Operand}{cells:List AV}{o:Nat}(h:Opv c st x (.rp cells o)):SVal c ops st ⟨dst,.nilCheck x,ty,pos,after,none⟩ (.rp cells o):=
  .pure rfl fun φ a w hc=>by
    have hr:=ZdB (h φ a w hc)
    refine⟨a.eval x,?_,h φ a w hc⟩
    generalize hx:a.eval x=ax at hr
    cases hr with
    |rp _ b base _ us _ _ _ _=>simp only [execOp,hx];rfl
theorem Zb3{e u:TypeId}{t:Nat}{x:Operand}{rest:List Oper}{l:List (List AV)}{K:Exit→St→Prop}(h:Opv c st x (.sl e l))(ht:(match c.P.underlying t with |some (.slice _)=>true |_=>false)=true)(hd:dstLt dst c.nt=true)
    (k: ∀ b,(b=true→l= [])→R c ops rest (st.puto dst (.bool b)) K):R c ops (⟨dst,.binOp .eql t x (.const (.slice none 0 0)) u,ty,pos,after,none⟩::rest) st K:=by
  intro φ a w hc
  have hu: ∃ e',c.P.underlying t=some (.slice e'):=by
    split at ht
    · rename_i e' hu;exact⟨e',hu⟩
    · cases ht
  obtain⟨e',hu⟩:=hu
  have hr:=ZeD (h φ a w hc)
  generalize hx:a.eval x=ax at hr
  have key: ∀ (ad:Option Addr) n cp,ax= .slice ad n cp→(execOp a.eval ⟨dst,.binOp .eql t x (.const (.slice none 0 0)) u,ty,pos,after,none⟩).run c.P w= .ok (.value (.bool ad.isNone)) w:=by
    intro ad n cp hax
    subst hax
    show((do pure (Next.value (←(do eqGuard .eql t x (.const (.slice none 0 0)) (a.eval x) (.slice none 0 0);binOp .eql t (a.eval x) (.slice none 0 0):Sem Value))):Sem Next)).run c.P w=_
    rw [hx]
    have he:(Op.equal t (.slice ad n cp) (.slice none 0 0)).run c.P w= .ok ad.isNone w:=by
      unfold Op.equal Op.maxDepth
      show(Op.equalIn (9999+1) t _ _).run c.P w=_
      generalize 9999=d
      cases ad with
      |none=>unfold Op.equalIn;rw [Sem.run_bind,run_underlying hu];rfl
      |some b=>unfold Op.equalIn;rw [Sem.run_bind,run_underlying hu];rfl
    have hb:(binOp .eql t (.slice ad n cp) (.slice none 0 0)).run c.P w= .ok (.bool ad.isNone) w:=by
      show((do pure (Value.bool (←Op.equal t (.slice ad n cp) (.slice none 0 0))):Sem Value)).run c.P w=_
      rw [Sem.run_bind,he];rfl
    rw [Sem.run_bind]
    show(((do eqGuard .eql t x (.const (.slice none 0 0)) (.slice ad n cp) (.slice none 0 0);binOp .eql t (.slice ad n cp) (.slice none 0 0):Sem Value)).run c.P w).andThen _=_
    rw [Sem.run_bind]
    have hg:(eqGuard .eql t x (.const (.slice none 0 0)) (.slice ad n cp) (.slice none 0 0)).run c.P w= .ok () w:=rfl
    rw [hg]
    simp only [Result.andThen_ok]
    rw [hb]
    rfl
  have go: ∀ ad n cp,ax= .slice ad n cp→(ad.isNone=true→l= [])→wpList c.P ops (Zii c K) (⟨dst,.binOp .eql t x (.const (.slice none 0 0)) u,ty,pos,after,none⟩::rest) a w:=by
    intro ad n cp hax hb
    unfold wpList
    rw [if_pos (XG rfl)]
    left
    unfold Oper.wp
    rw [key ad n cp hax]
    exact k _ hb φ _ _ (hc.puto hd (Zw (.bool _)))
  cases hr with
  |sl0 _ ad cp=>exact go ad 0 cp rfl fun _=>rfl
  |sl _ _ b off cp us=>exact go (some ⟨b,off,none⟩) _ cp rfl fun h=>by cases h
theorem ZfC{α:Type}{f:α→List AV}{x y:Operand}{t e sz by_ r n:Nat}{xs:List α}(h:Opv c st x (.own r n))(hy:SlV c st y sz [])(ht:tSl c.P t e sz by_=true)
    (ho:nth st.hp r=some ⟨e,xs.map f⟩) (hn:xs.length=n):
    WVal c ops st ⟨dst,.call {callee:= .builtin .append,args:= #[x,y],argTypes:= #[t,t]},ty,pos,after,none⟩ (.own r n) st.hp:=by
  refine .run rfl fun φ a w hc=> ?_
  obtain⟨hu,inf,z,hi,hs,hby,hn0,hz,hzs,hcs⟩:=tSl.spec ht
  have hO:=hc.hok.obj r _ ho
  have hx:=J4 (h φ a w hc) (by rw [hO.len];simpa using hn)
  obtain⟨base,cap,hyv,_,_,_⟩:=hy φ a w hc
  have hroom:n≤(φ r).cap:=by have:=hO.room;simpa [hn] using this
  refine⟨_,w,φ,?_,hc.hok,fun _ _ h=>h,h φ a w hc⟩
  simp only [List.length_nil] at hyv
  have hfc:(Builtin.firstCells inf.size 0 (.slice base 0 cap)).run c.P w= .ok #[] w:=by
    cases base with
    |none=>rfl
    |some b=>simp [Builtin.firstCells,loadCells,loadCellsFrom]
  have:(Builtin.append_ #[t,t] ty #[a.eval x,a.eval y]).run c.P w= .ok (a.eval x) w:=by
    rw [hx,hyv]
    cases hb:(φ r).blk with
    |none=>simp [Builtin.append_,run_underlying hu,sizeOf,typeInfo,hi,Builtin.lenOf,hroom,hfc]
    |some b=>simp [Builtin.append_,run_underlying hu,sizeOf,typeInfo,hi,Builtin.lenOf,hroom,hfc,storeCells]
  simp only [execOp,resolve,invoke,builtin]
  simp [this]
theorem JP{α:Type}{f:α→List AV}{x y:Operand}{t e sz by_ r n s:Nat}{xs ys zs:List α}(h:Opv c st x (.own r n))(hy:SlV c st y sz (ys.map f))(ht:tSl c.P t e sz by_=true)
    (ho:nth st.hp r=some ⟨e,xs.map f⟩) (hn:xs.length=n) (h1: ∀ u,∀ v∈f u,Zei c st v) (hby:Nat.ble by_ s=true) (hz:apz s xs ys=some zs):
    WVal c ops st ⟨dst,.call {callee:= .builtin .append,args:= #[x,y],argTypes:= #[t,t]},ty,pos,after,none⟩ (.own r zs.length) (QO st.hp r (some ⟨e,zs.map f⟩)):=by
  cases ys with
  |cons u ys=>exact ZbM h hy ht ho hn rfl h1 hby hz
  |nil=>
    unfold apz at hz
    split at hz
    · simp only [List.append_nil,Option.some.injEq] at hz
      subst hz
      have hset:QO st.hp r (some (⟨e,xs.map f⟩:Own))=st.hp:=by
        generalize st.hp=hp at ho
        clear h hy
        induction hp generalizing r with
        |nil=>cases ho
        |cons o hp ih=>
          cases r with
          |zero=>simp only [nth] at ho;simp [QO,ho]
          |succ r=>simp only [nth] at ho;simp only [QO];rw [ih ho]
      rw [hset,hn]
      exact ZfC h hy ht ho hn
    · cases hz
end ops
end Go.Vx

namespace Go.Vx
open Go Go.RowKit
def Xl{α:Type}{n:Nat}(v:Vector α n)(i:Int):Option α:=if 0≤i then v.toList[i.toNat]? else none
theorem ZbT{α:Type}{n:Nat}{v:Vector α n}{i:Int}{x:α}(h:Xl v i=some x):i=(i.toNat:Int)∧i.toNat<n∧v.toList[i.toNat]?=some x:=by
  unfold Xl at h
  split at h
  · have:=(List.getElem?_eq_some_iff.1 h).1
    simp at this
    exact⟨by omega,this,h⟩
  · cases h
def XL{α:Type}{n:Nat}(v:Vector α n)(i:Int)(x:α):Vector α n:=v.setIfInBounds i.toNat x
theorem Zid{α:Type}{n:Nat}(v:Vector α n)(i:Int)(x:α):(XL v i x).toList=v.toList.set i.toNat x:=by simp [XL]
section
variable {α:Type} {n:Nat} {v:Vector α n} {f:α→AV} {z:Int} {u:α}
theorem arL:(v.toList.map f).length=n:=by simp
theorem arD(h: ∀ x,datB (f x)=true):(v.toList.map f).all datB=true:=by simp [List.all_eq_true,h]
theorem arC(h: ∀ x,c1B (f x)=true):(v.toList.map f).all c1B=true:=by simp [List.all_eq_true,h]
theorem arB(h:Xl v z=some u){x:AV}:(0+z.toNat*1)+ [x].length≤(v.toList.map f).length:=by
  obtain⟨_,h2,_⟩:=ZbT h
  simp;omega
theorem arS(h:Xl v z=some u){x:α}:(v.toList.map f).take (0+z.toNat*1)++([f x]++(v.toList.map f).drop ((0+z.toNat*1)+ [f x].length))=(XL v z x).toList.map f:=by
  obtain⟨_,h2,_⟩:=ZbT h
  rw [Zid]
  have hlt:z.toNat<(v.toList.map f).length:=by simpa using h2
  rw [List.map_set,List.set_eq_take_append_cons_drop,if_pos (by simpa using hlt)]
  simp
end
section ops
variable {c:Ctx} {ops:Array Oper} {st:St} {dst:Option Tmp} {ty:TypeId} {pos:String} {after:Array Edge}
theorem Zah{α:Type}{m:Nat}{v:Vector α m}{x y:Operand}{t e n r q i j:Nat}{k:IntKind}{z:Int}{o:Own}{u:α}(h:Opv c st x (.ptr r q i j))(hy:Opv c st y (.int k z))(ht:tArr c.P t m e n=true)
    (ho:nth st.hp r=some o) (hq:o.es.length=q) (hx:Xl v z=some u):SVal c ops st ⟨dst,.indexAddr t x y,ty,pos,after,none⟩ (.ptr r q i (j+z.toNat*n)):=by
  obtain⟨h1,h2,_⟩:=ZbT hx
  exact ZkY h hy ht ho hq h1 h2
theorem ZdQ{α:Type}{m:Nat}{v:Vector α m}{x y:Operand}{t e n o:Nat}{k:IntKind}{z:Int}{cells:List AV}{u:α}(h:Opv c st x (.rp cells o))(hy:Opv c st y (.int k z))(ht:tArr c.P t m e n=true)
    (hx:Xl v z=some u):SVal c ops st ⟨dst,.indexAddr t x y,ty,pos,after,none⟩ (.rp cells (o+z.toNat*n)):=by
  obtain⟨h1,h2,_⟩:=ZbT hx
  exact ZkZ h hy ht h1 h2
end ops
end Go.Vx
