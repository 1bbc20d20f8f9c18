/- A text of the proof: a verified executor of the program form, or the contracts of the functions that the law reaches. -/
import Derived.Test.YtjjknklgafdeiaaGreatDoorVP
import Derived.RangeFuncLeaves
import Derived.RangeFuncRecord
import Derived.RangeFuncSeq
set_option linter.all false
namespace Go.Vx
open Go Go.RowKit
def Fd(ro:Option Nat):Fence:={Fence.wide with round:=ro}
theorem Zsi{ro:Option Nat}{n:Nat}{P:Program}{o:Oper}{a:Act}{w:World}{K:Act→World→Prop}{Q:Exit→Act→World→Prop}(hd: ∀ c,o.op≠ .defer c)(h:o.wp P a w K noQ):o.wpIn (Fd ro) n P a w K Q:=by
  refine⟨fun _ _=>trivial,?_⟩
  show o.uponIn (Fd ro) n P a K Q ((o.semAt ro a.eval).run P w)
  rw [Oper.semAt_eq ro a.eval o hd]
  unfold Oper.wp at h
  generalize (execOp a.eval o).run P w=r at h ⊢
  cases r with
  |ok x w'=>
    cases x with
    |value v=>exact h
    |skip=>exact h
    |defer d=>exact h
    |enter f args=>
      refine⟨(fun h=>by cases h),?_⟩
      refine(callsIn_wide (n:=n-1)).2 (Calls.mono h fun e w'' he=> ?_)
      cases e with
      |returned v=>exact he
      |panicked ch=>exact he.elim
      |outgrown=>obtain⟨_,_,h⟩:=he;exact h.elim
    |row row args=>
      refine⟨(fun h=>by cases h),?_⟩
      intro c cs _
      obtain⟨v,w2,h1,h2⟩:=h c cs
      exact⟨v,w2,h1,(stepsIn_wide (P:=P)).2 h2⟩
    |_=>exact h.elim
  |halt x w'=>cases x<;>first |exact h.elim
def RI(ro:Option Nat)(c:Ctx)(ops:Array Oper)(rest:List Oper)(st:St)(K:Exit→St→Prop):Prop:= ∀ φ a w,Conc c φ st a w→wpListIn (Fd ro) 3 c.P ops (Zmp c K) rest a w
def TI(ro:Option Nat)(c:Ctx)(code:Code)(st:St)(K:Exit→St→Prop):Prop:= ∀ φ a w,Conc c φ st a w→code.wpIn (Fd ro) 3 c.P (Zmp c K) a w
theorem ZtN{c:Ctx}{code:Code}{st:St}{K:Exit→St→Prop}(h:TI none c code st K):T c code st K:=fun φ a w hc=>wpIn_wide.1 (h φ a w hc)
section
variable {ro:Option Nat} {c:Ctx} {ops:Array Oper} {o:Oper} {rest:List Oper} {st:St} {K:Exit→St→Prop}
theorem ZfK(h:K .normal st):RI ro c ops [] st K:=fun φ _ _ hc=>⟨st,φ,h,hc⟩
theorem ZpV{st':St}(he:Ent c st st')(h:RI ro c ops rest st' K):RI ro c ops rest st K:=fun φ a w hc=>let ⟨φ',hc'⟩:=he φ a w hc;h φ' a w hc'
def notDefer:Op→Bool
  | .defer _=>false
  |_=>true
theorem notDefer.spec{o:Oper}(h:notDefer o.op=true): ∀ c,o.op≠ .defer c:=fun c e=>by rw [e] at h;cases h
theorem Zg6(v:AV)(hnd:notDefer o.op=true)(hd:dstLt o.dst c.nt=true)(hv:SVal c ops st o v)(h:RI ro c ops rest (st.puto o.dst v) K):RI ro c ops (o::rest) st K:=by
  intro φ a w hc
  obtain⟨h1,h2⟩:=hv φ a w hc
  unfold wpListIn
  by_cases hw:Region.wanted o (yielded ops a.tmps)=true
  · rw [if_pos hw]
    refine Zsi (notDefer.spec hnd) (Zeu ?_ (fun _ _ _ h=>h) (h1 hw))
    rintro a' w' ⟨u,rfl,hb,hr⟩
    exact h φ _ _ ((hc.below hb).puto hd hr)
  · rw [if_neg hw]
    exact⟨fun _ _=>trivial,h φ _ _ (hc.puto hd (h2 (by simpa using hw)))⟩
theorem Zn3(v:AV)(hp':List (Option Own))(hnd:notDefer o.op=true)(hd:dstLt o.dst c.nt=true)(hv:WVal c ops st o v hp')(h:RI ro c ops rest (St.puto ⟨st.tm,hp'⟩ o.dst v) K):RI ro c ops (o::rest) st K:=by
  intro φ a w hc
  obtain⟨h1,h2⟩:=hv φ a w hc
  unfold wpListIn
  rw [if_pos h1]
  refine Zsi (notDefer.spec hnd) (Zeu ?_ (fun _ _ _ h=>h) h2)
  rintro a' w' ⟨u,φ',rfl,hh,hf,hr⟩
  have hc':Conc c φ' ⟨st.tm,hp'⟩ a w':=⟨hc.size,hc.defers,hh,fun t av ht=>hf _ _ (hc.tm t av ht)⟩
  exact h φ' _ _ (hc'.puto hd hr)
theorem ZgG{id:Nat}{l:List Oper}(h:RI ro c l.toArray l st K):TI ro c (.region id l.toArray false) st K:=fun φ a w hc=>wpIn_region_lit (h φ a w hc)
theorem Zr7{x y:Code}(h:TI ro c x st (Zfi (fun st'=>TI ro c y st' K) K)):TI ro c (.seq x y) st K:=by
  intro φ a w hc
  refine wpIn_seq (wpIn_mono (h φ a w hc) ?_)
  rintro e a' w' ⟨st',φ',hk,hc'⟩
  cases e with
  |normal=>exact hk φ' a' w' hc'
  |exit id=>exact⟨st',φ',hk,hc'⟩
  |goto l=>exact⟨st',φ',hk,hc'⟩
  |ret=>exact⟨st',φ',hk,hc'⟩
  |panic ch=>exact⟨st',φ',hk,hc'⟩
  |outgrown=>exact⟨st',φ',hk,hc'⟩
theorem ZoV{id:Nat}{code:Code}(h:TI ro c code st (ZkJ id K)):TI ro c (.block id code) st K:=by
  intro φ a w hc
  refine wpIn_block (wpIn_mono (h φ a w hc) ?_)
  rintro e a' w' ⟨st',φ',hk,hc'⟩
  cases e with
  |exit id'=>
    simp only [ZkJ] at hk
    simp only [Exit.inBlock]
    by_cases he:id'=id
    · subst he;simp at hk;rw [if_pos rfl];exact⟨st',φ',hk,hc'⟩
    · have:Nat.beq id' id=false:=by
        cases hb:Nat.beq id' id
        · rfl
        · exact absurd (Nat.eq_of_beq_eq_true hb) he
      rw [this] at hk
      rw [if_neg he];exact⟨st',φ',by simpa using hk,hc'⟩
  |normal=>exact⟨st',φ',hk,hc'⟩
  |goto l=>exact⟨st',φ',hk,hc'⟩
  |ret=>exact⟨st',φ',hk,hc'⟩
  |panic ch=>exact⟨st',φ',hk,hc'⟩
  |outgrown=>exact⟨st',φ',hk,hc'⟩
end
def ZpO(P:Program)(gl:Gl)(l:Nat)(rec:Loop)(Bx:Nat)(ds:List AV)(os os':List (Option Own)):Prop:=
  ∀ (A:Nat→Prop) (W:List Nat) (w:World) (φ:Phi) (vals:Array Value),HeapOK ⟨P,0,w,A,W,gl,os.length,φ⟩ φ os w→vals.size=ds.length→
    (∀ i,i<ds.length→RelF P w (Mut A φ os) os.length φ (ds.getD i .any) (vals.getD i undef))→(φ 0).blk=some Bx→(φ 0).mp=false→w.heap[l]?=some (.loop rec)→l∉W→
    YieldAt (Fd none) 2 P l vals w fun e w'=> ∃ v φ',e= .returned v∧HeapOK ⟨P,0,w,A,W,gl,os.length,φ⟩ φ' os' w'∧RelF P w' (Mut A φ' os') os'.length φ' (.bool true) v
theorem YieldAt.mono{F:Fence}{m:Nat}{P:Program}{l:Nat}{args:Array Value}{W:World}{R R':Ending→World→Prop}(h:YieldAt F m P l args W R)(hr: ∀ e w',R e w'→R' e w'):YieldAt F m P l args W R':=
  let ⟨fn,tmps,assign,body,h1,h2⟩:=h;⟨fn,tmps,assign,body,h1,h2.mono hr⟩
section
variable {c:Ctx} {ops:Array Oper} {st:St} {K:Exit→St→Prop} {dst:Option Tmp} {ty:TypeId} {pos:String} {after:Array Edge} {g:Option (Nat×Bool)} {rest:List Oper}
theorem ZoE{P:Program}{w:World}{M:Nat→Prop}{n:Nat}{φ:Phi}{u v:Value}(h:RelF P w M n φ (.lit u) v):v=u:=by
  have:=h φ (fun _ _=>rfl)
  cases this with
  |data h=>cases h;rfl
theorem ZoL{t l Bx:Nat}{rec:Loop}{xs:List Operand}{ts:Array TypeId}{ds:List AV}{os os' hp':List (Option Own)}{o:Own}(hlk:look st.tm t=some (.lit (.func (.yield l) #[] #[])))(ρ:List Nat)
    (ha:ArgsG c st (rwR fun r i=>ρ[i]?=some r) xs ds) (hY:ZpO c.P c.gl l rec Bx ds os os') (hρ:ρ[0]?=some 0) (hrec:c.w0.heap[l]?=some (.loop rec)) (hlW:l∉c.W) (hn0:0<c.n0) (hB1:(c.φ0 0).blk=some Bx) (hB2:(c.φ0 0).n=1) (hB3:(c.φ0 0).mp=false)
    (ho:nth st.hp 0=some o) (ho1:o.es.length=1) (hl:Lend c.P ρ st.hp ρ os) (hnd:ZeZ ρ=true) (hb:Back c.P ρ st.hp.length st.hp os' 0 hp') (hlen:st.hp.length+(os'.length-ρ.length)=hp'.length) (hin:Nat.ble ρ.length os'.length=true)
    (hw: ∀ φ a w,Conc c φ st a w→Region.wanted ⟨dst,.call {callee:= .value (.tmp t),args:=xs.toArray,argTypes:=ts},ty,pos,after,g⟩ (yielded ops a.tmps)=true)
    (hd:dstLt dst c.nt=true) (h:RI none c ops rest (St.puto ⟨st.tm,hp'⟩ dst (.bool true)) K):
    RI none c ops (⟨dst,.call {callee:= .value (.tmp t),args:=xs.toArray,argTypes:=ts},ty,pos,after,g⟩::rest) st K:=by
  intro φ a w hc
  unfold wpListIn
  rw [if_pos (hw φ a w hc)]
  obtain⟨h1,h2⟩:=ha.rel hc
  have hlt:l<c.w0.heap.size:=(Array.getElem?_eq_some_iff.1 hrec).1
  have hlw:w.heap[l]?=some (.loop rec):=(hc.hok.frame l hlt hlW).trans hrec
  have hφ0:(φ 0).blk=some Bx∧(φ 0).mp=false:=by
    have hn:(φ 0).n=1:=by rw [(hc.hok.obj 0 o ho).len,ho1]
    rcases hc.hok.mono 0 hn0 with h |h
    · exact⟨by rw [h.1,hB1],by rw [h.2.2.2.2,hB3]⟩
    · omega
  have key:=Zfx (fun R=>YieldAt (Fd none) 2 c.P l (xs.map a.eval).toArray w R) (fun h k=>YieldAt.mono h k) hc ρ (vals:=(xs.map a.eval).toArray) (res:= .bool true) (res':= .bool true) (ds:=ds) (os:=os) (os':=os') (hp':=hp')
    (fun A W φ1 e1 e2 g1 g2 g3=>hY A W w φ1 _ g1 g2 g3 (by rw [e1 0 0 hρ];exact hφ0.1) (by rw [e1 0 0 hρ];exact hφ0.2) hlw (fun hm=>by
      obtain⟨i,r,hi,hr⟩:=e2 l hm
      obtain⟨_,o1,_,h4,_⟩:=hl.get i r hi
      rcases(hc.hok.owned r o1 l h4 hr).1 with h |h
      · exact hlW h
      · omega)) (by simpa using h1) (fun i hi=>by
      obtain⟨av,e1,e2⟩:=h2 i hi
      exact⟨av,e1,by simpa [Array.getD_eq_getD_getElem?,List.getD_eq_getElem?_getD] using e2⟩) hl hnd hb hlen (.dat rfl) (Nat.le_of_ble_eq_true hin)
  obtain⟨fn,tmps,assign,body,hy,hR⟩:=key
  have hv:a.tmps.getD t undef= .func (.yield l) #[] #[]:=ZoE (hc.tm t _ hlk)
  refine⟨fun _ _=>trivial,?_⟩
  have e:(Oper.semAt none a.eval ⟨dst,.call {callee:= .value (.tmp t),args:=xs.toArray,argTypes:=ts},ty,pos,after,g⟩).run c.P w= .ok (.round l fn tmps assign body) w:=by
    rw [Oper.semAt_none]
    have ev:a.eval (.tmp t)= .func (.yield l) #[] #[]:=hv
    simp [execOp,resolve,ev,Deferred.ofValue,invoke,hy]
  show Oper.uponIn (Fd none) 3 c.P _ a _ _ ((Oper.semAt none a.eval _).run c.P w)
  rw [e]
  refine⟨(fun h=>by cases h),hR.mono ?_⟩
  rintro e w' ⟨v,φ',rfl,g1,g2,g3,_⟩
  have hc':Conc c φ' ⟨st.tm,hp'⟩ a w':=⟨hc.size,hc.defers,g1,fun t av ht=>g2 _ _ (hc.tm t av ht)⟩
  exact h φ' _ _ (hc'.puto hd g3)
end
end Go.Vx

namespace Go.Vx
open Go Go.RowKit
theorem RelD.cellmono{P:Program}{w w':World}{M:Nat→Prop}{av:AV}{v:Value}(h:RelD P w M av v)(hsz:w.heap.size≤w'.heap.size)(hc: ∀ a u,w.cell? a=some u→w'.cell? a=some u):RelD P w' M av v:=by
  induction h with
  |int k n=>exact .int k n
  |bool b=>exact .bool b
  |str s=>exact .str s
  |lit v=>exact .lit v
  |nils=>exact .nils
  |sl0 e a c=>exact .sl0 e a c
  |sl e l b off c us hlt h1 h2 h2' h3 h4 h5 ih=>exact .sl e l b off c us (by omega) h1 h2 h2' h3 (fun i j hi hj=>hc _ _ (h4 i j hi hj)) ih
  |rp cells b base off us hlt h1 h2 h3 ih=>exact .rp cells b base off us (by omega) h1 (fun j hj=>hc _ _ (h2 j hj)) ih
  |agg l vs h1 h2 ih=>exact .agg l vs h1 ih
  |tuple l vs h1 h2 ih=>exact .tuple l vs h1 ih
  |fn f l vs h1 h2 ih=>exact .fn f l vs h1 ih
  |any v=>exact .any v
  |slf e l v h hcc ih=>exact .slf e l v ih hcc
theorem Rel.cellmono{P:Program}{w w':World}{M:Nat→Prop}{φ:Phi}{av:AV}{v:Value}(h:Rel P w M φ av v)(hsz:w.heap.size≤w'.heap.size)(hc: ∀ a u,w.cell? a=some u→w'.cell? a=some u):Rel P w' M φ av v:=by
  induction h with
  |data h=>exact .data (h.cellmono hsz hc)
  |own r n v hv h0 h=>exact .own r n v hv h0 h
  |ptr r n i j v hv h0 h=>exact .ptr r n i j v hv h0 h
  |osl r n j len v hv h0 h=>exact .osl r n j len v hv h0 h
  |agg l vs h1 h2 ih=>exact .agg l vs h1 ih
  |tuple l vs h1 h2 ih=>exact .tuple l vs h1 ih
  |fn f l vs h1 h2 ih=>exact .fn f l vs h1 ih
  |when b av v h1 h2 ih=>exact .when b av v ih h2
  |mref r n v hv h0 h=>exact .mref r n v hv h0 h
  |bptr r n v hv h0 h=>exact .bptr r n v hv h0 h
theorem RelF.cellmono{P:Program}{w w':World}{M:Nat→Prop}{n:Nat}{φ:Phi}{av:AV}{v:Value}(h:RelF P w M n φ av v)(hsz:w.heap.size≤w'.heap.size)(hc: ∀ a u,w.cell? a=some u→w'.cell? a=some u):RelF P w' M n φ av v:=
  fun φ' hφ=>(h φ' hφ).cellmono hsz hc
theorem ZnY{P:Program}{w w':World}{M:Nat→Prop}{n:Nat}{φ:Phi}{r:Nat}{o:Own}(h:HRel P w M n φ r o)(hsz:w.heap.size≤w'.heap.size)(hc: ∀ a u,w.cell? a=some u→w'.cell? a=some u)
    (hb: ∀ b,(φ r).has b→w'.heap[b]?=w.heap[b]?):HRel P w' M n φ r o:=by
  refine⟨h.len,h.sz,h.rows,h.room,h.cap,h.none,fun b hs=>Nat.lt_of_lt_of_le (h.subl b hs) hsz,h.subn,fun b hbk=> ?_⟩
  obtain⟨cs,h1,h2,h3⟩:=h.some b hbk
  exact⟨cs,h1.congr (hb b (.inl hbk)),h2,h3.tr (fun x hs=>hb x (.inr hs)) fun av x hx=>hx.cellmono hsz hc⟩
theorem HeapOK.turn{P:Program}{nt nt' n0:Nat}{w0 w0' w w':World}{A:Nat→Prop}{W:List Nat}{gl:Gl}{φ0 φ:Phi}{hp:List (Option Own)}(h:HeapOK ⟨P,nt,w0,A,W,gl,n0,φ0⟩ φ hp w)
    (h1:w'.os=w0'.os) (h2:w'.tape=w0'.tape) (h3:w'.output=w0'.output) (h0:w0'.heap.size=w0.heap.size) (h4:w0'.heap.size≤w'.heap.size) (h5: ∀ b,b<w0'.heap.size→b∉W→w'.heap[b]?=w0'.heap[b]?)
    (hsz:w.heap.size≤w'.heap.size) (hc: ∀ a u,w.cell? a=some u→w'.cell? a=some u) (hb: ∀ r o b,nth hp r=some o→(φ r).has b→w'.heap[b]?=w.heap[b]?)
    (hg: ∀ b,b<w0.heap.size→w0'.heap[b]?=w0.heap[b]?∨ ∃ o,w0.heap[b]?=some o∧ ∀ x y z,o≠ .cells x y z):HeapOK ⟨P,nt',w0',A,W,gl,n0,φ0⟩ φ hp w' where
  os:=h1
  tape:=h2
  output:=h3
  heap:=h4
  frame:=h5
  owned:=fun r o b hr hbk=>by have:=h.owned r o b hr hbk;simp only at this ⊢;rw [h0];exact this
  apart:=h.apart
  obj:=fun r o hr=>ZnY (h.obj r o hr) hsz hc fun b hbk=>hb r o b hr hbk
  amb:=fun b hA=>by have:=h.amb b hA;simp only at this ⊢;rw [h0];exact this
  glob:=by
    obtain⟨g1,g2,g3⟩:=h.glob
    refine⟨by simp only at g1 ⊢;rw [h0];exact g1,g2,fun p hp=> ?_⟩
    obtain⟨k1,⟨e,fr,k2⟩,k3⟩:=g3 p hp
    refine⟨k1,⟨e,fr,?_⟩,k3⟩
    have hlt:p.1<w0.heap.size:=(Array.getElem?_eq_some_iff.1 k2).1
    rcases hg p.1 hlt with e1 | ⟨o,e1,e2⟩
    · exact e1.trans k2
    · rw [k2] at e1;cases e1;exact(e2 _ _ _ rfl).elim
  len:=h.len
  mono:=h.mono
theorem QC(w:World)(l:Nat)(o:Obj):(w.putObj l o).heap.size=w.heap.size:=by simp [World.putObj]
theorem QY{w:World}{l b:Nat}{o:Obj}(h:b≠l):(w.putObj l o).heap[b]?=w.heap[b]?:=World.putObj_heap_other (fun e=>h e)
theorem ZaY{w:World}{l:Nat}{o o':Obj}(hl:w.heap[l]?=some o)(ho: ∀ x y z,o≠ .cells x y z): ∀ a u,w.cell? a=some u→(w.putObj l o').cell? a=some u:=by
  intro a u h
  by_cases e:a.block=l
  · unfold World.cell? at h
    rw [e,hl] at h
    cases o with
    |cells x y z=>exact(ho _ _ _ rfl).elim
    |_=>cases h
  · rw [←h];exact World.cell?_of_block (QY e)
end Go.Vx

namespace Go.Vx
open Go Go.RowKit
def ZjI{α:Type}(o:Option α):Unit ⊕ α:=match o with
  |none=> .inl ()
  |some x=> .inr x
theorem Zh0{α:Type}{o:Option α}{u:Unit}(h:some (ZjI o)=some (.inl u)):o=none:=by
  cases o with
  |none=>rfl
  |some x=>cases h
theorem Zeq{α:Type}{o:Option α}{x:α}(h:some (ZjI o)=some (.inr x)):o=some x:=by
  cases o with
  |none=>cases h
  |some y=>cases h;rfl
section
variable {c:Ctx} {ops:Array Oper} {st:St} {dst:Option Tmp} {ty:TypeId} {pos:String} {after:Array Edge}
theorem Zkm{w:World}{a:Act}{x:Operand}{t u:Nat}{ad:Option Addr}{n cp:Nat}{ng:Bool}(ht:(match c.P.underlying t with |some (.slice _)=>true |_=>false)=true)(hx:a.eval x= .slice ad n cp):
    (execOp a.eval ⟨dst,.binOp (if ng then .neq else .eql) t x (.const (.slice none 0 0)) u,ty,pos,after,none⟩).run c.P w= .ok (.value (.bool (if ng then !ad.isNone else ad.isNone))) w:=by
  have hu: ∃ e',c.P.underlying t=some (.slice e'):=by
    split at ht
    · rename_i e' hu;exact⟨e',hu⟩
    · cases ht
  obtain⟨e',hu⟩:=hu
  have he:(Op.equal t (.slice ad n cp) (.slice none 0 0)).run c.P w= .ok ad.isNone w:=by
    unfold Op.equal Op.maxDepth
    show(Op.equalIn (9999+1) t _ _).run c.P w=_
    generalize 9999=d
    cases ad with
    |none=>unfold Op.equalIn;rw [Sem.run_bind,run_underlying hu];rfl
    |some b=>unfold Op.equalIn;rw [Sem.run_bind,run_underlying hu];rfl
  cases ng with
  |false=>
    show((do pure (Next.value (←(do eqGuard .eql t x (.const (.slice none 0 0)) (a.eval x) (.slice none 0 0);binOp .eql t (a.eval x) (.slice none 0 0):Sem Value))):Sem Next)).run c.P w=_
    rw [hx]
    have hb:(binOp .eql t (.slice ad n cp) (.slice none 0 0)).run c.P w= .ok (.bool ad.isNone) w:=by
      show((do pure (Value.bool (←Op.equal t (.slice ad n cp) (.slice none 0 0))):Sem Value)).run c.P w=_
      rw [Sem.run_bind,he];rfl
    rw [Sem.run_bind]
    show(((do eqGuard .eql t x (.const (.slice none 0 0)) (.slice ad n cp) (.slice none 0 0);binOp .eql t (.slice ad n cp) (.slice none 0 0):Sem Value)).run c.P w).andThen _=_
    rw [Sem.run_bind]
    have hg:(eqGuard .eql t x (.const (.slice none 0 0)) (.slice ad n cp) (.slice none 0 0)).run c.P w= .ok () w:=rfl
    rw [hg]
    simp only [Result.andThen_ok]
    rw [hb]
    rfl
  |true=>
    show((do pure (Next.value (←(do eqGuard .neq t x (.const (.slice none 0 0)) (a.eval x) (.slice none 0 0);binOp .neq t (a.eval x) (.slice none 0 0):Sem Value))):Sem Next)).run c.P w=_
    rw [hx]
    have hb:(binOp .neq t (.slice ad n cp) (.slice none 0 0)).run c.P w= .ok (.bool (!ad.isNone)) w:=by
      show((do pure (Value.bool (!(←Op.equal t (.slice ad n cp) (.slice none 0 0)))):Sem Value)).run c.P w=_
      rw [Sem.run_bind,he];rfl
    rw [Sem.run_bind]
    show(((do eqGuard .neq t x (.const (.slice none 0 0)) (.slice ad n cp) (.slice none 0 0);binOp .neq t (.slice ad n cp) (.slice none 0 0):Sem Value)).run c.P w).andThen _=_
    rw [Sem.run_bind]
    have hg:(eqGuard .neq t x (.const (.slice none 0 0)) (.slice ad n cp) (.slice none 0 0)).run c.P w= .ok () w:=rfl
    rw [hg]
    simp only [Result.andThen_ok]
    rw [hb]
    rfl
theorem ZpJ{ng:Bool}{x:Operand}{t u:Nat}(h:Opv c st x .nils)(ht:(match c.P.underlying t with |some (.slice _)=>true |_=>false)=true):
    SVal c ops st ⟨dst,.binOp (if ng then .neq else .eql) t x (.const (.slice none 0 0)) u,ty,pos,after,none⟩ (.bool (!ng)):=
  .pure rfl fun φ a w hc=>by
    have hx:a.eval x= .slice none 0 0:=by
      have:=h φ a w hc φ (fun _ _=>rfl)
      generalize a.eval x=v at this
      cases this with
      |data h=>cases h;rfl
    refine⟨.bool (!ng),?_,Zz (.bool _)⟩
    rw [Zkm ht hx]
    cases ng<;>rfl
theorem ZpQ{ng:Bool}{x:Operand}{t u r n:Nat}{o:Own}(h:Opv c st x (.own r n))(ht:(match c.P.underlying t with |some (.slice _)=>true |_=>false)=true)(ho:nth st.hp r=some o)(hn:o.es.length=n){z:Unit}(hz:ck (decide (0<n))=some z):
    SVal c ops st ⟨dst,.binOp (if ng then .neq else .eql) t x (.const (.slice none 0 0)) u,ty,pos,after,none⟩ (.bool ng):=
  .pure rfl fun φ a w hc=>by
    have hO:=hc.hok.obj r o ho
    have hx:=Za7 (h φ a w hc) (by rw [hO.len];exact hn)
    have hpos:0<n:=by
      unfold ck at hz
      split at hz
      · rename_i h;simpa using h
      · cases hz
    have hb:(φ r).blk≠none:=fun e=>by
      have:=(hO.none e).1
      rw [this] at hn;simp at hn;omega
    refine⟨.bool ng,?_,Zz (.bool _)⟩
    rw [Zkm ht hx]
    cases hq:(φ r).blk with
    |none=>exact(hb hq).elim
    |some b=>cases ng<;>rfl
end
end Go.Vx

namespace Go.Vx
open Go Go.RowKit
def ZiV(rec:Loop)(vals:Array Value):Array Value:=(rec.params.zip vals).foldl (fun t (p,v)=>t.setIfInBounds p v) rec.tmps
theorem Zlf{ro:Option Nat}{n m:Nat}{P:Program}{c:Code}{Q:Exit→Act→World→Prop}{a:Act}{w:World}(h:c.wpIn (Fd ro) n P Q a w):c.wpIn (Fd ro) m P Q a w:=fun b k cs h1 h2 _=>h b k cs h1 h2 (fun d hd=>by cases hd)
theorem Znt(ps:List (Tmp×Value))(t:Array Value):(ps.foldl (fun t (p,v)=>t.setIfInBounds p v) t).size=t.size:=by
  induction ps generalizing t with
  |nil=>rfl
  |cons p ps ih=>simp [ih]
theorem ZlX(rec:Loop)(vals:Array Value):(ZiV rec vals).size=rec.tmps.size:=by
  unfold ZiV
  rw [←Array.foldl_toList]
  exact Znt _ _
theorem ZtU{P:Program}{gl:Gl}{l Bx nt:Nat}{rec:Loop}{ds:List AV}{os os':List (Option Own)}{tm:List (Nat×AV)}{st1:St}(hst:rec.state= .ready)(hpe:rec.pending=none)(hps:rec.params.size=ds.length)
    (hnt:rec.tmps.size=nt)
    (htm: ∀ A w φ vals,vals.size=ds.length→(∀ i,i<ds.length→RelF P w (Mut A φ os) os.length φ (ds.getD i .any) (vals.getD i undef))→(∃ W,HeapOK ⟨P,0,w,A,W,gl,os.length,φ⟩ φ os w)→(φ 0).blk=some Bx→(φ 0).mp=false→
      ∀ t av,look tm t=some av→RelF P w (Mut A φ os) os.length φ av ((ZiV rec vals).getD t undef))
    (hA: ∀ w0 A W φ0,TI (some l) ⟨P,nt,w0,A,W,gl,os.length,φ0⟩ rec.assign ⟨tm,os⟩ (fun e st=>e= .normal∧st=st1))
    (hT: ∀ w0 A W φ0,TI (some l) ⟨P,nt,w0,A,W,gl,os.length,φ0⟩ rec.body st1 (fun e st=>e= .normal∧st.hp=os')):ZpO P gl l rec Bx ds os os':=by
  intro A W w φ vals hok hsz hv hBx hmp hl hlW
  have hlt:l<w.heap.size:=(Array.getElem?_eq_some_iff.1 hl).1
  refine⟨rec.fn,_,rec.assign,rec.body,run_yield hl (by rw [hsz,hps]),roundIn_of_wpIn trivial ?_⟩
  have hconc:Conc ⟨P,nt,w,A,W,gl,os.length,φ⟩ φ ⟨tm,os⟩ {tmps:=ZiV rec vals,defers:= []} w:=
    ⟨by rw [ZlX];exact hnt,rfl,⟨hok.os,hok.tape,hok.output,hok.heap,hok.frame,hok.owned,hok.apart,hok.obj,hok.amb,hok.glob,hok.len,hok.mono⟩,fun t av ht=>htm A w φ vals hsz hv ⟨W,hok⟩ hBx hmp t av ht⟩
  refine wpIn_mono (Zlf (hA w A W φ φ _ _ hconc)) ?_
  rintro e a1 w1 ⟨st',φ1,⟨rfl,rfl⟩,hc1⟩
  have hne: ∀ x y z,Obj.loop rec≠ .cells x y z:=fun _ _ _ h=>by cases h
  have hl1:w1.heap[l]?=some (.loop rec):=(hc1.hok.frame l hlt hlW).trans hl
  have hlt1:l<w1.heap.size:=(Array.getElem?_eq_some_iff.1 hl1).1
  refine⟨w1.putObj l (.loop {rec with state:= .busy}),run_beginRound hl1 hst,?_⟩
  have hno: ∀ r o b,nth st'.hp r=some o→(φ1 r).has b→b≠l:=fun r o b hr hb e=>by
    have:=(hc1.hok.owned r o b hr hb).1
    rw [e] at this
    rcases this with h |h
    · exact hlW h
    · simp only at h;omega
  have hh1:=hc1.hok
  have hok2:HeapOK ⟨P,nt,w.putObj l (.loop {rec with state:= .busy}),A,W,gl,os.length,φ⟩ φ1 st'.hp (w1.putObj l (.loop {rec with state:= .busy})):=
    hh1.turn hh1.os hh1.tape hh1.output (QC ..) (by rw [QC,QC];exact hh1.heap) (fun b hb hbW=>by
      rw [QC] at hb
      by_cases e:b=l
      · subst e;rw [World.putObj_heap_same hlt1,World.putObj_heap_same hlt]
      · rw [QY e,QY e];exact hh1.frame b hb hbW) (by rw [QC];exact Nat.le_refl _) (ZaY hl1 hne) (fun r o b hr hb=>QY (hno r o b hr hb)) (fun b hb=>by
      by_cases e:b=l
      · exact .inr ⟨_,e▸hl,hne⟩
      · exact .inl (QY e))
  have hconc2:Conc ⟨P,nt,w.putObj l (.loop {rec with state:= .busy}),A,W,gl,os.length,φ⟩ φ1 st' a1 (w1.putObj l (.loop {rec with state:= .busy})):=
    ⟨hc1.size,hc1.defers,hok2,fun t av ht=>(hc1.tm t av ht).cellmono (by rw [QC];exact Nat.le_refl _) (ZaY hl1 hne)⟩
  refine wpIn_mono (Zlf (hT _ A W φ φ1 _ _ hconc2)) ?_
  rintro e a' w3 ⟨st2,φ',⟨rfl,rfl⟩,hc'⟩
  have hl2:(w.putObj l (.loop {rec with state:= .busy})).heap[l]?=some (.loop {rec with state:= .busy}):=World.putObj_heap_same hlt
  have hl3:w3.heap[l]?=some (.loop {rec with state:= .busy}):=(hc'.hok.frame l (by show l<(w.putObj l _).heap.size;rw [QC];exact hlt) hlW).trans hl2
  have hlt3:l<w3.heap.size:=(Array.getElem?_eq_some_iff.1 hl3).1
  have hend:=run_endRound (P:=P) none hl3
  have hrec:({{rec with state:=LoopState.busy} with state:=if(none:Option Code).isNone then .ready else .done,pending:=none}:Loop)=rec:=by
    obtain⟨s,p,a1,a2,a3,a4,a5,a6⟩:=rec
    simp only at hst hpe
    subst hst;subst hpe;rfl
  rw [hrec] at hend
  refine⟨_,_,hend,.bool true,φ',rfl,?_,Zz (.bool _)⟩
  have hne3: ∀ x y z,Obj.loop {rec with state:= .busy}≠ .cells x y z:=fun _ _ _ h=>by cases h
  have hh:=hc'.hok
  refine hh.turn hh.os hh.tape hh.output (by rw [QC]) (by rw [QC];have:=hh.heap;simp only [QC] at this;exact this) (fun b hb hbW=> ?_) (by rw [QC];exact Nat.le_refl _) (ZaY hl3 hne3) (fun r o b hr hb=>QY fun e=> ?_) (fun b hb=> ?_)
  · by_cases e:b=l
    · subst e;rw [World.putObj_heap_same hlt3,hl]
    · rw [QY e,hh.frame b (by show b<(w.putObj l _).heap.size;rw [QC];exact hb) hbW]
      exact QY e
  · have:=(hh.owned r o b hr hb).1
    rw [e] at this
    rcases this with h |h
    · exact hlW h
    · simp only [QC] at h;omega
  · by_cases e:b=l
    · subst e;exact .inr ⟨_,hl2,hne3⟩
    · exact .inl (QY e).symm
def Zm9(P:Program)(gl:Gl)(gf l:Nat)(rec:Loop)(Bx:Nat)(args:List AV)(os os':List (Option Own)):Prop:=
  ∀ (A:Nat→Prop) (W:List Nat) (w:World) (φ:Phi) (vals:Array Value),HeapOK ⟨P,0,w,A,W,gl,os.length,φ⟩ φ os w→vals.size=args.length→
    (∀ i,i<args.length→RelF P w (Mut A φ os) os.length φ (args.getD i .any) (vals.getD i undef))→(φ 0).blk=some Bx→(φ 0).mp=false→w.heap[l]?=some (.loop rec)→l∉W→
    Calls P gf vals w fun e w'=> ∃ v φ',e= .returned v∧HeapOK ⟨P,0,w,A,W,gl,os.length,φ⟩ φ' os' w'∧RelF P w' (Mut A φ' os') os'.length φ' (.tuple []) v
theorem ZtI{P:Program}{gl:Gl}{f l Bx:Nat}{rec:Loop}{fn:Func}{code:Code}{args:List AV}{os os':List (Option Own)}{o:Own}(hf:P.funcs[f]?=some fn)(hb:fn.body=some code)(ho:nth os 0=some o)(ho1:o.es.length=1)
    (hlen:Nat.ble args.length fn.ntmps=true)
    (hT: ∀ w0 A W φ0,w0.heap[l]?=some (.loop rec)→l∉W→(φ0 0).blk=some Bx→(φ0 0).n=1→(φ0 0).mp=false→T ⟨P,fn.ntmps,w0,A,W,gl,os.length,φ0⟩ code ⟨Zfa 0 args,os⟩ (ZnQ ⟨P,fn.ntmps,w0,A,W,gl,os.length,φ0⟩ fn.results (.tuple []) os')):Zm9 P gl f l rec Bx args os os':=by
  intro A W w φ vals hok hsz hv hBx hmp hl hlW
  have hlen:args.length≤fn.ntmps:=by simpa using hlen
  refine calls_of_wp hf hb ?_
  have hconc:Conc ⟨P,fn.ntmps,w,A,W,gl,os.length,φ⟩ φ ⟨Zfa 0 args,os⟩ {tmps:=vals++Array.replicate (fn.ntmps-vals.size) undef,defers:= []} w:=by
    refine⟨by simp;omega,rfl,⟨hok.os,hok.tape,hok.output,hok.heap,hok.frame,hok.owned,hok.apart,hok.obj,hok.amb,hok.glob,hok.len,hok.mono⟩,?_⟩
    intro t av ht
    obtain⟨_,h2,h3⟩:=Ze8 ht
    simp only [Nat.sub_zero] at h2 h3
    have:=hv t h2
    rw [h3] at this
    have e:(vals++Array.replicate (fn.ntmps-vals.size) undef).getD t undef=vals.getD t undef:=by
      simp [Array.getD_eq_getD_getElem?,Array.getElem?_append,show t<vals.size by omega]
    rw [e]
    exact this
  refine wp_mono (hT w A W φ hl hlW hBx (by rw [(hok.obj 0 o ho).len,ho1]) hmp _ _ _ hconc) ?_
  rintro e a' w' ⟨st',φ',hk,hc'⟩
  have fin:ZnQ ⟨P,fn.ntmps,w,A,W,gl,os.length,φ⟩ fn.results (.tuple []) os' .ret st'→a'.defers= []∧ ∃ v,(results fn a'.tmps).run P w'= .ok v w'∧
      (∃ v' φ',Ending.returned v= .returned v'∧HeapOK ⟨P,0,w,A,W,gl,os.length,φ⟩ φ' os' w'∧RelF P w' (Mut A φ' os') os'.length φ' (.tuple []) v'):=by
    rintro⟨s,rs',ds,h2,h4,h5,h6,h7,h8⟩
    obtain⟨v,e1,e2⟩:=h4.sound h2 hc'
    obtain⟨φ2,hok,hren⟩:=Zjq hc' s h5 h6 h7
    exact⟨hc'.defers,v,e1,v,φ2,rfl,⟨hok.os,hok.tape,hok.output,hok.heap,hok.frame,hok.owned,hok.apart,hok.obj,hok.amb,hok.glob,hok.len,hok.mono⟩,hren _ _ _ h8 e2⟩
  cases e with
  |ret=>exact fin hk
  |normal=>exact fin hk
  |exit id=>exact hk.elim
  |goto l=>exact hk.elim
  |panic ch=>exact hk.elim
  |outgrown=>exact hk.elim
theorem ZpP{P:Program}{w:World}{M:Nat→Prop}{n:Nat}{φ:Phi}{f:FuncId}{l:List AV}{v:Value}(h:RelF P w M n φ (.fn f l) v): ∃ vs:Array Value,v= .func (.func f) #[] vs∧l.length=vs.size∧ ∀ i,i<l.length→RelF P w M n φ (l.getD i .any) (vs.getD i undef):=by
  have h0:=h φ (fun _ _=>rfl)
  cases h0 with
  |data h0=>
    cases h0 with
    |fn _ _ vs h1 h2=>exact⟨vs,rfl,h1,fun i hi=>Zz (h2 i hi)⟩
  |fn _ _ vs h1 _=>
    refine⟨vs,rfl,h1,fun i hi ψ hψ=> ?_⟩
    have:=h ψ hψ
    cases this with
    |data h0=>cases h0 with |fn _ _ _ _ h2=>exact .data (h2 i hi)
    |fn _ _ _ _ h2=>exact h2 i hi
theorem Zpl{c:Ctx}{φ:Phi}{st:St}{a:Act}{w:World}(hc:Conc c φ st a w){tg gf Bx n:Nat}{caps:List AV}{ps:Array Tmp}{assign body:Code}{Q:Exit→Act→World→Prop}{os os' hp':List (Option Own)}(ρ:List Nat)
    (hg:look st.tm tg=some (.fn gf caps)) (hgc:callable c.P gf=true) (hd:caps.all datB=true)
    (hI: ∀ fn,Zm9 c.P c.gl gf (w.heap.size+1) {state:= .ready,pending:=none,fn,tmps:=a.tmps,params:=ps,assign,body,defers:=w.heap.size} Bx (.lit (.func (.yield (w.heap.size+1)) #[] #[])::caps) os os')
    (hρ:ρ[0]?=some 0) (hBx:(φ 0).blk=some Bx) (hmp:(φ 0).mp=false)
    (hl:Lend c.P ρ st.hp ρ os) (hnd:ZeZ ρ=true) (hb:Back c.P ρ st.hp.length st.hp os' 0 hp') (hlen:st.hp.length+(os'.length-ρ.length)=hp'.length) (hin:Nat.ble ρ.length os'.length=true)
    (hQ: ∀ φ' w' D,Conc c φ' ⟨st.tm,hp'⟩ a w'→w'.heap[D]?=some (.deferred (some []))→c.w0.heap.size≤D→(∀ r o,nth hp' r=some o→ ¬(φ' r).has D)→Q .normal {a with defers:= [{target:= .collected D,args:= #[]}]} w'):
    (Code.rangeFunc (.tmp tg) ps assign body).wpIn (Fd none) n c.P Q a w:=by
  refine wpIn_rangeFunc ?_
  intro fn _
  obtain⟨rec,hrec⟩: ∃ rec:Loop,rec={state:= .ready,pending:=none,fn,tmps:=a.tmps,params:=ps,assign,body,defers:=w.heap.size}:=⟨_,rfl⟩
  obtain⟨w1,hw1⟩: ∃ w1,(w.alloc (.deferred (some []))).alloc (.loop rec)=w1:=⟨_,rfl⟩
  have hL1:w1.heap[w.heap.size+1]?=some (.loop rec):=by
    rw [←hw1];have:=World.alloc_heap_new (w.alloc (.deferred (some []))) (.loop rec);rwa [World.size_alloc] at this
  have hK1:w1.heap[w.heap.size]?=some (.deferred (some [])):=by
    rw [←hw1];exact(Below.heap_alloc _ _ _ (by simp)).trans (World.alloc_heap_new w _)
  have hb1:Below w.heap.size w w1:=by
    rw [←hw1];exact((Below.refl _ w).alloc (Nat.le_refl _) _).alloc (by simp) _
  have hc1:=hc.below hb1
  have hsz1:w1.heap.size=w.heap.size+2:=by rw [←hw1];simp
  obtain⟨vs,hv1,hv2,hv3⟩:=ZpP (hc1.tm tg _ hg)
  have hnot: ∀ b,w.heap.size≤b→ ∀ r o,nth st.hp r=some o→ ¬(φ r).has b:=fun b hb r o hr hh=>by
    have:=(hc.hok.obj r o hr).has_lt hh;omega
  have ev:a.eval (.tmp tg)= .func (.func gf) #[] vs:=hv1
  refine⟨w.heap.size+1,[{target:= .collected w.heap.size,args:= #[]}],w1,{target:= .fn (.func gf) vs,args:= #[.func (.yield (w.heap.size+1)) #[] #[]]},w1,gf,
    #[.func (.yield (w.heap.size+1)) #[] #[]]++vs,w1,?_,?_,fun _ _=>trivial,?_,(fun h=>by cases h),?_⟩
  · rw [←hw1,hrec];exact run_enterLoop_outer _ _ _ _ _
  · simp only [resolve,rangeCall]
    rw [show a.eval (.tmp tg)= .func (.func gf) #[] vs from hv1]
    simp [Deferred.ofValue];rfl
  · simp only [invoke]
    exact Zbc hgc _ _
  · have hI':=hI fn
    rw [←hrec] at hI'
    obtain⟨vals,hvals⟩: ∃ vals:Array Value,#[Value.func (.yield (w.heap.size+1)) #[] #[]]++vs=vals:=⟨_,rfl⟩
    have hvsz:vals.size=caps.length+1:=by rw [←hvals];simp;omega
    have hv0:vals.getD 0 undef= .func (.yield (w.heap.size+1)) #[] #[]:=by rw [←hvals];simp [Array.getD_eq_getD_getElem?,Array.getElem?_append]
    have hvS: ∀ i,vals.getD (i+1) undef=vs.getD i undef:=fun i=>by rw [←hvals];simp [Array.getD_eq_getD_getElem?,Array.getElem?_append]
    have ha: ∀ i,i<(AV.lit (.func (.yield (w.heap.size+1)) #[] #[])::caps).length→ ∃ av,RenR (rwR fun r i=>ρ[i]?=some r) av ((AV.lit (.func (.yield (w.heap.size+1)) #[] #[])::caps).getD i .any)∧RelF c.P w1 (Mut c.A φ st.hp) st.hp.length φ av (vals.getD i undef):=fun i hi=>by
      cases i with
      |zero=>exact⟨_,.dat rfl,by rw [hv0];exact Zz (.lit _)⟩
      |succ i=>
        have hi':i<caps.length:=by simpa using hi
        refine⟨caps.getD i .any,.dat ?_,by rw [hvS];exact hv3 i hi'⟩
        rw [List.all_eq_true] at hd
        exact hd _ (by rw [List.getD_eq_getElem?_getD,List.getElem?_eq_getElem hi'];exact List.getElem_mem _)
    have hs: ∀ (A:Nat→Prop) (W:List Nat) (φ1:Phi),(∀ i r,ρ[i]?=some r→φ1 i=φ r)→(∀ b,b∈W→ ∃ i r:Nat,ρ[i]?=some r∧(φ r).has b)→HeapOK ⟨c.P,0,w1,A,W,c.gl,os.length,φ1⟩ φ1 os w1→vals.size=(AV.lit (.func (.yield (w.heap.size+1)) #[] #[])::caps).length→
        (∀ i,i<(AV.lit (.func (.yield (w.heap.size+1)) #[] #[])::caps).length→RelF c.P w1 (Mut A φ1 os) os.length φ1 ((AV.lit (.func (.yield (w.heap.size+1)) #[] #[])::caps).getD i .any) (vals.getD i undef))→
        Calls c.P gf vals w1 fun e w'=> ∃ v φ',e= .returned v∧HeapOK ⟨c.P,0,w1,A,W,c.gl,os.length,φ1⟩ φ' os' w'∧RelF c.P w' (Mut A φ' os') os'.length φ' (.tuple []) v:=fun A W φ1 e1 e2 g1 g2 g3=>by
      refine hI' A W w1 φ1 vals g1 g2 g3 (by rw [e1 0 0 hρ];exact hBx) (by rw [e1 0 0 hρ];exact hmp) hL1 (fun hm=> ?_)
      obtain⟨i,r,hi,hr⟩:=e2 _ hm
      obtain⟨_,o1,_,h4,_⟩:=hl.get i r hi
      exact hnot _ (by omega) r o1 h4 hr
    have key:=Zfx (fun R=>Calls c.P gf vals w1 R) (fun h k=>Calls.mono h k) hc1 ρ hs (by rw [hvsz];simp) ha hl hnd hb hlen (ZbA (rld rfl)) (Nat.le_of_ble_eq_true hin)
    rw [hvals]
    refine(callsIn_wide (n:=n-1)).2 (Calls.mono key ?_)
    rintro e w' ⟨v,φ',rfl,g1,g2,g3,g4⟩
    obtain⟨e1,e2⟩:=g4 (w.heap.size+1) (by omega) (hnot _ (by omega))
    obtain⟨e3,e4⟩:=g4 w.heap.size (by omega) (hnot _ (by omega))
    have hl':=e1.trans hL1
    have hD':=e3.trans hK1
    have hend:=run_endLoop (P:=c.P) hl' (by rw [hrec];simp)
    rw [hrec] at hend
    refine⟨none,_,hend,?_⟩
    rw [←hrec]
    have hne: ∀ x y z,Obj.loop rec≠ .cells x y z:=fun _ _ _ h=>by cases h
    have hw0:c.w0.heap.size≤w.heap.size:=hc.hok.heap
    have hcc:Conc c φ' ⟨st.tm,hp'⟩ a (w'.putObj (w.heap.size+1) (.loop {rec with state:= .exhausted})):=by
      refine⟨hc.size,hc.defers,?_,fun t av ht=>(g2 _ _ (hc1.tm t av ht)).cellmono (by rw [QC];exact Nat.le_refl _) (ZaY hl' hne)⟩
      refine g1.turn g1.os g1.tape g1.output rfl (by rw [QC];exact g1.heap) (fun b hb hbW=> ?_) (by rw [QC];exact Nat.le_refl _) (ZaY hl' hne) (fun r o b hr hb=>QY fun e=> ?_) (fun _ _=> .inl rfl)
      · rw [QY (by omega)];exact g1.frame b hb hbW
      · subst e;exact e2 r o hr hb
    have:=hQ φ' _ w.heap.size hcc (by rw [QY (by omega)];exact hD') hw0 e4
    have hdf:a.defers= []:=hc.defers
    simpa [hdf] using this
end Go.Vx

namespace Go.Vx
open Go Go.RowKit
section
variable {ro:Option Nat} {c:Ctx} {ops:Array Oper} {rest:List Oper} {st:St} {K:Exit→St→Prop} {dst:Option Tmp} {op:Op} {ty:TypeId} {pos:String} {after:Array Edge} {j d:Nat} {want b:Bool}
theorem ZpI{d:Nat}{b b':Bool}(hl:look st.tm d=some (.bool b))(hb:b=b')(h:RI ro c ops rest ⟨(d,.bool b')::st.tm,st.hp⟩ K):RI ro c ops rest st K:=by
  subst hb
  refine fun φ a w hc=>h φ a w ⟨hc.size,hc.defers,hc.hok,fun t av ht=> ?_⟩
  simp only [look] at ht
  split at ht
  · rename_i he
    have he:=Nat.eq_of_beq_eq_true he
    subst he
    cases ht
    exact hc.tm d _ hl
  · exact hc.tm t av ht
theorem Zng(v:AV)(hnd:notDefer op=true)(hj:(ops[j]?).bind (·.dst)=some d)(hd:Nat.blt d c.nt=true)(hl:look st.tm d=some (.bool want))(hdl:dstLt dst c.nt=true)(hv:SVal c ops st ⟨dst,op,ty,pos,after,none⟩ v)
    (h:RI ro c ops rest (st.puto dst v) K):RI ro c ops (⟨dst,op,ty,pos,after,some (j,want)⟩::rest) st K:=by
  intro φ a w hc
  obtain⟨h1,_⟩:=hv φ a w hc
  have h2:=h1 rfl
  unfold wpListIn
  rw [if_pos (by rw [ZhZ hc hj hd hl];simp)]
  rw [←Zja (g:=some (j,want))] at h2
  refine Zsi (notDefer.spec (o:=⟨dst,op,ty,pos,after,some (j,want)⟩) hnd) (Zeu ?_ (fun _ _ _ h=>h) h2)
  rintro a' w' ⟨u,rfl,hb,hr⟩
  exact h φ _ _ ((hc.below hb).puto hdl hr)
theorem Zfr(hj:(ops[j]?).bind (·.dst)=some d)(hd:Nat.blt d c.nt=true)(hl:look st.tm d=some (.bool b))(hb:(b==want)=false)(hdl:dstLt dst c.nt=true)(h:RI ro c ops rest (st.puto dst .any) K):RI ro c ops (⟨dst,op,ty,pos,after,some (j,want)⟩::rest) st K:=by
  intro φ a w hc
  unfold wpListIn
  rw [if_neg (by rw [ZhZ hc hj hd hl,hb];simp)]
  exact⟨fun _ _=>trivial,h φ _ _ (hc.puto hdl (fun _ _=> .data (.any _)))⟩
theorem ZmH{φ:Phi}{a:Act}{w:World}(hj:(ops[j]?).bind (·.dst)=some d)(hd:Nat.blt d c.nt=true)(hl:look st.tm d=some (.bool want))(hc:Conc c φ st a w):Region.wanted ⟨dst,op,ty,pos,after,some (j,want)⟩ (yielded ops a.tmps)=true:=by
  rw [ZhZ hc hj hd hl];simp
theorem Zqk{x y z:Operand}{v:AV}(h:Opv c st x (.bool true))(hy:Opv c st y v):SVal c ops st ⟨dst,.pick x y z,ty,pos,after,none⟩ v:=
  .pure rfl fun φ a w hc=>by
    have hx:a.eval x= .bool true:=ZdJ (h φ a w hc)
    refine⟨a.eval y,?_,hy φ a w hc⟩
    show((do pure (Next.value (if←asBool (a.eval x) then a.eval y else a.eval z)):Sem Next)).run c.P w=_
    rw [hx];rfl
theorem ZqI{x y z:Operand}{v:AV}(h:Opv c st x (.bool false))(hz:Opv c st z v):SVal c ops st ⟨dst,.pick x y z,ty,pos,after,none⟩ v:=
  .pure rfl fun φ a w hc=>by
    have hx:a.eval x= .bool false:=ZdJ (h φ a w hc)
    refine⟨a.eval z,?_,hz φ a w hc⟩
    show((do pure (Next.value (if←asBool (a.eval x) then a.eval y else a.eval z)):Sem Next)).run c.P w=_
    rw [hx];rfl
end
def PI(c:Ctx)(code:Code)(st:St)(Q:Exit→Act→World→Prop):Prop:= ∀ φ a w,Conc c φ st a w→code.wpIn (Fd none) 3 c.P Q a w
theorem Zkr{c:Ctx}{x y:Code}{st:St}{Q:Exit→Act→World→Prop}(h:TI none c x st (Zfi (fun st'=>PI c y st' Q) fun _ _=>False)):PI c (.seq x y) st Q:=by
  intro φ a w hc
  refine wpIn_seq (wpIn_mono (h φ a w hc) ?_)
  rintro e a' w' ⟨st',φ',hk,hc'⟩
  cases e with
  |normal=>exact hk φ' a' w' hc'
  |exit id=>exact hk.elim
  |goto l=>exact hk.elim
  |ret=>exact hk.elim
  |panic ch=>exact hk.elim
  |outgrown=>exact hk.elim
theorem Zr4{c:Ctx}{x y:Code}{st:St}{Q:Exit→Act→World→Prop}(h:PI c x st (Exit.then (fun a w=>y.wpIn (Fd none) 3 c.P Q a w) Q)):PI c (.seq x y) st Q:=fun φ a w hc=>wpIn_seq (h φ a w hc)
def Mk(D:Nat):List Deferred:= [{target:= .collected D,args:= #[]}]
def DOk(D:Nat)(st:St)(φ:Phi)(w:World)(w0:World):Prop:=w.heap[D]?=some (.deferred (some []))∧w0.heap.size≤D∧ ∀ r o,nth st.hp r=some o→ ¬(φ r).has D
def DI(c:Ctx)(code:Code)(st:St)(Q:Exit→Act→World→Prop):Prop:= ∀ D φ a w,Conc c φ st a w→DOk D st φ w c.w0→code.wpIn (Fd none) 3 c.P Q {a with defers:=Mk D} w
def RD(c:Ctx)(ops:Array Oper)(rest:List Oper)(st:St)(Q:Exit→Act→World→Prop):Prop:= ∀ D φ a w,Conc c φ st a w→DOk D st φ w c.w0→wpListIn (Fd none) 3 c.P ops Q rest {a with defers:=Mk D} w
theorem ZrF{c:Ctx}{id:Nat}{l:List Oper}{y:Code}{st:St}{Q:Exit→Act→World→Prop}(h:RD c l.toArray l st (Exit.then (fun a w=>y.wpIn (Fd none) 3 c.P Q a w) Q)):DI c (.seq (.region id l.toArray false) y) st Q:=fun D φ a w hc hD=>wpIn_seq (wpIn_region_lit (h D φ a w hc hD))
theorem ZrQ{c:Ctx}{ops:Array Oper}{st:St}{y:Code}{Q:Exit→Act→World→Prop}(h:DI c y st Q):RD c ops [] st (Exit.then (fun a w=>y.wpIn (Fd none) 3 c.P Q a w) Q):=fun D φ a w hc hD=>h D φ a w hc hD
theorem opD{n:Nat}{P:Program}{o:Oper}{a:Act}{w:World}{X:Value→World→Prop}{K:Act→World→Prop}{Q:Exit→Act→World→Prop}{d:List Deferred}(hd: ∀ c,o.op≠ .defer c)(h:o.wp P a w (fun a' w'=> ∃ u,a'=a.put o.dst u∧X u w') noQ)
    (hK: ∀ u w',X u w'→K {a.put o.dst u with defers:=d} w'):o.wpIn (Fd none) n P {a with defers:=d} w K Q:=by
  have hput: ∀ u v:Value,a.put o.dst u=a.put o.dst v→({a with defers:=d}:Act).put o.dst u={a.put o.dst v with defers:=d}:=fun u v e=>by
    have e2:({a with defers:=d}:Act).put o.dst u={a.put o.dst u with defers:=d}:=by cases o.dst<;>rfl
    rw [e2,e]
  refine⟨fun _ _=>trivial,?_⟩
  show o.uponIn (Fd none) n P _ K Q ((o.semAt none _).run P w)
  rw [Oper.semAt_none]
  unfold Oper.wp at h
  show o.uponIn (Fd none) n P _ K Q ((execOp a.eval o).run P w)
  generalize (execOp a.eval o).run P w=r at h ⊢
  cases r with
  |ok x w'=>
    cases x with
    |value v=>obtain⟨u,h1,h2⟩:=h;show K _ _;rw [hput v u h1];exact hK u _ h2
    |skip=>obtain⟨u,h1,h2⟩:=h;show K _ _;rw [hput undef u h1];exact hK u _ h2
    |defer dd=>
      obtain⟨u,h1,h2⟩:=h
      exfalso
      have e1:({a with defers:=dd::a.defers}.put o.dst undef:Act).defers=dd::a.defers:=by cases o.dst<;>rfl
      have e2:(a.put o.dst u).defers=a.defers:=by cases o.dst<;>rfl
      have e3:({a with defers:=dd::a.defers}.put o.dst undef:Act).defers.length=(a.put o.dst u).defers.length:=congrArg (fun x:Act=>x.defers.length) h1
      rw [e1,e2] at e3
      simp at e3
    |enter f args=>
      refine⟨(fun h=>by cases h),?_⟩
      refine(callsIn_wide (n:=n-1)).2 (Calls.mono h fun e w'' he=> ?_)
      cases e with
      |returned v=>obtain⟨u,h1,h2⟩:=he;show K _ _;rw [hput v u h1];exact hK u _ h2
      |panicked ch=>exact he.elim
      |outgrown=>obtain⟨_,_,h⟩:=he;exact h.elim
    |row row args=>
      refine⟨(fun h=>by cases h),?_⟩
      intro c cs _
      obtain⟨v,w2,⟨u,h1,h3⟩,h2⟩:=h c cs
      exact⟨v,w2,by show K _ _;rw [hput v u h1];exact hK u _ h3,(stepsIn_wide (P:=P)).2 h2⟩
    |_=>exact h.elim
  |halt x w'=>cases x<;>first |exact h.elim
theorem Ztl{c:Ctx}{ops:Array Oper}{o:Oper}{rest:List Oper}{st:St}{Q:Exit→Act→World→Prop}(v:AV)(hnd:notDefer o.op=true)(hg:o.guard=none)(hd:dstLt o.dst c.nt=true)(hv:SVal c ops st o v)(h:RD c ops rest (st.puto o.dst v) Q):RD c ops (o::rest) st Q:=by
  intro D φ a w hc hD
  obtain⟨h1,_⟩:=hv φ a w hc
  have hw:Region.wanted o (yielded ops a.tmps)=true:=Zb4 hg
  unfold wpListIn
  rw [if_pos (show Region.wanted o (yielded ops ({a with defers:=Mk D}:Act).tmps)=true from hw)]
  refine opD (notDefer.spec hnd) (h1 hw) fun u w' ⟨hb,hr⟩=> ?_
  have hlt:D<w.heap.size:=(Array.getElem?_eq_some_iff.1 hD.1).1
  have e:(st.puto o.dst v).hp=st.hp:=by cases o.dst<;>rfl
  exact h D φ _ w' ((hc.below hb).puto hd hr) ⟨(hb.block D hlt).trans hD.1,hD.2.1,by rw [e];exact hD.2.2⟩
theorem Zrq{c:Ctx}{st:St}{fn:Func}{res:AV}(h:Ret c st fn.results res)(hsub:c.W= [])(hn0:c.n0=0):
    DI c .ret st (bodyPostM (Fd none) 3 c.P fn fun e w'=> ∃ v,e= .returned v∧Below c.w0.heap.size c.w0 w'∧RelD c.P w' c.A res v):=by
  intro D φ a w hc hD
  refine wpIn_ret ?_
  obtain⟨hD1,hD2,hD3⟩:=hD
  have hlt:D<w.heap.size:=(Array.getElem?_eq_some_iff.1 hD1).1
  refine⟨by simp,.inl ⟨D,_,rfl,run_takeDeferred hD1,?_⟩⟩
  have hne: ∀ x y z,Obj.deferred (some [])≠ .cells x y z:=fun _ _ _ h=>by cases h
  have hh:=hc.hok
  have hok:HeapOK c φ st.hp (w.putObj D (.deferred none)):=hh.turn hh.os hh.tape hh.output rfl (by rw [QC];exact hh.heap) (fun b hb hbW=>by rw [QY (by omega)];exact hh.frame b hb hbW) (by rw [QC];exact Nat.le_refl _)
    (ZaY hD1 hne) (fun r o b hr hb=>QY fun e=>by subst e;exact hD3 r o hr hb) (fun _ _=> .inl rfl)
  have hc2:Conc c φ st a (w.putObj D (.deferred none)):=⟨hc.size,hc.defers,hok,fun t av ht=>(hc.tm t av ht).cellmono (by rw [QC];exact Nat.le_refl _) (ZaY hD1 hne)⟩
  obtain⟨v,e1,e2⟩:=h.sound hc2
  refine⟨v,e1,v,rfl,⟨hok.os,hok.tape,hok.output,hok.heap,fun b hb=>hok.frame b hb (by rw [hsub];simp)⟩,e2⟩
theorem ZoC{c:Ctx}{st:St}{tg gf n:Nat}{caps:List AV}{ps:Array Tmp}{assign body y:Code}{id:Nat}{Q:Exit→Act→World→Prop}{os os' hp':List (Option Own)}(ρ:List Nat){o:Own}(h0:nth st.hp 0=some o)(ho1:o.es.length=1)
    (hg:look st.tm tg=some (.fn gf caps)) (hgc:callable c.P gf=true) (hd:caps.all datB=true) (hρ:ρ[0]?=some 0)
    (hI: ∀ Bx l fn φ a w,Conc c φ st a w→(φ 0).blk=some Bx→(φ 0).mp=false→Zm9 c.P c.gl gf l {state:= .ready,pending:=none,fn,tmps:=a.tmps,params:=ps,assign,body,defers:=w.heap.size} Bx (.lit (.func (.yield l) #[] #[])::caps) os os')
    (hl:Lend c.P ρ st.hp ρ os) (hnd:ZeZ ρ=true) (hb:Back c.P ρ st.hp.length st.hp os' 0 hp') (hlen:st.hp.length+(os'.length-ρ.length)=hp'.length) (hin:Nat.ble ρ.length os'.length=true)
    {tp:Nat} (hp0:look st.tm tp=some (.ptr 0 1 0 0)) (hQ:DI c y ⟨st.tm,hp'⟩ Q):PI c (.block id (.rangeFunc (.tmp tg) ps assign body)) st (Exit.then (fun a w=>y.wpIn (Fd none) 3 c.P Q a w) Q):=by
  intro φ a w hc
  refine wpIn_block ?_
  have hn:(φ 0).n=1:=by rw [(hc.hok.obj 0 o h0).len,ho1]
  obtain⟨Bx,hBx,_⟩:=J3 (hc.tm tp _ hp0) hn
  have hmp:=X3 (hc.tm tp _ hp0) hn
  refine Zpl hc ρ hg hgc hd (fun fn=>hI Bx _ fn φ a w hc hBx hmp) hρ hBx hmp hl hnd hb hlen hin (fun φ' w' D h1 h2 h3 h4=> ?_)
  exact hQ D φ' a w' h1 ⟨h2,h3,h4⟩
theorem Zo2{c:Ctx}{φ:Phi}{st:St}{a:Act}{w:World}(hc:Conc c φ st a w){t Bx:Nat}{o:Own}(hp:look st.tm t=some (.ptr 0 1 0 0))(h0:nth st.hp 0=some o)(ho1:o.es.length=1)(hBx:(φ 0).blk=some Bx):a.tmps.getD t undef= .pointer (some ⟨Bx,0,none⟩):=by
  obtain⟨b,hb,hx⟩:=J3 (hc.tm t _ hp) (by rw [(hc.hok.obj 0 o h0).len,ho1])
  rw [hBx] at hb;cases hb
  rw [hx];simp
theorem Zlk{P:Program}{gl:Gl}{f:FuncId}{fn:Func}{code:Code}{args:List AV}{res:AV}(hc:callable P f=true)(hf:P.funcs[f]?=some fn)(hb:fn.body=some code)(hlen:Nat.ble args.length fn.ntmps=true)
    (hT: ∀ w0 A,PI ⟨P,fn.ntmps,w0,A,[],gl,0,φz⟩ code ⟨Zfa 0 args,[]⟩ (bodyPostM (Fd none) 3 P fn fun e w'=> ∃ v,e= .returned v∧Below w0.heap.size w0 w'∧RelD P w' A res v)):CSpec P gl f args res:=by
  refine⟨hc,fun A w vals hA hgl hsz hv=> ?_⟩
  have hlen:args.length≤fn.ntmps:=by simpa using hlen
  refine(callsIn_wide (n:=3)).1 (callsIn_of_wp_marks hf hb trivial ?_)
  have hconc:Conc ⟨P,fn.ntmps,w,A,[],gl,0,φz⟩ φz ⟨Zfa 0 args,[]⟩ {tmps:=vals++Array.replicate (fn.ntmps-vals.size) undef,defers:= []} w:=by
    refine⟨by simp;omega,rfl,⟨rfl,rfl,rfl,Nat.le_refl _,fun _ _ _=>rfl,(fun r o b h=>by cases h),(fun r r' o o' b h=>by cases h),(fun r o h=>by cases h),(fun b hb=>⟨hA b hb,by simp⟩),hgl,Nat.zero_le _,fun r hr=>by cases hr⟩,?_⟩
    intro t av ht
    obtain⟨_,h2,h3⟩:=Ze8 ht
    simp only [Nat.sub_zero] at h2 h3
    refine Zz ?_
    have:=hv t h2
    rw [h3] at this
    have e:(vals++Array.replicate (fn.ntmps-vals.size) undef).getD t undef=vals.getD t undef:=by
      simp [Array.getD_eq_getD_getElem?,Array.getElem?_append,show t<vals.size by omega]
    rw [e]
    exact this.mono (Nat.le_refl _) (fun _ _ _=>rfl) (fun b _ hm=>fun h=>h.elim hm fun⟨r,o,hr,_⟩=>by cases hr)
  exact hT w A φz _ w hconc
theorem Zns{rec:Loop}{vals:Array Value}{p1 p2:Nat}(hp:rec.params= #[p1,p2])(hv:vals.size=2):ZiV rec vals=(rec.tmps.setIfInBounds p1 (vals.getD 0 undef)).setIfInBounds p2 (vals.getD 1 undef):=by
  obtain⟨l⟩:=vals
  match l,hv with
  | [x,y],_=>
    unfold ZiV
    rw [hp]
    simp [Array.zip,Array.getD_eq_getD_getElem?]
theorem Zsm{P:Program}{gl:Gl}{rec:Loop}{Bx p1 p2 t:Nat}{d0 d1:AV}{os:List (Option Own)}{o:Own}(hp:rec.params= #[p1,p2])(h1:Nat.blt p1 rec.tmps.size=true)(h2:Nat.blt p2 rec.tmps.size=true)(h12:Nat.beq p1 p2=false)(ht1:Nat.beq t p1=false)(ht2:Nat.beq t p2=false)
    (ho:nth os 0=some o) (ho1:o.es.length=1) (hx:rec.tmps.getD t undef= .pointer (some ⟨Bx,0,none⟩)):
    ∀ A w φ vals,vals.size= [d0,d1].length→(∀ i,i< [d0,d1].length→RelF P w (Mut A φ os) os.length φ ([d0,d1].getD i .any) (vals.getD i undef))→(∃ W,HeapOK ⟨P,0,w,A,W,gl,os.length,φ⟩ φ os w)→(φ 0).blk=some Bx→(φ 0).mp=false→
      ∀ s av,look [(t,.ptr 0 1 0 0),(p1,d0),(p2,d1)] s=some av→RelF P w (Mut A φ os) os.length φ av ((ZiV rec vals).getD s undef):=by
  intro A w φ vals hsz hv ⟨W,hok⟩ hBx hmp s av hl
  have nb: ∀ {x y:Nat},Nat.beq x y=false→x≠y:=fun h e=>by subst e;simp at h
  have h1':p1<rec.tmps.size:=by simpa using h1
  have h2':p2<rec.tmps.size:=by simpa using h2
  rw [Zns hp (by simpa using hsz),Zg5 _ _ _ _ (by simpa using h2'),Zg5 _ _ _ _ h1']
  simp only [look] at hl
  split at hl
  · rename_i he
    have he:=Nat.eq_of_beq_eq_true he
    subst he;cases hl
    rw [if_neg (fun e=>nb ht2 e.symm),if_neg (fun e=>nb ht1 e.symm),hx]
    intro φ' hφ
    have hn:(φ 0).n=1:=by rw [(hok.obj 0 o ho).len,ho1]
    have e0:φ' 0=φ 0:=hφ 0 (Xp ho)
    exact .ptr 0 1 0 0 _ rfl (by rw [e0,hn];exact Nat.le_refl _) fun _=>⟨by rw [e0];exact hmp,Bx,by rw [e0];exact hBx,by simp⟩
  · split at hl
    · rename_i he
      have he:=Nat.eq_of_beq_eq_true he
      subst he;cases hl
      rw [if_neg (fun e=>nb h12 e.symm),if_pos rfl]
      exact hv 0 (by simp)
    · split at hl
      · rename_i he
        have he:=Nat.eq_of_beq_eq_true he
        subst he;cases hl
        rw [if_pos rfl]
        exact hv 1 (by simp)
      · cases hl
end Go.Vx

namespace Go.Vx
open Go Go.RowKit
def ZnK{K V:Type}(eq:K→K→Bool)(m:List (K×V))(k:K):Nat:=(m.findIdx? fun p=>eq k p.1).getD m.length
section
variable {c:Ctx} {ops:Array Oper} {st:St} {dst:Option Tmp} {ty:TypeId} {pos:String} {after:Array Edge}
theorem Zy{K V:Type}{fk:K→AV}{fv:V→AV}{eq:K→K→Bool}{m:List (K×V)}{k:K}{z0:V}{x y:Operand}{t kt e r:Nat}(h:Opv c st x (.mref r 1))(hy:Opv c st y (fk k))(ht:tMap c.P t kt e=true)(KO:KeyOK c.P kt fk eq)
    (ho:nth st.hp r=some ⟨t,[[.mcon (m.map (Q8 fk fv))]]⟩) (hd: ∀ k,Dat c st (fk k) (fk k)) (hz:Zht c.P e (fv z0)):
    WVal c ops st ⟨dst,.mapEntry t x y,ty,pos,after,none⟩ (.tuple [.any,.int .i64 (ZnK eq m k)]) (Q7 st.hp r (some ⟨t,[[.mcon ((Qc eq m k ((Zb8 eq m k).getD z0)).map (Q8 fk fv))]]⟩)):=by
  refine .run rfl fun φ a w hc=> ?_
  obtain⟨hu,hcs⟩:=tMap.spec ht
  have hO:=hc.hok.obj r _ ho
  obtain⟨hmp,b,hb,hx⟩:=ZfY (h φ a w hc) hO.len
  obtain⟨es,clock,T,e1,e2,e3,e4,e5,e6,e7⟩:=Zhe hc ho hcs hb hmp
  have hf:=ZhE hc KO hd hy e4 e7
  have hkd:=hd k φ a w hc _ (hy φ a w hc)
  have hck:=KO.chk w (Mut c.A φ st.hp) k (a.eval y) false hkd
  have hg:=MapKept.run_getObj_map (P:=c.P) e1
  have htup: ∀ (u:Value) (w':World) (M:Nat→Prop) (n:Nat) (z:Nat),RelF c.P w' M n φ (.tuple [.any,.int .i64 (z:Int)]) (.tuple #[u,goInt (z:Int)]):=fun u w' M n z=>
    ZhU (vs:= #[u,goInt (z:Int)]) rfl fun i hi=>by
      match i,hi with
      |0,_=>exact Zz (.any _)
      |1,_=>exact Zz (.int _ _)
  rw [ZiW]
  unfold ZnK
  cases hq:m.findIdx? fun p=>eq k p.1 with
  |none=>
    obtain⟨z,hz1,hz2⟩:=hz
    rw [hq] at hf
    have hm': ∀ v,Qc eq m k v=m++ [(k,v)]:=fun v=>by unfold Qc;rw [hq]
    rw [hm']
    have:=ZfR (fk:=fk) (fv:=fv) (m':=m++ [(k,z0)]) hc ho rfl rfl hcs hb hmp (es:=es.push {key:=a.eval y,val:=z,born:=clock}) (clock:=clock+1) (fun i x=>T i x∧i<m.length) e1 (by simp [e4]) (by rw [Array.size_push,e2]) (fun i x hx=>by
        rw [Array.getElem?_push] at hx
        split at hx
        · rename_i hi;cases hx;exact e2.trans hi.symm
        · exact e3 i x hx) (fun i x hx=>e5 i x hx.1) (fun i i' x hx hy=>e6 i i' x hx.1 hy.1) (fun i p x hp hx=>by
        rw [Array.getElem?_push,e4] at hx
        split at hx
        · rename_i hi
          subst hi
          cases hx
          rw [List.getElem?_append_right (Nat.le_refl _)] at hp
          simp at hp
          subst hp
          exact⟨hy φ a w hc,.leaf (Zz (hz2 _ _))⟩
        · have hi:=(Array.getElem?_eq_some_iff.1 hx).1
          rw [e4] at hi
          rw [List.getElem?_append_left hi] at hp
          obtain⟨k1,k2⟩:=e7 i p x hp hx
          exact⟨k1,k2.sub fun y hy=>⟨hy,hi⟩⟩)
    refine⟨.tuple #[z,goInt clock],_,φ,?_,this.1,this.2,?_⟩
    · have hrun:(Instr.mapEntry t (a.eval x) (a.eval y)).run c.P w= .ok (.tuple #[z,goInt clock]) {w with heap:=w.heap.setIfInBounds b (.map (es.push {key:=a.eval y,val:=z,born:=clock}) (clock+1))}:=by
        unfold Instr.mapEntry
        simp [run_underlying hu,hx,hg,hck,hf,hz1,MapKept.run_setObj_map _ e1]
      show((do pure (Next.value (←Instr.mapEntry t (a.eval x) (a.eval y))):Sem Next)).run c.P w=_
      rw [Sem.run_bind,hrun]
      rfl
    · have e:clock=m.length:=e2.trans e4
      rw [e]
      exact htup _ _ _ _ _
  |some i=>
    have hi:i<m.length:=by
      have:=List.findIdx?_eq_some_iff_getElem.1 hq
      exact this.1
    have heq:eq k m[i].1=true:=by
      have:=List.findIdx?_eq_some_iff_getElem.1 hq
      exact this.2.1
    have hie:i<es.size:=by omega
    have hes:es[i]?=some es[i]:=by simp [hie]
    have hm:m[i]?=some m[i]:=by simp [hi]
    rw [hq] at hf
    rw [Option.bind_some,hes] at hf
    rw [Option.bind_some,hm]
    have hm': ∀ v,Qc eq m k v=m.set i (k,v):=fun v=>by unfold Qc;rw [hq]
    rw [hm']
    have hold:=e7 i _ _ hm hes
    have hkeep:=KO.keep w (Mut c.A φ st.hp) k m[i].1 (a.eval y) es[i].key hkd (hd _ φ a w hc _ hold.1) heq
    have hmod: ∀ j,(es.modify i fun e=>{e with key:=a.eval y})[j]?=if i=j then(es[j]?).map fun e=>{e with key:=a.eval y} else es[j]?:=fun j=>by rw [Array.getElem?_modify]
    have:=ZfR (fk:=fk) (fv:=fv) (m':=m.set i (k,m[i].2)) hc ho rfl rfl hcs hb hmp (es:=es.modify i fun e=>{e with key:=a.eval y}) (clock:=clock) T e1 (by simp [e4]) (by simp [e2]) (fun j x hx=>by
        rw [hmod] at hx
        split at hx
        · simp only [Option.map_eq_some_iff] at hx
          obtain⟨x0,hx0,rfl⟩:=hx
          exact e3 j x0 hx0
        · exact e3 j x hx) (fun i x hx=>e5 i x hx) (fun i i' x hx hy=>e6 i i' x hx hy) (fun j p x hp hx=>by
        rw [hmod] at hx
        rw [List.getElem?_set] at hp
        split at hx
        · rename_i hij
          subst hij
          simp only [hi,if_true,Option.some.injEq] at hp
          subst hp
          simp only [Option.map_eq_some_iff] at hx
          obtain⟨x0,hx0,rfl⟩:=hx
          rw [hes] at hx0;cases hx0
          exact⟨hy φ a w hc,hold.2⟩
        · rename_i hij
          rw [if_neg hij] at hp
          exact e7 j p x hp hx)
    refine⟨.tuple #[es[i].val,goInt (es[i].born:Nat)],_,φ,?_,this.1,this.2,?_⟩
    · have hrun:(Instr.mapEntry t (a.eval x) (a.eval y)).run c.P w= .ok (.tuple #[es[i].val,goInt (es[i].born:Nat)]) {w with heap:=w.heap.setIfInBounds b (.map (es.modify i fun e=>{e with key:=a.eval y}) clock)}:=by
        unfold Instr.mapEntry
        simp [run_underlying hu,hx,hg,hck,hf,hes,hkeep,MapKept.run_setObj_map _ e1,hie]
      show((do pure (Next.value (←Instr.mapEntry t (a.eval x) (a.eval y))):Sem Next)).run c.P w=_
      rw [Sem.run_bind,hrun]
      rfl
    · rw [e3 i _ hes]
      exact htup _ _ _ _ _
theorem Zr{K V:Type}{fk:K→AV}{fv:V→AV}{eq:K→K→Bool}{m:List (K×V)}{k:K}{v0 v:V}{x y z:Operand}{t kt e r:Nat}(h:Opv c st x (.mref r 1))(hy:Opv c st y (.int .i64 (ZnK eq m k)))(hz:Opv c st z (fv v))(ht:tMap c.P t kt e=true)
    (ho:nth st.hp r=some ⟨t,[[.mcon ((Qc eq m k v0).map (Q8 fk fv))]]⟩):
    WVal c ops st ⟨none,.entryStore t x y z,ty,pos,after,none⟩ .any (Q7 st.hp r (some ⟨t,[[.mcon ((Qc eq m k v).map (Q8 fk fv))]]⟩)):=by
  refine .skip rfl fun φ a w hc=> ?_
  obtain⟨hu,hcs⟩:=tMap.spec ht
  have hO:=hc.hok.obj r _ ho
  obtain⟨hmp,b,hb,hx⟩:=ZfY (h φ a w hc) hO.len
  obtain⟨es,clock,T,e1,e2,e3,e4,e5,e6,e7⟩:=Zhe hc ho hcs hb hmp
  have hg:=MapKept.run_getObj_map (P:=c.P) e1
  have hs:a.eval y= .int .i64 (ZnK eq m k:Nat):=by
    have:=hy φ a w hc φ (fun _ _=>rfl)
    generalize a.eval y=q at this
    cases this with
    |data h=>cases h;rfl
  obtain⟨i,hi,hpi,hset⟩: ∃ i,ZnK eq m k=i∧(Qc eq m k v0)[i]?=some (k,v0)∧Qc eq m k v=(Qc eq m k v0).set i (k,v):=by
    refine⟨_,rfl,?_⟩
    unfold ZnK Qc
    cases hq:m.findIdx? fun p=>eq k p.1 with
    |none=>simp
    |some i=>
      have hi:i<m.length:=(List.findIdx?_eq_some_iff_getElem.1 hq).1
      simp [hi]
  have hil:i<(Qc eq m k v0).length:=(List.getElem?_eq_some_iff.1 hpi).1
  have hie:i<es.size:=by omega
  have hes:es[i]?=some es[i]:=by simp [hie]
  rw [hi] at hs
  have hidx:es.findIdx? (fun e=>((e.born:Nat):Int)==(i:Int))=some i:=by
    rw [Array.findIdx?_eq_some_iff_getElem]
    refine⟨hie,by simp [e3 i _ hes],fun j hj=> ?_⟩
    have:=e3 j es[j] (by simp [show j<es.size by omega])
    simp [this]
    omega
  have hmod: ∀ j,(es.modify i fun e=>{e with val:=a.eval z})[j]?=if i=j then(es[j]?).map fun e=>{e with val:=a.eval z} else es[j]?:=fun j=>by rw [Array.getElem?_modify]
  rw [hset]
  have:=ZfR (fk:=fk) (fv:=fv) (m':=(Qc eq m k v0).set i (k,v)) hc ho rfl rfl hcs hb hmp (es:=es.modify i fun e=>{e with val:=a.eval z}) (clock:=clock) (fun j x=>T j x∧j≠i) e1 (by simp [e4]) (by simp [e2]) (fun j x hx=>by
      rw [hmod] at hx
      split at hx
      · simp only [Option.map_eq_some_iff] at hx
        obtain⟨x0,hx0,rfl⟩:=hx
        exact e3 j x0 hx0
      · exact e3 j x hx) (fun i x hx=>e5 i x hx.1) (fun i i' x hx hy=>e6 i i' x hx.1 hy.1) (fun j p x hp hx=>by
      rw [hmod] at hx
      rw [List.getElem?_set] at hp
      split at hx
      · rename_i hij
        subst hij
        simp only [hil,if_true,Option.some.injEq] at hp
        subst hp
        simp only [Option.map_eq_some_iff] at hx
        obtain⟨x0,hx0,rfl⟩:=hx
        exact⟨(e7 i _ x0 hpi hx0).1,.leaf (hz φ a w hc)⟩
      · rename_i hij
        rw [if_neg hij] at hp
        obtain⟨k1,k2⟩:=e7 j p x hp hx
        exact⟨k1,k2.sub fun y hy=>⟨hy,fun e=>hij e.symm⟩⟩)
  refine⟨_,φ,?_,this.1,this.2,Zz (.any _)⟩
  have hrun:(Instr.entryStore t (a.eval x) (a.eval y) (a.eval z)).run c.P w= .ok () {w with heap:=w.heap.setIfInBounds b (.map (es.modify i fun e=>{e with val:=a.eval z}) clock)}:=by
    unfold Instr.entryStore
    simp [hx,hs,hg,asInt,asIntOf,hidx,MapKept.run_setObj_map _ e1]
  show((do Instr.entryStore t (a.eval x) (a.eval y) (a.eval z);pure Next.skip:Sem Next)).run c.P w=_
  rw [Sem.run_bind,hrun]
  rfl
end
theorem faN: ∀ a∈([]:List AV),Flat a:=fun _ h=>by cases h
theorem faC{x:AV}{l:List AV}(h:Flat x)(k: ∀ a∈l,Flat a): ∀ a∈x::l,Flat a:=fun a ha=>by
  rcases List.mem_cons.1 ha with rfl |ha
  · exact h
  · exact k a ha
theorem faA{x l:List AV}(h: ∀ a∈x,Flat a)(k: ∀ a∈l,Flat a): ∀ a∈x++l,Flat a:=fun a ha=>by
  rcases List.mem_append.1 ha with ha |ha
  · exact h a ha
  · exact k a ha
theorem faV{α:Type}{n:Nat}{v:Vector α n}{f:α→AV}(h: ∀ x,Flat (f x)): ∀ a∈v.toList.map f,Flat a:=fun a ha=>by
  obtain⟨y,_,rfl⟩:=List.mem_map.1 ha
  exact h y
section
variable {α:Type} {e:TypeId} {R:α→List AV} {m:List (Int×List α)} {k:Int} {xs ys:List α} {fk:Int→AV}
theorem Ent.absorbMk1{c:Ctx}{st:St}{r t q n:Nat}(ho:nth st.hp r=some ⟨t,[[.mcon ((Qc kqI (mOf e R m) k (.own q n)).map (Q8 fk id))]]⟩)(ht:c.P.cellsOf t=1)(hq:nth st.hp q=some ⟨e,ys.map R⟩)(hn:ys.length=n)(hqr:Nat.beq q r=false):
    Ent c st ⟨st.tm,Q7 (Q7 st.hp r (some ⟨t,[[.mcon ((Qc kqI m k ys).map (Q8 fk (osF e R)))]]⟩)) q none⟩:=Ent.absorbMk (tm:=st.tm) ho ht hq hn hqr
theorem Ent.absorbMs1{c:Ctx}{st:St}{r t q n:Nat}(hg:Zb8 kqI m k=some ys)(ho:nth st.hp r=some ⟨t,[[.mcon ((Qc kqI (mOf e R m) k (.own q n)).map (Q8 fk id))]]⟩)(ht:c.P.cellsOf t=1)(hq:nth st.hp q=some ⟨e,ys.map R⟩)(hn:ys.length=n)(hqr:Nat.beq q r=false):
    Ent c st ⟨st.tm,Q7 (Q7 st.hp r (some ⟨t,[[.mcon (m.map (Q8 fk (osF e R)))]]⟩)) q none⟩:=Ent.absorbMs (tm:=st.tm) hg ho ht hq hn hqr
theorem Ent.focusMk1{c:Ctx}{st:St}{r t:Nat}(ho:nth st.hp r=some ⟨t,[[.mcon (m.map (Q8 fk (osF e R)))]]⟩)(ht:c.P.cellsOf t=1)(hg:Zb8 kqI m k=some xs)(hR: ∀ x,(R x).length=c.P.cellsOf e∧(R x).all datB=true):
    Ent c st ⟨st.tm,Q7 st.hp r (some ⟨t,[[.mcon ((Qc kqI (mOf e R m) k (.own st.hp.length xs.length)).map (Q8 fk id))]]⟩)++ [some ⟨e,xs.map R⟩]⟩:=Ent.focusMk (tm:=st.tm) ho ht hg hR
end
end Go.Vx
