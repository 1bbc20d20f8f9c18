/- A text of the proof: a verified executor of the program form, or the contracts of the functions that the law reaches. -/
import Derived.Test.YtgohgnaapbpggaaGreatDoorVB
import Derived.Laws.StructEq
import Derived.IntWalk
import Derived.Laws.Shifts
import Derived.Deep.Slices
import Derived.WideShapes
import Derived.OpenShut
import Derived.Laws.Externs
set_option linter.all false
namespace Go.Vx
open Go Go.RowKit
def callable(P:Program)(f:FuncId):Bool:=match P.funcs[f]? with
  |some fn=> !(fn.name== "runtime.NumGoroutine")&&fn.body.isSome
  |none=>false
theorem callable.spec{P:Program}{f:FuncId}(h:callable P f=true): ∃ fn,P.funcs[f]?=some fn∧(fn.name== "runtime.NumGoroutine")=false∧fn.body.isNone=false:=by
  unfold callable at h
  split at h
  · rename_i fn hf
    simp only [Bool.and_eq_true,Bool.not_eq_true'] at h
    exact⟨fn,hf,h.1,by cases hb:fn.body<;>simp_all⟩
  · cases h
inductive Ret (c:Ctx) (st:St):Array ResultVar→AV→Prop
  |zero:Ret c st #[] (.tuple [])
  |one {r:ResultVar} {d:AV}:RetV c st r d→Ret c st #[r] d
  |two {r1 r2:ResultVar} {d1 d2:AV}:RetV c st r1 d1→RetV c st r2 d2→Ret c st #[r1,r2] (.tuple [d1,d2])
  |three {r1 r2 r3:ResultVar} {d1 d2 d3:AV}:RetV c st r1 d1→RetV c st r2 d2→RetV c st r3 d3→Ret c st #[r1,r2,r3] (.tuple [d1,d2,d3])
  |four {r1 r2 r3 r4:ResultVar} {d1 d2 d3 d4:AV}:RetV c st r1 d1→RetV c st r2 d2→RetV c st r3 d3→RetV c st r4 d4→Ret c st #[r1,r2,r3,r4] (.tuple [d1,d2,d3,d4])
theorem ZjR{P:Program}{fn:Func}{tmps:Array Value}{w:World}:(results fn tmps).run P w=
    ((fn.results.mapM (ZjF tmps)).run P w).andThen fun vs w=> .ok (if h:vs.size=1 then vs[0] else .tuple vs) w:=by
  unfold results
  rw [Sem.run_bind]
  rfl
theorem Zg5{P:Program}{w:World}{M:Nat→Prop}{ds:List AV}{vs:List Value}(hl:ds.length=vs.length)(h: ∀ i,i<ds.length→RelD P w M (ds.getD i .any) (vs.getD i undef)):RelD P w M (.tuple ds) (.tuple vs.toArray):=
  .tuple ds _ (by simpa using hl) fun i hi=>by simpa [Array.getD_eq_getD_getElem?,gQ] using h i hi
theorem Ret.sound{c:Ctx}{st:St}{fn:Func}{res:AV}(h:Ret c st fn.results res){φ:Phi}{a:Act}{w:World}(hc:Conc c φ st a w): ∃ v,(results fn a.tmps).run c.P w= .ok v w∧RelD c.P w c.A res v:=by
  rw [ZjR]
  generalize fn.results=rs at h
  cases h with
  |zero=>exact⟨.tuple #[],by simp,.tuple [] #[] rfl (fun i hi=>by cases hi)⟩
  |one h1=>
    obtain⟨v1,e1,d1⟩:=h1.sound hc
    exact⟨v1,by simp [e1],d1⟩
  |two h1 h2=>
    obtain⟨v1,e1,d1⟩:=h1.sound hc
    obtain⟨v2,e2,d2⟩:=h2.sound hc
    refine⟨.tuple #[v1,v2],by simp [e1,e2],Zg5 (vs:= [v1,v2]) rfl fun i hi=> ?_⟩
    match i,hi with
    |0,_=>exact d1
    |1,_=>exact d2
  |three h1 h2 h3=>
    obtain⟨v1,e1,d1⟩:=h1.sound hc
    obtain⟨v2,e2,d2⟩:=h2.sound hc
    obtain⟨v3,e3,d3⟩:=h3.sound hc
    refine⟨.tuple #[v1,v2,v3],by simp [e1,e2,e3],Zg5 (vs:= [v1,v2,v3]) rfl fun i hi=> ?_⟩
    match i,hi with
    |0,_=>exact d1
    |1,_=>exact d2
    |2,_=>exact d3
  |four h1 h2 h3 h4=>
    obtain⟨v1,e1,d1⟩:=h1.sound hc
    obtain⟨v2,e2,d2⟩:=h2.sound hc
    obtain⟨v3,e3,d3⟩:=h3.sound hc
    obtain⟨v4,e4,d4⟩:=h4.sound hc
    refine⟨.tuple #[v1,v2,v3,v4],by simp [e1,e2,e3,e4],Zg5 (vs:= [v1,v2,v3,v4]) rfl fun i hi=> ?_⟩
    match i,hi with
    |0,_=>exact d1
    |1,_=>exact d2
    |2,_=>exact d3
    |3,_=>exact d4
def Zsn(c:Ctx)(rs:Array ResultVar)(res:AV):Exit→St→Prop
  | .ret,st | .normal,st=>Ret c st rs res
  |_,_=>False
def ZjO:Nat→List AV→List (Nat×AV)
  |_,[]=> []
  |k,v::l=>(k,v)::ZjO (k+1) l
theorem Zko{l:List AV}{k t:Nat}{v:AV}(h:look (ZjO k l) t=some v):k≤t∧t-k<l.length∧l.getD (t-k) .any=v:=by
  induction l generalizing k with
  |nil=>cases h
  |cons x l ih=>
    simp only [ZjO,look] at h
    split at h
    · rename_i he
      have he:=Nat.eq_of_beq_eq_true he
      subst he
      cases h
      simp
    · rename_i he
      obtain⟨h1,h2,h3⟩:=ih h
      refine⟨by omega,by simp;omega,?_⟩
      have:t-k=(t-(k+1))+1:=by omega
      rw [this]
      simpa using h3
def φz:Phi:=fun _=>⟨none,0,0,0,false,fun _=>False⟩
structure CSpec (P:Program) (gl:Gl) (f:FuncId) (args:List AV) (res:AV):Prop where
  call:callable P f=true
  spec:Spec P gl f args res
theorem Zqs{P:Program}{gl:Gl}{f:FuncId}{fn:Func}{code:Code}{args:List AV}{res:AV}(hc:callable P f=true)(hf:P.funcs[f]?=some fn)(hb:fn.body=some code)(hlen:Nat.ble args.length fn.ntmps=true)
    (hT: ∀ w0 A,T ⟨P,fn.ntmps,w0,A,[],gl,0,φz⟩ code ⟨ZjO 0 args,[]⟩ (Zsn ⟨P,fn.ntmps,w0,A,[],gl,0,φz⟩ fn.results res)):CSpec P gl f args res:=by
  refine⟨hc,fun A w vals hA hgl hsz hv=> ?_⟩
  have hlen:args.length≤fn.ntmps:=by simpa using hlen
  refine calls_of_wp hf hb ?_
  have hconc:Conc ⟨P,fn.ntmps,w,A,[],gl,0,φz⟩ φz ⟨ZjO 0 args,[]⟩ {tmps:=vals++Array.replicate (fn.ntmps-vals.size) undef,defers:= []} w:=by
    refine⟨by simp;omega,rfl,⟨rfl,rfl,rfl,Nat.le_refl _,fun _ _ _=>rfl,(fun r o b h=>by cases h),(fun r r' o o' b h=>by cases h),(fun r o h=>by cases h),(fun b hb=>⟨hA b hb,by simp⟩),hgl,Nat.zero_le _,fun r hr=>by cases hr⟩,?_⟩
    intro t av ht
    obtain⟨_,h2,h3⟩:=Zko ht
    simp only [Nat.sub_zero] at h2 h3
    refine Zt ?_
    have:=hv t h2
    rw [h3] at this
    have e:(vals++Array.replicate (fn.ntmps-vals.size) undef).getD t undef=vals.getD t undef:=by
      simp [Array.getD_eq_getD_getElem?,Array.getElem?_append,show t<vals.size by omega]
    rw [e]
    exact this.mono (Nat.le_refl _) (fun _ _ _=>rfl) (fun b _ hm=>fun h=>h.elim hm fun⟨r,o,hr,_⟩=>by cases hr)
  refine wp_mono (hT w A _ _ _ hconc) ?_
  rintro e a' w' ⟨st',φ',hk,hc'⟩
  have fin:Ret ⟨P,fn.ntmps,w,A,[],gl,0,φz⟩ st' fn.results res→a'.defers= []∧ ∃ v,(results fn a'.tmps).run P w'= .ok v w'∧(∃ v',Ending.returned v= .returned v'∧Below w.heap.size w w'∧RelD P w' A res v'):=fun hr=>by
    obtain⟨v,h1,h2⟩:=hr.sound hc'
    exact⟨hc'.defers,v,h1,v,rfl,⟨hc'.hok.os,hc'.hok.tape,hc'.hok.output,hc'.hok.heap,fun b hb=>hc'.hok.frame b hb (by simp)⟩,h2⟩
  cases e with
  |ret=>exact fin hk
  |normal=>exact fin hk
  |exit id=>exact hk.elim
  |goto l=>exact hk.elim
  |panic ch=>exact hk.elim
  |outgrown=>exact hk.elim
inductive ArgsD (c:Ctx) (st:St):List Operand→List AV→Prop
  |nil:ArgsD c st [] []
  |cons {x:Operand} {av d:AV} {xs:List Operand} {ds:List AV}:Opv c st x av→Dat c st av d→ArgsD c st xs ds→ArgsD c st (x::xs) (d::ds)
theorem ArgsD.rel{c:Ctx}{st:St}{xs:List Operand}{ds:List AV}(h:ArgsD c st xs ds){φ:Phi}{a:Act}{w:World}(hc:Conc c φ st a w):
    xs.length=ds.length∧ ∀ i,i<ds.length→RelD c.P w (Mut c.A φ st.hp) (ds.getD i .any) ((xs.map a.eval).getD i undef):=by
  induction h with
  |nil=>exact⟨rfl,fun i hi=>by cases hi⟩
  |cons h1 h2 _ ih=>
    refine⟨by simp [ih.1],fun i hi=> ?_⟩
    cases i with
    |zero=>simpa using h2 φ a w hc _ (h1 φ a w hc)
    |succ i=>simpa using ih.2 i (by simpa using hi)
inductive ArgsV (c:Ctx) (st:St):List Operand→List AV→Prop
  |nil:ArgsV c st [] []
  |cons {x:Operand} {av d:AV} {xs:List Operand} {ds:List AV}:Opv c st x av→View c st av d→ArgsV c st xs ds→ArgsV c st (x::xs) (d::ds)
theorem ArgsV.rel{c:Ctx}{st:St}{xs:List Operand}{ds:List AV}(h:ArgsV c st xs ds){φ:Phi}{a:Act}{w:World}(hc:Conc c φ st a w):
    xs.length=ds.length∧ ∀ i,i<ds.length→RelD c.P w c.A (ds.getD i .any) ((xs.map a.eval).getD i undef):=by
  induction h with
  |nil=>exact⟨rfl,fun i hi=>by cases hi⟩
  |cons h1 h2 _ ih=>
    refine⟨by simp [ih.1],fun i hi=> ?_⟩
    cases i with
    |zero=>simpa using h2 φ a w hc _ (h1 φ a w hc)
    |succ i=>simpa using ih.2 i (by simpa using hi)
def Flat(d:AV):Prop:= ∀ (P:Program) (w w':World) (M M':Nat→Prop) (v:Value),RelD P w M d v→RelD P w' M' d v
theorem Flat.int{k:IntKind}{n:Int}:Flat (.int k n):=fun _ _ _ _ _ _ h=>by cases h;exact .int _ _
theorem Flat.bool{b:Bool}:Flat (.bool b):=fun _ _ _ _ _ _ h=>by cases h;exact .bool _
theorem Flat.str{b:List UInt8}:Flat (.str b):=fun _ _ _ _ _ _ h=>by cases h;exact .str _
theorem Flat.agg{l:List AV}(hl: ∀ x∈l,Flat x):Flat (.agg l):=fun _ _ _ _ _ _ h=>by
  cases h with |agg _ vs h1 h2=>exact .agg l vs h1 fun i hi=>hl _ (by simp [gQ,hi]) _ _ _ _ _ _ (h2 i hi)
theorem Flat.tuple{l:List AV}(hl: ∀ x∈l,Flat x):Flat (.tuple l):=fun _ _ _ _ _ _ h=>by
  cases h with |tuple _ vs h1 h2=>exact .tuple l vs h1 fun i hi=>hl _ (by simp [gQ,hi]) _ _ _ _ _ _ (h2 i hi)
section ops
variable {c:Ctx} {ops:Array Oper} {st:St} {dst:Option Tmp} {ty:TypeId} {pos:String} {after:Array Edge}
theorem ZcQ{P:Program}{f:FuncId}(h:callable P f=true)(args:Array Value)(w:World):(callFunc f args).run P w= .ok (.enter f args) w:=by
  obtain⟨fn,h1,h2,h3⟩:=callable.spec h
  have h2: ¬fn.name= "runtime.NumGoroutine" :=by simpa using h2
  have h3: ¬fn.body=none:=fun hb=>by rw [hb] at h3;cases h3
  simp [callFunc,h1,h2,h3]
theorem Zhm{φ:Phi}{a:Act}{w:World}(hc:Conc c φ st a w): ∀ b,Mut c.A φ st.hp b→b<w.heap.size:=by
  rintro b (ha | ⟨r,o,hr,hb⟩)
  · exact Nat.lt_of_lt_of_le (hc.hok.amb b ha).1 hc.hok.heap
  · exact(hc.hok.obj r o hr).has_lt hb
theorem Zq{f:FuncId}{xs:List Operand}{ts:Array TypeId}{ds:List AV}{res:AV}(hs:CSpec c.P c.gl f ds res)(ha:ArgsD c st xs ds):
    SVal c ops st ⟨dst,.call {callee:= .value (.func f),args:=xs.toArray,argTypes:=ts},ty,pos,after,none⟩ res:=by
  intro φ a w hc
  refine⟨fun _=> ?_,fun hw=>by cases hw⟩
  obtain⟨hl,hr⟩:=ha.rel hc
  unfold Oper.wp
  have e:(execOp a.eval ⟨dst,.call {callee:= .value (.func f),args:=xs.toArray,argTypes:=ts},ty,pos,after,none⟩).run c.P w= .ok (.enter f (xs.map a.eval).toArray) w:=by
    simp [execOp,resolve,Act.eval,Deferred.ofValue,invoke,ZcQ hs.call]
  rw [e]
  refine(hs.spec (Mut c.A φ st.hp) w _ (Zhm hc) (ZeZ hc) (by simpa using hl) (fun i hi=>by simpa [Array.getD_eq_getD_getElem?,gQ] using hr i hi)).mono ?_
  rintro e w' ⟨v,rfl,hb,hv⟩
  exact⟨v,rfl,hb,Zt hv⟩
theorem Jh{f:FuncId}{xs:List Operand}{ts:Array TypeId}{ds:List AV}{res:AV}(hs:CSpec c.P c.gl f ds res)(hf:Flat res)(ha:ArgsV c st xs ds):
    SVal c ops st ⟨dst,.call {callee:= .value (.func f),args:=xs.toArray,argTypes:=ts},ty,pos,after,none⟩ res:=by
  intro φ a w hc
  refine⟨fun _=> ?_,fun hw=>by cases hw⟩
  obtain⟨hl,hr⟩:=ha.rel hc
  unfold Oper.wp
  have e:(execOp a.eval ⟨dst,.call {callee:= .value (.func f),args:=xs.toArray,argTypes:=ts},ty,pos,after,none⟩).run c.P w= .ok (.enter f (xs.map a.eval).toArray) w:=by
    simp [execOp,resolve,Act.eval,Deferred.ofValue,invoke,ZcQ hs.call]
  rw [e]
  refine(hs.spec c.A w _ (fun b hb=>Zhm hc b (.inl hb)) (let g:=ZeZ hc;⟨g.len,g.W,fun p hp=>let ⟨h1,h2,h3⟩:=g.tab p hp;⟨h1,h2,fun h=>h3 (.inl h)⟩⟩) (by simpa using hl) (fun i hi=>by simpa [Array.getD_eq_getD_getElem?,gQ] using hr i hi)).mono ?_
  rintro e w' ⟨v,rfl,hb,hv⟩
  exact⟨v,rfl,hb,Zt (hf _ _ _ _ _ _ hv)⟩
def Zi1:List AV→List AV→List AV
  |xs,[]=>xs
  | [],_=> []
  |_::xs,y::ys=>y::Zi1 xs ys
def Zlt:List AV→Nat→List AV→List AV
  |xs,0,ys=>Zi1 xs ys
  | [],_+1,_=> []
  |x::xs,n+1,ys=>x::Zlt xs n ys
theorem Zla: ∀ (xs ys:List AV),ys.length≤xs.length→(Zi1 xs ys).length=xs.length∧ ∀ k,(Zi1 xs ys).getD k .any=if k<ys.length then ys.getD k .any else xs.getD k .any
  |xs,[],_=>by unfold Zi1;exact⟨by cases xs<;>rfl,fun k=>by cases xs<;>simp⟩
  | [],_::_,h=>by simp at h
  |x::xs,y::ys,h=>by
    have ih:=Zla xs ys (by simpa using h)
    refine⟨by simp [Zi1,ih.1],fun k=> ?_⟩
    cases k with
    |zero=>simp [Zi1]
    |succ k=>simpa [Zi1] using ih.2 k
theorem Zje: ∀ (xs:List AV) (n:Nat) (ys:List AV),n+ys.length≤xs.length→(Zlt xs n ys).length=xs.length∧
    ∀ k,(Zlt xs n ys).getD k .any=if k<n then xs.getD k .any else if k<n+ys.length then ys.getD (k-n) .any else xs.getD k .any
  |xs,0,ys,h=>by
    have e:Zlt xs 0 ys=Zi1 xs ys:=by cases xs<;>rfl
    obtain⟨h1,h2⟩:=Zla xs ys (by simpa using h)
    rw [e]
    exact⟨h1,fun k=>by rw [h2 k];simp⟩
  | [],n+1,ys,h=>by simp at h
  |x::xs,n+1,ys,h=>by
    obtain⟨h1,h2⟩:=Zje xs n ys (by simp at h;omega)
    refine⟨by simp [Zlt,h1],fun k=> ?_⟩
    cases k with
    |zero=>simp [Zlt]
    |succ k=>
      have:=h2 k
      simp only [Zlt,List.getD_cons_succ]
      rw [this]
      by_cases c1:k<n
      · rw [pG c1,pG (by omega)]
      · by_cases c2:k<n+ys.length
        · rw [nG c1,pG c2,nG (by omega),pG (by omega)];congr 1;omega
        · rw [nG c1,nG c2,nG (by omega),nG (by omega)]
theorem Zgt(off:Nat): ∀ (l:List Value) (k:Nat) (cs:Array Value),off+k+l.length≤cs.size→
    ((l.zipIdx k).foldl (fun cs (x:Value×Nat)=>cs.setIfInBounds (off+x.2) x.1) cs).size=cs.size∧
    ∀ i,((l.zipIdx k).foldl (fun cs (x:Value×Nat)=>cs.setIfInBounds (off+x.2) x.1) cs).getD i undef=if i<off+k then cs.getD i undef else if i<off+k+l.length then l.getD (i-(off+k)) undef else cs.getD i undef
  | [],k,cs,_=>⟨rfl,fun i=>by
      simp only [List.length_nil,Nat.add_zero]
      by_cases h:i<off+k
      · rw [pG h];rfl
      · rw [nG h,nG h];rfl⟩
  |v::l,k,cs,h=>by
    have hlt:off+k<cs.size:=by simp at h;omega
    obtain⟨h1,h2⟩:=Zgt off l (k+1) (cs.setIfInBounds (off+k) v) (by simp at h ⊢;omega)
    refine⟨by simpa using h1,fun i=> ?_⟩
    have:=h2 i
    simp only [List.zipIdx_cons,List.foldl_cons]
    rw [this,Zmo cs (off+k) i v hlt]
    by_cases c1:i<off+k
    · rw [pG (by omega),nG (by omega),pG c1]
    · rw [nG c1]
      by_cases c2:i=off+k
      · rw [pG (by omega),pG c2.symm,pG (by simp;omega)];simp [c2]
      · rw [nG (by omega)]
        by_cases c3:i<off+k+(v::l).length
        · rw [pG (by simp at c3;omega),pG c3]
          have:i-(off+k)=(i-(off+(k+1)))+1:=by omega
          rw [this];simp
        · rw [nG (by simp at c3;omega),nG (Ne.symm c2),nG c3]
def CellV(c:Ctx)(st:St)(x:Operand)(l:List AV):Prop:= ∀ φ a w,Conc c φ st a w→(a.eval x).cells.size=l.length∧ ∀ k,k<l.length→RelF c.P w (Mut c.A φ st.hp) st.hp.length φ (l.getD k .any) ((a.eval x).cells.getD k undef)
theorem cva{x:Operand}{l:List AV}(h:Opv c st x (.agg l)):CellV c st x l:=fun φ a w hc=>by
  obtain⟨vs,hv,h1,h2⟩:=Zcg (h φ a w hc)
  rw [hv]
  exact⟨h1.symm,h2⟩
theorem cvs{x:Operand}{v:AV}(h:Opv c st x v)(h1:ZgU c st v):CellV c st x [v]:=fun φ a w hc=>by
  have hv:=h φ a w hc
  rw [Zly (h1 φ a w hc _ hv)]
  refine⟨rfl,fun k hk=> ?_⟩
  have:k=0:=by simp at hk;omega
  subst this
  simpa using hv
inductive Parts (c:Ctx) (st:St):List (Nat×Operand)→List (Nat×List AV)→Prop
  |nil:Parts c st [] []
  |cons {i:Nat} {x:Operand} {l:List AV} {ps:List (Nat×Operand)} {qs:List (Nat×List AV)}:CellV c st x l→Parts c st ps qs→Parts c st ((i,x)::ps) ((i,l)::qs)
def Zh4(pl:Nat→Option (Nat×Nat)):List AV→List (Nat×List AV)→Option (List AV)
  |xs,[]=>some xs
  |xs,(i,l)::rest=>match pl i with
    |none=>none
    |some (off,sz)=>match Nat.beq l.length sz,Nat.ble (off+sz) xs.length with
      |true,true=>Zh4 pl (Zlt xs off l) rest
      |_,_=>none
theorem ZmN{φ:Phi}{a:Act}{w:World}(hc:Conc c φ st a w)(pl:Nat→Option (Nat×Nat)){ps:List (Nat×Operand)}{qs:List (Nat×List AV)}(h:Parts c st ps qs):
    ∀ (cs:Array Value) (xs ys:List AV),cs.size=xs.length→(∀ k,k<xs.length→RelF c.P w (Mut c.A φ st.hp) st.hp.length φ (xs.getD k .any) (cs.getD k undef))→Zh4 pl xs qs=some ys→
      ∃ cs',Instr.fill pl cs (ps.map fun p=>(p.1,a.eval p.2))=some cs'∧cs'.size=ys.length∧ ∀ k,k<ys.length→RelF c.P w (Mut c.A φ st.hp) st.hp.length φ (ys.getD k .any) (cs'.getD k undef):=by
  induction h with
  |nil=>intro cs xs ys h1 h2 h3;cases h3;exact⟨cs,rfl,h1,h2⟩
  | @cons i x l ps qs hx _ ih=>
    intro cs xs ys h1 h2 h3
    simp only [Zh4] at h3
    split at h3
    · cases h3
    · rename_i off sz hpl
      split at h3
      · rename_i hb1 hb2
        have hl:=Nat.eq_of_beq_eq_true hb1
        have hle:=Nat.le_of_ble_eq_true hb2
        obtain⟨c1,c2⟩:=hx φ a w hc
        obtain⟨s1,s2⟩:=Zje xs off l (by omega)
        obtain⟨f1,f2⟩:=Zgt off (a.eval x).cells.toList 0 cs (by simp;omega)
        simp only [List.map_cons,Instr.fill,hpl]
        have hnot: ¬((decide ((a.eval x).cells.size≠sz) || decide (off+(a.eval x).cells.size>cs.size))=true):=by
          simp only [Bool.or_eq_true,decide_eq_true_eq];omega
        rw [nG hnot]
        have ef:(a.eval x).cells.zipIdx.foldl (fun cs (x:Value×Nat)=>cs.setIfInBounds (off+x.2) x.1) cs=((a.eval x).cells.toList.zipIdx 0).foldl (fun cs (x:Value×Nat)=>cs.setIfInBounds (off+x.2) x.1) cs:=by
          rw [←Array.foldl_toList]
          simp
        have ef':(a.eval x).cells.zipIdx.foldl (fun cs (x:Value×Nat)=>match x with | (c,j)=>cs.setIfInBounds (off+j) c) cs=((a.eval x).cells.toList.zipIdx 0).foldl (fun cs (x:Value×Nat)=>cs.setIfInBounds (off+x.2) x.1) cs:=ef
        rw [ef']
        refine ih _ (Zlt xs off l) ys (by rw [f1,s1,h1]) (fun k hk=> ?_) h3
        rw [s1] at hk
        rw [s2 k,f2 k]
        simp only [Nat.add_zero,Array.length_toList]
        by_cases k1:k<off
        · rw [pG k1,pG k1];exact h2 k hk
        · rw [nG k1,nG k1]
          by_cases k2:k<off+l.length
          · rw [pG k2,pG (by omega)]
            have:=c2 (k-off) (by omega)
            simpa [Array.getD_eq_getD_getElem?,gQ] using this
          · rw [nG k2,nG (by omega)];exact h2 k hk
      · cases h3
def Zco(P:Program)(t:Nat):Option (List (Nat×Nat)):=match P.underlying t with
  |some (.struct fs)=>some (fs.toList.map fun f=>(f.offset,P.cellsOf f.type))
  |_=>none
def Zf3(P:Program)(t:Nat):Bool:=match P.underlying t with
  |some (.struct fs)=>fs.all fun f=>(P.info? f.type).isSome
  |_=>false
theorem Xw{t:Nat}{ps:List (Nat×Operand)}{qs:List (Nat×List AV)}{pl:List (Nat×Nat)}{zs:List Value}{ys:List AV}(hpl:Zco c.P t=some pl)(hal:Zf3 c.P t=true)(hz:JM c.P t=some zs)
    (hp:Parts c st ps qs) (hf:Zh4 (pl[·]?) (zs.map constAV) qs=some ys):SVal c ops st ⟨dst,.build t ps.toArray,ty,pos,after,none⟩ (.agg ys):=
  .pure rfl fun φ a w hc=>by
    unfold Zco at hpl
    split at hpl
    · rename_i fs hu
      cases hpl
      unfold JM at hz
      split at hz
      · rename_i i hi
        simp only [Option.map_eq_some_iff] at hz
        obtain⟨z,hz,rfl⟩:=hz
        have hall: ∀ f∈fs,(c.P.info? f.type).isSome=true:=by
          unfold Zf3 at hal
          rw [hu] at hal
          exact fun f hf=>Array.all_eq_true_iff_forall_mem.1 hal f hf
        obtain⟨cs',h1,h2,h3⟩:=ZmN hc ((fs.toList.map fun f=>(f.offset,c.P.cellsOf f.type))[·]?) hp z.cells (z.cells.toList.map constAV) ys (by simp) (fun k hk=>Zt (by
          have hk':k<z.cells.size:=by simpa using hk
          have e:(z.cells.toList.map constAV).getD k .any=constAV (z.cells.getD k undef):=by simp [gQ,hk']
          rw [e]
          exact ZcI _ _ _ _)) hf
        refine⟨.agg cs',?_,ZeV h2.symm h3⟩
        have hplaces:(fs.mapM fun f=>(do pure (f.offset,←sizeOf f.type):Sem (Nat×Nat))).run c.P w= .ok (fs.map fun f=>(f.offset,c.P.cellsOf f.type)) w:=by
          have key: ∀ (l:List Field),(∀ f∈l,(c.P.info? f.type).isSome=true)→(l.mapM fun f=>(do pure (f.offset,←sizeOf f.type):Sem (Nat×Nat))).run c.P w= .ok (l.map fun f=>(f.offset,c.P.cellsOf f.type)) w:=by
            intro l
            induction l with
            |nil=>intro _;rfl
            |cons f l ih=>
              intro hl
              obtain⟨inf,hinf⟩:=Option.isSome_iff_exists.1 (hl f (by simp))
              have ih:=ih fun g hg=>hl g (by simp [hg])
              have e1:(do pure (f.offset,←sizeOf f.type):Sem (Nat×Nat)).run c.P w= .ok (f.offset,c.P.cellsOf f.type) w:=by simp [sizeOf,typeInfo,hinf,Program.cellsOf]
              rw [List.mapM_cons,Sem.run_bind,e1]
              simp only [Result.andThen_ok]
              rw [Sem.run_bind,ih]
              rfl
          have:=key fs.toList (fun f hf=>hall f (by simpa using hf))
          obtain⟨fl⟩:=fs
          rw [List.mapM_toArray,Sem.run_map,this]
          simp
        have hfun:(fun(x:Nat)=>(fs.map fun f=>(f.offset,c.P.cellsOf f.type))[x]?)=((fs.toList.map fun f=>(f.offset,c.P.cellsOf f.type))[·]?):=by
          funext x;simp
        have hzr:(zeroValue t).run c.P w= .ok z w:=by simp [zeroValue,typeInfo,hi,hz]
        have:(Instr.build t (ps.map fun p=>(p.1,a.eval p.2)).toArray).run c.P w= .ok (.agg cs') w:=by
          unfold Instr.build
          simp only [Sem.run_bind,hzr,Result.andThen_ok,run_underlying hu,hplaces,hfun,h1]
          rfl
        have e:(ps.toArray.map fun(p:Nat×Operand)=>(p.1,a.eval p.2))=(ps.map fun p=>(p.1,a.eval p.2)).toArray:=by simp
        show((do pure (Next.value (←Instr.build t (ps.toArray.map fun(p:Nat×Operand)=>(p.1,a.eval p.2)))):Sem Next)).run c.P w=_
        rw [e,Sem.run_bind,this]
        rfl
      · cases hz
    · cases hpl
end ops
end Go.Vx

namespace Go.Vx
open Go Go.RowKit
section ops
variable {c:Ctx} {ops:Array Oper} {st:St} {dst:Option Tmp} {ty:TypeId} {pos:String} {after:Array Edge}
theorem Dat.fn{f:FuncId}:Dat c st (.fn f []) (.fn f []):=by
  intro φ a w hc v hv
  have hv:=hv φ (fun _ _=>rfl)
  cases hv with
  |data h=>exact h
  |fn _ _ vs h1 _=>exact .fn f [] vs h1 (fun i hi=>by cases hi)
theorem ZhK{size:Nat}: ∀ (ps:List (Nat×Value)) (k:Nat) (cs:Array Value),(∀ q,q<ps.length→(ps.getD q (0,undef)).1=k+q)→(∀ p∈ps,p.2.cells.size=size)→(k+ps.length)*size≤cs.size→
    ∃ cs',Instr.fill (fun i=>some (i*size,size)) cs ps=some cs'∧cs'.size=cs.size∧(∀ x,x<k*size→cs'.getD x undef=cs.getD x undef)∧
      ∀ q j,q<ps.length→j<size→cs'.getD ((k+q)*size+j) undef=((ps.getD q (0,undef)).2.cells).getD j undef
  | [],k,cs,_,_,_=>⟨cs,rfl,rfl,fun _ _=>rfl,fun q j hq=>by cases hq⟩
  |p::ps,k,cs,h1,h2,h3=>by
    obtain⟨i,v⟩:=p
    have hi:i=k:=by have:=h1 0 (by simp);simpa using this
    subst hi
    have hv:=h2 (i,v) (by simp)
    simp only at hv
    have hb:i*size+size≤cs.size:=by
      have:(i+1)*size≤(i+((i,v)::ps).length)*size:=Nat.mul_le_mul_right _ (by simp)
      rw [Nat.add_mul,Nat.one_mul] at this
      omega
    obtain⟨f1,f2⟩:=Zgt (i*size) v.cells.toList 0 cs (by simp [hv];omega)
    have ef:v.cells.zipIdx.foldl (fun cs (x:Value×Nat)=>match x with | (c,j)=>cs.setIfInBounds (i*size+j) c) cs=(v.cells.toList.zipIdx 0).foldl (fun cs (x:Value×Nat)=>cs.setIfInBounds (i*size+x.2) x.1) cs:=by
      rw [←Array.foldl_toList]
      simp
    obtain⟨cs',g1,g2,g3,g4⟩:=ZhK ps (i+1) _ (fun q hq=>by have:=h1 (q+1) (by simpa using hq);simp at this ⊢;omega) (fun p hp=>h2 p (by simp [hp])) (by
      rw [f1]
      have:i+1+ps.length=i+((i,v)::ps).length:=by simp;omega
      rw [this];exact h3)
    refine⟨cs',?_,by rw [g2,f1],fun x hx=> ?_,fun q j hq hj=> ?_⟩
    · simp only [Instr.fill]
      have hnot: ¬((decide (v.cells.size≠size) || decide (i*size+v.cells.size>cs.size))=true):=by
        simp only [Bool.or_eq_true,decide_eq_true_eq];omega
      rw [nG hnot,ef]
      exact g1
    · rw [g3 x (by rw [Nat.add_mul];omega),f2 x,pG (by omega)]
    · cases q with
      |zero=>
        rw [Nat.add_zero,g3 _ (by rw [Nat.add_mul];omega),f2,nG (by omega),pG (by simp [hv];omega)]
        simp [Array.getD_eq_getD_getElem?,gQ]
      |succ q=>
        have:=g4 q j (by simpa using hq) hj
        rw [show i+(q+1)=i+1+q by omega,this]
        simp
inductive Elems (c:Ctx) (st:St) (sz:Nat):List (Nat×Operand)→Nat→List (List AV)→Prop
  |nil {k:Nat}:Elems c st sz [] k []
  |cons {k:Nat} {x:Operand} {l l':List AV} {ps:List (Nat×Operand)} {ls:List (List AV)}:CellV c st x l→l'.length=sz→Pw (Dat c st) l l'→Elems c st sz ps (k+1) ls→Elems c st sz ((k,x)::ps) k (l'::ls)
theorem Elems.spec{sz:Nat}{ps:List (Nat×Operand)}{k:Nat}{ls:List (List AV)}(h:Elems c st sz ps k ls){φ:Phi}{a:Act}{w:World}(hc:Conc c φ st a w):
    ps.length=ls.length∧(∀ row∈ls,row.length=sz)∧(∀ q,q<ps.length→((ps.map fun p=>(p.1,a.eval p.2)).getD q (0,undef)).1=k+q)∧(∀ p∈ps.map (fun p=>(p.1,a.eval p.2)),p.2.cells.size=sz)∧
      ∀ q j,q<ps.length→j<sz→RelD c.P w (Mut c.A φ st.hp) (cellAt ls q j) ((((ps.map fun p=>(p.1,a.eval p.2)).getD q (0,undef)).2.cells).getD j undef):=by
  induction h with
  |nil=>exact⟨rfl,by simp,(fun q hq=>by cases hq),by simp,(fun q j hq=>by cases hq)⟩
  | @cons k x l l' ps ls hx hl hd _ ih=>
    have hll:=hd.len
    obtain⟨h1,h2,h3,h4,h5⟩:=ih
    obtain⟨c1,c2⟩:=hx φ a w hc
    refine⟨by simp [h1],?_,fun q hq=> ?_,?_,fun q j hq hj=> ?_⟩
    · intro row hrow
      rcases List.mem_cons.1 hrow with rfl |hrow
      · exact hl
      · exact h2 row hrow
    · cases q with
      |zero=>simp
      |succ q=>
        have:=h3 q (by simpa using hq)
        simp at this ⊢
        omega
    · intro p hp
      rcases List.mem_cons.1 hp with rfl |hp
      · exact c1.trans (hll.trans hl)
      · exact h4 p hp
    · cases q with
      |zero=>
        have:=hd.get j (by omega) φ a w hc _ (c2 j (by omega))
        simpa [cellAt] using this
      |succ q=>
        have:=h5 q j (by simpa using hq) hj
        simpa [cellAt] using this
theorem Jc{t e sz by_ n:Nat}{ps:List (Nat×Operand)}{ls:List (List AV)}(ht:tSl c.P t e sz by_=true)(hp:Elems c st sz ps 0 ls)(hn:ps.length=n)(hbig:Nat.ble (n*sz) (2^24)=true):
    SVal c ops st ⟨dst,.buildSlice t n ps.toArray,ty,pos,after,none⟩ (.sl e ls):=by
  obtain⟨hu,inf,z,hi,hs,hby,hn0,hz,hzs,hcs⟩:=tSl.spec ht
  refine .run rfl fun φ a w hc=> ?_
  obtain⟨h1,h2,h3,h4,h5⟩:=hp.spec hc
  have hbig:n*sz≤2^24:=by simpa using hbig
  have hps:(ps.map fun p=>(p.1,a.eval p.2)).length=n:=by simpa using hn
  obtain⟨cs',g1,g2,_,g4⟩:=ZhK (size:=sz) (ps.map fun p=>(p.1,a.eval p.2)) 0 ((Array.range (n*sz)).map (z.cells[· % z.cells.size]!)) (fun q hq=>by have:=h3 q (by simpa using hq);simpa using this) h4 (by simp [hn])
  have hsz:cs'.size=n*sz:=by rw [g2];simp
  have hzero:n*sz≠0→(zeroValue e).run c.P w= .ok z w:=fun _=>by simp [zeroValue,typeInfo,hi,hz]
  refine⟨.slice (some ⟨w.heap.size,0,none⟩) n n,w.alloc (.cells cs' e),?_,(Below.refl _ _).alloc (Nat.le_refl _) _,Zt ?_⟩
  · have e1:(ps.toArray.map fun(p:Nat×Operand)=>(p.1,a.eval p.2))=(ps.map fun p=>(p.1,a.eval p.2)).toArray:=by simp
    have hsize:(sizeOf e).run c.P w= .ok sz w:=by simp [sizeOf,typeInfo,hi,hs]
    have hfill: ∀ zero:Array Value,(if n*sz=0 then zero= #[] else zero=z.cells)→Instr.fill (fun i=>some (i*sz,sz)) ((Array.range (n*sz)).map (zero[· % zero.size]!)) (ps.map fun p=>(p.1,a.eval p.2))=some cs':=by
      intro zero hzr
      by_cases h0:n*sz=0
      · rw [pG h0] at hzr
        rw [←g1]
        congr 1
        simp [h0]
      · rw [nG h0] at hzr
        rw [hzr];exact g1
    have key:(Instr.buildSlice t n (ps.map fun p=>(p.1,a.eval p.2)).toArray).run c.P w= .ok (.slice (some ⟨w.heap.size,0,none⟩) n n) (w.alloc (.cells cs' e)):=by
      unfold Instr.buildSlice
      rw [Sem.run_bind,run_underlying hu]
      simp only [Result.andThen_ok]
      rw [Sem.run_bind,hsize]
      simp only [Result.andThen_ok]
      rw [nG (by omega)]
      by_cases h0:n*sz=0
      · have:=hfill #[] (by rw [pG h0])
        simp [h0] at this ⊢
        simp [this,newRow]
      · have:=hfill z.cells (by rw [nG h0])
        simp [h0,hzero h0,this,newRow]
    show((do pure (Next.value (←Instr.buildSlice t n (ps.toArray.map fun(p:Nat×Operand)=>(p.1,a.eval p.2)))):Sem Next)).run c.P w=_
    rw [e1,Sem.run_bind,key]
    rfl
  · have hlt:w.heap.size<(w.alloc (.cells cs' e)).heap.size:=by simp
    have hnM: ¬Mut c.A φ st.hp w.heap.size:=fun hm=>by have:=Zhm hc _ hm;omega
    have hll:ls.length=n:=by rw [←h1,hn]
    have hnew:(w.alloc (.cells cs' e)).heap[w.heap.size]?=some (.cells cs' e (0,0)):=heap_alloc_new w _
    have:=RelD.sl (P:=c.P) (w:=w.alloc (.cells cs' e)) (M:=Mut c.A φ st.hp) e ls w.heap.size 0 n (fun i j=>cs'.getD (i*sz+j) undef) hlt hnM (by rw [hll];have:n≤n*sz:=Nat.le_mul_of_pos_right n hn0;omega) (by omega) (by rw [hcs];exact h2) (fun i j hi' hj'=>by
      rw [hcs] at hj'
      rw [Z0 hnew,hcs,Nat.zero_add]
      have:i*sz+j<cs'.size:=by rw [hsz];exact ZbD (by omega) hj'
      simp [this]) (fun i j hi' hj'=>by
      rw [hcs] at hj'
      have e2:=g4 i j (by rw [hps];omega) hj'
      rw [Nat.zero_add] at e2
      rw [e2]
      exact(h5 i j (by omega) hj').mono ((Below.refl w.heap.size w).alloc (Nat.le_refl _) _).size (fun b hb _=>((Below.refl w.heap.size w).alloc (Nat.le_refl _) _).block b hb) (fun _ _ h=>h))
    rw [hll] at this
    exact this
def Zpo:AV→AV→Bool
  | .int _ a,.int _ b=>decide (a=b)
  | .bool a,.bool b=>a==b
  | .str a,.str b=>decide (a=b)
  |_,_=>false
def Zck:List AV→List AV→Bool
  | [],_=>true
  |_,[]=>true
  |x::l,y::m=>Zpo x y&&Zck l m
inductive Kd |i (k:IntKind) |b |s
def Zi7:Kd→AV→Bool
  | .i k,.int k' _=>decide (k=k')
  | .b,.bool _=>true
  | .s,.str _=>true
  |_,_=>false
def Xc:List Kd→List AV→Bool
  | [],[]=>true
  |k::ks,v::vs=>Zi7 k v&&Xc ks vs
  |_,_=>false
end ops
end Go.Vx

namespace Go.Vx
open Go Go.RowKit
section ops
variable {c:Ctx} {ops:Array Oper} {st:St} {dst:Option Tmp} {ty:TypeId} {pos:String} {after:Array Edge}
theorem Zit{x y:Operand}{t u:Nat}{p q:Bool}(op:BinOp)(hop:op= .eql∨op= .neq)(hx:Opv c st x (.bool p))(hy:Opv c st y (.bool q))(ht:(match c.P.underlying t with |some .bool=>true |_=>false)=true):
    SVal c ops st ⟨dst,.binOp op t x y u,ty,pos,after,none⟩ (.bool (if op matches .eql then p==q else !(p==q))):=
  .pure rfl fun φ a w hc=>by
    have hu:c.P.underlying t=some .bool:=by split at ht;assumption;cases ht
    refine⟨_,?_,Zt (.bool _)⟩
    have he:(Op.equal t (.bool p) (.bool q)).run c.P w= .ok (p==q) w:=by
      unfold Op.equal Op.maxDepth
      exact run_equalIn_bool' w 9999 t p q hu
    rcases hop with rfl |rfl
    · simp [execOp,hx.bool hc,hy.bool hc,eqGuard,binOp,he]
    · simp [execOp,hx.bool hc,hy.bool hc,eqGuard,binOp,he]
end ops
theorem w64{z:Int}(h1: -9223372036854775808≤z)(h2:z≤9223372036854775807):IntKind.i64.wrap z=z:=IntWalk.i64_in z ⟨h1,h2⟩
end Go.Vx

namespace Go.Vx
open Go Go.RowKit
theorem gT{b:Bool}(h:b=true):(b==true)=true:=by rw [h];rfl
theorem gF{b:Bool}(h:b=false):(b==false)=true:=by rw [h];rfl
theorem g1{x y:Bool}(h:(x&&y)=true):x=true:=by cases x<;>simp_all
theorem g2{x y:Bool}(h:(x&&y)=true):y=true:=by cases x<;>simp_all
theorem ExtW.app{wl:List Nat}{hp l:List (Option Own)}:ExtW wl hp (hp++l):=⟨by simp,fun r o h=>by
  have:nth (hp++l) r=some o:=by
    induction hp generalizing r with
    |nil=>cases h
    |cons x tl ih=>cases r with |zero=>exact h |succ r=>exact ih r h
  exact⟨fun _=>this,o,this,rfl,rfl⟩⟩
theorem Ext.app{hp l:List (Option Own)}:Ext hp (hp++l):=⟨by simp,fun r o h=>by
  induction hp generalizing r with
  |nil=>cases h
  |cons x tl ih=>cases r with |zero=>exact h |succ r=>exact ih r h⟩
section draw
variable {cw:Md} {c:Ctx} {ops:Array Oper} {st:St} {m:Nat} {K:Exit→St→Prop}
theorem ZO(i:Nat){o:Oper}(v:AV)(ho:ops[i]?=some o)(ht:takeAt cw ops m i=true)(hd:dstLt o.dst c.nt=true)(hf:Zir cw o=true)
    (h: ∀ hp',SVal c ops ⟨restr st.tm (o.looksAt ops),hp'⟩ o v) (k:Dv cw c ops (KE c K) (setBit m i) (st.puto o.dst v)):Dv cw c ops (KE c K) m st:= .take i o v ho ht ⟨hd,.inl ⟨hf,h⟩⟩ k
theorem Xq(i:Nat){o:Oper}(v:AV)(ho:ops[i]?=some o)(ht:takeAt cw ops m i=true)(hd:dstLt o.dst c.nt=true)(hf:Zny o.op=true)(hnf:Zir cw o=false)
    (hB:ExtW cw.wl (cw.bs st.hp) st.hp) (h: ∀ hp',ExtW cw.wl (cw.bs st.hp) hp'→SVal c ops ⟨restr st.tm (o.looksAt ops),hp'⟩ o v) (k:Dv cw c ops (KE c K) (setBit m i) (st.puto o.dst v)):Dv cw c ops (KE c K) m st:= .take i o v ho ht ⟨hd,.inr ⟨⟨hf,hnf⟩,hB,h⟩⟩ k
theorem Zpb(i:Nat){o:Oper}(v:AV)(ho:ops[i]?=some o)(ht:takeQ cw ops m i=true)(hd:dstLt o.dst c.nt=true)(hn:noWrite cw.cw o.op=true)
    (h:SVal c ops ⟨restr st.tm (o.looksAt ops),st.hp⟩ o v) (k:Dv cw c ops (KE c K) (setBit m i) (st.puto o.dst v)):Dv cw c ops (KE c K) m st:= .take0 i o v ho ht ⟨hd,hn,h⟩ k
def Zl7(ops:Array Oper)(m:Nat):Bool:=(List.range ops.size).all fun i=> !readyAt ops m i
theorem Zsd(h:Zl7 ops m=true)(k:K .normal st):Dv cw c ops (KE c K) m st:=
  .done (fun i hi=>by have:=List.all_eq_true.1 h i (List.mem_range.2 hi);simpa using this) ⟨st,k,.refl⟩
theorem Jd{st':St}(h:Zl7 ops m=true)(he:Ent c st st')(k:K .normal st'):Dv cw c ops (KE c K) m st:=
  .done (fun i hi=>by have:=List.all_eq_true.1 h i (List.mem_range.2 hi);simpa using this) ⟨st',k,he⟩
def onlyAt(ops:Array Oper)(m i:Nat):Bool:=readyAt ops m i&&Nat.blt i ops.size&&(List.range ops.size).all fun j=>Nat.beq j i || !readyAt ops m j
theorem onlyAt.spec{i:Nat}(h:onlyAt ops m i=true):readyAt ops m i=true∧i<ops.size∧ ∀ j,j<ops.size→readyAt ops m j=true→j=i:=by
  unfold onlyAt at h
  simp only [Bool.and_eq_true] at h
  obtain⟨⟨h1,h2⟩,h3⟩:=h
  refine⟨h1,by simpa using h2,fun j hj hr=> ?_⟩
  have:=List.all_eq_true.1 h3 j (List.mem_range.2 hj)
  rw [hr] at this
  simp only [Bool.not_true,Bool.or_false] at this
  exact Nat.eq_of_beq_eq_true this
theorem Zba(i:Nat){o:Oper}(v:AV)(hp':List (Option Own))(ho:ops[i]?=some o)(ht:onlyAt ops m i=true)(hd:dstLt o.dst c.nt=true)(hn:noWrite cw.cw o.op=false)
    (hx:extOp o.op=true→Ext st.hp hp') (hy:cw.fr=true→ExtW cw.wl cw.base hp') (h:WVal c ops ⟨restr st.tm (o.looksAt ops),st.hp⟩ o v hp') (k:Dv cw c ops (KE c K) (setBit m i) (St.puto ⟨st.tm,hp'⟩ o.dst v)):Dv cw c ops (KE c K) m st:=by
  obtain⟨h1,h2,h3⟩:=onlyAt.spec ht
  refine .branch (fun _=>St.puto ⟨st.tm,hp'⟩ o.dst v) ⟨i,h2,h1⟩ (fun j hj hr=> ?_) (fun j hj hr=> ?_)
  · rw [h3 j hj hr];exact .w ho ⟨hd,hn,hx,hy,h⟩
  · rw [h3 j hj hr];exact k
end draw
theorem ZrU{c:Ctx}{x y:Code}{st:St}{K:Exit→St→Prop}{ι:Type}(C:ι→Prop)(J:ι→St)(h:T c x st (Zft (fun st'=> ∃ i,C i∧Ent c st' (J i)) K))(k: ∀ i,C i→T c y (J i) K):T c (.seq x y) st K:=
  Zh (Zni h fun e st' hk=>by
    cases e with
    |normal=>obtain⟨i,hi,he⟩:=hk;exact ZbK he (k i hi)
    |exit id=>exact hk
    |goto l=>exact hk
    |ret=>exact hk
    |panic ch=>exact hk
    |outgrown=>exact hk)
end Go.Vx
namespace Go.Vx
theorem Zbh{c:Ctx}{ops:Array Oper}{st:St}{dst:Option Tmp}{op:Op}{ty:TypeId}{pos:String}{after:Array Edge}{v:AV}(h:SVal c ops st ⟨dst,op,ty,pos,after,none⟩ v):WVal c ops st ⟨dst,op,ty,pos,after,none⟩ v st.hp:=by
  intro φ a w hc
  refine⟨ZbC rfl,Oper.wp_mono (fun a' w' ⟨u,h1,h2,h3⟩=>⟨u,φ,h1,hc.hok.below h2,fun av x hr=>hr.below h2,h3⟩) ((h φ a w hc).1 (ZbC rfl))⟩
end Go.Vx

namespace Go.Vx
open Go Go.RowKit
theorem ZK{c:Ctx}{st:St}{rs:Array ResultVar}{r r':AV}(e:r'=r)(h:Ret c st rs r'):Zsn c rs r .ret st:=by subst e;exact h
theorem pwB{c:Ctx}{st:St}{l:List AV}(h:l.all datB=true):Pw (View c st) l l:= .refl fun x hx=>Dat.view (.b (List.all_eq_true.1 h x hx))
theorem Zki{α:Type}{f:α→List AV}{xs:List α}{i:Nat}{x:α}(h:xs[i]?=some x):(xs.map f)[i]?=some (f x):=by simp [h]
theorem Zgw{α:Type}(f:α→List AV)(xs:List α):((xs.map f).length:Int)=(xs.length:Int):=by simp
theorem Ztr{z:Int}(h1:0≤z)(h2:z<18446744073709551616):IntKind.u64.wrap z=z:=by
  simp [IntKind.wrap,IntKind.bits,IntKind.signed];omega
end Go.Vx

namespace Go.Vx
open Go Go.RowKit
section
variable {c:Ctx} {ops:Array Oper} {st:St} {dst:Option Tmp} {ty:TypeId} {pos:String} {after:Array Edge}
end
end Go.Vx

namespace Go.Vx
open Go Go.RowKit
theorem pwD{c:Ctx}{st:St}{l:List AV}(h:l.all datB=true):Pw (Dat c st) l l:= .refl fun x hx=> .b (List.all_eq_true.1 h x hx)
theorem Zk3{es:List (List AV)}{i j n:Nat}(h: ∀ row∈es,row.length=n∧row.all datB=true)(hi:i<es.length)(hj:j<n):datB (cellAt es i j)=true:=by
  have h1:=h _ (List.getElem_mem hi)
  have:cellAt es i j=es[i][j]'(by omega):=by simp [cellAt,gQ,hi,h1.1,hj]
  rw [this]
  exact List.all_eq_true.1 h1.2 _ (List.getElem_mem _)
section draw
variable {cw:Md} {c:Ctx} {ops:Array Oper} {st:St} {m:Nat} {K:Exit→St→Prop}
def ZmP(ops:Array Oper)(m i j:Nat):Bool:=readyAt ops m i&&Nat.blt i ops.size&&Nat.blt j ops.size&&(List.range ops.size).all fun k=>Nat.beq k i || Nat.beq k j || !readyAt ops m k
theorem Zod(i j:Nat){o o':Oper}{v v':AV}{hp1 hp2:List (Option Own)}(ho:ops[i]?=some o)(ho':ops[j]?=some o')(ht:ZmP ops m i j=true)(hd:dstLt o.dst c.nt=true)(hd':dstLt o'.dst c.nt=true)(hn:noWrite cw.cw o.op=false)(hn':noWrite cw.cw o'.op=false)
    (hx:extOp o.op=true→Ext st.hp hp1) (hx':extOp o'.op=true→Ext st.hp hp2) (hy:cw.fr=true→ExtW cw.wl cw.base hp1) (hy':cw.fr=true→ExtW cw.wl cw.base hp2)
    (h:WVal c ops ⟨restr st.tm (o.looksAt ops),st.hp⟩ o v hp1) (h':WVal c ops ⟨restr st.tm (o'.looksAt ops),st.hp⟩ o' v' hp2)
    (k:Dv cw c ops (KE c K) (setBit m i) (St.puto ⟨st.tm,hp1⟩ o.dst v)) (k':Dv cw c ops (KE c K) (setBit m j) (St.puto ⟨st.tm,hp2⟩ o'.dst v')):Dv cw c ops (KE c K) m st:=by
  unfold ZmP at ht
  simp only [Bool.and_eq_true] at ht
  obtain⟨⟨⟨h1,h2⟩,h3⟩,h4⟩:=ht
  have only: ∀ k,k<ops.size→readyAt ops m k=true→k=i∨k=j:=fun k hk hr=>by
    have:=List.all_eq_true.1 h4 k (List.mem_range.2 hk)
    rw [hr] at this
    simp only [Bool.not_true,Bool.or_false,Bool.or_eq_true] at this
    rcases this with h |h
    · exact .inl (Nat.eq_of_beq_eq_true h)
    · exact .inr (Nat.eq_of_beq_eq_true h)
  refine .branch (fun k=>if k=i then St.puto ⟨st.tm,hp1⟩ o.dst v else St.puto ⟨st.tm,hp2⟩ o'.dst v') ⟨i,by simpa using h2,h1⟩ (fun q hq hr=> ?_) (fun q hq hr=> ?_)
  · by_cases hqi:q=i
    · subst hqi;rw [pG rfl];exact .w ho ⟨hd,hn,hx,hy,h⟩
    · rcases only q hq hr with rfl |rfl
      · exact absurd rfl hqi
      · rw [nG hqi];exact .w ho' ⟨hd',hn',hx',hy',h'⟩
  · by_cases hqi:q=i
    · subst hqi;rw [pG rfl];exact k
    · rcases only q hq hr with rfl |rfl
      · exact absurd rfl hqi
      · rw [nG hqi];exact k'
end draw
end Go.Vx

namespace Go.Vx
open Go Go.RowKit Go.ChangeShapes Go.WideShapes
inductive Sh:Type
  |int (k:IntKind)
  |bool
  |str
  |sl (e:TypeId) (fs:List Sh)
inductive Fits:Sh→AV→Prop
  |int {k:IntKind} {n:Int}:(Lit.int k n).wf=true→Fits (.int k) (.int k n)
  |bool (b:Bool):Fits .bool (.bool b)
  |str {s:List UInt8}:s.length≤maxLen→Fits .str (.str s)
  |sl {e:TypeId} {fs:List Sh} {l:List (List AV)}:l.length≤maxLen→(∀ row∈l,row.length=fs.length)→(∀ i j,i<l.length→j<fs.length→Fits (fs.getD j .bool) (cellAt l i j))→Fits (.sl e fs) (.sl e l)
def ZcJ(ss:List Sh)(l:List AV):Prop:=l.length=ss.length∧ ∀ j,j<ss.length→Fits (ss.getD j .bool) (l.getD j .any)
def ZoY(P:Program)(g:TypeId→Option (List Sh)):Nat→List Field→Option (List Sh)
  |_,[]=>some []
  |off,f::tl=>match g f.type with
    |some ss=>if Nat.beq f.offset off&&Nat.beq (P.cellsOf f.type) ss.length then(match ZoY P g (off+ss.length) tl with |some r=>some (ss++r) |none=>none) else none
    |none=>none
def Zl3(P:Program):Nat→TypeId→Option (List Sh)
  |0,_=>none
  |n+1,t=>match P.underlying t with
    |some (.int k)=>some [.int k]
    |some .bool=>some [.bool]
    |some .string=>some [.str]
    |some (.slice e)=>match Zl3 P n e with
      |some fs=>if Nat.beq fs.length (P.cellsOf e)&&Nat.blt 0 fs.length then some [.sl e fs] else none
      |none=>none
    |some (.struct fs)=>match ZoY P (Zl3 P n) 0 fs.toList with
      |some ss=>if Nat.beq ss.length (P.cellsOf t) then some ss else none
      |none=>none
    |some (.array k e)=>match Zl3 P n e with
      |some es=>if Nat.beq (k*es.length) (P.cellsOf t)&&Nat.beq es.length (P.cellsOf e) then some (List.replicate k es).flatten else none
      |none=>none
    |_=>none
def No:Nat→Prop:=fun _=>False
section
variable {H:Type} {enc:TypeId×Value→H} {P:Program} {w:World} {base:Nat} {spare:Nat→Bool} {held:Bool}
def ZqI(P:Program)(w:World)(ss:List Sh)(cs:List Value):Prop:=cs.length=ss.length∧ ∃ l,ZcJ ss l∧ ∀ j,j<ss.length→RelD P w No (l.getD j .any) (cs.getD j undef)
theorem Zoq{s:Sh}{av:AV}(h:Fits s av):ZcJ [s] [av]:=⟨rfl,fun j hj=>by simp at hj;subst hj;exact h⟩
theorem Zgf{s:Sh}{av:AV}{v:Value}(h:Fits s av)(hr:RelD P w No av v):ZqI P w [s] [v]:=⟨rfl,[av],Zoq h,fun j hj=>by simp at hj;subst hj;exact hr⟩
theorem ZjP{g:TypeId→Option (List Sh)}{m:Nat}{cs:List Value}(hg: ∀ t ss cs' y,g t=some ss→DataW.trod enc P w base spare held m t cs'=some y→ZqI P w ss cs'):
    ∀ (fl:List Field) (off:Nat) (ss:List Sh),ZoY P g off fl=some ss→(∀ f∈fl,∃ y,DataW.trod enc P w base spare held m f.type ((cs.drop f.offset).take (P.cellsOf f.type))=some y)→
      ∃ l,ZcJ ss l∧ ∀ j,j<ss.length→RelD P w No (l.getD j .any) (cs.getD (off+j) undef)
  | [],off,ss,h,_=>by
    simp only [ZoY] at h;cases h
    exact⟨[],⟨rfl,fun j hj=>by cases hj⟩,fun j hj=>by cases hj⟩
  |f::tl,off,ss,h,hf=>by
    simp only [ZoY] at h
    split at h
    · rename_i s1 hs1
      split at h
      · rename_i hc
        simp only [Bool.and_eq_true] at hc
        obtain⟨hc1,hc2⟩:=hc
        have hc1:=Nat.eq_of_beq_eq_true hc1
        have hc2:=Nat.eq_of_beq_eq_true hc2
        split at h
        · rename_i r hr
          cases h
          obtain⟨y,hy⟩:=hf f (by simp)
          obtain⟨hlen,l1,hl1,hr1⟩:=hg _ _ _ _ hs1 hy
          obtain⟨l2,hl2,hr2⟩:=ZjP hg tl (off+s1.length) r hr (fun f' hf'=>hf f' (by simp [hf']))
          refine⟨l1++l2,⟨by simp [hl1.1,hl2.1],fun j hj=> ?_⟩,fun j hj=> ?_⟩
          · by_cases hj1:j<s1.length
            · have:=hl1.2 j hj1
              simpa [gQ,List.getElem?_append,hj1,hl1.1] using this
            · have:=hl2.2 (j-s1.length) (by simp at hj;omega)
              simpa [gQ,List.getElem?_append,hj1,hl1.1] using this
          · by_cases hj1:j<s1.length
            · have:=hr1 j hj1
              rw [hc1,hc2] at this
              simpa [gQ,List.getElem?_append,hj1,hl1.1,List.getElem?_take,List.getElem?_drop] using this
            · have:=hr2 (j-s1.length) (by simp at hj;omega)
              rw [show off+s1.length+(j-s1.length)=off+j by omega] at this
              simpa [gQ,List.getElem?_append,hj1,hl1.1] using this
        · cases h
      · cases h
    · cases h
theorem ZkX{es:List Sh}{cs:List Value}: ∀ (k:Nat),(∀ i,i<k→ZqI P w es ((cs.drop (i*es.length)).take es.length))→
    ∃ l,ZcJ (List.replicate k es).flatten l∧ ∀ j,j<(List.replicate k es).flatten.length→RelD P w No (l.getD j .any) (cs.getD j undef)
  |0,_=>⟨[],⟨rfl,fun j hj=>by cases hj⟩,fun j hj=>by cases hj⟩
  |k+1,h=>by
    obtain⟨l1,hl1,hr1⟩:=ZkX k (fun i hi=>h i (by omega))
    obtain⟨hlen,l2,hl2,hr2⟩:=h k (by omega)
    have hfl:(List.replicate k es).flatten.length=k*es.length:=by simp
    have hll:l1.length=k*es.length:=by rw [hl1.1,hfl]
    have e:(List.replicate (k+1) es).flatten=(List.replicate k es).flatten++es:=by rw [List.replicate_succ'];simp
    rw [e]
    refine⟨l1++l2,⟨by simp [hl1.1,hl2.1],fun j hj=> ?_⟩,fun j hj=> ?_⟩
    · by_cases hj1:j<k*es.length
      · have:=hl1.2 j (by omega)
        simpa [gQ,List.getElem?_append,hj1,hll,hfl] using this
      · have:=hl2.2 (j-k*es.length) (by simp at hj;omega)
        simpa [gQ,List.getElem?_append,hj1,hll,hfl] using this
    · by_cases hj1:j<k*es.length
      · have:=hr1 j (by omega)
        simpa [gQ,List.getElem?_append,hj1,hll,hfl] using this
      · have hj2:j-k*es.length<es.length:=by simp at hj;omega
        have:=hr2 (j-k*es.length) hj2
        simp only [gQ,List.getElem?_take,List.getElem?_drop,pG hj2] at this
        rw [show k*es.length+(j-k*es.length)=j by omega] at this
        simpa [gQ,List.getElem?_append,hj1,hll] using this
theorem ZhL: ∀ (n:Nat) (t:TypeId) (ss:List Sh) (fuel:Nat) (cs:List Value) (x:DataW H×List MemPlace),Zl3 P n t=some ss→DataW.trod enc P w base spare held fuel t cs=some x→ZqI P w ss cs
  |0,_,_,_,_,_,h,_=>by cases h
  |n+1,t,ss,fuel,cs,x,h,hx=>by
    simp only [Zl3] at h
    split at h
    · rename_i k hu
      cases h
      obtain⟨z,rfl,_,hw⟩:=DataW.trod_int hu hx
      exact Zgf (.int hw) (.int _ _)
    · rename_i hu
      cases h
      obtain⟨b,rfl,_⟩:=DataW.trod_bool hu hx
      exact Zgf (.bool b) (.bool _)
    · rename_i hu
      cases h
      obtain⟨s,rfl,_,hs⟩:=DataW.trod_string hu hx
      refine Zgf (av:= .str s.data.toList) (.str (by simpa using hs)) ?_
      have:s=⟨s.data.toList.toArray⟩:=by simp
      exact this▸ .str s.data.toList
    · rename_i e hu
      split at h
      · rename_i fs hfs
        split at h
        · rename_i hc
          simp only [Bool.and_eq_true] at hc
          have hc1:=Nat.eq_of_beq_eq_true hc.1
          have hc2:0<fs.length:=by simpa using hc.2
          cases h
          rcases Go.Deep.open_slice hu hx with ⟨rfl,_⟩ | ⟨a,len,cap,m,q,D,Pl,rfl,_,hl,hm,hmm,_,hi⟩
          · exact Zgf (av:= .sl e []) (.sl (by simp) (fun row hr=>by cases hr) fun i j hi=>by cases hi) (.sl0 _ _ _)
          · have hle:len≤m:=by rw [hmm];split<;>omega
            have key: ∀ i,i<len→ ∃ p:List Value×List AV,p.1.length=fs.length∧(∀ j,j<fs.length→w.cell? (a.add (i*P.cellsOf e+j))=some (p.1.getD j undef))∧ZcJ fs p.2∧ ∀ j,j<fs.length→RelD P w No (p.2.getD j .any) (p.1.getD j undef):=by
              intro i hil
              obtain⟨cs',h1,h2⟩:=hi i (by omega)
              obtain⟨g1,l,g2,g3⟩:=ZhL n e fs q cs' _ hfs h2
              obtain⟨_,_,hat⟩:=World.cells?_some h1
              refine⟨(cs',l),g1,fun j hj=> ?_,g2,g3⟩
              have:=hat j (by omega)
              rw [Go.Deep.add_add] at this
              show w.cell? (a.add (i*P.cellsOf e+j))=some (cs'.getD j undef)
              rw [this,List.getElem?_eq_getElem (by omega),gQ,List.getElem?_eq_getElem (by omega)];rfl
            obtain⟨F,hF⟩:=Go.Deep.choose_lt (α:=List Value×List AV) key
            by_cases hlen0:len=0
            · subst hlen0
              exact Zgf (av:= .sl e []) (.sl (by simp) (fun row hr=>by cases hr) fun i j hi=>by cases hi) (.sl0 _ _ _)
            · have hcell0:=(hF 0 (by omega)).2.1 0 hc2
              obtain⟨b,off,spot⟩:=a
              have hspot:spot=none:=World.cell?_spot (a:=(Addr.mk b off spot).add (0*P.cellsOf e+0)) hcell0 |>fun h=>by simpa [Addr.add] using h
              subst hspot
              have hblt:=World.block_lt_of_cell? w _ hcell0
              have hL:((List.range len).map fun i=>(F i).2).length=len:=by simp
              have hca: ∀ i j,i<len→cellAt ((List.range len).map fun i=>(F i).2) i j=(F i).2.getD j .any:=fun i j hi'=>by
                simp [cellAt,gQ,hi']
              have hrows: ∀ row∈(List.range len).map fun i=>(F i).2,row.length=fs.length:=by
                intro row hr
                obtain⟨i,hir,rfl⟩:=List.mem_map.1 hr
                exact(hF i (List.mem_range.1 hir)).2.2.1.1
              refine Zgf (av:= .sl e ((List.range len).map fun i=>(F i).2)) (.sl (by rw [hL];omega) hrows fun i j hi' hj'=> ?_) ?_
              · rw [hL] at hi'
                rw [hca i j hi']
                exact(hF i hi').2.2.1.2 j hj'
              · have:=RelD.sl (P:=P) (w:=w) (M:=No) e ((List.range len).map fun i=>(F i).2) b off cap (fun i j=>(F i).1.getD j undef) (by simpa [Addr.add] using hblt) (fun h=>h) (by rw [hL];simp only [maxLen] at hm;omega) (by rw [hL];omega)
                  (fun row hr=>by rw [hrows row hr,hc1]) (fun i j hi' hj'=>by
                    rw [hL] at hi'
                    have:=(hF i hi').2.1 j (by omega)
                    rw [←this]
                    congr 1
                    simp only [Addr.add]
                    split
                    · rename_i h0;rw [h0];rfl
                    · rfl) (fun i j hi' hj'=>by
                    rw [hL] at hi'
                    rw [hca i j hi']
                    exact(hF i hi').2.2.2 j (by omega))
                rw [hL] at this
                exact this
        · cases h
      · cases h
    · rename_i fs hu
      split at h
      · rename_i s1 hs1
        split at h
        · rename_i hc
          have hc:=Nat.eq_of_beq_eq_true hc
          cases h
          obtain⟨xs,m,_,_,hcl,hxl,hf⟩:=DataW.trod_struct hu hx
          obtain⟨l,h1,h2⟩:=ZjP (m:=m) (cs:=cs) (fun t ss cs' y h h'=>ZhL n t ss m cs' y h h') fs.toList 0 _ hs1 (fun f hfm=>by
            obtain⟨i,hi,rfl⟩:=List.getElem_of_mem hfm
            have hi':i<fs.size:=by simpa using hi
            have:=hf i fs[i] (by simp [hi'])
            rw [List.getElem?_eq_getElem (by omega)] at this
            exact⟨_,by simpa using this⟩)
          exact⟨by omega,l,h1,fun j hj=>by simpa using h2 j hj⟩
        · cases h
      · cases h
    · rename_i k e hu
      split at h
      · rename_i es hes
        split at h
        · rename_i hc
          simp only [Bool.and_eq_true] at hc
          have hc1:=Nat.eq_of_beq_eq_true hc.1
          have hc2:=Nat.eq_of_beq_eq_true hc.2
          cases h
          obtain⟨xs,m,_,_,hcl,hxl,hi⟩:=DataW.trod_array hu hx
          obtain⟨l,h1,h2⟩:=ZkX (cs:=cs) (es:=es) k (fun i hik=>by
            have h1:=hi i hik
            rw [List.getElem?_eq_getElem (by omega)] at h1
            have:=ZhL n e es m _ _ hes h1
            rw [←hc2] at this;exact this)
          exact⟨by rw [hcl,←hc1];simp,l,h1,h2⟩
        · cases h
      · cases h
    · cases h
theorem ZlT{t:TypeId}{s:Sh}{v:Value}{d:DataW H}{p:List MemPlace}(n:Nat)(hc:v.cells= #[v])
    (h:DataW.Trod enc P w base spare held t v d p) (hsh:Zl3 P n t=some [s]): ∃ av,Fits s av∧RelD P w No av v:=by
  obtain⟨fuel,hf⟩:=h
  rw [hc] at hf
  obtain⟨_,l,h2,h3⟩:=ZhL n t [s] fuel _ _ hsh hf
  exact⟨l.getD 0 .any,h2.2 0 (by simp),by simpa using h3 0 (by simp)⟩
end
end Go.Vx

namespace Go.Vx
open Go Go.RowKit
section
variable {c:Ctx} {ops:Array Oper} {st:St} {dst:Option Tmp} {ty:TypeId} {pos:String} {after:Array Edge}
theorem Zf9{t len e sz:Nat}{ps:List (Nat×Operand)}{qs:List (Nat×List AV)}{zs:List Value}{ys:List AV}(ht:tArr c.P t len e sz=true)(hz:JM c.P t=some zs)
    (hp:Parts c st ps qs) (hf:Zh4 (fun i=>some (i*sz,sz)) (zs.map constAV) qs=some ys):SVal c ops st ⟨dst,.build t ps.toArray,ty,pos,after,none⟩ (.agg ys):=
  .pure rfl fun φ a w hc=>by
    obtain⟨hu,ie,hie,hse⟩:=tArr.spec ht
    unfold JM at hz
    split at hz
    · rename_i i hi
      simp only [Option.map_eq_some_iff] at hz
      obtain⟨z,hz,rfl⟩:=hz
      obtain⟨cs',h1,h2,h3⟩:=ZmN hc (fun i=>some (i*sz,sz)) hp z.cells (z.cells.toList.map constAV) ys (by simp) (fun k hk=>Zt (by
        have hk':k<z.cells.size:=by simpa using hk
        have e:(z.cells.toList.map constAV).getD k .any=constAV (z.cells.getD k undef):=by simp [gQ,hk']
        rw [e]
        exact ZcI _ _ _ _)) hf
      refine⟨.agg cs',?_,ZeV h2.symm h3⟩
      have hzr:(zeroValue t).run c.P w= .ok z w:=by simp [zeroValue,typeInfo,hi,hz]
      have hso:(sizeOf e).run c.P w= .ok sz w:=by simp [sizeOf,typeInfo,hie,hse]
      have:(Instr.build t (ps.map fun p=>(p.1,a.eval p.2)).toArray).run c.P w= .ok (.agg cs') w:=by
        unfold Instr.build
        simp only [Sem.run_bind,hzr,Result.andThen_ok,run_underlying hu,hso,h1]
        rfl
      have e:(ps.toArray.map fun(p:Nat×Operand)=>(p.1,a.eval p.2))=(ps.map fun p=>(p.1,a.eval p.2)).toArray:=by simp
      show((do pure (Next.value (←Instr.build t (ps.toArray.map fun(p:Nat×Operand)=>(p.1,a.eval p.2)))):Sem Next)).run c.P w=_
      rw [e,Sem.run_bind,this]
      rfl
    · cases hz
theorem Zo0{x y:Operand}{t e len m:Nat}{k:IntKind}{z:Int}{l:List AV}{v:AV}(h:Opv c st x (.agg l))(hy:Opv c st y (.int k z))(ht:tArr c.P t len e 1=true)(he:tScal c.P e=true)
    (hz:z=(m:Int)) (hm:m<len) (hv:l[m]?=some v):SVal c ops st ⟨dst,.index t x y,ty,pos,after,none⟩ v:=
  .pure rfl fun φ a w hc=>by
    obtain⟨hu,ie,hie,hse⟩:=tArr.spec ht
    obtain⟨i2,d2,hi2,hs2,hu2,hr2,hcs⟩:=tScal.spec he
    obtain⟨vs,hx,hl,hr⟩:=Zcg (h φ a w hc)
    have e1:=hy.int hc
    have hml:m<l.length:=(List.getElem?_eq_some_iff.1 hv).1
    have hmv:m<vs.size:=by omega
    have:=hr m hml
    rw [getD_of_get? hv] at this
    refine⟨vs.getD m undef,?_,this⟩
    subst hz
    have hpart:(part e vs (m*1)).run c.P w= .ok (vs.getD m undef) w:=by
      have hagg:(isAgg e).run c.P w= .ok false w:=by
        unfold isAgg
        rw [Sem.run_bind,run_underlying hu2 w]
        cases d2<;>simp_all
      unfold part
      simp [hagg,hmv]
    simp [execOp,hx,e1,Instr.index,asIntOf,run_underlying hu,sizeOf,typeInfo,hie,hse,hm]
    rw [Nat.mul_one] at hpart
    rw [hpart]
    simp
end
end Go.Vx

namespace Go.Vx
open Go Go.RowKit
section
variable {c:Ctx} {ops:Array Oper} {st:St} {dst:Option Tmp} {ty:TypeId} {pos:String} {after:Array Edge}
theorem ZsX{t e sz by_ n r:Nat}{ps:List (Nat×Operand)}{ls:List (List AV)}(hr:st.hp.length=r)(ht:tSl c.P t e sz by_=true)(hp:Elems c st sz ps 0 ls)(hn:ps.length=n)(hbig:Nat.ble (n*sz) (2^24)=true):
    WVal c ops st ⟨dst,.buildSlice t n ps.toArray,ty,pos,after,none⟩ (.own r n) (st.hp++ [some ⟨e,ls⟩]):=by
  subst hr
  obtain⟨hu,inf,z,hi,hs,hby,hn0,hz,hzs,hcs⟩:=tSl.spec ht
  refine .run rfl fun φ a w hc=> ?_
  obtain⟨h1,h2,h3,h4,h5⟩:=hp.spec hc
  have hbig:n*sz≤2^24:=by simpa using hbig
  have hps:(ps.map fun p=>(p.1,a.eval p.2)).length=n:=by simpa using hn
  obtain⟨cs',g1,g2,_,g4⟩:=ZhK (size:=sz) (ps.map fun p=>(p.1,a.eval p.2)) 0 ((Array.range (n*sz)).map (z.cells[· % z.cells.size]!)) (fun q hq=>by have:=h3 q (by simpa using hq);simpa using this) h4 (by simp [hn])
  have hsz:cs'.size=n*sz:=by rw [g2];simp
  have hzero:n*sz≠0→(zeroValue e).run c.P w= .ok z w:=fun _=>by simp [zeroValue,typeInfo,hi,hz]
  have hll:ls.length=n:=by rw [←h1,hn]
  have hle:n≤n*sz:=Nat.le_mul_of_pos_right n hn0
  obtain⟨k1,k2⟩:=ZiB (o:=⟨e,ls⟩) (cs:=cs') (cap:=n) hc.hok (by simp [hsz,hcs]) (by omega) (by simp only [hll];exact Nat.le_refl _) (by simpa [hcs] using h2) (fun i j hi' hj'=>by
    simp only [hcs] at hj' ⊢
    have e2:=g4 i j (by rw [hps];simp only [hll] at hi';exact hi') hj'
    rw [Nat.zero_add] at e2
    rw [e2]
    exact Zt (h5 i j (by rw [hn];simp only [hll] at hi';exact hi') hj'))
  refine⟨.slice (some ⟨w.heap.size,0,none⟩) n n,_,_,?_,k1,k2,fun φ' hφ=> ?_⟩
  · have e1:(ps.toArray.map fun(p:Nat×Operand)=>(p.1,a.eval p.2))=(ps.map fun p=>(p.1,a.eval p.2)).toArray:=by simp
    have hsize:(sizeOf e).run c.P w= .ok sz w:=by simp [sizeOf,typeInfo,hi,hs]
    have hfill: ∀ zero:Array Value,(if n*sz=0 then zero= #[] else zero=z.cells)→Instr.fill (fun i=>some (i*sz,sz)) ((Array.range (n*sz)).map (zero[· % zero.size]!)) (ps.map fun p=>(p.1,a.eval p.2))=some cs':=by
      intro zero hzr
      by_cases h0:n*sz=0
      · rw [pG h0] at hzr
        rw [←g1]
        congr 1
        simp [h0]
      · rw [nG h0] at hzr
        rw [hzr];exact g1
    have key:(Instr.buildSlice t n (ps.map fun p=>(p.1,a.eval p.2)).toArray).run c.P w= .ok (.slice (some ⟨w.heap.size,0,none⟩) n n) (w.alloc (.cells cs' e)):=by
      unfold Instr.buildSlice
      rw [Sem.run_bind,run_underlying hu]
      simp only [Result.andThen_ok]
      rw [Sem.run_bind,hsize]
      simp only [Result.andThen_ok]
      rw [nG (by omega)]
      by_cases h0:n*sz=0
      · have:=hfill #[] (by rw [pG h0])
        simp [h0] at this ⊢
        simp [this,newRow]
      · have:=hfill z.cells (by rw [nG h0])
        simp [h0,hzero h0,this,newRow]
    show((do pure (Next.value (←Instr.buildSlice t n (ps.toArray.map fun(p:Nat×Operand)=>(p.1,a.eval p.2)))):Sem Next)).run c.P w=_
    rw [e1,Sem.run_bind,key]
    rfl
  · have e1:φ' st.hp.length=⟨some w.heap.size,n,ls.length,c.P.cellsOf e,false,fun _=>False⟩:=by
      have:=hφ st.hp.length (by simp)
      simpa using this
    exact .own _ n _ rfl (by rw [e1];simp only [hll];exact Nat.le_refl _) fun _=>by rw [e1];exact⟨rfl,rfl⟩
end
end Go.Vx

namespace Go.Vx
open Go Go.RowKit
section
variable {c:Ctx} {ops:Array Oper} {st:St} {dst:Option Tmp} {ty:TypeId} {pos:String} {after:Array Edge}
inductive OpsV (c:Ctx) (st:St):List Operand→List AV→Prop
  |nil:OpsV c st [] []
  |cons {x:Operand} {av:AV} {xs:List Operand} {l:List AV}:Opv c st x av→OpsV c st xs l→OpsV c st (x::xs) (av::l)
theorem OpsV.rel{xs:List Operand}{l:List AV}(h:OpsV c st xs l){φ:Phi}{a:Act}{w:World}(hc:Conc c φ st a w):
    xs.length=l.length∧ ∀ i,i<l.length→RelF c.P w (Mut c.A φ st.hp) st.hp.length φ (l.getD i .any) ((xs.map a.eval).getD i undef):=by
  induction h with
  |nil=>exact⟨rfl,fun i hi=>by cases hi⟩
  |cons h1 _ ih=>
    refine⟨by simp [ih.1],fun i hi=> ?_⟩
    cases i with
    |zero=>simpa using h1 φ a w hc
    |succ i=>simpa using ih.2 i (by simpa using hi)
theorem Zk9{f:FuncId}{xs:List Operand}{l:List AV}(h:OpsV c st xs l):SVal c ops st ⟨dst,.makeFunc (.func f) #[] xs.toArray,ty,pos,after,none⟩ (.fn f l):=
  .pure rfl fun φ a w hc=>by
    obtain⟨h1,h2⟩:=h.rel hc
    refine⟨.func (.func f) #[] (xs.map a.eval).toArray,by simp [execOp,Instr.makeFunc],fun φ' hφ=> .fn f l _ (by simp [h1]) fun i hi=> ?_⟩
    have:=h2 i hi φ' hφ
    simpa [Array.getD_eq_getD_getElem?,gQ] using this
theorem Zky{P:Program}{w:World}{M:Nat→Prop}{n:Nat}{φ:Phi}{f:FuncId}{l:List AV}{v:Value}(h:RelF P w M n φ (.fn f l) v):
    ∃ vs,v= .func (.func f) #[] vs∧l.length=vs.size∧ ∀ i,i<l.length→RelF P w M n φ (l.getD i .any) (vs.getD i undef):=by
  have key: ∀ φ',Rel P w M φ' (.fn f l) v→ ∃ vs,v= .func (.func f) #[] vs∧l.length=vs.size∧ ∀ i,i<l.length→Rel P w M φ' (l.getD i .any) (vs.getD i undef):=by
    intro φ' h
    cases h with
    |data h=>cases h with |fn _ _ vs h1 h2=>exact⟨vs,rfl,h1,fun i hi=> .data (h2 i hi)⟩
    |fn _ _ vs h1 h2=>exact⟨vs,rfl,h1,h2⟩
  obtain⟨vs,rfl,h1,_⟩:=key φ (h φ (fun _ _=>rfl))
  refine⟨vs,rfl,h1,fun i hi φ' hφ=> ?_⟩
  obtain⟨vs',e,_,h3⟩:=key φ' (h φ' hφ)
  cases e
  exact h3 i hi
theorem View.ptr{r n i j:Nat}{o:Own}{row row':List AV}(ho:nth st.hp r=some o)(hn:o.es.length=n)(hrow:o.es[i]?=some row)(hv:Pw (View c st) row row')(hns:NS row:=by first |exact nsR rfl |exact nsM (fun _=>rfl)):View c st (.ptr r n i j) (.rp row' j):=by
  intro φ a w hc v hr
  obtain⟨b,cs,h1,h2,h3,h4,h5,_,_,h6,h7⟩:=Za6 hc ho hrow (Jk hr (by rw [(hc.hok.obj r o ho).len,hn]))
  obtain⟨b',hb',hx⟩:=Zbb hr (by rw [h2,hn])
  rw [h1] at hb';cases hb'
  rw [hx,h3]
  have hl:=hv.len
  refine .rp row' b (i*row.length) j (fun k=>cs.getD (i*row.length+k) undef) (Array.getElem?_eq_some_iff.1 h4).1 (hc.hok.owned r o b ho (.inl h1)).2 (fun k hk=> ?_) (fun k hk=>hv.get k (by omega) φ a w hc _ (h7 k (by omega) (hns.getD' k)))
  rw [Z0 h4,Array.getElem?_eq_getElem (h6 k (by omega))]
  simp [h6 k (by omega)]
theorem View.fn{f:FuncId}{l l':List AV}(h:Pw (View c st) l l'):View c st (.fn f l) (.fn f l'):=by
  intro φ a w hc v hv
  obtain⟨vs,rfl,h1,h2⟩:=Zky hv
  exact .fn f l' vs (by rw [←h.len];exact h1) fun i hi=>h.get i (by rw [h.len];exact hi) φ a w hc _ (h2 i (by rw [h.len];exact hi))
theorem Dat.fnC{f:FuncId}{l l':List AV}(h:Pw (Dat c st) l l'):Dat c st (.fn f l) (.fn f l'):=by
  intro φ a w hc v hv
  obtain⟨vs,rfl,h1,h2⟩:=Zky hv
  exact .fn f l' vs (by rw [←h.len];exact h1) fun i hi=>h.get i (by rw [h.len];exact hi) φ a w hc _ (h2 i (by rw [h.len];exact hi))
theorem ZeS{f:FuncId}{t:Tmp}{xs:List Operand}{ts:Array TypeId}{ds caps:List AV}{res:AV}(hf:Opv c st (.tmp t) (.fn f caps))(hcap:caps.all datB=true)(hs:CSpec c.P c.gl f (ds++caps) res)(ha:ArgsD c st xs ds):
    SVal c ops st ⟨dst,.call {callee:= .value (.tmp t),args:=xs.toArray,argTypes:=ts},ty,pos,after,none⟩ res:=by
  intro φ a w hc
  refine⟨fun _=> ?_,fun hw=>by cases hw⟩
  obtain⟨hl,hr⟩:=ha.rel hc
  obtain⟨vs,hfv,hvl,hvr⟩:=Zky (hf φ a w hc)
  unfold Oper.wp
  have e:(execOp a.eval ⟨dst,.call {callee:= .value (.tmp t),args:=xs.toArray,argTypes:=ts},ty,pos,after,none⟩).run c.P w= .ok (.enter f ((xs.map a.eval).toArray++vs)) w:=by
    simp [execOp,resolve,hfv,Deferred.ofValue,invoke,ZcQ hs.call]
  rw [e]
  refine(hs.spec (Mut c.A φ st.hp) w _ (Zhm hc) (ZeZ hc) (by simp [hl,hvl]) (fun i hi=> ?_)).mono ?_
  · by_cases h:i<ds.length
    · have:=hr i h
      have hx:i<xs.length:=by omega
      simpa [Array.getD_eq_getD_getElem?,gQ,Array.getElem?_append,List.getElem?_append,h,hx] using this
    · have hi':i-ds.length<caps.length:=by simp at hi;omega
      have hd:=Dat.b (c:=c) (st:=st) (av:=caps.getD (i-ds.length) .any) (by
        have:caps.getD (i-ds.length) .any=caps[i-ds.length]:=by simp [gQ,hi']
        rw [this];exact List.all_eq_true.1 hcap _ (List.getElem_mem _))
      have:=hd φ a w hc _ (hvr (i-ds.length) hi')
      have hx: ¬i<xs.length:=by omega
      have e1:(ds++caps).getD i .any=caps.getD (i-ds.length) .any:=by simp [gQ,List.getElem?_append,h]
      have e2:((xs.map a.eval).toArray++vs).getD i undef=vs.getD (i-ds.length) undef:=by
        simp [Array.getD_eq_getD_getElem?,Array.getElem?_append,hl,h]
      rw [e1,e2];exact this
  · rintro e w' ⟨v,rfl,hb,hv⟩
    exact⟨v,rfl,hb,Zt hv⟩
end
end Go.Vx

namespace Go.Vx
open Go Go.RowKit
structure ESpec (P:Program) (f:FuncId) (args:List AV) (res:AV):Prop where
  run: ∀ (M:Nat→Prop) (w:World) (vals:Array Value),vals.size=args.length→(∀ i,i<args.length→RelD P w M (args.getD i .any) (vals.getD i undef))→
    ∃ v,(callFunc f vals).run P w= .ok (.value v) w∧RelD P w M res v
section
variable {c:Ctx} {ops:Array Oper} {st:St} {dst:Option Tmp} {ty:TypeId} {pos:String} {after:Array Edge}
end
end Go.Vx

namespace Go.Vx
open Go Go.RowKit
structure Rw where
  R:Nat→Nat→Prop
  N:Nat→Prop
  F:Nat→Nat→TypeId→List (List AV)→Prop
  G:Nat→Nat→List AV→Prop
inductive RenR (q:Rw):AV→AV→Prop
  |own {r r':Nat} (n:Nat):q.R r r'→RenR q (.own r n) (.own r' n)
  |ptr {r r':Nat} (n i j:Nat):q.R r r'→RenR q (.ptr r n i j) (.ptr r' n i j)
  |osl {r r':Nat} (n j k:Nat):q.R r r'→RenR q (.osl r n j k) (.osl r' n j k)
  |mref {r r':Nat} (n:Nat):q.R r r'→RenR q (.mref r n) (.mref r' n)
  |bptr {r r':Nat} (n:Nat):q.R r r'→RenR q (.bptr r n) (.bptr r' n)
  |out (av:AV):RenR q av .any
  |dat {av:AV}:datB av=true→RenR q av av
  |agg {l l':List AV}:l.length=l'.length→(∀ i,i<l.length→RenR q (l.getD i .any) (l'.getD i .any))→RenR q (.agg l) (.agg l')
  |tuple {l l':List AV}:l.length=l'.length→(∀ i,i<l.length→RenR q (l.getD i .any) (l'.getD i .any))→RenR q (.tuple l) (.tuple l')
  |fn (f:FuncId) {l l':List AV}:l.length=l'.length→(∀ i,i<l.length→RenR q (l.getD i .any) (l'.getD i .any))→RenR q (.fn f l) (.fn f l')
  |any:RenR q .any .any
  |nils (e:TypeId):RenR q .nils (.sl e [])
  |row {r':Nat}:q.N r'→RenR q .nils (.own r' 0)
  |frz {r n:Nat} {e:TypeId} {es:List (List AV)}:q.F r n e es→RenR q (.own r n) (.sl e es)
  |frp {r n j:Nat} {row:List AV}:q.G r n row→RenR q (.ptr r n 0 j) (.rp row j)
structure RwOK (q:Rw) (P:Program) (w:World) (M M':Nat→Prop) (φ ψ:Phi):Prop where
  R: ∀ r r',q.R r r'→ψ r'=φ r
  N: ∀ r',q.N r'→(ψ r').n=0∧(ψ r').blk=none∧(ψ r').cap=0∧(ψ r').mp=false
  F: ∀ r n e es v,q.F r n e es→Rel P w M φ (.own r n) v→RelD P w M' (.sl e es) v
  G: ∀ r n row j v,q.G r n row→Rel P w M φ (.ptr r n 0 j) v→RelD P w M' (.rp row j) v
  M: ∀ b,b<w.heap.size→ ¬M b→ ¬M' b
theorem RenR.rel{P:Program}{w:World}{M M':Nat→Prop}{q:Rw}{φ ψ:Phi}{av av':AV}{v:Value}(hn:RenR q av av')(hp:RwOK q P w M M' φ ψ)(h:Rel P w M φ av v):Rel P w M' ψ av' v:=by
  have dm: ∀ {av v},RelD P w M av v→RelD P w M' av v:=fun h=>h.mono (Nat.le_refl _) (fun _ _ _=>rfl) hp.M
  induction hn generalizing v with
  |own n hr=>
    cases h with
    |data h=>cases h
    |own _ _ _ h0 h1 h2=>exact .own _ _ _ h0 (by rw [hp.R _ _ hr];exact h1) (by rw [hp.R _ _ hr];exact h2)
  |ptr n i j hr=>
    cases h with
    |data h=>cases h
    |ptr _ _ _ _ _ h0 h1 h2=>exact .ptr _ _ _ _ _ h0 (by rw [hp.R _ _ hr];exact h1) (by rw [hp.R _ _ hr];exact h2)
  |osl n j k hr=>
    cases h with
    |data h=>cases h
    |osl _ _ _ _ _ h0 h1 h2=>exact .osl _ _ _ _ _ h0 (by rw [hp.R _ _ hr];exact h1) (by rw [hp.R _ _ hr];exact h2)
  |mref n hr=>
    cases h with
    |data h=>cases h
    |mref _ _ _ h0 h1 h2=>exact .mref _ _ _ h0 (by rw [hp.R _ _ hr];exact h1) (by rw [hp.R _ _ hr];exact h2)
  |bptr n hr=>
    cases h with
    |data h=>cases h
    |bptr _ _ _ h0 h1 h2=>exact .bptr _ _ _ h0 (by rw [hp.R _ _ hr];exact h1) (by rw [hp.R _ _ hr];exact h2)
  |out av=>exact .data (.any v)
  |dat hb=>exact .data (dm (Zhf h hb))
  |agg h1 h2 ih=>
    cases h with
    |data h=>cases h with |agg _ vs h3 h4=>exact .agg _ vs (by omega) fun i hi=>ih i (by omega) (.data (h4 i (by omega)))
    |agg _ vs h3 h4=>exact .agg _ vs (by omega) fun i hi=>ih i (by omega) (h4 i (by omega))
  |tuple h1 h2 ih=>
    cases h with
    |data h=>cases h with |tuple _ vs h3 h4=>exact .tuple _ vs (by omega) fun i hi=>ih i (by omega) (.data (h4 i (by omega)))
    |tuple _ vs h3 h4=>exact .tuple _ vs (by omega) fun i hi=>ih i (by omega) (h4 i (by omega))
  |fn f h1 h2 ih=>
    cases h with
    |data h=>cases h with |fn _ _ vs h3 h4=>exact .fn _ _ vs (by omega) fun i hi=>ih i (by omega) (.data (h4 i (by omega)))
    |fn _ _ vs h3 h4=>exact .fn _ _ vs (by omega) fun i hi=>ih i (by omega) (h4 i (by omega))
  |any=>exact .data (.any v)
  |nils e=>cases h with |data h=>cases h;exact .data (.sl0 e none 0)
  |row hN=>
    cases h with
    |data h=>
      cases h
      obtain⟨h1,h2,h3,h4⟩:=hp.N _ hN
      exact .own _ _ _ rfl (Nat.zero_le _) fun _=>by rw [h2,h3];exact⟨h4,rfl⟩
  |frz hF=>exact .data (hp.F _ _ _ _ _ hF h)
  |frp hG=>exact .data (hp.G _ _ _ _ _ hG h)
theorem RenR.imp{q q':Rw}{av av':AV}(h:RenR q av av')(h1: ∀ x y,q.R x y→q'.R x y)(h2: ∀ x,q.N x→q'.N x)(h3: ∀ r n e es,q.F r n e es→q'.F r n e es)(h4: ∀ r n row,q.G r n row→q'.G r n row):RenR q' av av':=by
  induction h with
  |own n hr=>exact .own n (h1 _ _ hr)
  |ptr n i j hr=>exact .ptr n i j (h1 _ _ hr)
  |osl n j k hr=>exact .osl n j k (h1 _ _ hr)
  |mref n hr=>exact .mref n (h1 _ _ hr)
  |bptr n hr=>exact .bptr n (h1 _ _ hr)
  |out av=>exact .out av
  |dat hb=>exact .dat hb
  |agg h1 h2 ih=>exact .agg h1 ih
  |tuple h1 h2 ih=>exact .tuple h1 ih
  |fn f h1 h2 ih=>exact .fn f h1 ih
  |any=>exact .any
  |nils e=>exact .nils e
  |row h=>exact .row (h2 _ h)
  |frz h=>exact .frz (h3 _ _ _ _ h)
  |frp h=>exact .frp (h4 _ _ _ h)
def Zjv(q:Rw)(l l':List AV):Prop:=l.length=l'.length∧ ∀ i,i<l.length→RenR q (l.getD i .any) (l'.getD i .any)
theorem rln{q:Rw}:Zjv q [] []:=⟨rfl,fun i h=>by cases h⟩
theorem rlc{q:Rw}{x y:AV}{l m:List AV}(h:RenR q x y)(k:Zjv q l m):Zjv q (x::l) (y::m):=⟨by simp [k.1],fun i hi=>by
  cases i with
  |zero=>simpa using h
  |succ i=>simpa using k.2 i (by simpa using hi)⟩
theorem rld{q:Rw}{l:List AV}(h:l.all datB=true):Zjv q l l:=⟨rfl,fun i hi=> .dat (by
  have:l.getD i .any=l[i]:=by simp [gQ,hi]
  rw [this];exact List.all_eq_true.1 h _ (List.getElem_mem _))⟩
theorem Zb7{q:Rw}{l l':List AV}(h:Zjv q l l'):RenR q (.agg l) (.agg l'):= .agg h.1 h.2
theorem Qq{q:Rw}{l l':List AV}(h:Zjv q l l'):RenR q (.tuple l) (.tuple l'):= .tuple h.1 h.2
theorem rFn{q:Rw}{f:FuncId}{l l':List AV}(h:Zjv q l l'):RenR q (.fn f l) (.fn f l'):= .fn f h.1 h.2
inductive RenC (q:Rw):AV→AV→Prop
  |ren {av av':AV}:RenR q av av'→RenC q av av'
  |nil (e:TypeId):RenC q .nils (.osub e [])
  |sub {e:TypeId} {l:List (List AV)} (h: ∀ i j,RenC q (cellAt l i j) (cellAt l i j)):RenC q (.osub e l) (.osub e l)
  |map {l:List (List AV)} (h0: ∀ i,RenR q (cellAt l i 0) (cellAt l i 0)) (h: ∀ i,RenC q (cellAt l i 1) (cellAt l i 1)):RenC q (.mcon l) (.mcon l)
theorem RenC.relX{P:Program}{w:World}{M M':Nat→Prop}{n n':Nat}{φ φ':Phi}{q:Rw}{S:Nat→Prop}{av av':AV}{v:Value}(hn:RenC q av av')(hR: ∀ ψ,ZfP n' φ' ψ→ ∃ χ,ZfP n φ χ∧RwOK q P w M M' χ ψ)(h:TRel P w M n φ S av v):TRel P w M' n' φ' S av' v:=by
  have hren: ∀ {av av' v},RenR q av av'→RelF P w M n φ av v→RelF P w M' n' φ' av' v:=fun hr h ψ hψ=>by
    obtain⟨χ,h1,h2⟩:=hR ψ hψ
    exact hr.rel h2 (h χ h1)
  induction hn generalizing S v with
  | @ren av av' hr=>
    cases h with
    |leaf h=>exact .leaf (hren hr h)
    |nil e=>cases hr with |out=>exact .leaf (Zt (.any _)) |dat hb=>cases hb
    |osub=>cases hr with |out=>exact .leaf (Zt (.any _)) |dat hb=>cases hb
    |mcon=>cases hr with |out=>exact .leaf (Zt (.any _)) |dat hb=>cases hb
  |nil e=>
    cases h with
    |leaf h=>
      have hv:=h φ (fun _ _=>rfl)
      cases hv with |data h=>cases h;exact .nil e
  | @sub e l h0 ih=>
    cases h with
    |leaf h=>have:=Zfg h;cases this
    |nil e=>exact .nil e
    |osub _ _ b cap cs T h1 h2 h3 h4 h5 h6 h7 h8 h9=>exact .osub e l b cap cs T h1 h2 h3 h4 h5 h6 h7 h8 fun i j hi hj=>ih i j (h9 i j hi hj)
  | @map l h0 h' ih=>
    cases h with
    |leaf h=>have:=Zfg h;cases this
    |mcon _ ks vs es T h1 h2 h3 h4 h5 h6=>exact .mcon l ks vs es T h1 h2 h3 h4 (fun i hi=>hren (h0 i) (h5 i hi)) fun i hi=>ih i (h6 i hi)
theorem RenC.rel{P:Program}{w:World}{M M':Nat→Prop}{n n':Nat}{φ φ':Phi}{q:Rw}{S:Nat→Prop}{av av':AV}{v:Value}(hn:RenC q av av')(hR: ∀ ψ,ZfP n' φ' ψ→RwOK q P w M M' φ ψ)(h:TRel P w M n φ S av v):TRel P w M' n' φ' S av' v:=
  hn.relX (fun ψ hψ=>⟨φ,fun _ _=>rfl,hR ψ hψ⟩) h
def RenOO(P:Program)(q:Rw)(o o':Own):Prop:=o.elem=o'.elem∧o.es.length=o'.es.length∧(∀ row∈o'.es,row.length=P.cellsOf o'.elem)∧
  ∀ i j,i<o.es.length→j<P.cellsOf o.elem→RenC q (cellAt o.es i j) (cellAt o'.es i j)
theorem roD{P:Program}{q:Rw}{o:Own}(h: ∀ row∈o.es,row.length=P.cellsOf o.elem∧row.all datB=true):RenOO P q o o:=
  ⟨rfl,rfl,fun row hr=>(h row hr).1,fun i j hi hj=> .ren (.dat (Zk3 h hi hj))⟩
theorem roM{P:Program}{q:Rw}{α:Type}{e:TypeId}{xs:List α}{f:α→List AV}(h: ∀ x,(f x).length=P.cellsOf e∧(f x).all datB=true):RenOO P q ⟨e,xs.map f⟩ ⟨e,xs.map f⟩:=
  roD fun row hr=>by obtain⟨x,_,rfl⟩:=List.mem_map.1 hr;exact h x
theorem ro1{P:Program}{q:Rw}{e:TypeId}{l l':List AV}(hl:l'.length=P.cellsOf e)(h:Zjv q l l'):RenOO P q ⟨e,[l]⟩ ⟨e,[l']⟩:=
  ⟨rfl,rfl,fun row hr=>by cases List.mem_singleton.1 hr;exact hl,fun i j hi hj=>by
    have:i=0:=by simpa using hi
    subst this
    exact .ren (h.2 j (by show j<l.length;rw [h.1,hl];exact hj))⟩
theorem HRel.ren{P:Program}{w:World}{M M':Nat→Prop}{n n':Nat}{φ φ':Phi}{q:Rw}{r r':Nat}{o o':Own}(hO:HRel P w M n φ r o)(he:φ' r'=φ r)(h:RenOO P q o o')
    (hR: ∀ ψ,ZfP n' φ' ψ→RwOK q P w M M' φ ψ):HRel P w M' n' φ' r' o':=by
  obtain⟨h1,h2,h4,h5⟩:=h
  refine⟨by rw [he,←h2];exact hO.len,by rw [he,←h1];exact hO.sz,h4,by rw [he,←h2];exact hO.room,by rw [he];exact hO.cap,fun hb=> ?_,by rw [he];exact hO.subl,by rw [he];exact hO.subn,fun b hb=> ?_⟩
  · rw [he] at hb ⊢
    obtain⟨e1,e2⟩:=hO.none hb
    exact⟨List.eq_nil_of_length_eq_zero (by rw [←h2,e1];rfl),e2⟩
  · rw [he] at hb ⊢
    obtain⟨cs,e1,e2,T,t1,t2,e3⟩:=hO.some b hb
    refine⟨cs,by rw [←h1];exact e1,by rw [←h1];exact e2,T,t1,t2,fun i j hi hj=> ?_⟩
    rw [←h1] at hj ⊢
    exact(h5 i j (by omega) hj).rel hR (e3 i j (by omega) hj)
theorem RelF.ren{P:Program}{w:World}{M M':Nat→Prop}{n n':Nat}{φ φ':Phi}{q:Rw}{av av':AV}{v:Value}(h:RelF P w M n φ av v)(hr:RenR q av av')
    (hR: ∀ ψ,ZfP n' φ' ψ→RwOK q P w M M' φ ψ):RelF P w M' n' φ' av' v:=fun ψ hψ=>hr.rel (hR ψ hψ) (h φ (fun _ _=>rfl))
def rwR(R:Nat→Nat→Prop):Rw:=⟨R,fun _=>False,fun _ _ _ _=>False,fun _ _ _=>False⟩
theorem ZkA{P:Program}{w:World}{M M':Nat→Prop}{φ ψ:Phi}{R:Nat→Nat→Prop}(h: ∀ r r',R r r'→ψ r'=φ r)(hM: ∀ b,b<w.heap.size→ ¬M b→ ¬M' b):RwOK (rwR R) P w M M' φ ψ:=
  ⟨h,fun _ h=>h.elim,fun _ _ _ _ _ h=>h.elim,fun _ _ _ _ _ h=>h.elim,hM⟩
def ZiY(s:List (Option Nat))(hp:List (Option Own)):Rw where
  R:=fun r r'=>s[r']?=some (some r)
  N:=fun r'=>s[r']?=some none
  F:=fun r n e es=>s.contains (some r)=false∧nth hp r=some ⟨e,es⟩∧es.length=n∧ ∀ row∈es,row.all datB=true
  G:=fun r n row=>s.contains (some r)=false∧(∃ e,nth hp r=some ⟨e,[row]⟩)∧n=1∧row.all datB=true
inductive SelTm (q:Rw) (tm:List (Nat×AV)):List (Nat×AV)→Prop
  |nil:SelTm q tm []
  |cons {t:Nat} {v v':AV} {tl:List (Nat×AV)}:look tm t=some v→RenR q v v'→SelTm q tm tl→SelTm q tm ((t,v')::tl)
theorem SelTm.look{q:Rw}{tm tl:List (Nat×AV)}(h:SelTm q tm tl): ∀ t av',Vx.look tl t=some av'→ ∃ av,Vx.look tm t=some av∧RenR q av av':=by
  induction h with
  |nil=>intro t av' h;cases h
  |cons h1 h2 _ ih=>
    intro t av' hl
    simp only [Vx.look] at hl
    split at hl
    · rename_i he
      have he:=Nat.eq_of_beq_eq_true he
      subst he
      cases hl
      exact⟨_,h1,h2⟩
    · exact ih t av' hl
theorem sn{q:Rw}{tm:List (Nat×AV)}:SelTm q tm []:= .nil
theorem sd{q:Rw}{tm:List (Nat×AV)}(t:Nat){v:AV}{tl:List (Nat×AV)}(h:look tm t=some v)(hb:datB v=true)(k:SelTm q tm tl):SelTm q tm ((t,v)::tl):= .cons h (.dat hb) k
theorem sr{q:Rw}{tm:List (Nat×AV)}(t:Nat){v v':AV}{tl:List (Nat×AV)}(h:look tm t=some v)(hb:RenR q v v')(k:SelTm q tm tl):SelTm q tm ((t,v')::tl):= .cons h hb k
inductive SelHp (P:Program) (q:Rw) (hp:List (Option Own)):List (Option Nat)→List (Option Own)→Prop
  |nil:SelHp P q hp [] []
  |cons {r:Nat} {o o':Own} {s:List (Option Nat)} {tl:List (Option Own)}:nth hp r=some o→RenOO P q o o'→SelHp P q hp s tl→SelHp P q hp (some r::s) (some o'::tl)
  |dead {r:Nat} {s:List (Option Nat)} {tl:List (Option Own)}:SelHp P q hp s tl→SelHp P q hp (some r::s) (.none::tl)
  |row (e:TypeId) {s:List (Option Nat)} {tl:List (Option Own)}:SelHp P q hp s tl→SelHp P q hp (.none::s) (some ⟨e,[]⟩::tl)
theorem SelHp.len{P:Program}{q:Rw}{hp:List (Option Own)}{s:List (Option Nat)}{tl:List (Option Own)}(h:SelHp P q hp s tl):tl.length=s.length:=by induction h<;>simp_all
theorem SelHp.get{P:Program}{q:Rw}{hp:List (Option Own)}{s:List (Option Nat)}{tl:List (Option Own)}(h:SelHp P q hp s tl): ∀ r' o',nth tl r'=some o'→
    (∃ r o,s[r']?=some (some r)∧nth hp r=some o∧RenOO P q o o')∨(s[r']?=some none∧o'.es= []):=by
  induction h with
  |nil=>intro r' o' h;cases h
  | @cons r o o' s tl h1 h2 _ ih=>
    intro r' o'' h
    cases r' with
    |zero=>cases h;exact .inl ⟨r,o,rfl,h1,h2⟩
    |succ r'=>simpa using ih r' o'' h
  |dead _ ih=>
    intro r' o'' h
    cases r' with
    |zero=>cases h
    |succ r'=>simpa using ih r' o'' h
  |row e _ ih=>
    intro r' o'' h
    cases r' with
    |zero=>cases h;exact .inr ⟨rfl,rfl⟩
    |succ r'=>simpa using ih r' o'' h
def Zju:List Nat→Bool
  | []=>true
  |x::l=> !l.contains x&&Zju l
theorem Zmu{l:List Nat}(h:Zju l=true): ∀ (i j x:Nat),l[i]?=some x→l[j]?=some x→i=j:=by
  induction l with
  |nil=>intro i j x h;simp at h
  |cons y l ih=>
    simp only [Zju,Bool.and_eq_true,Bool.not_eq_true'] at h
    have hy: ∀ (j:Nat),l[j]?≠some y:=fun j hj=>by
      have:=List.mem_of_getElem? hj
      have h1:=h.1
      simp at h1
      exact h1 this
    intro i j x hi hj
    cases i with
    |zero=>
      simp at hi;subst hi
      cases j with
      |zero=>rfl
      |succ j=>simp at hj;exact absurd hj (hy j)
    |succ i=>
      cases j with
      |zero=>simp at hj;subst hj;simp at hi;exact absurd hi (hy i)
      |succ j=>simp at hi hj;rw [ih h.2 i j x hi hj]
def ZiU:Nat→Nat→List (Option Nat)→Bool
  |_,0,_=>true
  |k,n+1,some x::s=>Nat.beq x k&&ZiU (k+1) n s
  |_,_+1,_=>false
theorem Zog: ∀ {n k:Nat} {s:List (Option Nat)},ZiU k n s=true→n≤s.length∧ ∀ r,r<n→s[r]?=some (some (k+r))
  |0,k,s,_=>⟨Nat.zero_le _,fun r h=>by omega⟩
  |n+1,k,[],h=>by cases h
  |n+1,k,none::s,h=>by cases h
  |n+1,k,some x::s,h=>by
    simp only [ZiU,Bool.and_eq_true] at h
    obtain⟨h1,h2⟩:=Zog (n:=n) (k:=k+1) (s:=s) h.2
    have hx:=Nat.eq_of_beq_eq_true h.1
    refine⟨by simp;omega,fun r hr=> ?_⟩
    cases r with
    |zero=>simp [hx]
    |succ r=>simp;rw [h2 r (by omega)];congr 1;congr 1;omega
def dupL:List (Option Nat)→List (Option Own)→Bool
  |some x::s,some _::hp=>dupL s hp&&dupN x s hp
  |_::s,_::hp=>dupL s hp
  |_,_=>true
where dupN (x:Nat):List (Option Nat)→List (Option Own)→Bool
  |some y::s,some _::hp=> !Nat.beq x y&&dupN x s hp
  |_::s,_::hp=>dupN x s hp
  |_,_=>true
theorem Zl4{x:Nat}: ∀ {s:List (Option Nat)} {hp:List (Option Own)},dupL.dupN x s hp=true→ ∀ (i:Nat) o,s[i]?=some (some x)→nth hp i=some o→False
  | [],_,_,i,o,h,_=>by simp at h
  |s::ss,[],_,i,o,_,h=>by cases i<;>cases h
  |a::s,p::hp,hd,i,o,hi,hn=>by
    have hrest:dupL.dupN x s hp=true:=by
      cases a<;>cases p<;>simp only [dupL.dupN] at hd
      · exact hd
      · exact hd
      · exact hd
      · simp only [Bool.and_eq_true] at hd;exact hd.2
    cases i with
    |zero=>
      simp only [List.getElem?_cons_zero,Option.some.injEq] at hi
      simp only [nth] at hn
      subst hi;subst hn
      simp only [dupL.dupN,Bool.and_eq_true,Bool.not_eq_true'] at hd
      have:=hd.1
      rw [Nat.beq_refl x] at this;cases this
    |succ i=>exact Zl4 hrest i o (by simpa using hi) hn
theorem Zn6: ∀ {s:List (Option Nat)} {hp:List (Option Own)},dupL s hp=true→ ∀ (i j x:Nat) (o o':Own),s[i]?=some (some x)→s[j]?=some (some x)→nth hp i=some o→nth hp j=some o'→i=j
  | [],_,_,i,j,x,o,o',h,_,_,_=>by simp at h
  |s::ss,[],_,i,j,x,o,o',_,_,h,_=>by cases i<;>cases h
  |a::s,p::hp,hd,i,j,x,o,o',hi,hj,hn,hn'=>by
    have hrest:dupL s hp=true:=by
      cases a<;>cases p<;>simp only [dupL] at hd
      · exact hd
      · exact hd
      · exact hd
      · simp only [Bool.and_eq_true] at hd;exact hd.1
    cases i with
    |zero=>
      simp only [List.getElem?_cons_zero,Option.some.injEq] at hi
      simp only [nth] at hn
      subst hi;subst hn
      simp only [dupL,Bool.and_eq_true] at hd
      cases j with
      |zero=>rfl
      |succ j=>exact(Zl4 hd.2 j o' (by simpa using hj) hn').elim
    |succ i=>
      cases j with
      |zero=>
        simp only [List.getElem?_cons_zero,Option.some.injEq] at hj
        simp only [nth] at hn'
        subst hj;subst hn'
        simp only [dupL,Bool.and_eq_true] at hd
        exact(Zl4 hd.2 i o (by simpa using hi) hn).elim
      |succ j=>rw [Zn6 hrest i j x o o' (by simpa using hi) (by simpa using hj) hn hn']
theorem ZmF{c:Ctx}{st:St}{φ:Phi}{a:Act}{w:World}(hc:Conc c φ st a w){hp':List (Option Own)}(s:List (Option Nat))(hhp:SelHp c.P (ZiY s st.hp) st.hp s hp')
    (hnd:dupL s hp'=true) (hfx:ZiU 0 c.n0 s=true): ∃ φ',HeapOK c φ' hp' w∧ ∀ av av' v,RenR (ZiY s st.hp) av av'→RelF c.P w (Mut c.A φ st.hp) st.hp.length φ av v→RelF c.P w (Mut c.A φ' hp') hp'.length φ' av' v:=by
  obtain⟨tm,hp⟩:=st
  simp only at hhp ⊢
  have hlen:=hhp.len
  obtain⟨hf1,hf2⟩:=Zog hfx
  let φ':Phi:=fun r'=>match s[r']? with |some (some r)=>φ r |some none=>(match nth hp' r' with |some o=>⟨none,0,0,c.P.cellsOf o.elem,false,fun _=>False⟩ |none=>⟨none,0,0,0,false,fun _=>False⟩) |none=>φz r'
  have hφ: ∀ r r',s[r']?=some (some r)→φ' r'=φ r:=fun r r' h=>by simp only [φ',h]
  have hφn: ∀ r',s[r']?=some none→(φ' r').n=0∧(φ' r').blk=none∧(φ' r').cap=0∧(φ' r').mp=false:=fun r' h=>by
    simp only [φ',h]
    split<;>exact⟨rfl,rfl,rfl,rfl⟩
  have hφs: ∀ r',s[r']?=some none→ ∀ b,¬(φ' r').has b:=fun r' h b hb=>by
    have: ¬(φ' r').sub b:=by
      simp only [φ',h]
      split<;>exact fun h=>h
    rcases hb with hb |hb
    · rw [(hφn r' h).2.1] at hb;cases hb
    · exact this hb
  have hmut: ∀ b,Mut c.A φ' hp' b→c.A b∨ ∃ r o,s.contains (some r)=true∧nth hp r=some o∧(φ r).has b:=by
    rintro b (ha | ⟨r',o',hr,hb⟩)
    · exact .inl ha
    · rcases hhp.get r' o' hr with ⟨r,o,h1,h2,_⟩ | ⟨h1,h2⟩
      · rw [hφ r r' h1] at hb
        exact .inr ⟨r,o,by simpa using List.mem_of_getElem? h1,h2,hb⟩
      · exact(hφs r' h1 b hb).elim
  have hmut': ∀ b,Mut c.A φ' hp' b→Mut c.A φ hp b:=fun b h=>(hmut b h).elim .inl fun⟨r,o,_,h2,h3⟩=> .inr ⟨r,o,h2,h3⟩
  have hfrz: ∀ r o b,s.contains (some r)=false→nth hp r=some o→(φ r).has b→ ¬Mut c.A φ' hp' b:=by
    intro r o b h1 h2 h3 hm
    rcases hmut b hm with h | ⟨r',o',h4,h5,h6⟩
    · exact(hc.hok.owned r o b h2 h3).2 h
    · have:=hc.hok.apart r r' o o' b h2 h5 h3 h6
      subst this
      rw [h1] at h4;cases h4
  have hQ: ∀ ψ,ZfP hp'.length φ' ψ→RwOK (ZiY s hp) c.P w (Mut c.A φ hp) (Mut c.A φ' hp') φ ψ:=by
    intro ψ hψ
    refine⟨fun r r' h=> ?_,fun r' h=> ?_,fun r n e es v hF h=> ?_,fun r n row j v hG h=> ?_,fun b _ hm hm'=>hm (hmut' b hm')⟩
    · have h':s[r']?=some (some r):=h
      rw [hψ r' (by rw [hlen];exact(List.getElem?_eq_some_iff.1 h').1)]
      exact hφ r r' h'
    · have h':s[r']?=some none:=h
      rw [hψ r' (by rw [hlen];exact(List.getElem?_eq_some_iff.1 h').1)]
      exact hφn r' h'
    · obtain⟨h1,h2,h3,h4⟩:=hF
      have hO:=hc.hok.obj r _ h2
      cases h with
      |data h=>cases h
      |own _ _ _ g0 g1 g2=>
        obtain⟨hmp,hv⟩:=g2 (by rw [hO.len];exact h3)
        subst h3
        cases es with
        |nil=>rw [hv];exact .sl0 _ _ _
        |cons row es=>
          cases hb:(φ r).blk with
          |none=>have:=(hO.none hb).1;cases this
          |some b=>
            obtain⟨cs,e1,e2,e3⟩:=hO.some b hb
            have e1:=e1.cells hmp
            rw [hv,hb]
            have hsz: ∀ i j,i<(row::es).length→j<c.P.cellsOf e→i*c.P.cellsOf e+j<cs.size:=fun i j hi hj=>by
              rw [e2];exact ZbD (Nat.lt_of_lt_of_le hi hO.room) hj
            refine .sl e (row::es) b 0 _ (fun i j=>cs.getD (i*c.P.cellsOf e+j) undef) (Array.getElem?_eq_some_iff.1 e1).1 (hfrz r _ b h1 h2 (.inl hb)) (Nat.lt_of_le_of_lt hO.room hO.cap) hO.room hO.rows (fun i j hi hj=> ?_) (fun i j hi hj=> ?_)
            · rw [Z0 e1]
              have:=hsz i j hi hj
              simp [this]
            · have hd:datB (cellAt (row::es) i j)=true:=Zk3 (fun x hx=>⟨hO.rows x hx,h4 x hx⟩) hi hj
              exact(Dat.b (c:=c) (st:=⟨tm,hp⟩) hd φ a w hc _ (e3.plain hi hj (Zgu hd))).mono (Nat.le_refl _) (fun _ _ _=>rfl) (fun b _ hm hm'=>hm (hmut' b hm'))
    · obtain⟨h1,⟨e,h2⟩,h3,h4⟩:=hG
      have hO:=hc.hok.obj r _ h2
      cases h with
      |data h=>cases h
      |ptr _ _ _ _ _ g0 g1 g2=>
        obtain⟨hmp,b,hb,hv⟩:=g2 (by rw [hO.len,h3];rfl)
        obtain⟨cs,e1,e2,e3⟩:=hO.some b hb
        have e1:=e1.cells hmp
        have hrl:=hO.rows row (by simp)
        rw [hv,Nat.zero_mul]
        have hroom:1≤(φ r).cap:=hO.room
        have hsz: ∀ j,j<row.length→j<cs.size:=fun j hj=>by
          rw [e2,←hrl]
          have:=Nat.mul_le_mul_right row.length hroom
          omega
        refine .rp row b 0 j (fun j=>cs.getD j undef) (Array.getElem?_eq_some_iff.1 e1).1 (hfrz r _ b h1 h2 (.inl hb)) (fun k hk=> ?_) (fun k hk=> ?_)
        · rw [Z0 e1,Nat.zero_add]
          have:=hsz k hk
          simp [this]
        · have e0:cellAt [row] 0 k=row.getD k .any:=by simp [cellAt]
          have hd:datB (row.getD k .any)=true:=by
            have:row.getD k .any=row[k]:=by simp [gQ,hk]
            rw [this];exact List.all_eq_true.1 h4 _ (List.getElem_mem _)
          have:=e3.plain (i:=0) (j:=k) (by simp) (by rw [←hrl];exact hk) (by rw [e0];exact Zgu hd)
          rw [e0,Nat.zero_mul,Nat.zero_add] at this
          exact(Dat.b (c:=c) (st:=⟨tm,hp⟩) hd φ a w hc _ this).mono (Nat.le_refl _) (fun _ _ _=>rfl) (fun b _ hm hm'=>hm (hmut' b hm'))
  refine⟨φ',⟨hc.hok.os,hc.hok.tape,hc.hok.output,hc.hok.heap,hc.hok.frame,?_,?_,?_,hc.hok.amb,hc.hok.glob,by show c.n0≤hp'.length;omega,fun r hr=> ?_⟩,?_⟩
  · intro r' o' b hr hb
    rcases hhp.get r' o' hr with ⟨r,o,h1,h2,_⟩ | ⟨h1,_⟩
    · rw [hφ r r' h1] at hb
      exact hc.hok.owned r o b h2 hb
    · exact(hφs r' h1 b hb).elim
  · intro r1 r2 o1 o2 b hr1 hr2 hb1 hb2
    rcases hhp.get r1 o1 hr1 with ⟨x1,q1,e1,f1,_⟩ | ⟨e1,_⟩
    · rcases hhp.get r2 o2 hr2 with ⟨x2,q2,e2,f2,_⟩ | ⟨e2,_⟩
      · rw [hφ _ _ e1] at hb1
        rw [hφ _ _ e2] at hb2
        have:=hc.hok.apart x1 x2 q1 q2 b f1 f2 hb1 hb2
        subst this
        exact Zn6 hnd r1 r2 x1 o1 o2 e1 e2 hr1 hr2
      · exact(hφs r2 e2 b hb2).elim
    · exact(hφs r1 e1 b hb1).elim
  · intro r' o' hr
    rcases hhp.get r' o' hr with ⟨r,o,h1,h2,h3⟩ | ⟨h1,h2⟩
    · exact(hc.hok.obj r o h2).ren (hφ _ _ h1) h3 hQ
    · have e:φ' r'=⟨none,0,0,c.P.cellsOf o'.elem,false,fun _=>False⟩:=by simp only [φ',h1,hr]
      refine⟨by rw [e,h2];rfl,by rw [e],by rw [h2];simp,by rw [e,h2];exact Nat.le_refl _,by rw [e];exact(by decide:(0:Nat)<2^63),(fun _=>⟨h2,by rw [e]⟩),(fun b hb=>by rw [e] at hb;exact hb.elim),(fun b hb=>by rw [e] at hb;cases hb),(fun b hb=>by rw [e] at hb;cases hb)⟩
  · have:=hf2 r hr
    rw [Nat.zero_add] at this
    rw [hφ r r this]
    exact hc.hok.mono r hr
  · intro av av' v h2 h1
    exact h1.ren h2 hQ
theorem Ent.sel{c:Ctx}{st:St}{tm':List (Nat×AV)}{hp':List (Option Own)}(s:List (Option Nat))(htm:SelTm (ZiY s st.hp) st.tm tm')(hhp:SelHp c.P (ZiY s st.hp) st.hp s hp')
    (hnd:dupL s hp'=true) (hfx:ZiU 0 c.n0 s=true):Ent c st ⟨tm',hp'⟩:=by
  intro φ a w hc
  obtain⟨φ',h1,h2⟩:=ZmF hc s hhp hnd hfx
  refine⟨φ',hc.size,hc.defers,h1,fun t av' ht=> ?_⟩
  obtain⟨av,h3,h4⟩:=htm.look t av' ht
  exact h2 _ _ _ h4 (hc.tm t av h3)
theorem Qk{c:Ctx}{ops:Array Oper}{rest:List Oper}{st st':St}{K:Exit→St→Prop}(he:Ent c st st')(h:R c ops rest st' K):R c ops rest st K:=
  fun φ a w hc=>let ⟨φ',hc'⟩:=he φ a w hc;h φ' a w hc'
end Go.Vx
