/- A text of the proof: a verified executor of the program form, or the contracts of the functions that the law reaches. -/
import Derived.Test.YtjjknklgafdeiaaGreatDoorVM
import Derived.MapKept
import Derived.WideKeyRuns
set_option linter.all false
namespace Go.Vx
open Go Go.RowKit
def Zb8{K V:Type}(eq:K→K→Bool)(m:List (K×V))(k:K):Option V:=(m.find? fun p=>eq k p.1).map (·.2)
def Qc{K V:Type}(eq:K→K→Bool)(m:List (K×V))(k:K)(v:V):List (K×V):=match m.findIdx? fun p=>eq k p.1 with
  |some i=>m.set i (k,v)
  |none=>m++ [(k,v)]
def kqI(a b:Int):Bool:=decide (a=b)
structure KeyOK (P:Program) (kt:TypeId) {K:Type} (f:K→AV) (eq:K→K→Bool):Prop where
  und: ∃ d,P.underlying kt=some d
  chk: ∀ (w:World) (M:Nat→Prop) (a:K) (va:Value) (em:Bool),RelD P w M (f a) va→(Instr.checkKey em 10000 kt va).run P w= .ok () w
  find: ∀ (w:World) (M:Nat→Prop) (a:K) (va:Value),RelD P w M (f a) va→ ∀ (l:List K) (es:List MapEntry),es.length=l.length→(∀ (i:Nat) (k:K) (e:MapEntry),l[i]?=some k→es[i]?=some e→RelD P w M (f k) e.key)→
    (Instr.findKey kt va es).run P w= .ok ((l.findIdx? (eq a)).bind fun i=>(es[i]?).map fun e=>(i,e.val)) w
  keep: ∀ (w:World) (M:Nat→Prop) (a b:K) (va vb:Value),RelD P w M (f a) va→RelD P w M (f b) vb→eq a b=true→(Instr.keyThatStays vb va).run P w= .ok va w
  refl: ∀ a,eq a a=true
theorem Zqa{P:Program}{kt:TypeId}{k:IntKind}{f:Int→AV}(hf: ∀ z,f z= .int k z)(ht:tInt P kt k=true):KeyOK P kt f (fun a b=>decide (a=b)):=by
  have hu:=tInt.spec ht
  have inv: ∀ {w:World} {M:Nat→Prop} {a:Int} {va:Value},RelD P w M (f a) va→va= .int k a:=by
    intro w M a va h
    rw [hf] at h
    cases h;rfl
  refine⟨⟨_,hu⟩,fun w M a va em h=> ?_,fun w M a va h l es hl he=> ?_,fun w M a b va vb ha hb hab=> ?_,fun a=>by simp⟩
  · rw [inv h]
    unfold Instr.checkKey
    simp only [Sem.run_bind,run_underlying hu,Result.andThen_ok]
    simp
  · rw [inv h]
    refine MapKept.run_findKey hu ?_
    have key: ∀ (l:List Int) (es:List MapEntry) (n:Nat),es.length=l.length→(∀ (i:Nat) (q:Int) (e:MapEntry),l[i]?=some q→es[i]?=some e→e.key= .int k q)→
        Instr.findNow (.int k) (.int k a) es n=some ((l.findIdx? fun b=>decide (a=b)).bind fun i=>(es[i]?).map fun e=>(n+i,e.val)):=by
      intro l
      induction l with
      |nil=>
        intro es n hl _
        have:es= []:=List.eq_nil_of_length_eq_zero (by simpa using hl)
        subst this
        rfl
      |cons q l ih=>
        intro es n hl he
        cases es with
        |nil=>simp at hl
        |cons e es=>
          have h0:=he 0 q e rfl rfl
          have ih:=ih es (n+1) (by simpa using hl) (fun i k' e' h1 h2=>he (i+1) k' e' (by simpa using h1) (by simpa using h2))
          rw [List.findIdx?_cons]
          by_cases hq:a=q
          · subst hq
            simp [Instr.findNow,Instr.sameNow,h0]
          · have hb:(a==q)=false:=by simpa using hq
            simp only [Instr.findNow,Instr.sameNow,h0,hb,if_true,ih,hq,decide_false,Bool.false_eq_true,if_false]
            cases hf:l.findIdx? fun b=>decide (a=b) with
            |none=>simp
            |some i=>simp [Nat.add_assoc,Nat.add_comm 1 i]
    have:=key l es 0 hl (fun i q e h1 h2=>inv (he i q e h1 h2))
    simpa using this
  · rw [inv ha,inv hb]
    obtain rfl:a=b:=by simpa using hab
    simp [Instr.keyThatStays,Instr.sameBits]
theorem Zkh: ∀ {ks:List Kd} {l:List AV},Q1 ks l=true→ks.length=l.length
  | [],[],_=>rfl
  | [],_::_,h=>by cases h
  |_::_,[],h=>by cases h
  |_::ks,_::l,h=>by simp only [Q1,Bool.and_eq_true] at h;simp [Zkh h.2]
end Go.Vx

namespace Go.Vx
open Go Go.RowKit
def Q8{K V:Type}(fk:K→AV)(fv:V→AV)(p:K×V):List AV:= [fk p.1,fv p.2]
def tMap(P:Program)(t kt e:Nat):Bool:=(match P.underlying t with |some (.map k e')=>Nat.beq k kt&&Nat.beq e' e |_=>false)&&Nat.beq (P.cellsOf t) 1
theorem tMap.spec{P:Program}{t kt e:Nat}(h:tMap P t kt e=true):P.underlying t=some (.map kt e)∧P.cellsOf t=1:=by
  unfold tMap at h
  simp only [Bool.and_eq_true] at h
  refine⟨?_,Nat.eq_of_beq_eq_true h.2⟩
  have:=h.1
  split at this
  · rename_i heq
    simp only [Bool.and_eq_true] at this
    rw [heq,Nat.eq_of_beq_eq_true this.1,Nat.eq_of_beq_eq_true this.2]
  · cases this
def Zht(P:Program)(e:TypeId)(av:AV):Prop:= ∃ z,(∀ w,(zeroValue e).run P w= .ok z w)∧ ∀ w M,RelD P w M av z
def ZlI(P:Program)(e:TypeId):Option Value:=(P.info? e).bind (·.zero)
theorem Znv{P:Program}{e:TypeId}{z:Value}(h:ZlI P e=some z)(w:World):(zeroValue e).run P w= .ok z w:=by
  unfold ZlI at h
  cases hi:P.info? e with
  |none=>rw [hi] at h;cases h
  |some i=>
    rw [hi] at h
    simp only [Option.bind_some] at h
    simp [zeroValue,typeInfo,hi,h]
theorem Zx{P:Program}{e:TypeId}{z:Value}{av:AV}(h:ZlI P e=some z)(ha:constAV z=av):Zht P e av:=⟨z,(Znv h),fun w M=>ha▸Zb6 P w M z⟩
theorem ZfY{P:Program}{w:World}{M:Nat→Prop}{m:Nat}{φ:Phi}{r n:Nat}{v:Value}(h:RelF P w M m φ (.mref r n) v):(φ r).n=n→(φ r).mp=true∧ ∃ b,(φ r).blk=some b∧v= .map (some b):=by
  have:=h φ (fun _ _=>rfl)
  cases this with
  |data h=>cases h
  |mref _ _ _ _ _ h=>exact h
section ops
variable {c:Ctx} {ops:Array Oper} {st:St} {dst:Option Tmp} {ty:TypeId} {pos:String} {after:Array Edge}
theorem ZhL{t kt e:Nat}(r:Nat)(hr:st.hp.length=r)(ht:tMap c.P t kt e=true):
    WVal c ops st ⟨dst,.makeMap t none,ty,pos,after,none⟩ (.mref r 1) (st.hp++ [some ⟨t,[[.mcon []]]⟩]):=by
  subst hr
  obtain⟨hu,hcs⟩:=tMap.spec ht
  refine .run rfl fun φ a w hc=> ?_
  obtain⟨k1,k2⟩:=ZlK (o:=⟨t,[[.mcon []]]⟩) (cs:= #[Zer #[]]) (cap:=1) (mp:=true) (ob:= .map #[] 0) hc.hok
    ⟨#[],0,(by show(w.heap.push _)[w.heap.size]?=_;simp),rfl,rfl,fun i x h=>by simp at h⟩ (by simp [hcs]) (by decide) (by simp) (by simp [hcs])
    ⟨fun _ _ _=>False,fun _ _ _ h=>h.elim,fun _ _ _ _ _ h=>h.elim,fun i j hi hj=>by
      simp only [List.length_singleton] at hi
      simp only [hcs] at hj
      obtain rfl:i=0:=by omega
      obtain rfl:j=0:=by omega
      have e1: #[Zer #[]].getD (0*c.P.cellsOf t+0) undef= .tuple #[]:=by simp [Zer]
      have e2:cellAt [[AV.mcon []]] 0 0= .mcon []:=rfl
      rw [e1,e2]
      exact .mcon [] (fun _=>undef) (fun _=>undef) (#[]:Array Value) (fun _ _=>False) rfl (fun i h=>by cases h) (fun _ _ h=>h.elim) (fun _ _ _ h=>h.elim) (fun i h=>by cases h) (fun i h=>by cases h)⟩
  refine⟨.map (some w.heap.size),_,_,?_,k1,k2,fun φ' hφ=> ?_⟩
  · simp [execOp,Instr.makeMap]
  · have e1:φ' st.hp.length=⟨some w.heap.size,1,1,c.P.cellsOf t,true,fun _=>False⟩:=by
      have:=hφ st.hp.length (by simp)
      simpa using this
    exact .mref _ 1 _ rfl (by rw [e1];exact Nat.le_refl _) fun _=>by rw [e1];exact⟨rfl,_,rfl,rfl⟩
theorem Zhe{K V:Type}{fk:K→AV}{fv:V→AV}{m:List (K×V)}{φ:Phi}{a:Act}{w:World}(hc:Conc c φ st a w){r t:Nat}(ho:nth st.hp r=some ⟨t,[[.mcon (m.map (Q8 fk fv))]]⟩)(ht:c.P.cellsOf t=1){b:Nat}(hb:(φ r).blk=some b)(hmp:(φ r).mp=true):
    ∃ (es:Array MapEntry) (clock:Nat) (T:Nat→Nat→Prop),w.heap[b]?=some (.map es clock)∧clock=es.size∧(∀ (i:Nat) (x:MapEntry),es[i]?=some x→x.born=i)∧es.size=m.length∧
      (∀ i x,T i x→(φ r).sub x)∧(∀ i i' x,T i x→T i' x→i=i')∧
      ∀ (i:Nat) (p:K×V) (x:MapEntry),m[i]?=some p→es[i]?=some x→RelF c.P w (Mut c.A φ st.hp) st.hp.length φ (fk p.1) x.key∧TRel c.P w (Mut c.A φ st.hp) st.hp.length φ (T i) (fv p.2) x.val:=by
  have hO:=hc.hok.obj r _ ho
  obtain⟨cs,h1,h2,T,t1,t2,h3⟩:=hO.some b hb
  rw [hmp] at h1
  obtain⟨es,clock,e1,e2,e3,e4⟩:=h1
  have h0:=h3 0 0 (by simp) (by simp [ht])
  have hcell:cellAt [[AV.mcon (m.map (Q8 fk fv))]] 0 0= .mcon (m.map (Q8 fk fv)):=rfl
  have hcs:cs.getD (0*c.P.cellsOf t+0) undef=Zer es:=by rw [e2];simp
  simp only [hcell,hcs] at h0
  unfold Zer at h0
  cases h0 with
  |leaf h=>have:=Zda h;cases this
  |mcon _ ks vs _ T' g1 g2 g3 g4 g5 g6=>
    simp only [Array.size_map,List.length_map] at g1 g2 g5 g6
    refine⟨es,clock,T',e1,e3,e4,g1,fun i x hx=>t1 0 0 x (g3 i x hx),g4,fun i p x hp hx=> ?_⟩
    have hi:i<m.length:=(List.getElem?_eq_some_iff.1 hp).1
    have hgi:=g2 i hi
    simp only [Array.getElem?_map,hx,Option.map_some,Option.some.injEq,Value.tuple.injEq] at hgi
    have hk:x.key=ks i:=by have:=congrArg (fun a=>a.getD 0 undef) hgi;simpa using this
    have hv:x.val=vs i:=by have:=congrArg (fun a=>a.getD 1 undef) hgi;simpa using this
    have hr0:(m.map (Q8 fk fv)).getD i []=Q8 fk fv p:=by simp [List.getD_eq_getElem?_getD,hp]
    have a0:=g5 i hi
    have a1:=g6 i hi
    unfold cellAt at a0 a1
    rw [hr0] at a0 a1
    rw [hk,hv]
    exact⟨a0,a1⟩
theorem ZiW{K V:Type}(eq:K→K→Bool)(m:List (K×V))(k:K):Zb8 eq m k=(m.findIdx? fun p=>eq k p.1).bind fun i=>(m[i]?).map (·.2):=by
  unfold Zb8
  induction m with
  |nil=>rfl
  |cons p m ih=>
    rw [List.find?_cons,List.findIdx?_cons]
    cases h:eq k p.1 with
    |true=>simp
    |false=>
      simp only [Bool.false_eq_true,if_false]
      rw [ih]
      cases List.findIdx? (fun p=>eq k p.1) m<;>simp
theorem ZhE{K V:Type}{fk:K→AV}{fv:V→AV}{eq:K→K→Bool}{m:List (K×V)}{k:K}{kt:Nat}{φ:Phi}{a:Act}{w:World}(hc:Conc c φ st a w)(KO:KeyOK c.P kt fk eq)(hd: ∀ k,Dat c st (fk k) (fk k)){y:Operand}(hy:Opv c st y (fk k))
    {es:Array MapEntry} {T:Nat→Nat→Prop} (hl:es.size=m.length)
    (h: ∀ (i:Nat) (p:K×V) (x:MapEntry),m[i]?=some p→es[i]?=some x→RelF c.P w (Mut c.A φ st.hp) st.hp.length φ (fk p.1) x.key∧TRel c.P w (Mut c.A φ st.hp) st.hp.length φ (T i) (fv p.2) x.val):
    (Instr.findKey kt (a.eval y) es.toList).run c.P w= .ok ((m.findIdx? fun p=>eq k p.1).bind fun i=>(es[i]?).map fun e=>(i,e.val)) w:=by
  have:=KO.find w (Mut c.A φ st.hp) k (a.eval y) (hd k φ a w hc _ (hy φ a w hc)) (m.map (·.1)) es.toList (by simp [hl]) (fun i q e h1 h2=>by
    simp only [List.getElem?_map,Option.map_eq_some_iff] at h1
    obtain⟨p,hp,rfl⟩:=h1
    exact hd _ φ a w hc _ (h i p e hp (by simpa using h2)).1)
  rw [this]
  congr 1
  rw [List.findIdx?_map]
  simp only [Function.comp_def,Array.getElem?_toList]
end ops
end Go.Vx

namespace Go.Vx
open Go Go.RowKit
theorem Zqs{P:Program}{w:World}{M:Nat→Prop}{n:Nat}{φ:Phi}{S:Nat→Prop}{K V:Type}{fk:K→AV}{fv:V→AV}{m:List (K×V)}{es:Array MapEntry}(T:Nat→Nat→Prop)(hl:es.size=m.length)
    (h1: ∀ i x,T i x→S x) (h2: ∀ i i' x,T i x→T i' x→i=i')
    (h: ∀ (i:Nat) (p:K×V) (x:MapEntry),m[i]?=some p→es[i]?=some x→RelF P w M n φ (fk p.1) x.key∧TRel P w M n φ (T i) (fv p.2) x.val):TRel P w M n φ S (.mcon (m.map (Q8 fk fv))) (Zer es):=by
  have key: ∀ i,i<m.length→ ∃ p x,m[i]?=some p∧es[i]?=some x:=fun i hi=>⟨m[i],es[i]'(by omega),by simp [hi],by simp [show i<es.size by omega]⟩
  refine .mcon _ (fun i=>((es[i]?).map (·.key)).getD undef) (fun i=>((es[i]?).map (·.val)).getD undef) _ T (by simp [hl]) (fun i hi=> ?_) h1 h2 (fun i hi=> ?_) (fun i hi=> ?_)
  · obtain⟨p,x,hp,hx⟩:=key i (by simpa using hi)
    simp [hx]
  · obtain⟨p,x,hp,hx⟩:=key i (by simpa using hi)
    have hr:(m.map (Q8 fk fv)).getD i []=Q8 fk fv p:=by simp [List.getD_eq_getElem?_getD,hp]
    unfold cellAt
    rw [hr,hx]
    exact(h i p x hp hx).1
  · obtain⟨p,x,hp,hx⟩:=key i (by simpa using hi)
    have hr:(m.map (Q8 fk fv)).getD i []=Q8 fk fv p:=by simp [List.getD_eq_getElem?_getD,hp]
    unfold cellAt
    rw [hr,hx]
    exact(h i p x hp hx).2
section ops
variable {c:Ctx} {ops:Array Oper} {st:St} {dst:Option Tmp} {ty:TypeId} {pos:String} {after:Array Edge}
theorem ZfR{K V:Type}{fk:K→AV}{fv:V→AV}{m':List (K×V)}{φ:Phi}{a:Act}{w:World}(hc:Conc c φ st a w){r t:Nat}{o:Own}(ho:nth st.hp r=some o)(he:o.elem=t)(hn:o.es.length=1)(ht:c.P.cellsOf t=1){b:Nat}(hb:(φ r).blk=some b)(hmp:(φ r).mp=true)
    {es0 es:Array MapEntry} {clock0 clock:Nat} (T:Nat→Nat→Prop) (h0:w.heap[b]?=some (.map es0 clock0)) (hl:es.size=m'.length)
    (h1:clock=es.size) (h2: ∀ (i:Nat) (x:MapEntry),es[i]?=some x→x.born=i)
    (h3: ∀ i x,T i x→(φ r).sub x) (h4: ∀ i i' x,T i x→T i' x→i=i')
    (h: ∀ (i:Nat) (p:K×V) (x:MapEntry),m'[i]?=some p→es[i]?=some x→RelF c.P w (Mut c.A φ st.hp) st.hp.length φ (fk p.1) x.key∧TRel c.P w (Mut c.A φ st.hp) st.hp.length φ (T i) (fv p.2) x.val):
    HeapOK c φ (Q7 st.hp r (some ⟨t,[[.mcon (m'.map (Q8 fk fv))]]⟩)) {w with heap:=w.heap.setIfInBounds b (.map es clock)}∧
      (∀ av x,RelF c.P w (Mut c.A φ st.hp) st.hp.length φ av x→RelF c.P {w with heap:=w.heap.setIfInBounds b (.map es clock)} (Mut c.A φ (Q7 st.hp r (some ⟨t,[[.mcon (m'.map (Q8 fk fv))]]⟩))) (Q7 st.hp r (some ⟨t,[[.mcon (m'.map (Q8 fk fv))]]⟩)).length φ av x):=by
  subst he
  have hO:=hc.hok.obj r o ho
  have hφ:(fun x=>if x=r then φ r else φ x)=φ:=by funext x;split;subst_vars;rfl;rfl
  have hbl:b<w.heap.size:=(Array.getElem?_eq_some_iff.1 h0).1
  have hother: ∀ b',b'≠b→(w.heap.setIfInBounds b (.map es clock))[b']?=w.heap[b']?:=fun b' hne=>Array.getElem?_setIfInBounds_ne (Ne.symm hne)
  have hu:=ZdT (L:=φ r) (o':=⟨o.elem,[[.mcon (m'.map (Q8 fk fv))]]⟩) (w':={w with heap:=w.heap.setIfInBounds b (.map es clock)}) hc.hok ho rfl rfl rfl (by simp)
    (fun b' hlt hne=>hother b' (fun e=>hne (by rw [hb,e]))) (.inl rfl) (.inl (.refl _)) (fun htr=>by
      simp only [hφ] at htr ⊢
      have hroom:=hO.room
      refine⟨by rw [hO.len,hn];rfl,hO.sz,(by simp [ht]),by simpa [hn] using hroom,hO.cap,(fun h=>by rw [hb] at h;cases h),(by simpa using hO.subl),hO.subn,fun b' hb'=> ?_⟩
      rw [hb] at hb';cases hb'
      obtain⟨cs0,g1,g2,_⟩:=hO.some b hb
      rw [hmp] at g1
      obtain⟨_,_,_,g4,_⟩:=g1
      have hc1:(φ r).cap=1:=by rw [g4,ht] at g2;simpa using g2.symm
      refine⟨#[Zer es],by rw [hmp];exact⟨es,clock,by show(w.heap.setIfInBounds b _)[b]?=_;simp [hbl],rfl,h1,h2⟩,by simp [hc1,ht],fun(i j x:Nat)=>(φ r).sub x∧i=0∧j=0,(fun i j x hx=>hx.1),(fun i j i' j' x hx hy=>⟨hx.2.1.trans hy.2.1.symm,hx.2.2.trans hy.2.2.symm⟩),fun i j hi hj=> ?_⟩
      simp only [List.length_singleton] at hi
      simp only [ht] at hj
      obtain rfl:i=0:=by omega
      obtain rfl:j=0:=by omega
      have e1: #[Zer es].getD (0*c.P.cellsOf o.elem+0) undef=Zer es:=by simp
      have e2:cellAt [[AV.mcon (m'.map (Q8 fk fv))]] 0 0= .mcon (m'.map (Q8 fk fv)):=rfl
      simp only [e1,e2]
      refine Zqs T hl (fun i x hx=>⟨h3 i x hx,by simp⟩) h4 fun i p x hp hx=> ?_
      obtain⟨k1,k2⟩:=h i p x hp hx
      exact⟨htr _ _ k1,k2.tr (fun y hy=>hother y fun e=>hO.subn b hb (e▸h3 i y hy)) htr⟩)
  simp only [hφ] at hu
  exact hu
theorem ZlQ{K V:Type}{fk:K→AV}{fv:V→AV}{eq:K→K→Bool}{m:List (K×V)}{k:K}{v:V}{x y z:Operand}{t kt e r:Nat}(h:Opv c st x (.mref r 1))(hy:Opv c st y (fk k))(hz:Opv c st z (fv v))(ht:tMap c.P t kt e=true)(KO:KeyOK c.P kt fk eq)
    (ho:nth st.hp r=some ⟨t,[[.mcon (m.map (Q8 fk fv))]]⟩) (hd: ∀ k,Dat c st (fk k) (fk k)):
    WVal c ops st ⟨none,.mapUpdate t x y z,ty,pos,after,none⟩ .any (Q7 st.hp r (some ⟨t,[[.mcon ((Qc eq m k v).map (Q8 fk fv))]]⟩)):=by
  refine .skip rfl fun φ a w hc=> ?_
  obtain⟨hu,hcs⟩:=tMap.spec ht
  have hO:=hc.hok.obj r _ ho
  obtain⟨hmp,b,hb,hx⟩:=ZfY (h φ a w hc) hO.len
  obtain⟨es,clock,T,e1,e2,e3,e4,e5,e6,e7⟩:=Zhe hc ho hcs hb hmp
  have hf:=ZhE hc KO hd hy e4 e7
  have hkd:=hd k φ a w hc _ (hy φ a w hc)
  have hck:=KO.chk w (Mut c.A φ st.hp) k (a.eval y) false hkd
  have hg:=MapKept.run_getObj_map (P:=c.P) e1
  cases hq:m.findIdx? fun p=>eq k p.1 with
  |none=>
    rw [hq] at hf
    have hm':Qc eq m k v=m++ [(k,v)]:=by unfold Qc;rw [hq]
    rw [hm']
    have:=ZfR (fk:=fk) (fv:=fv) (m':=m++ [(k,v)]) hc ho rfl rfl hcs hb hmp (es:=es.push {key:=a.eval y,val:=a.eval z,born:=clock}) (clock:=clock+1) (fun i x=>T i x∧i<m.length) e1 (by simp [e4]) (by rw [Array.size_push,e2]) (fun i x hx=>by
        rw [Array.getElem?_push] at hx
        split at hx
        · rename_i hi;cases hx;exact e2.trans hi.symm
        · exact e3 i x hx) (fun i x hx=>e5 i x hx.1) (fun i i' x hx hy=>e6 i i' x hx.1 hy.1) (fun i p x hp hx=>by
        rw [Array.getElem?_push,e4] at hx
        split at hx
        · rename_i hi
          subst hi
          cases hx
          rw [List.getElem?_append_right (Nat.le_refl _)] at hp
          simp at hp
          subst hp
          exact⟨hy φ a w hc,.leaf (hz φ a w hc)⟩
        · have hi:=(Array.getElem?_eq_some_iff.1 hx).1
          rw [e4] at hi
          rw [List.getElem?_append_left hi] at hp
          obtain⟨k1,k2⟩:=e7 i p x hp hx
          exact⟨k1,k2.sub fun y hy=>⟨hy,hi⟩⟩)
    refine⟨_,φ,?_,this.1,this.2,Zz (.any _)⟩
    have hrun:(Instr.mapUpdate t (a.eval x) (a.eval y) (a.eval z)).run c.P w= .ok () {w with heap:=w.heap.setIfInBounds b (.map (es.push {key:=a.eval y,val:=a.eval z,born:=clock}) (clock+1))}:=by
      unfold Instr.mapUpdate
      simp [run_underlying hu,hx,hg,hck,hf,MapKept.run_setObj_map _ e1]
    show((do Instr.mapUpdate t (a.eval x) (a.eval y) (a.eval z);pure Next.skip:Sem Next)).run c.P w=_
    rw [Sem.run_bind,hrun]
    rfl
  |some i=>
    have hfi:=List.findIdx?_eq_some_iff_getElem.1 hq
    have hi:i<m.length:=hfi.1
    have heq:eq k m[i].1=true:=hfi.2.1
    have hie:i<es.size:=by omega
    rw [hq] at hf
    have hes:es[i]?=some es[i]:=by simp [hie]
    have hm:m[i]?=some m[i]:=by simp [hi]
    rw [Option.bind_some,hes] at hf
    have hm':Qc eq m k v=m.set i (k,v):=by unfold Qc;rw [hq]
    rw [hm']
    have hold:=e7 i _ _ hm hes
    have hkeep:=KO.keep w (Mut c.A φ st.hp) k m[i].1 (a.eval y) es[i].key hkd (hd _ φ a w hc _ hold.1) heq
    have hmod: ∀ j,(es.modify i fun e=>{e with key:=a.eval y,val:=a.eval z})[j]?=if i=j then(es[j]?).map fun e=>{e with key:=a.eval y,val:=a.eval z} else es[j]?:=fun j=>by rw [Array.getElem?_modify]
    have:=ZfR (fk:=fk) (fv:=fv) (m':=m.set i (k,v)) hc ho rfl rfl hcs hb hmp (es:=es.modify i fun e=>{e with key:=a.eval y,val:=a.eval z}) (clock:=clock) (fun j x=>T j x∧j≠i) e1 (by simp [e4]) (by simp [e2]) (fun j x hx=>by
        rw [hmod] at hx
        split at hx
        · simp only [Option.map_eq_some_iff] at hx
          obtain⟨x0,hx0,rfl⟩:=hx
          exact e3 j x0 hx0
        · exact e3 j x hx) (fun i x hx=>e5 i x hx.1) (fun i i' x hx hy=>e6 i i' x hx.1 hy.1) (fun j p x hp hx=>by
        rw [hmod] at hx
        rw [List.getElem?_set] at hp
        split at hx
        · rename_i hij
          subst hij
          simp only [hi,if_true,Option.some.injEq] at hp
          subst hp
          simp only [Option.map_eq_some_iff] at hx
          obtain⟨x0,hx0,rfl⟩:=hx
          exact⟨hy φ a w hc,.leaf (hz φ a w hc)⟩
        · rename_i hij
          rw [if_neg hij] at hp
          obtain⟨k1,k2⟩:=e7 j p x hp hx
          exact⟨k1,k2.sub fun y hy=>⟨hy,fun e=>hij e.symm⟩⟩)
    refine⟨_,φ,?_,this.1,this.2,Zz (.any _)⟩
    have hrun:(Instr.mapUpdate t (a.eval x) (a.eval y) (a.eval z)).run c.P w= .ok () {w with heap:=w.heap.setIfInBounds b (.map (es.modify i fun e=>{e with key:=a.eval y,val:=a.eval z}) clock)}:=by
      unfold Instr.mapUpdate
      simp [run_underlying hu,hx,hg,hck,hf,hes,hkeep,MapKept.run_setObj_map _ e1,hie]
    show((do Instr.mapUpdate t (a.eval x) (a.eval y) (a.eval z);pure Next.skip:Sem Next)).run c.P w=_
    rw [Sem.run_bind,hrun]
    rfl
end ops
theorem Z7{P:Program}{q:Rw}{K V:Type}{t:TypeId}{fk:K→AV}{fv:V→AV}{m:List (K×V)}(ht:P.cellsOf t=1)(hk: ∀ k,RenR q (fk k) (fk k))(hv: ∀ v,RenC q (fv v) (fv v)):RenOO P q ⟨t,[[.mcon (m.map (Q8 fk fv))]]⟩ ⟨t,[[.mcon (m.map (Q8 fk fv))]]⟩:=by
  refine⟨rfl,rfl,by simp [ht],fun i j hi hj=> ?_⟩
  simp only [List.length_singleton] at hi
  simp only [ht] at hj
  obtain rfl:i=0:=by omega
  obtain rfl:j=0:=by omega
  have hr: ∀ i,(m.map (Q8 fk fv)).getD i []= []∨ ∃ p,(m.map (Q8 fk fv)).getD i []=Q8 fk fv p:=fun i=>by
    by_cases hi:i<m.length
    · exact .inr ⟨m[i],by simp [List.getD_eq_getElem?_getD,hi]⟩
    · exact .inl (by rw [List.getD_eq_getElem?_getD,List.getElem?_eq_none (by simp;omega)];rfl)
  refine .map (fun i=> ?_) (fun i=> ?_)
  · unfold cellAt
    rcases hr i with e | ⟨p,e⟩
    · rw [e];exact .any
    · rw [e];exact hk _
  · unfold cellAt
    rcases hr i with e | ⟨p,e⟩
    · rw [e];exact .ren .any
    · rw [e];exact hv _
end Go.Vx

namespace Go.Vx
open Go Go.RowKit
theorem Zi5{es:List (List AV)}{i j i' j':Nat}{row:List AV}{v:AV}(hrow:es[i]?=some row)(hj:j<row.length):cellAt (es.set i (row.set j v)) i' j'=if i'=i∧j'=j then v else cellAt es i' j':=by
  have hi:i<es.length:=(List.getElem?_eq_some_iff.1 hrow).1
  unfold cellAt
  by_cases h1:i'=i
  · subst h1
    have e1:(es.set i' (row.set j v)).getD i' []=row.set j v:=by simp [List.getD_eq_getElem?_getD,hi]
    have e2:es.getD i' []=row:=by simp [List.getD_eq_getElem?_getD,hrow]
    rw [e1,e2]
    by_cases h2:j'=j
    · subst h2;simp [List.getD_eq_getElem?_getD,hj]
    · rw [if_neg (by simp [h2])]
      simp [List.getD_eq_getElem?_getD,List.getElem?_set_ne (Ne.symm h2)]
  · rw [if_neg (by simp [h1])]
    have:(es.set i (row.set j v)).getD i' []=es.getD i' []:=by simp [List.getD_eq_getElem?_getD,List.getElem?_set_ne (Ne.symm h1)]
    rw [this]
inductive MeltC (P:Program):AV→AV→Prop
  |dat {av:AV}:datB av=true→MeltC P av av
  |nils (e:TypeId):MeltC P .nils (.sl e [])
  |sub {e:TypeId} {l l':List (List AV)}:l.length=l'.length→(∀ row∈l',row.length=P.cellsOf e)→(∀ i j,i<l.length→j<P.cellsOf e→MeltC P (cellAt l i j) (cellAt l' i j))→MeltC P (.osub e l) (.sl e l')
theorem MeltC.rel{P:Program}{w:World}{M M':Nat→Prop}{n:Nat}{φ:Phi}{S:Nat→Prop}{av av':AV}{v:Value}(hm:MeltC P av av')(h:TRel P w M n φ S av v)(hS: ∀ b,S b→ ¬M' b)(hM: ∀ b,b<w.heap.size→ ¬M b→ ¬M' b):RelD P w M' av' v:=by
  induction hm generalizing S v with
  |dat hb=>exact(Zjc (h.plain (Ze7 hb) φ (fun _ _=>rfl)) hb).mono (Nat.le_refl _) (fun _ _ _=>rfl) hM
  |nils e=>
    have hv:=h.plain rfl φ (fun _ _=>rfl)
    cases hv with |data h=>cases h;exact .sl0 e _ _
  | @sub e l l' h1 h2 h3 ih=>
    cases h with
    |leaf h=>have:=Zda h;cases this
    |nil e=>
      have:l'= []:=List.eq_nil_of_length_eq_zero h1.symm
      subst this
      exact .sl0 e _ _
    |osub _ _ b cap cs T g1 g2 g3 g4 g5 g6 g7 g8 g9=>
      have hsz: ∀ i j,i<l.length→j<P.cellsOf e→i*P.cellsOf e+j<cs.size:=fun i j hi hj=>by rw [g5];exact ZcK (by omega) hj
      rw [h1]
      refine .sl e l' b 0 cap (fun i j=>cs.getD (i*P.cellsOf e+j) undef) (Array.getElem?_eq_some_iff.1 g4).1 (hS b g1) (by omega) (by omega) h2 (fun i j hi hj=> ?_) (fun i j hi hj=> ?_)
      · rw [Qs g4,Nat.zero_add]
        have:=hsz i j (by omega) hj
        simp [this]
      · exact ih i j (by omega) hj (g9 i j (by omega) hj) fun x hx=>hS x (g7 i j x hx).1
theorem Ent.melt{c:Ctx}{tm:List (Nat×AV)}{hp:List (Option Own)}{r:Nat}{o:Own}{es':List (List AV)}(ho:nth hp r=some o)(hl:o.es.length=es'.length)(hr: ∀ row∈es',row.length=c.P.cellsOf o.elem)
    (h: ∀ i j,i<o.es.length→j<c.P.cellsOf o.elem→MeltC c.P (cellAt o.es i j) (cellAt es' i j)):Ent c ⟨tm,hp⟩ ⟨tm,Q7 hp r (some ⟨o.elem,es'⟩)⟩:=by
  intro φ a w hc
  have hok:=hc.hok
  have hO:=hok.obj r o ho
  let φ':Phi:=fun x=>if x=r then {φ r with sub:=fun _=>False} else φ x
  have f2:φ' r={φ r with sub:=fun _=>False}:=by simp only [φ',if_true]
  have f3: ∀ x,x≠r→φ' x=φ x:=fun x h'=>by simp only [φ',if_neg h']
  have same: ∀ x,(φ' x).same (φ x):=fun x=>by
    by_cases h':x=r
    · subst h';rw [f2];exact⟨rfl,rfl,rfl,rfl,rfl⟩
    · rw [f3 x h'];exact .refl _
  have sub: ∀ x y,(φ' x).has y→(φ x).has y:=fun x y hy=>by
    by_cases h':x=r
    · subst h';rw [f2] at hy;rcases hy with h |h
      · exact .inl h
      · exact h.elim
    · rw [f3 x h'] at hy;exact hy
  have hlen':=Za4 hp r (some (⟨o.elem,es'⟩:Own))
  have hnth: ∀ x z,nth (Q7 hp r (some ⟨o.elem,es'⟩)) x=some z→ ∃ z',nth hp x=some z':=fun x z hx=>by
    rw [Zbu ho] at hx
    split at hx
    · rename_i e;subst e;exact⟨o,ho⟩
    · exact⟨z,hx⟩
  have hmut: ∀ y,Mut c.A φ' (Q7 hp r (some ⟨o.elem,es'⟩)) y→Mut c.A φ hp y:=by
    rintro y (ha | ⟨x,z,hx,hy⟩)
    · exact .inl ha
    · obtain⟨z',h⟩:=hnth x z hx
      exact .inr ⟨x,z',h,sub x y hy⟩
  have hfree: ∀ y,(φ r).sub y→ ¬Mut c.A φ' (Q7 hp r (some ⟨o.elem,es'⟩)) y:=by
    rintro y hy (ha | ⟨x,z,hx,hxy⟩)
    · exact(hok.owned r o y ho (.inr hy)).2 ha
    · obtain⟨z',h'⟩:=hnth x z hx
      have:=hok.apart x r z' o y h' ho (sub x y hxy) (.inr hy)
      subst this
      rw [f2] at hxy
      rcases hxy with h |h
      · exact hO.subn y h hy
      · exact h
  have htr: ∀ av x,RelF c.P w (Mut c.A φ hp) hp.length φ av x→RelF c.P w (Mut c.A φ' (Q7 hp r (some ⟨o.elem,es'⟩))) (Q7 hp r (some ⟨o.elem,es'⟩)).length φ' av x:=by
    intro av x hx ψ hψ
    have h0:=hx (fun s=>if s<hp.length then φ s else ψ s) fun s hs=>by simp only [if_pos hs]
    refine(h0.mono (Nat.le_refl _) (fun _ _ _=>rfl) (fun y _ hm hm'=>hm (hmut y hm'))).loc fun s=> ?_
    by_cases hs:s<hp.length
    · rw [if_pos hs,hψ s (by omega)];exact .inl (same s)
    · rw [if_neg hs];exact .inl (.refl _)
  refine⟨φ',hc.size,hc.defers,⟨hok.os,hok.tape,hok.output,hok.heap,hok.frame,?_,?_,?_,hok.amb,hok.glob,by rw [hlen'];exact hok.len,fun s hs=> ?_⟩,fun t av ht=>htr _ _ (hc.tm t av ht)⟩
  · intro x z y hx hy
    obtain⟨z',h'⟩:=hnth x z hx
    exact hok.owned x z' y h' (sub x y hy)
  · intro x1 x2 z1 z2 y hx1 hx2 hy1 hy2
    obtain⟨p1,a1⟩:=hnth x1 z1 hx1
    obtain⟨p2,b1⟩:=hnth x2 z2 hx2
    exact hok.apart x1 x2 p1 p2 y a1 b1 (sub x1 y hy1) (sub x2 y hy2)
  · intro x z hx
    rw [Zbu ho] at hx
    by_cases e2:x=r
    · subst e2
      rw [if_pos rfl] at hx
      cases hx
      refine⟨by rw [f2,←hl];exact hO.len,by rw [f2];exact hO.sz,hr,by rw [f2,←hl];exact hO.room,by rw [f2];exact hO.cap,?_,by rw [f2];exact fun y hy=>hy.elim,by rw [f2];exact fun y _ hy=>hy,fun b' hb'=> ?_⟩
      · rw [f2]
        intro h
        obtain⟨g1,g2⟩:=hO.none h
        exact⟨List.eq_nil_of_length_eq_zero (by rw [←hl,g1];rfl),g2⟩
      · rw [f2] at hb' ⊢
        simp only at hb'
        obtain⟨cs,h1,h2,T,t1,t2,h3⟩:=hO.some b' hb'
        refine⟨cs,h1,h2,.of fun i j hi hj=>Zz ?_⟩
        have hi:i<o.es.length:=by rw [hl];exact hi
        exact(h i j hi hj).rel (h3 i j hi hj) (fun y hy=>hfree y (t1 i j y hy)) (fun y _ hm hm'=>hm (hmut y hm'))
    · rw [if_neg e2] at hx
      have hX:=hok.obj x z hx
      refine⟨by rw [f3 x e2];exact hX.len,by rw [f3 x e2];exact hX.sz,hX.rows,by rw [f3 x e2];exact hX.room,by rw [f3 x e2];exact hX.cap,by rw [f3 x e2];exact hX.none,by rw [f3 x e2];exact hX.subl,by rw [f3 x e2];exact hX.subn,fun b' hb'=> ?_⟩
      rw [f3 x e2] at hb' ⊢
      obtain⟨cs',g1,g2,g3⟩:=hX.some b' hb'
      exact⟨cs',g1,g2,g3.tr (fun _ _=>rfl) htr⟩
  · rcases hok.mono s hs with h |h
    · exact .inl ((same s).trans h)
    · exact .inr (by rw [(same s).2.2.1];exact h)
end Go.Vx

namespace Go.Vx
open Go Go.RowKit
theorem roE{P:Program}{q:Rw}{e:TypeId}:RenOO P q ⟨e,[]⟩ ⟨e,[]⟩:=⟨rfl,rfl,fun row h=>by simp at h,fun i j hi=>by simp at hi⟩
def osF{α:Type}(e:TypeId)(R:α→List AV)(xs:List α):AV:= .osub e (xs.map R)
section
variable {α:Type} {m:Nat} {v:Vector (List α) m} {e:TypeId} {R:α→List AV} {z:Int} {xs ys:List α}
theorem ZcH{P:Program}{q:Rw}(hR: ∀ x,(R x).length=P.cellsOf e∧(R x).all datB=true):RenC q (osF e R xs) (osF e R xs):=by
  refine .sub fun i j=> .ren ?_
  unfold cellAt
  by_cases hi:i<xs.length
  · have:(xs.map R).getD i []=R xs[i]:=by simp [List.getD_eq_getElem?_getD,hi]
    rw [this]
    by_cases hj:j<(R xs[i]).length
    · have e1:(R xs[i]).getD j .any=(R xs[i])[j]:=by simp [List.getD_eq_getElem?_getD,hj]
      rw [e1]
      exact .dat (List.all_eq_true.1 (hR _).2 _ (List.getElem_mem _))
    · rw [List.getD_eq_getElem?_getD,List.getElem?_eq_none (by omega)];exact .any
  · have:(xs.map R).getD i []= []:=by rw [List.getD_eq_getElem?_getD,List.getElem?_eq_none (by simp;omega)];rfl
    rw [this];exact .any
end
end Go.Vx
