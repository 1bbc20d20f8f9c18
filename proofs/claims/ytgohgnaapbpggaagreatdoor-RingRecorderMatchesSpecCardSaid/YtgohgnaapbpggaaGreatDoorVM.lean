/- A text of the proof: a verified executor of the program form, or the contracts of the functions that the law reaches. -/
import Derived.Test.YtgohgnaapbpggaaGreatDoorVL
import Derived.MapKept
import Derived.WideKeyRuns
set_option linter.all false
namespace Go.Vx
open Go Go.RowKit
def mget{K V:Type}(eq:K→K→Bool)(m:List (K×V))(k:K):Option V:=(m.find? fun p=>eq k p.1).map (·.2)
def ZmR{K V:Type}(eq:K→K→Bool)(m:List (K×V))(k:K)(v:V):List (K×V):=match m.findIdx? fun p=>eq k p.1 with
  |some i=>m.set i (k,v)
  |none=>m++ [(k,v)]
def kqI(a b:Int):Bool:=decide (a=b)
structure KeyOK (P:Program) (kt:TypeId) {K:Type} (f:K→AV) (eq:K→K→Bool):Prop where
  und: ∃ d,P.underlying kt=some d
  chk: ∀ (w:World) (M:Nat→Prop) (a:K) (va:Value) (em:Bool),RelD P w M (f a) va→(Instr.checkKey em 10000 kt va).run P w= .ok () w
  find: ∀ (w:World) (M:Nat→Prop) (a:K) (va:Value),RelD P w M (f a) va→ ∀ (l:List K) (es:List MapEntry),es.length=l.length→(∀ (i:Nat) (k:K) (e:MapEntry),l[i]?=some k→es[i]?=some e→RelD P w M (f k) e.key)→
    (Instr.findKey kt va es).run P w= .ok ((l.findIdx? (eq a)).bind fun i=>(es[i]?).map fun e=>(i,e.val)) w
  keep: ∀ (w:World) (M:Nat→Prop) (a b:K) (va vb:Value),RelD P w M (f a) va→RelD P w M (f b) vb→eq a b=true→(Instr.keyThatStays vb va).run P w= .ok va w
  refl: ∀ a,eq a a=true
theorem ZqC{P:Program}{kt:TypeId}{k:IntKind}{f:Int→AV}(hf: ∀ z,f z= .int k z)(ht:tInt P kt k=true):KeyOK P kt f (fun a b=>decide (a=b)):=by
  have hu:=tInt.spec ht
  have inv: ∀ {w:World} {M:Nat→Prop} {a:Int} {va:Value},RelD P w M (f a) va→va= .int k a:=by
    intro w M a va h
    rw [hf] at h
    cases h;rfl
  refine⟨⟨_,hu⟩,fun w M a va em h=> ?_,fun w M a va h l es hl he=> ?_,fun w M a b va vb ha hb hab=> ?_,fun a=>by simp⟩
  · rw [inv h]
    unfold Instr.checkKey
    simp only [Sem.run_bind,run_underlying hu,Result.andThen_ok]
    simp
  · rw [inv h]
    refine MapKept.run_findKey hu ?_
    have key: ∀ (l:List Int) (es:List MapEntry) (n:Nat),es.length=l.length→(∀ (i:Nat) (q:Int) (e:MapEntry),l[i]?=some q→es[i]?=some e→e.key= .int k q)→
        Instr.findNow (.int k) (.int k a) es n=some ((l.findIdx? fun b=>decide (a=b)).bind fun i=>(es[i]?).map fun e=>(n+i,e.val)):=by
      intro l
      induction l with
      |nil=>
        intro es n hl _
        have:es= []:=List.eq_nil_of_length_eq_zero (by simpa using hl)
        subst this
        rfl
      |cons q l ih=>
        intro es n hl he
        cases es with
        |nil=>simp at hl
        |cons e es=>
          have h0:=he 0 q e rfl rfl
          have ih:=ih es (n+1) (by simpa using hl) (fun i k' e' h1 h2=>he (i+1) k' e' (by simpa using h1) (by simpa using h2))
          rw [List.findIdx?_cons]
          by_cases hq:a=q
          · subst hq
            simp [Instr.findNow,Instr.sameNow,h0]
          · have hb:(a==q)=false:=by simpa using hq
            simp only [Instr.findNow,Instr.sameNow,h0,hb,if_true,ih,hq,decide_false,Bool.false_eq_true,if_false]
            cases hf:l.findIdx? fun b=>decide (a=b) with
            |none=>simp
            |some i=>simp [Nat.add_assoc,Nat.add_comm 1 i]
    have:=key l es 0 hl (fun i q e h1 h2=>inv (he i q e h1 h2))
    simpa using this
  · rw [inv ha,inv hb]
    obtain rfl:a=b:=by simpa using hab
    simp [Instr.keyThatStays,Instr.sameBits]
theorem ZlJ: ∀ {ks:List Kd} {l:List AV},Xc ks l=true→ks.length=l.length
  | [],[],_=>rfl
  | [],_::_,h=>by cases h
  |_::_,[],h=>by cases h
  |_::ks,_::l,h=>by simp only [Xc,Bool.and_eq_true] at h;simp [ZlJ h.2]
end Go.Vx

namespace Go.Vx
open Go Go.RowKit
def Zcf{K V:Type}(fk:K→AV)(fv:V→AV)(p:K×V):List AV:= [fk p.1,fv p.2]
def tMap(P:Program)(t kt e:Nat):Bool:=(match P.underlying t with |some (.map k e')=>Nat.beq k kt&&Nat.beq e' e |_=>false)&&Nat.beq (P.cellsOf t) 1
theorem tMap.spec{P:Program}{t kt e:Nat}(h:tMap P t kt e=true):P.underlying t=some (.map kt e)∧P.cellsOf t=1:=by
  unfold tMap at h
  simp only [Bool.and_eq_true] at h
  refine⟨?_,Nat.eq_of_beq_eq_true h.2⟩
  have:=h.1
  split at this
  · rename_i heq
    simp only [Bool.and_eq_true] at this
    rw [heq,Nat.eq_of_beq_eq_true this.1,Nat.eq_of_beq_eq_true this.2]
  · cases this
def Zjb(P:Program)(e:TypeId)(av:AV):Prop:= ∃ z,(∀ w,(zeroValue e).run P w= .ok z w)∧ ∀ w M,RelD P w M av z
def ZnK(P:Program)(e:TypeId):Option Value:=(P.info? e).bind (·.zero)
theorem ZoG{P:Program}{e:TypeId}{z:Value}(h:ZnK P e=some z)(w:World):(zeroValue e).run P w= .ok z w:=by
  unfold ZnK at h
  cases hi:P.info? e with
  |none=>rw [hi] at h;cases h
  |some i=>
    rw [hi] at h
    simp only [oB] at h
    simp [zeroValue,typeInfo,hi,h]
theorem ZmV{P:Program}{e:TypeId}{zs:List Value}{l:List AV}(h:ZnK P e=some (.agg zs.toArray))(ha:zs.map constAV=l):Zjb P e (.agg l):=⟨_,(ZoG h),fun w M=>by
  subst ha
  refine .agg _ _ (by simp) fun i hi=> ?_
  have hi:i<zs.length:=by simpa using hi
  have e1:(zs.map constAV).getD i .any=constAV (zs.getD i undef):=by simp [gQ,hi]
  have e2:zs.toArray.getD i undef=zs.getD i undef:=by simp [Array.getD_eq_getD_getElem?,gQ]
  rw [e1,e2]
  exact ZcI _ _ _ _⟩
theorem ZlM{P:Program}{w:World}{M:Nat→Prop}{m:Nat}{φ:Phi}{r n:Nat}{v:Value}(h:RelF P w M m φ (.mref r n) v):(φ r).n=n→(φ r).mp=true∧ ∃ b,(φ r).blk=some b∧v= .map (some b):=by
  have:=h φ (fun _ _=>rfl)
  cases this with
  |data h=>cases h
  |mref _ _ _ _ _ h=>exact h
section ops
variable {c:Ctx} {ops:Array Oper} {st:St} {dst:Option Tmp} {ty:TypeId} {pos:String} {after:Array Edge}
theorem ZoJ{t kt e:Nat}(r:Nat)(hr:st.hp.length=r)(ht:tMap c.P t kt e=true):
    WVal c ops st ⟨dst,.makeMap t none,ty,pos,after,none⟩ (.mref r 1) (st.hp++ [some ⟨t,[[.mcon []]]⟩]):=by
  subst hr
  obtain⟨hu,hcs⟩:=tMap.spec ht
  refine .run rfl fun φ a w hc=> ?_
  obtain⟨k1,k2⟩:=Zmm (o:=⟨t,[[.mcon []]]⟩) (cs:= #[ZfZ #[]]) (cap:=1) (mp:=true) (ob:= .map #[] 0) hc.hok
    ⟨#[],0,(by show(w.heap.push _)[w.heap.size]?=_;simp),rfl,rfl,fun i x h=>by simp at h⟩ (by simp [hcs]) (by decide) (by simp) (by simp [hcs])
    ⟨fun _ _ _=>False,fun _ _ _ h=>h.elim,fun _ _ _ _ _ h=>h.elim,fun i j hi hj=>by
      simp only [List.length_singleton] at hi
      simp only [hcs] at hj
      obtain rfl:i=0:=by omega
      obtain rfl:j=0:=by omega
      have e1: #[ZfZ #[]].getD (0*c.P.cellsOf t+0) undef= .tuple #[]:=by simp [ZfZ]
      have e2:cellAt [[AV.mcon []]] 0 0= .mcon []:=rfl
      rw [e1,e2]
      exact .mcon [] (fun _=>undef) (fun _=>undef) (#[]:Array Value) (fun _ _=>False) rfl (fun i h=>by cases h) (fun _ _ h=>h.elim) (fun _ _ _ h=>h.elim) (fun i h=>by cases h) (fun i h=>by cases h)⟩
  refine⟨.map (some w.heap.size),_,_,?_,k1,k2,fun φ' hφ=> ?_⟩
  · simp [execOp,Instr.makeMap]
  · have e1:φ' st.hp.length=⟨some w.heap.size,1,1,c.P.cellsOf t,true,fun _=>False⟩:=by
      have:=hφ st.hp.length (by simp)
      simpa using this
    exact .mref _ 1 _ rfl (by rw [e1];exact Nat.le_refl _) fun _=>by rw [e1];exact⟨rfl,_,rfl,rfl⟩
theorem Zm8{K V:Type}{fk:K→AV}{fv:V→AV}{m:List (K×V)}{φ:Phi}{a:Act}{w:World}(hc:Conc c φ st a w){r t:Nat}(ho:nth st.hp r=some ⟨t,[[.mcon (m.map (Zcf fk fv))]]⟩)(ht:c.P.cellsOf t=1){b:Nat}(hb:(φ r).blk=some b)(hmp:(φ r).mp=true):
    ∃ (es:Array MapEntry) (clock:Nat) (T:Nat→Nat→Prop),w.heap[b]?=some (.map es clock)∧clock=es.size∧(∀ (i:Nat) (x:MapEntry),es[i]?=some x→x.born=i)∧es.size=m.length∧
      (∀ i x,T i x→(φ r).sub x)∧(∀ i i' x,T i x→T i' x→i=i')∧
      ∀ (i:Nat) (p:K×V) (x:MapEntry),m[i]?=some p→es[i]?=some x→RelF c.P w (Mut c.A φ st.hp) st.hp.length φ (fk p.1) x.key∧TRel c.P w (Mut c.A φ st.hp) st.hp.length φ (T i) (fv p.2) x.val:=by
  have hO:=hc.hok.obj r _ ho
  obtain⟨cs,h1,h2,T,t1,t2,h3⟩:=hO.some b hb
  rw [hmp] at h1
  obtain⟨es,clock,e1,e2,e3,e4⟩:=h1
  have h0:=h3 0 0 (by simp) (by simp [ht])
  have hcell:cellAt [[AV.mcon (m.map (Zcf fk fv))]] 0 0= .mcon (m.map (Zcf fk fv)):=rfl
  have hcs:cs.getD (0*c.P.cellsOf t+0) undef=ZfZ es:=by rw [e2];simp
  simp only [hcell,hcs] at h0
  unfold ZfZ at h0
  cases h0 with
  |leaf h=>have:=Zfg h;cases this
  |mcon _ ks vs _ T' g1 g2 g3 g4 g5 g6=>
    simp only [Array.size_map,lM] at g1 g2 g5 g6
    refine⟨es,clock,T',e1,e3,e4,g1,fun i x hx=>t1 0 0 x (g3 i x hx),g4,fun i p x hp hx=> ?_⟩
    have hi:i<m.length:=(List.getElem?_eq_some_iff.1 hp).1
    have hgi:=g2 i hi
    simp only [Array.getElem?_map,hx,Option.map_some,Option.some.injEq,Value.tuple.injEq] at hgi
    have hk:x.key=ks i:=by have:=congrArg (fun a=>a.getD 0 undef) hgi;simpa using this
    have hv:x.val=vs i:=by have:=congrArg (fun a=>a.getD 1 undef) hgi;simpa using this
    have hr0:(m.map (Zcf fk fv)).getD i []=Zcf fk fv p:=by simp [gQ,hp]
    have a0:=g5 i hi
    have a1:=g6 i hi
    unfold cellAt at a0 a1
    rw [hr0] at a0 a1
    rw [hk,hv]
    exact⟨a0,a1⟩
theorem ZpP{K V:Type}(eq:K→K→Bool)(m:List (K×V))(k:K):mget eq m k=(m.findIdx? fun p=>eq k p.1).bind fun i=>(m[i]?).map (·.2):=by
  unfold mget
  induction m with
  |nil=>rfl
  |cons p m ih=>
    rw [List.find?_cons,List.findIdx?_cons]
    cases h:eq k p.1 with
    |true=>simp
    |false=>
      simp only [Bool.false_eq_true,if_false]
      rw [ih]
      cases List.findIdx? (fun p=>eq k p.1) m<;>simp
theorem ZlE{K V:Type}{fk:K→AV}{fv:V→AV}{eq:K→K→Bool}{m:List (K×V)}{k:K}{kt:Nat}{φ:Phi}{a:Act}{w:World}(hc:Conc c φ st a w)(KO:KeyOK c.P kt fk eq)(hd: ∀ k,Dat c st (fk k) (fk k)){y:Operand}(hy:Opv c st y (fk k))
    {es:Array MapEntry} {T:Nat→Nat→Prop} (hl:es.size=m.length)
    (h: ∀ (i:Nat) (p:K×V) (x:MapEntry),m[i]?=some p→es[i]?=some x→RelF c.P w (Mut c.A φ st.hp) st.hp.length φ (fk p.1) x.key∧TRel c.P w (Mut c.A φ st.hp) st.hp.length φ (T i) (fv p.2) x.val):
    (Instr.findKey kt (a.eval y) es.toList).run c.P w= .ok ((m.findIdx? fun p=>eq k p.1).bind fun i=>(es[i]?).map fun e=>(i,e.val)) w:=by
  have:=KO.find w (Mut c.A φ st.hp) k (a.eval y) (hd k φ a w hc _ (hy φ a w hc)) (m.map (·.1)) es.toList (by simp [hl]) (fun i q e h1 h2=>by
    simp only [List.getElem?_map,Option.map_eq_some_iff] at h1
    obtain⟨p,hp,rfl⟩:=h1
    exact hd _ φ a w hc _ (h i p e hp (by simpa using h2)).1)
  rw [this]
  congr 1
  rw [List.findIdx?_map]
  simp only [Function.comp_def,Array.getElem?_toList]
theorem ZjL{K V:Type}{fk:K→AV}{fv:V→AV}{eq:K→K→Bool}{m:List (K×V)}{k:K}{z0:V}{x y:Operand}{t kt e r:Nat}(h:Opv c st x (.mref r 1))(hy:Opv c st y (fk k))(ht:tMap c.P t kt e=true)(KO:KeyOK c.P kt fk eq)
    (ho:nth st.hp r=some ⟨t,[[.mcon (m.map (Zcf fk fv))]]⟩) (hd: ∀ k,Dat c st (fk k) (fk k)) (hz:Zjb c.P e (fv z0)) (hns: ∀ p∈m,noSub (fv p.2)=true) {φ:Phi} {a:Act} {w:World} (hc:Conc c φ st a w) (ok:Bool):
    ∃ u,(Instr.lookup t (a.eval x) (a.eval y) ok).run c.P w= .ok (if ok then .tuple #[u,.bool (mget eq m k).isSome] else u) w∧RelF c.P w (Mut c.A φ st.hp) st.hp.length φ (fv ((mget eq m k).getD z0)) u:=by
  obtain⟨hu,hcs⟩:=tMap.spec ht
  have hO:=hc.hok.obj r _ ho
  obtain⟨hmp,b,hb,hx⟩:=ZlM (h φ a w hc) hO.len
  obtain⟨es,clock,T,e1,e2,e3,e4,e5,e6,e7⟩:=Zm8 hc ho hcs hb hmp
  have hf:=ZlE hc KO hd hy e4 e7
  have hck:=KO.chk w (Mut c.A φ st.hp) k (a.eval y) es.isEmpty (hd k φ a w hc _ (hy φ a w hc))
  obtain⟨z,hz1,hz2⟩:=hz
  have hg:=MapKept.run_getObj_map (P:=c.P) e1
  rw [ZpP]
  cases hq:m.findIdx? fun p=>eq k p.1 with
  |none=>
    rw [hq] at hf
    refine⟨z,?_,Zt (hz2 _ _)⟩
    unfold Instr.lookup
    simp [run_underlying hu,hx,hg,hck,hf,hz1]
  |some i=>
    have hi:i<m.length:=by
      have:=List.findIdx?_eq_some_iff_getElem.1 hq
      exact this.1
    have hie:i<es.size:=by omega
    rw [hq] at hf
    have hes:es[i]?=some es[i]:=by simp [hie]
    have hm:m[i]?=some m[i]:=by simp [hi]
    rw [oB,hes] at hf
    refine⟨es[i].val,?_,?_⟩
    · unfold Instr.lookup
      simp [run_underlying hu,hx,hg,hck,hf,hi]
    · rw [oB,hm]
      exact(e7 i _ _ hm hes).2.plain (hns _ (List.getElem_mem _))
theorem ZoT{K V:Type}{fk:K→AV}{fv:V→AV}{eq:K→K→Bool}{m:List (K×V)}{k:K}{z0:V}{x y:Operand}{t kt e r:Nat}(h:Opv c st x (.mref r 1))(hy:Opv c st y (fk k))(ht:tMap c.P t kt e=true)(KO:KeyOK c.P kt fk eq)
    (ho:nth st.hp r=some ⟨t,[[.mcon (m.map (Zcf fk fv))]]⟩) (hd: ∀ k,Dat c st (fk k) (fk k)) (hz:Zjb c.P e (fv z0)) (hns: ∀ p∈m,noSub (fv p.2)=true):
    SVal c ops st ⟨dst,.lookup t x y true,ty,pos,after,none⟩ (.tuple [fv ((mget eq m k).getD z0),.bool (mget eq m k).isSome]):=
  .pure rfl fun φ a w hc=>by
    obtain⟨u,h1,h2⟩:=ZjL h hy ht KO ho hd hz hns hc true
    refine⟨.tuple #[u,.bool (mget eq m k).isSome],?_,?_⟩
    · show((do pure (Next.value (←Instr.lookup t (a.eval x) (a.eval y) true)):Sem Next)).run c.P w=_
      rw [Sem.run_bind,h1];rfl
    · refine Zjs rfl fun i hi=> ?_
      match i,hi with
      |0,_=>exact h2
      |1,_=>exact Zt (.bool _)
theorem ZoO{K V:Type}{fk:K→AV}{fv:V→AV}{eq:K→K→Bool}{m:List (K×V)}{k:K}{z0:V}{x y:Operand}{t kt e r:Nat}(h:Opv c st x (.mref r 1))(hy:Opv c st y (fk k))(ht:tMap c.P t kt e=true)(KO:KeyOK c.P kt fk eq)
    (ho:nth st.hp r=some ⟨t,[[.mcon (m.map (Zcf fk fv))]]⟩) (hd: ∀ k,Dat c st (fk k) (fk k)) (hz:Zjb c.P e (fv z0)) (hns: ∀ p∈m,noSub (fv p.2)=true):
    SVal c ops st ⟨dst,.lookup t x y false,ty,pos,after,none⟩ (fv ((mget eq m k).getD z0)):=
  .pure rfl fun φ a w hc=>by
    obtain⟨u,h1,h2⟩:=ZjL h hy ht KO ho hd hz hns hc false
    refine⟨u,?_,h2⟩
    show((do pure (Next.value (←Instr.lookup t (a.eval x) (a.eval y) false)):Sem Next)).run c.P w=_
    rw [Sem.run_bind,h1];rfl
theorem Zs5{K V:Type}{fk:K→AV}{fv:V→AV}{eq:K→K→Bool}{m:List (K×V)}{k:K}{z0:V}{o:Option V}{x y:Operand}{t kt e r:Nat}(h:Opv c st x (.mref r 1))(hy:Opv c st y (fk k))(ht:tMap c.P t kt e=true)(KO:KeyOK c.P kt fk eq)
    (ho:nth st.hp r=some ⟨t,[[.mcon (m.map (Zcf fk fv))]]⟩) (hd: ∀ k,Dat c st (fk k) (fk k)) (hz:Zjb c.P e (fv z0)) (hns: ∀ p∈m,noSub (fv p.2)=true) (hn:some (mget eq m k)=some o):
    SVal c ops st ⟨dst,.lookup t x y true,ty,pos,after,none⟩ (.tuple [fv (o.getD z0),.bool o.isSome]):=by
  cases hn
  exact ZoT h hy ht KO ho hd hz hns
theorem ZsY{K V:Type}{fk:K→AV}{fv:V→AV}{eq:K→K→Bool}{m:List (K×V)}{k:K}{z0 v:V}{x y:Operand}{t kt e r:Nat}(h:Opv c st x (.mref r 1))(hy:Opv c st y (fk k))(ht:tMap c.P t kt e=true)(KO:KeyOK c.P kt fk eq)
    (ho:nth st.hp r=some ⟨t,[[.mcon (m.map (Zcf fk fv))]]⟩) (hd: ∀ k,Dat c st (fk k) (fk k)) (hz:Zjb c.P e (fv z0)) (hns: ∀ p∈m,noSub (fv p.2)=true) (hn:some ((mget eq m k).getD z0)=some v):
    SVal c ops st ⟨dst,.lookup t x y false,ty,pos,after,none⟩ (fv v):=by
  cases hn
  exact ZoO h hy ht KO ho hd hz hns
end ops
end Go.Vx

namespace Go.Vx
open Go Go.RowKit
theorem Zqx{P:Program}{w:World}{M:Nat→Prop}{n:Nat}{φ:Phi}{S:Nat→Prop}{K V:Type}{fk:K→AV}{fv:V→AV}{m:List (K×V)}{es:Array MapEntry}(T:Nat→Nat→Prop)(hl:es.size=m.length)
    (h1: ∀ i x,T i x→S x) (h2: ∀ i i' x,T i x→T i' x→i=i')
    (h: ∀ (i:Nat) (p:K×V) (x:MapEntry),m[i]?=some p→es[i]?=some x→RelF P w M n φ (fk p.1) x.key∧TRel P w M n φ (T i) (fv p.2) x.val):TRel P w M n φ S (.mcon (m.map (Zcf fk fv))) (ZfZ es):=by
  have key: ∀ i,i<m.length→ ∃ p x,m[i]?=some p∧es[i]?=some x:=fun i hi=>⟨m[i],es[i]'(by omega),by simp [hi],by simp [show i<es.size by omega]⟩
  refine .mcon _ (fun i=>((es[i]?).map (·.key)).getD undef) (fun i=>((es[i]?).map (·.val)).getD undef) _ T (by simp [hl]) (fun i hi=> ?_) h1 h2 (fun i hi=> ?_) (fun i hi=> ?_)
  · obtain⟨p,x,hp,hx⟩:=key i (by simpa using hi)
    simp [hx]
  · obtain⟨p,x,hp,hx⟩:=key i (by simpa using hi)
    have hr:(m.map (Zcf fk fv)).getD i []=Zcf fk fv p:=by simp [gQ,hp]
    unfold cellAt
    rw [hr,hx]
    exact(h i p x hp hx).1
  · obtain⟨p,x,hp,hx⟩:=key i (by simpa using hi)
    have hr:(m.map (Zcf fk fv)).getD i []=Zcf fk fv p:=by simp [gQ,hp]
    unfold cellAt
    rw [hr,hx]
    exact(h i p x hp hx).2
section ops
variable {c:Ctx} {ops:Array Oper} {st:St} {dst:Option Tmp} {ty:TypeId} {pos:String} {after:Array Edge}
theorem Zmz{K V:Type}{fk:K→AV}{fv:V→AV}{m':List (K×V)}{φ:Phi}{a:Act}{w:World}(hc:Conc c φ st a w){r t:Nat}{o:Own}(ho:nth st.hp r=some o)(he:o.elem=t)(hn:o.es.length=1)(ht:c.P.cellsOf t=1){b:Nat}(hb:(φ r).blk=some b)(hmp:(φ r).mp=true)
    {es0 es:Array MapEntry} {clock0 clock:Nat} (T:Nat→Nat→Prop) (h0:w.heap[b]?=some (.map es0 clock0)) (hl:es.size=m'.length)
    (h1:clock=es.size) (h2: ∀ (i:Nat) (x:MapEntry),es[i]?=some x→x.born=i)
    (h3: ∀ i x,T i x→(φ r).sub x) (h4: ∀ i i' x,T i x→T i' x→i=i')
    (h: ∀ (i:Nat) (p:K×V) (x:MapEntry),m'[i]?=some p→es[i]?=some x→RelF c.P w (Mut c.A φ st.hp) st.hp.length φ (fk p.1) x.key∧TRel c.P w (Mut c.A φ st.hp) st.hp.length φ (T i) (fv p.2) x.val):
    HeapOK c φ (Xh st.hp r (some ⟨t,[[.mcon (m'.map (Zcf fk fv))]]⟩)) {w with heap:=w.heap.setIfInBounds b (.map es clock)}∧
      (∀ av x,RelF c.P w (Mut c.A φ st.hp) st.hp.length φ av x→RelF c.P {w with heap:=w.heap.setIfInBounds b (.map es clock)} (Mut c.A φ (Xh st.hp r (some ⟨t,[[.mcon (m'.map (Zcf fk fv))]]⟩))) (Xh st.hp r (some ⟨t,[[.mcon (m'.map (Zcf fk fv))]]⟩)).length φ av x):=by
  subst he
  have hO:=hc.hok.obj r o ho
  have hφ:(fun x=>if x=r then φ r else φ x)=φ:=by funext x;split;subst_vars;rfl;rfl
  have hbl:b<w.heap.size:=(Array.getElem?_eq_some_iff.1 h0).1
  have hother: ∀ b',b'≠b→(w.heap.setIfInBounds b (.map es clock))[b']?=w.heap[b']?:=fun b' hne=>Array.getElem?_setIfInBounds_ne (Ne.symm hne)
  have hu:=Zcw (L:=φ r) (o':=⟨o.elem,[[.mcon (m'.map (Zcf fk fv))]]⟩) (w':={w with heap:=w.heap.setIfInBounds b (.map es clock)}) hc.hok ho rfl rfl rfl (by simp)
    (fun b' hlt hne=>hother b' (fun e=>hne (by rw [hb,e]))) (.inl rfl) (.inl (.refl _)) (fun htr=>by
      simp only [hφ] at htr ⊢
      have hroom:=hO.room
      refine⟨by rw [hO.len,hn];rfl,hO.sz,(by simp [ht]),by simpa [hn] using hroom,hO.cap,(fun h=>by rw [hb] at h;cases h),(by simpa using hO.subl),hO.subn,fun b' hb'=> ?_⟩
      rw [hb] at hb';cases hb'
      obtain⟨cs0,g1,g2,_⟩:=hO.some b hb
      rw [hmp] at g1
      obtain⟨_,_,_,g4,_⟩:=g1
      have hc1:(φ r).cap=1:=by rw [g4,ht] at g2;simpa using g2.symm
      refine⟨#[ZfZ es],by rw [hmp];exact⟨es,clock,by show(w.heap.setIfInBounds b _)[b]?=_;simp [hbl],rfl,h1,h2⟩,by simp [hc1,ht],fun(i j x:Nat)=>(φ r).sub x∧i=0∧j=0,(fun i j x hx=>hx.1),(fun i j i' j' x hx hy=>⟨hx.2.1.trans hy.2.1.symm,hx.2.2.trans hy.2.2.symm⟩),fun i j hi hj=> ?_⟩
      simp only [List.length_singleton] at hi
      simp only [ht] at hj
      obtain rfl:i=0:=by omega
      obtain rfl:j=0:=by omega
      have e1: #[ZfZ es].getD (0*c.P.cellsOf o.elem+0) undef=ZfZ es:=by simp
      have e2:cellAt [[AV.mcon (m'.map (Zcf fk fv))]] 0 0= .mcon (m'.map (Zcf fk fv)):=rfl
      simp only [e1,e2]
      refine Zqx T hl (fun i x hx=>⟨h3 i x hx,by simp⟩) h4 fun i p x hp hx=> ?_
      obtain⟨k1,k2⟩:=h i p x hp hx
      exact⟨htr _ _ k1,k2.tr (fun y hy=>hother y fun e=>hO.subn b hb (e▸h3 i y hy)) htr⟩)
  simp only [hφ] at hu
  exact hu
theorem Zqe{K V:Type}{fk:K→AV}{fv:V→AV}{eq:K→K→Bool}{m:List (K×V)}{k:K}{v:V}{x y z:Operand}{t kt e r:Nat}(h:Opv c st x (.mref r 1))(hy:Opv c st y (fk k))(hz:Opv c st z (fv v))(ht:tMap c.P t kt e=true)(KO:KeyOK c.P kt fk eq)
    (ho:nth st.hp r=some ⟨t,[[.mcon (m.map (Zcf fk fv))]]⟩) (hd: ∀ k,Dat c st (fk k) (fk k)):
    WVal c ops st ⟨none,.mapUpdate t x y z,ty,pos,after,none⟩ .any (Xh st.hp r (some ⟨t,[[.mcon ((ZmR eq m k v).map (Zcf fk fv))]]⟩)):=by
  refine .skip rfl fun φ a w hc=> ?_
  obtain⟨hu,hcs⟩:=tMap.spec ht
  have hO:=hc.hok.obj r _ ho
  obtain⟨hmp,b,hb,hx⟩:=ZlM (h φ a w hc) hO.len
  obtain⟨es,clock,T,e1,e2,e3,e4,e5,e6,e7⟩:=Zm8 hc ho hcs hb hmp
  have hf:=ZlE hc KO hd hy e4 e7
  have hkd:=hd k φ a w hc _ (hy φ a w hc)
  have hck:=KO.chk w (Mut c.A φ st.hp) k (a.eval y) false hkd
  have hg:=MapKept.run_getObj_map (P:=c.P) e1
  cases hq:m.findIdx? fun p=>eq k p.1 with
  |none=>
    rw [hq] at hf
    have hm':ZmR eq m k v=m++ [(k,v)]:=by unfold ZmR;rw [hq]
    rw [hm']
    have:=Zmz (fk:=fk) (fv:=fv) (m':=m++ [(k,v)]) hc ho rfl rfl hcs hb hmp (es:=es.push {key:=a.eval y,val:=a.eval z,born:=clock}) (clock:=clock+1) (fun i x=>T i x∧i<m.length) e1 (by simp [e4]) (by rw [Array.size_push,e2]) (fun i x hx=>by
        rw [Array.getElem?_push] at hx
        split at hx
        · rename_i hi;cases hx;exact e2.trans hi.symm
        · exact e3 i x hx) (fun i x hx=>e5 i x hx.1) (fun i i' x hx hy=>e6 i i' x hx.1 hy.1) (fun i p x hp hx=>by
        rw [Array.getElem?_push,e4] at hx
        split at hx
        · rename_i hi
          subst hi
          cases hx
          rw [List.getElem?_append_right (Nat.le_refl _)] at hp
          simp at hp
          subst hp
          exact⟨hy φ a w hc,.leaf (hz φ a w hc)⟩
        · have hi:=(Array.getElem?_eq_some_iff.1 hx).1
          rw [e4] at hi
          rw [List.getElem?_append_left hi] at hp
          obtain⟨k1,k2⟩:=e7 i p x hp hx
          exact⟨k1,k2.sub fun y hy=>⟨hy,hi⟩⟩)
    refine⟨_,φ,?_,this.1,this.2,Zt (.any _)⟩
    have hrun:(Instr.mapUpdate t (a.eval x) (a.eval y) (a.eval z)).run c.P w= .ok () {w with heap:=w.heap.setIfInBounds b (.map (es.push {key:=a.eval y,val:=a.eval z,born:=clock}) (clock+1))}:=by
      unfold Instr.mapUpdate
      simp [run_underlying hu,hx,hg,hck,hf,MapKept.run_setObj_map _ e1]
    show((do Instr.mapUpdate t (a.eval x) (a.eval y) (a.eval z);pure Next.skip:Sem Next)).run c.P w=_
    rw [Sem.run_bind,hrun]
    rfl
  |some i=>
    have hfi:=List.findIdx?_eq_some_iff_getElem.1 hq
    have hi:i<m.length:=hfi.1
    have heq:eq k m[i].1=true:=hfi.2.1
    have hie:i<es.size:=by omega
    rw [hq] at hf
    have hes:es[i]?=some es[i]:=by simp [hie]
    have hm:m[i]?=some m[i]:=by simp [hi]
    rw [oB,hes] at hf
    have hm':ZmR eq m k v=m.set i (k,v):=by unfold ZmR;rw [hq]
    rw [hm']
    have hold:=e7 i _ _ hm hes
    have hkeep:=KO.keep w (Mut c.A φ st.hp) k m[i].1 (a.eval y) es[i].key hkd (hd _ φ a w hc _ hold.1) heq
    have hmod: ∀ j,(es.modify i fun e=>{e with key:=a.eval y,val:=a.eval z})[j]?=if i=j then(es[j]?).map fun e=>{e with key:=a.eval y,val:=a.eval z} else es[j]?:=fun j=>by rw [Array.getElem?_modify]
    have:=Zmz (fk:=fk) (fv:=fv) (m':=m.set i (k,v)) hc ho rfl rfl hcs hb hmp (es:=es.modify i fun e=>{e with key:=a.eval y,val:=a.eval z}) (clock:=clock) (fun j x=>T j x∧j≠i) e1 (by simp [e4]) (by simp [e2]) (fun j x hx=>by
        rw [hmod] at hx
        split at hx
        · simp only [Option.map_eq_some_iff] at hx
          obtain⟨x0,hx0,rfl⟩:=hx
          exact e3 j x0 hx0
        · exact e3 j x hx) (fun i x hx=>e5 i x hx.1) (fun i i' x hx hy=>e6 i i' x hx.1 hy.1) (fun j p x hp hx=>by
        rw [hmod] at hx
        rw [List.getElem?_set] at hp
        split at hx
        · rename_i hij
          subst hij
          simp only [hi,if_true,Option.some.injEq] at hp
          subst hp
          simp only [Option.map_eq_some_iff] at hx
          obtain⟨x0,hx0,rfl⟩:=hx
          exact⟨hy φ a w hc,.leaf (hz φ a w hc)⟩
        · rename_i hij
          rw [nG hij] at hp
          obtain⟨k1,k2⟩:=e7 j p x hp hx
          exact⟨k1,k2.sub fun y hy=>⟨hy,fun e=>hij e.symm⟩⟩)
    refine⟨_,φ,?_,this.1,this.2,Zt (.any _)⟩
    have hrun:(Instr.mapUpdate t (a.eval x) (a.eval y) (a.eval z)).run c.P w= .ok () {w with heap:=w.heap.setIfInBounds b (.map (es.modify i fun e=>{e with key:=a.eval y,val:=a.eval z}) clock)}:=by
      unfold Instr.mapUpdate
      simp [run_underlying hu,hx,hg,hck,hf,hes,hkeep,MapKept.run_setObj_map _ e1,hie]
    show((do Instr.mapUpdate t (a.eval x) (a.eval y) (a.eval z);pure Next.skip:Sem Next)).run c.P w=_
    rw [Sem.run_bind,hrun]
    rfl
end ops
theorem ZiO{P:Program}{q:Rw}{K V:Type}{t:TypeId}{fk:K→AV}{fv:V→AV}{m:List (K×V)}(ht:P.cellsOf t=1)(hk: ∀ k,RenR q (fk k) (fk k))(hv: ∀ v,RenC q (fv v) (fv v)):RenOO P q ⟨t,[[.mcon (m.map (Zcf fk fv))]]⟩ ⟨t,[[.mcon (m.map (Zcf fk fv))]]⟩:=by
  refine⟨rfl,rfl,by simp [ht],fun i j hi hj=> ?_⟩
  simp only [List.length_singleton] at hi
  simp only [ht] at hj
  obtain rfl:i=0:=by omega
  obtain rfl:j=0:=by omega
  have hr: ∀ i,(m.map (Zcf fk fv)).getD i []= []∨ ∃ p,(m.map (Zcf fk fv)).getD i []=Zcf fk fv p:=fun i=>by
    by_cases hi:i<m.length
    · exact .inr ⟨m[i],by simp [gQ,hi]⟩
    · exact .inl (by rw [gQ,List.getElem?_eq_none (by simp;omega)];rfl)
  refine .map (fun i=> ?_) (fun i=> ?_)
  · unfold cellAt
    rcases hr i with e | ⟨p,e⟩
    · rw [e];exact .any
    · rw [e];exact hk _
  · unfold cellAt
    rcases hr i with e | ⟨p,e⟩
    · rw [e];exact .ren .any
    · rw [e];exact hv _
end Go.Vx

namespace Go.Vx
open Go Go.RowKit
theorem ZkR{es:List (List AV)}{i j i' j':Nat}{row:List AV}{v:AV}(hrow:es[i]?=some row)(hj:j<row.length):cellAt (es.set i (row.set j v)) i' j'=if i'=i∧j'=j then v else cellAt es i' j':=by
  have hi:i<es.length:=(List.getElem?_eq_some_iff.1 hrow).1
  unfold cellAt
  by_cases h1:i'=i
  · subst h1
    have e1:(es.set i' (row.set j v)).getD i' []=row.set j v:=by simp [gQ,hi]
    have e2:es.getD i' []=row:=by simp [gQ,hrow]
    rw [e1,e2]
    by_cases h2:j'=j
    · subst h2;simp [gQ,hj]
    · rw [nG (by simp [h2])]
      simp [gQ,List.getElem?_set_ne (Ne.symm h2)]
  · rw [nG (by simp [h1])]
    have:(es.set i (row.set j v)).getD i' []=es.getD i' []:=by simp [gQ,List.getElem?_set_ne (Ne.symm h1)]
    rw [this]
theorem ZmI{es:List (List AV)}{i j n:Nat}{row:List AV}{v:AV}(hrow:es[i]?=some row)(h: ∀ row∈es,row.length=n): ∀ r∈es.set i (row.set j v),r.length=n:=by
  intro r hr
  rcases List.mem_or_eq_of_mem_set hr with hr |rfl
  · exact h r hr
  · rw [List.length_set];exact h _ (List.mem_of_getElem? hrow)
theorem Ent.focus{c:Ctx}{tm:List (Nat×AV)}{hp:List (Option Own)}{r i j:Nat}{o:Own}{row:List AV}{e:TypeId}{l:List (List AV)}(ho:nth hp r=some o)(hrow:o.es[i]?=some row)(hcell:row[j]?=some (.osub e l))(hlen: ∀ x∈l,x.length=c.P.cellsOf e):
    Ent c ⟨tm,hp⟩ ⟨tm,Xh hp r (some ⟨o.elem,o.es.set i (row.set j (.own hp.length l.length))⟩)++ [some ⟨e,l⟩]⟩:=by
  intro φ a w hc
  have hok:=hc.hok
  have hO:=hok.obj r o ho
  have hrl:r<hp.length:=XA ho
  have hi:i<o.es.length:=(List.getElem?_eq_some_iff.1 hrow).1
  have hj:j<row.length:=(List.getElem?_eq_some_iff.1 hcell).1
  have hjc:j<c.P.cellsOf o.elem:=by rw [←hO.rows row (List.mem_of_getElem? hrow)];exact hj
  have hca:cellAt o.es i j= .osub e l:=by unfold cellAt;rw [getD_of_get? hrow,getD_of_get? hcell]
  cases hb:(φ r).blk with
  |none=>have:=(hO.none hb).1;rw [this] at hi;cases hi
  |some b=>
    obtain⟨cs,h1,h2,T,t1,t2,h3⟩:=hO.some b hb
    have hT:=h3 i j hi hjc
    rw [hca] at hT
    have key: ∃ (L:Loc),L.n=l.length∧L.sz=c.P.cellsOf e∧L.mp=false∧l.length≤L.cap∧L.cap<2^63∧(L.blk=none→l= []∧L.cap=0)∧(∀ x,L.has x→T i j x)∧(∀ x,L.blk=some x→ ¬L.sub x)∧
        cs.getD (i*c.P.cellsOf o.elem+j) undef= .slice (L.blk.map fun b=>⟨b,0,none⟩) l.length L.cap∧
        ∀ b',L.blk=some b'→ ∃ cs',w.heap[b']?=some (.cells cs' e (0,0))∧cs'.size=L.cap*c.P.cellsOf e∧Cells c.P w (Mut c.A φ hp) hp.length φ L.sub l cs' (c.P.cellsOf e):=by
      generalize cs.getD (i*c.P.cellsOf o.elem+j) undef=v at hT
      cases hT with
      |leaf h=>have:=Zfg h;cases this
      |nil=>exact⟨⟨none,0,0,c.P.cellsOf e,false,fun _=>False⟩,rfl,rfl,rfl,Nat.le_refl _,(by show(0:Nat)<2^63;decide),(fun _=>⟨rfl,rfl⟩),(by
        rintro x (h |h)
        · cases h
        · exact h.elim),(by rintro x h;cases h),rfl,(by rintro b' h;cases h)⟩
      |osub _ _ b' cap cs' T' g1 g2 g3 g4 g5 g6 g7 g8 g9=>
        refine⟨⟨some b',cap,l.length,c.P.cellsOf e,false,fun x=>T i j x∧x≠b'⟩,rfl,rfl,rfl,g2,g3,(fun h=>by cases h),?_,?_,rfl,?_⟩
        · rintro x (h |h)
          · cases h;exact g1
          · exact h.1
        · rintro x h;cases h;exact fun h=>h.2 rfl
        · rintro b2 h;cases h
          exact⟨cs',g4,g5,T',fun i j x hx=>g7 i j x hx,g8,g9⟩
    obtain⟨L,l1,l2,l3,l4,l5,l6,l7,l8,l9,l10⟩:=key
    let φ':Phi:=fun x=>if x=hp.length then L else if x=r then {φ r with sub:=fun y=>(φ r).sub y∧ ¬T i j y} else φ x
    have hne:r≠hp.length:=by omega
    have f1:φ' hp.length=L:=by simp only [φ',if_true]
    have f2:φ' r={φ r with sub:=fun y=>(φ r).sub y∧ ¬T i j y}:=by simp only [φ',nG hne,if_true]
    have f3: ∀ x,x≠hp.length→x≠r→φ' x=φ x:=fun x h h'=>by simp only [φ',nG h,nG h']
    have same: ∀ x,x≠hp.length→(φ' x).same (φ x):=fun x h=>by
      by_cases h':x=r
      · subst h';rw [f2];exact⟨rfl,rfl,rfl,rfl,rfl⟩
      · rw [f3 x h h'];exact .refl _
    generalize hhp:Xh hp r (some (⟨o.elem,o.es.set i (row.set j (.own hp.length l.length))⟩:Own))++ [some ⟨e,l⟩]=hp'
    have hlen':hp'.length=hp.length+1:=by rw [←hhp];simp [ZbA]
    have hnth: ∀ x,nth hp' x=if x=hp.length then some ⟨e,l⟩ else if x=r then some ⟨o.elem,o.es.set i (row.set j (.own hp.length l.length))⟩ else nth hp x:=fun x=>by
      rw [←hhp,Za2,ZbA,Zcj ho]
    have hhas: ∀ x q y,nth hp' x=some q→(φ' x).has y→ ∃ x' q',nth hp x'=some q'∧(φ x').has y∧(x≠hp.length→x'=x)∧(x=hp.length→x'=r∧T i j y):=by
      intro x q y hx hy
      by_cases e1:x=hp.length
      · subst e1
        rw [f1] at hy
        exact⟨r,o,ho,.inr (t1 i j y (l7 y hy)),fun h=>absurd rfl h,fun _=>⟨rfl,l7 y hy⟩⟩
      · by_cases e2:x=r
        · subst e2
          rw [f2] at hy
          exact⟨x,o,ho,hy.imp id fun h=>h.1,fun _=>rfl,fun h=>absurd h e1⟩
        · rw [hnth,nG e1,nG e2] at hx
          rw [f3 x e1 e2] at hy
          exact⟨x,q,hx,hy,fun _=>rfl,fun h=>absurd h e1⟩
    have hmut: ∀ y,Mut c.A φ' hp' y→Mut c.A φ hp y:=by
      rintro y (ha | ⟨x,q,hx,hy⟩)
      · exact .inl ha
      · obtain⟨x',q',h,h',_⟩:=hhas x q y hx hy
        exact .inr ⟨x',q',h,h'⟩
    have htr: ∀ av x,RelF c.P w (Mut c.A φ hp) hp.length φ av x→RelF c.P w (Mut c.A φ' hp') hp'.length φ' av x:=by
      intro av x hx ψ hψ
      have h0:=hx (fun s=>if s<hp.length then φ s else ψ s) fun s hs=>by simp only [pG hs]
      refine(h0.mono (Nat.le_refl _) (fun _ _ _=>rfl) (fun y _ hm hm'=>hm (hmut y hm'))).loc fun s=> ?_
      by_cases hs:s<hp.length
      · rw [pG hs,hψ s (by omega)];exact .inl (same s (by omega))
      · rw [nG hs];exact .inl (.refl _)
    refine⟨φ',hc.size,hc.defers,⟨hok.os,hok.tape,hok.output,hok.heap,hok.frame,?_,?_,?_,hok.amb,hok.glob,by rw [hlen'];exact Nat.le_succ_of_le hok.len,fun s hs=> ?_⟩,fun t av ht=>htr _ _ (hc.tm t av ht)⟩
    · intro x q y hx hy
      obtain⟨x',q',h,h',_⟩:=hhas x q y hx hy
      exact hok.owned x' q' y h h'
    · intro x1 x2 q1 q2 y hx1 hx2 hy1 hy2
      obtain⟨z1,p1,a1,a2,a3,a4⟩:=hhas x1 q1 y hx1 hy1
      obtain⟨z2,p2,b1,b2,b3,b4⟩:=hhas x2 q2 y hx2 hy2
      have hz:=hok.apart z1 z2 p1 p2 y a1 b1 a2 b2
      have notboth: ∀ x,x=r→(φ' x).has y→T i j y→False:=by
        rintro x rfl hy hT
        rw [f2] at hy
        rcases hy with h |h
        · have h:(φ x).blk=some y:=h
          exact hO.subn y h (t1 i j y hT)
        · exact h.2 hT
      by_cases e1:x1=hp.length
      · by_cases e2:x2=hp.length
        · rw [e1,e2]
        · obtain⟨c1,c2⟩:=a4 e1
          have c3:=b3 e2
          exact(notboth x2 (by rw [←c3,←hz,c1]) hy2 c2).elim
      · by_cases e2:x2=hp.length
        · obtain⟨c1,c2⟩:=b4 e2
          have c3:=a3 e1
          exact(notboth x1 (by rw [←c3,hz,c1]) hy1 c2).elim
        · rw [←a3 e1,←b3 e2,hz]
    · intro x q hx
      rw [hnth] at hx
      by_cases e1:x=hp.length
      · subst e1
        rw [pG rfl] at hx
        cases hx
        rw [hlen']
        refine⟨by rw [f1];exact l1,by rw [f1];exact l2,hlen,by rw [f1];exact l4,by rw [f1];exact l5,by rw [f1];exact l6,by rw [f1];exact fun y hy=>hO.subl y (t1 i j y (l7 y (.inr hy))),by rw [f1];exact l8,fun b' hb'=> ?_⟩
        rw [f1] at hb' ⊢
        obtain⟨cs',g1,g2,g3⟩:=l10 b' hb'
        exact⟨cs',by rw [l3];exact g1,g2,g3.tr (fun _ _=>rfl) (by rw [←hlen'];exact htr)⟩
      · rw [nG e1] at hx
        by_cases e2:x=r
        · subst e2
          rw [pG rfl] at hx
          cases hx
          refine⟨by rw [f2];simpa using hO.len,by rw [f2];exact hO.sz,ZmI hrow hO.rows,by rw [f2];simpa using hO.room,by rw [f2];exact hO.cap,(by rw [f2];exact fun h=>by rw [hb] at h;cases h),by rw [f2];exact fun y hy=>hO.subl y hy.1,by rw [f2];exact fun y hy hs=>hO.subn y hy hs.1,fun b' hb'=> ?_⟩
          rw [f2] at hb' ⊢
          simp only at hb'
          rw [hb] at hb';cases hb'
          refine⟨cs,h1,h2,fun i' j' y=>T i' j' y∧ ¬(i'=i∧j'=j),fun i' j' y hy=>⟨t1 i' j' y hy.1,fun hT=>hy.2 (t2 i' j' i j y hy.1 hT)⟩,fun i1 j1 i2 j2 y hy1 hy2=>t2 i1 j1 i2 j2 y hy1.1 hy2.1,fun i' j' hi' hj'=> ?_⟩
          simp only [List.length_set] at hi'
          simp only
          rw [ZkR hrow hj]
          by_cases e3:i'=i∧j'=j
          · rw [pG e3]
            obtain⟨rfl,rfl⟩:=e3
            rw [l9]
            refine .leaf fun ψ hψ=> ?_
            have e4:ψ hp.length=L:=by rw [hψ _ (by omega),f1]
            exact .own _ _ _ rfl (by rw [e4,l1];exact Nat.le_refl _) fun _=>by rw [e4];exact⟨l3,rfl⟩
          · rw [nG e3]
            exact((h3 i' j' hi' hj').tr (fun _ _=>rfl) htr).sub fun y hy=>⟨hy,e3⟩
        · rw [nG e2] at hx
          have hQ:=hok.obj x q hx
          rw [show φ'=φ' from rfl]
          refine⟨by rw [f3 x e1 e2];exact hQ.len,by rw [f3 x e1 e2];exact hQ.sz,hQ.rows,by rw [f3 x e1 e2];exact hQ.room,by rw [f3 x e1 e2];exact hQ.cap,by rw [f3 x e1 e2];exact hQ.none,by rw [f3 x e1 e2];exact hQ.subl,by rw [f3 x e1 e2];exact hQ.subn,fun b' hb'=> ?_⟩
          rw [f3 x e1 e2] at hb' ⊢
          obtain⟨cs',g1,g2,g3⟩:=hQ.some b' hb'
          exact⟨cs',g1,g2,g3.tr (fun _ _=>rfl) htr⟩
    · have hh:c.n0≤hp.length:=hok.len
      rcases hok.mono s hs with h |h
      · exact .inl ((same s (by omega)).trans h)
      · exact .inr (by rw [(same s (by omega)).2.2.1];exact h)
theorem Ent.absorb{c:Ctx}{tm:List (Nat×AV)}{hp:List (Option Own)}{r i j q n:Nat}{o oq:Own}{row:List AV}(ho:nth hp r=some o)(hrow:o.es[i]?=some row)(hcell:row[j]?=some (.own q n))(hoq:nth hp q=some oq)(hn:oq.es.length=n)(hqr:Nat.beq q r=false):
    Ent c ⟨tm,hp⟩ ⟨tm,Xh (Xh hp r (some ⟨o.elem,o.es.set i (row.set j (.osub oq.elem oq.es))⟩)) q none⟩:=by
  intro φ a w hc
  have hqr:q≠r:=Nat.ne_of_beq_eq_false hqr
  have hok:=hc.hok
  have hO:=hok.obj r o ho
  have hQ:=hok.obj q oq hoq
  have hrl:r<hp.length:=XA ho
  have hi:i<o.es.length:=(List.getElem?_eq_some_iff.1 hrow).1
  have hj:j<row.length:=(List.getElem?_eq_some_iff.1 hcell).1
  have hjc:j<c.P.cellsOf o.elem:=by rw [←hO.rows row (List.mem_of_getElem? hrow)];exact hj
  have hca:cellAt o.es i j= .own q n:=by unfold cellAt;rw [getD_of_get? hrow,getD_of_get? hcell]
  let φ':Phi:=fun x=>if x=r then {φ r with sub:=fun y=>(φ r).sub y∨(φ q).has y} else φ x
  have f2:φ' r={φ r with sub:=fun y=>(φ r).sub y∨(φ q).has y}:=by simp only [φ',if_true]
  have f3: ∀ x,x≠r→φ' x=φ x:=fun x h'=>by simp only [φ',nG h']
  have same: ∀ x,(φ' x).same (φ x):=fun x=>by
    by_cases h':x=r
    · subst h';rw [f2];exact⟨rfl,rfl,rfl,rfl,rfl⟩
    · rw [f3 x h'];exact .refl _
  have hq1:nth (Xh hp r (some (⟨o.elem,o.es.set i (row.set j (.osub oq.elem oq.es))⟩:Own))) q=some oq:=by rw [Zcj ho,nG hqr];exact hoq
  generalize hhp:Xh (Xh hp r (some (⟨o.elem,o.es.set i (row.set j (.osub oq.elem oq.es))⟩:Own))) q none=hp'
  have hlen':hp'.length=hp.length:=by rw [←hhp];simp [ZbA]
  have hnth: ∀ x,nth hp' x=if x=q then none else if x=r then some ⟨o.elem,o.es.set i (row.set j (.osub oq.elem oq.es))⟩ else nth hp x:=fun x=>by
    rw [←hhp,Zcj hq1,Zcj ho]
  have hhas: ∀ x z y,nth hp' x=some z→(φ' x).has y→x≠q∧ ∃ x' z',nth hp x'=some z'∧(φ x').has y∧(x'=x∨(x'=q∧x=r)):=by
    intro x z y hx hy
    rw [hnth] at hx
    by_cases e1:x=q
    · rw [pG e1] at hx;cases hx
    · refine⟨e1,?_⟩
      rw [nG e1] at hx
      by_cases e2:x=r
      · subst e2
        rw [f2] at hy
        rcases hy with h |h |h
        · exact⟨x,o,ho,.inl h,.inl rfl⟩
        · exact⟨x,o,ho,.inr h,.inl rfl⟩
        · exact⟨q,oq,hoq,h,.inr ⟨rfl,rfl⟩⟩
      · rw [nG e2] at hx
        rw [f3 x e2] at hy
        exact⟨x,z,hx,hy,.inl rfl⟩
  have hmut: ∀ y,Mut c.A φ' hp' y→Mut c.A φ hp y:=by
    rintro y (ha | ⟨x,z,hx,hy⟩)
    · exact .inl ha
    · obtain⟨_,x',z',h,h',_⟩:=hhas x z y hx hy
      exact .inr ⟨x',z',h,h'⟩
  have htr: ∀ av x,RelF c.P w (Mut c.A φ hp) hp.length φ av x→RelF c.P w (Mut c.A φ' hp') hp'.length φ' av x:=by
    intro av x hx ψ hψ
    have h0:=hx (fun s=>if s<hp.length then φ s else ψ s) fun s hs=>by simp only [pG hs]
    refine(h0.mono (Nat.le_refl _) (fun _ _ _=>rfl) (fun y _ hm hm'=>hm (hmut y hm'))).loc fun s=> ?_
    by_cases hs:s<hp.length
    · rw [pG hs,hψ s (by omega)];exact .inl (same s)
    · rw [nG hs];exact .inl (.refl _)
  refine⟨φ',hc.size,hc.defers,⟨hok.os,hok.tape,hok.output,hok.heap,hok.frame,?_,?_,?_,hok.amb,hok.glob,by rw [hlen'];exact hok.len,fun s hs=> ?_⟩,fun t av ht=>htr _ _ (hc.tm t av ht)⟩
  · intro x z y hx hy
    obtain⟨_,x',z',h,h',_⟩:=hhas x z y hx hy
    exact hok.owned x' z' y h h'
  · intro x1 x2 z1 z2 y hx1 hx2 hy1 hy2
    obtain⟨n1,u1,p1,a1,a2,a3⟩:=hhas x1 z1 y hx1 hy1
    obtain⟨n2,u2,p2,b1,b2,b3⟩:=hhas x2 z2 y hx2 hy2
    have hz:=hok.apart u1 u2 p1 p2 y a1 b1 a2 b2
    rcases a3 with rfl | ⟨rfl,rfl⟩
    · rcases b3 with rfl | ⟨rfl,rfl⟩
      · exact hz
      · exact absurd hz n1
    · rcases b3 with rfl | ⟨rfl,rfl⟩
      · exact absurd hz.symm n2
      · rfl
  · intro x z hx
    rw [hnth] at hx
    by_cases e1:x=q
    · rw [pG e1] at hx;cases hx
    · rw [nG e1] at hx
      by_cases e2:x=r
      · subst e2
        rw [pG rfl] at hx
        cases hx
        refine⟨by rw [f2];simpa using hO.len,by rw [f2];exact hO.sz,ZmI hrow hO.rows,by rw [f2];simpa using hO.room,by rw [f2];exact hO.cap,?_,by rw [f2];exact fun y hy=>hy.elim (hO.subl y) (fun h=>hQ.has_lt h),?_,fun b' hb'=> ?_⟩
        · rw [f2]
          intro h
          have:=(hO.none h).1
          rw [this] at hi;cases hi
        · rw [f2]
          rintro y hy (h |h)
          · exact hO.subn y hy h
          · exact hqr (hok.apart q x oq o y hoq ho h (.inl hy))
        · rw [f2] at hb' ⊢
          simp only at hb'
          obtain⟨cs,h1,h2,T,t1,t2,h3⟩:=hO.some b' hb'
          refine⟨cs,h1,h2,fun i' j' y=>if i'=i∧j'=j then(φ q).has y else T i' j' y,fun i' j' y hy=> ?_,fun i1 j1 i2 j2 y hy1 hy2=> ?_,fun i' j' hi' hj'=> ?_⟩
          · simp only at hy
            split at hy
            · exact .inr hy
            · exact .inl (t1 i' j' y hy)
          · simp only at hy1 hy2
            have no: ∀ i' j',T i' j' y→(φ q).has y→False:=fun i' j' hT hh=>hqr (hok.apart q x oq o y hoq ho hh (.inr (t1 i' j' y hT)))
            split at hy1
            · rename_i c1
              split at hy2
              · rename_i c2;exact⟨c1.1.trans c2.1.symm,c1.2.trans c2.2.symm⟩
              · exact(no _ _ hy2 hy1).elim
            · split at hy2
              · exact(no _ _ hy1 hy2).elim
              · exact t2 i1 j1 i2 j2 y hy1 hy2
          · simp only [List.length_set] at hi'
            simp only
            rw [ZkR hrow hj]
            by_cases e3:i'=i∧j'=j
            · simp only [pG e3]
              obtain⟨rfl,rfl⟩:=e3
              have hv:=(h3 i' j' hi' hj').plain (by rw [hca];rfl)
              rw [hca] at hv
              have hx:=JZ hv (by rw [hQ.len,hn])
              have hmp:=XY hv (by rw [hQ.len,hn])
              rw [hx]
              cases hb:(φ q).blk with
              |none=>
                obtain⟨g1,g2⟩:=hQ.none hb
                rw [g1] at hn
                simp at hn
                rw [g1,g2,←hn]
                exact .nil _
              |some bq=>
                obtain⟨csq,g1,g2,T',s1,s2,g3⟩:=hQ.some bq hb
                rw [←hn]
                refine .osub _ _ bq _ csq T' (.inl hb) hQ.room hQ.cap (g1.cells hmp) g2 hQ.rows (fun i j y hy=>⟨.inr (s1 i j y hy),fun e=>hQ.subn bq hb (e▸s1 i j y hy)⟩) s2 fun i j hi hj=>(g3 i j hi hj).tr (fun _ _=>rfl) htr
            · simp only [nG e3]
              exact(h3 i' j' hi' hj').tr (fun _ _=>rfl) htr
      · rw [nG e2] at hx
        have hX:=hok.obj x z hx
        refine⟨by rw [f3 x e2];exact hX.len,by rw [f3 x e2];exact hX.sz,hX.rows,by rw [f3 x e2];exact hX.room,by rw [f3 x e2];exact hX.cap,by rw [f3 x e2];exact hX.none,by rw [f3 x e2];exact hX.subl,by rw [f3 x e2];exact hX.subn,fun b' hb'=> ?_⟩
        rw [f3 x e2] at hb' ⊢
        obtain⟨cs',g1,g2,g3⟩:=hX.some b' hb'
        exact⟨cs',g1,g2,g3.tr (fun _ _=>rfl) htr⟩
  · rcases hok.mono s hs with h |h
    · exact .inl ((same s).trans h)
    · exact .inr (by rw [(same s).2.2.1];exact h)
inductive MeltC (P:Program):AV→AV→Prop
  |dat {av:AV}:datB av=true→MeltC P av av
  |nils (e:TypeId):MeltC P .nils (.sl e [])
  |sub {e:TypeId} {l l':List (List AV)}:l.length=l'.length→(∀ row∈l',row.length=P.cellsOf e)→(∀ i j,i<l.length→j<P.cellsOf e→MeltC P (cellAt l i j) (cellAt l' i j))→MeltC P (.osub e l) (.sl e l')
theorem MeltC.rel{P:Program}{w:World}{M M':Nat→Prop}{n:Nat}{φ:Phi}{S:Nat→Prop}{av av':AV}{v:Value}(hm:MeltC P av av')(h:TRel P w M n φ S av v)(hS: ∀ b,S b→ ¬M' b)(hM: ∀ b,b<w.heap.size→ ¬M b→ ¬M' b):RelD P w M' av' v:=by
  induction hm generalizing S v with
  |dat hb=>exact(Zhf (h.plain (Zgu hb) φ (fun _ _=>rfl)) hb).mono (Nat.le_refl _) (fun _ _ _=>rfl) hM
  |nils e=>
    have hv:=h.plain rfl φ (fun _ _=>rfl)
    cases hv with |data h=>cases h;exact .sl0 e _ _
  | @sub e l l' h1 h2 h3 ih=>
    cases h with
    |leaf h=>have:=Zfg h;cases this
    |nil e=>
      have:l'= []:=List.eq_nil_of_length_eq_zero h1.symm
      subst this
      exact .sl0 e _ _
    |osub _ _ b cap cs T g1 g2 g3 g4 g5 g6 g7 g8 g9=>
      have hsz: ∀ i j,i<l.length→j<P.cellsOf e→i*P.cellsOf e+j<cs.size:=fun i j hi hj=>by rw [g5];exact ZbD (by omega) hj
      rw [h1]
      refine .sl e l' b 0 cap (fun i j=>cs.getD (i*P.cellsOf e+j) undef) (Array.getElem?_eq_some_iff.1 g4).1 (hS b g1) (by omega) (by omega) h2 (fun i j hi hj=> ?_) (fun i j hi hj=> ?_)
      · rw [Z0 g4,Nat.zero_add]
        have:=hsz i j (by omega) hj
        simp [this]
      · exact ih i j (by omega) hj (g9 i j (by omega) hj) fun x hx=>hS x (g7 i j x hx).1
theorem Ent.melt{c:Ctx}{tm:List (Nat×AV)}{hp:List (Option Own)}{r:Nat}{o:Own}{es':List (List AV)}(ho:nth hp r=some o)(hl:o.es.length=es'.length)(hr: ∀ row∈es',row.length=c.P.cellsOf o.elem)
    (h: ∀ i j,i<o.es.length→j<c.P.cellsOf o.elem→MeltC c.P (cellAt o.es i j) (cellAt es' i j)):Ent c ⟨tm,hp⟩ ⟨tm,Xh hp r (some ⟨o.elem,es'⟩)⟩:=by
  intro φ a w hc
  have hok:=hc.hok
  have hO:=hok.obj r o ho
  let φ':Phi:=fun x=>if x=r then {φ r with sub:=fun _=>False} else φ x
  have f2:φ' r={φ r with sub:=fun _=>False}:=by simp only [φ',if_true]
  have f3: ∀ x,x≠r→φ' x=φ x:=fun x h'=>by simp only [φ',nG h']
  have same: ∀ x,(φ' x).same (φ x):=fun x=>by
    by_cases h':x=r
    · subst h';rw [f2];exact⟨rfl,rfl,rfl,rfl,rfl⟩
    · rw [f3 x h'];exact .refl _
  have sub: ∀ x y,(φ' x).has y→(φ x).has y:=fun x y hy=>by
    by_cases h':x=r
    · subst h';rw [f2] at hy;rcases hy with h |h
      · exact .inl h
      · exact h.elim
    · rw [f3 x h'] at hy;exact hy
  have hlen':=ZbA hp r (some (⟨o.elem,es'⟩:Own))
  have hnth: ∀ x z,nth (Xh hp r (some ⟨o.elem,es'⟩)) x=some z→ ∃ z',nth hp x=some z':=fun x z hx=>by
    rw [Zcj ho] at hx
    split at hx
    · rename_i e;subst e;exact⟨o,ho⟩
    · exact⟨z,hx⟩
  have hmut: ∀ y,Mut c.A φ' (Xh hp r (some ⟨o.elem,es'⟩)) y→Mut c.A φ hp y:=by
    rintro y (ha | ⟨x,z,hx,hy⟩)
    · exact .inl ha
    · obtain⟨z',h⟩:=hnth x z hx
      exact .inr ⟨x,z',h,sub x y hy⟩
  have hfree: ∀ y,(φ r).sub y→ ¬Mut c.A φ' (Xh hp r (some ⟨o.elem,es'⟩)) y:=by
    rintro y hy (ha | ⟨x,z,hx,hxy⟩)
    · exact(hok.owned r o y ho (.inr hy)).2 ha
    · obtain⟨z',h'⟩:=hnth x z hx
      have:=hok.apart x r z' o y h' ho (sub x y hxy) (.inr hy)
      subst this
      rw [f2] at hxy
      rcases hxy with h |h
      · exact hO.subn y h hy
      · exact h
  have htr: ∀ av x,RelF c.P w (Mut c.A φ hp) hp.length φ av x→RelF c.P w (Mut c.A φ' (Xh hp r (some ⟨o.elem,es'⟩))) (Xh hp r (some ⟨o.elem,es'⟩)).length φ' av x:=by
    intro av x hx ψ hψ
    have h0:=hx (fun s=>if s<hp.length then φ s else ψ s) fun s hs=>by simp only [pG hs]
    refine(h0.mono (Nat.le_refl _) (fun _ _ _=>rfl) (fun y _ hm hm'=>hm (hmut y hm'))).loc fun s=> ?_
    by_cases hs:s<hp.length
    · rw [pG hs,hψ s (by omega)];exact .inl (same s)
    · rw [nG hs];exact .inl (.refl _)
  refine⟨φ',hc.size,hc.defers,⟨hok.os,hok.tape,hok.output,hok.heap,hok.frame,?_,?_,?_,hok.amb,hok.glob,by rw [hlen'];exact hok.len,fun s hs=> ?_⟩,fun t av ht=>htr _ _ (hc.tm t av ht)⟩
  · intro x z y hx hy
    obtain⟨z',h'⟩:=hnth x z hx
    exact hok.owned x z' y h' (sub x y hy)
  · intro x1 x2 z1 z2 y hx1 hx2 hy1 hy2
    obtain⟨p1,a1⟩:=hnth x1 z1 hx1
    obtain⟨p2,b1⟩:=hnth x2 z2 hx2
    exact hok.apart x1 x2 p1 p2 y a1 b1 (sub x1 y hy1) (sub x2 y hy2)
  · intro x z hx
    rw [Zcj ho] at hx
    by_cases e2:x=r
    · subst e2
      rw [pG rfl] at hx
      cases hx
      refine⟨by rw [f2,←hl];exact hO.len,by rw [f2];exact hO.sz,hr,by rw [f2,←hl];exact hO.room,by rw [f2];exact hO.cap,?_,by rw [f2];exact fun y hy=>hy.elim,by rw [f2];exact fun y _ hy=>hy,fun b' hb'=> ?_⟩
      · rw [f2]
        intro h
        obtain⟨g1,g2⟩:=hO.none h
        exact⟨List.eq_nil_of_length_eq_zero (by rw [←hl,g1];rfl),g2⟩
      · rw [f2] at hb' ⊢
        simp only at hb'
        obtain⟨cs,h1,h2,T,t1,t2,h3⟩:=hO.some b' hb'
        refine⟨cs,h1,h2,.of fun i j hi hj=>Zt ?_⟩
        have hi:i<o.es.length:=by rw [hl];exact hi
        exact(h i j hi hj).rel (h3 i j hi hj) (fun y hy=>hfree y (t1 i j y hy)) (fun y _ hm hm'=>hm (hmut y hm'))
    · rw [nG e2] at hx
      have hX:=hok.obj x z hx
      refine⟨by rw [f3 x e2];exact hX.len,by rw [f3 x e2];exact hX.sz,hX.rows,by rw [f3 x e2];exact hX.room,by rw [f3 x e2];exact hX.cap,by rw [f3 x e2];exact hX.none,by rw [f3 x e2];exact hX.subl,by rw [f3 x e2];exact hX.subn,fun b' hb'=> ?_⟩
      rw [f3 x e2] at hb' ⊢
      obtain⟨cs',g1,g2,g3⟩:=hX.some b' hb'
      exact⟨cs',g1,g2,g3.tr (fun _ _=>rfl) htr⟩
  · rcases hok.mono s hs with h |h
    · exact .inl ((same s).trans h)
    · exact .inr (by rw [(same s).2.2.1];exact h)
end Go.Vx

namespace Go.Vx
open Go Go.RowKit
theorem roE{P:Program}{q:Rw}{e:TypeId}:RenOO P q ⟨e,[]⟩ ⟨e,[]⟩:=⟨rfl,rfl,fun row h=>by simp at h,fun i j hi=>by simp at hi⟩
section
variable {α:Type} {m:Nat} {v:Vector (List α) m} {e:TypeId} {R:α→List AV} {z:Int} {xs ys:List α}
end
end Go.Vx
