/- A text of the proof: a verified executor of the program form, or the contracts of the functions that the law reaches. -/
import Derived.Test.YtgohgnaapbpggaaGreatDoorVC
set_option linter.all false
namespace Go.Vx
open Go Go.RowKit
def GSpec0(P:Program)(gl:Gl)(f:FuncId)(args:List AV)(os:List (Option Own))(res:AV)(os':List (Option Own)):Prop:=
  ∀ (A:Nat→Prop) (W:List Nat) (w:World) (φ:Phi) (vals:Array Value),HeapOK ⟨P,0,w,A,W,gl,os.length,φ⟩ φ os w→vals.size=args.length→
    (∀ i,i<args.length→RelF P w (Mut A φ os) os.length φ (args.getD i .any) (vals.getD i undef))→
    Calls P f vals w fun e w'=> ∃ v φ',e= .returned v∧HeapOK ⟨P,0,w,A,W,gl,os.length,φ⟩ φ' os' w'∧RelF P w' (Mut A φ' os') os'.length φ' res v
structure GSpec (P:Program) (gl:Gl) (f:FuncId) (args:List AV) (os:List (Option Own)) (res:AV) (os':List (Option Own)):Prop where
  call:callable P f=true
  spec:GSpec0 P gl f args os res os'
inductive RetW (c:Ctx) (st:St):ResultVar→AV→Prop
  |tmp {t:Nat} {av:AV}:look st.tm t=some av→RetW c st (.tmp t) av
  |agg {t ty r n i j sz:Nat} {o:Own} {row l:List AV}:look st.tm t=some (.ptr r n i j)→nth st.hp r=some o→o.es.length=n→o.es[i]?=some row→tAgg c.P ty sz=true→(row.drop j).take sz=l→l.length=sz→
      (hns:NS l:=by first |exact nsR rfl |exact nsM (fun _=>rfl))→RetW c st (.cell t ty) (.agg l)
  |scal {t ty r n i j:Nat} {o:Own} {row:List AV} {v:AV}:look st.tm t=some (.ptr r n i j)→nth st.hp r=some o→o.es.length=n→o.es[i]?=some row→tScal c.P ty=true→row[j]?=some v→
      (hns:noSub v=true:=by rfl)→RetW c st (.cell t ty) v
theorem RetW.sound{c:Ctx}{st:St}{rv:ResultVar}{dv:AV}(h:RetW c st rv dv){φ:Phi}{a:Act}{w:World}(hc:Conc c φ st a w):
    ∃ v,(ZjF a.tmps rv).run c.P w= .ok v w∧RelF c.P w (Mut c.A φ st.hp) st.hp.length φ dv v:=by
  unfold ZjF
  cases h with
  |tmp hl=>exact⟨_,rfl,hc.tm _ _ hl⟩
  | @agg t ty r n i j sz o row l hl ho hn hrow ht hl' hlen hns=>
    have hmp:=Jk (hc.tm t _ hl) (by rw [(hc.hok.obj r o ho).len,hn])
    obtain⟨b,cs,h1,h2,h3,h4,h5,_,_,h6,h7⟩:=Za6 hc ho hrow hmp
    obtain⟨b',hb',hx⟩:=Zbb (hc.tm t _ hl) (by rw [h2,hn])
    rw [h1] at hb';cases hb'
    obtain⟨_,_,_,_,_,_,_,hsz0⟩:=tAgg.spec ht
    have hjl:j+sz≤row.length:=by rw [←hl'] at hlen;simp at hlen;omega
    refine⟨.agg ((cs.toList.drop (i*row.length+j)).take sz).toArray,?_,?_⟩
    · simp only [hx,h3]
      have:=Zc6 w b (i*row.length+j) ty sz ((cs.toList.drop (i*row.length+j)).take sz) ht (by
        simp
        have:=h6 (j+sz-1) (by omega)
        omega) (fun k hk=>by
        rw [Z0 h4]
        have:=h6 (j+k) (by omega)
        simp [gQ,hk,List.getElem?_drop]
        have e:i*row.length+j+k=i*row.length+(j+k):=by omega
        rw [e,Array.getElem?_eq_getElem (by omega)]
        simp)
      simp only [Instr.loadAt,Instr.sureAddr] at this
      exact this
    · refine ZeV ?_ fun k hk=> ?_
      · simp [hlen]
        have:=h6 (j+sz-1) (by omega)
        omega
      · have e1:l.getD k .any=row.getD (j+k) .any:=by
          rw [←hl'];simp [gQ,List.getElem?_drop,show k<sz by omega]
        have h8:=h7 (j+k) (by omega) (by rw [←e1];exact hns.getD' k)
        have e2:((cs.toList.drop (i*row.length+j)).take sz).toArray.getD k undef=cs.getD (i*row.length+(j+k)) undef:=by
          simp [Array.getD_eq_getD_getElem?,List.getElem?_drop,show k<sz by omega,Nat.add_assoc]
        rw [e1,e2];exact h8
  | @scal t ty r n i j o row v hl ho hn hrow ht hv hns=>
    have hmp:=Jk (hc.tm t _ hl) (by rw [(hc.hok.obj r o ho).len,hn])
    obtain⟨b,cs,h1,h2,h3,h4,h5,_,_,h6,h7⟩:=Za6 hc ho hrow hmp
    obtain⟨b',hb',hx⟩:=Zbb (hc.tm t _ hl) (by rw [h2,hn])
    rw [h1] at hb';cases hb'
    have hj:j<row.length:=(List.getElem?_eq_some_iff.1 hv).1
    have h6':=h6 j hj
    refine⟨cs.getD (i*row.length+j) undef,?_,?_⟩
    · simp only [hx,h3]
      have:=Zcu w b (i*row.length+j) ty (cs.getD (i*row.length+j) undef) ht (by
        rw [Z0 h4,Array.getElem?_eq_getElem h6'];simp [h6'])
      simp only [Instr.loadAt,Instr.sureAddr] at this
      exact this
    · have:=h7 j hj (by rw [getD_of_get? hv];exact hns)
      rw [getD_of_get? hv] at this
      exact this
inductive RetWs (c:Ctx) (st:St):List ResultVar→List AV→Prop
  |nil:RetWs c st [] []
  |cons {r:ResultVar} {d:AV} {rs:List ResultVar} {ds:List AV}:RetW c st r d→RetWs c st rs ds→RetWs c st (r::rs) (d::ds)
def Zoe:List AV→AV
  | [d]=>d
  |ds=> .tuple ds
theorem RetWs.run{c:Ctx}{st:St}{rs:List ResultVar}{ds:List AV}(h:RetWs c st rs ds){φ:Phi}{a:Act}{w:World}(hc:Conc c φ st a w):
    ∃ vs:List Value,(rs.mapM (fun r=>ZjF a.tmps r)).run c.P w= .ok vs w∧ds.length=vs.length∧rs.length=vs.length∧ ∀ i,i<ds.length→RelF c.P w (Mut c.A φ st.hp) st.hp.length φ (ds.getD i .any) (vs.getD i undef):=by
  induction h with
  |nil=>exact⟨[],rfl,rfl,rfl,fun i hi=>by cases hi⟩
  |cons h1 _ ih=>
    obtain⟨v,e1,e2⟩:=h1.sound hc
    obtain⟨vs,f1,f2,f2',f3⟩:=ih
    refine⟨v::vs,?_,by simp [f2],by simp [f2'],fun i hi=> ?_⟩
    · simp [e1,f1]
    · cases i with
      |zero=>simpa using e2
      |succ i=>simpa using f3 i (by simpa using hi)
theorem Zjs{P:Program}{w:World}{M:Nat→Prop}{m:Nat}{φ:Phi}{l:List AV}{vs:Array Value}(h1:l.length=vs.size)(h2: ∀ i,i<l.length→RelF P w M m φ (l.getD i .any) (vs.getD i undef)):
    RelF P w M m φ (.tuple l) (.tuple vs):=fun φ' hφ=> .tuple l vs h1 fun i hi=>h2 i hi φ' hφ
theorem RetWs.sound{c:Ctx}{st:St}{fn:Func}{rs:List ResultVar}{ds:List AV}(hrs:fn.results=rs.toArray)(h:RetWs c st rs ds){φ:Phi}{a:Act}{w:World}(hc:Conc c φ st a w):
    ∃ v,(results fn a.tmps).run c.P w= .ok v w∧RelF c.P w (Mut c.A φ st.hp) st.hp.length φ (Zoe ds) v:=by
  obtain⟨vs,h1,h2,h2',h3⟩:=h.run hc
  have key:(rs.toArray.mapM (ZjF a.tmps)).run c.P w= .ok vs.toArray w:=by
    have h1:(List.mapM (ZjF a.tmps) rs).run c.P w= .ok vs w:=h1
    simp [h1]
  rw [ZjR,hrs,key]
  clear key h1
  cases h with
  |nil=>
    cases vs with
    |nil=>exact⟨.tuple #[],rfl,Zjs rfl fun i hi=>by cases hi⟩
    |cons v vs=>simp at h2
  | @cons r d rs ds hr hq=>
    cases hq with
    |nil=>
      cases vs with
      |nil=>simp at h2
      |cons v vs=>
        cases vs with
        |cons v' vs=>simp at h2
        |nil=>exact⟨v,rfl,h3 0 (by simp)⟩
    | @cons r' d' rs ds hr' hq'=>
      cases vs with
      |nil=>simp at h2
      |cons v vs=>
        cases vs with
        |nil=>simp at h2
        |cons v' vs=>exact⟨.tuple (v::v'::vs).toArray,by simp,Zjs (by simpa using h2) fun i hi=>by simpa [Array.getD_eq_getD_getElem?,gQ] using h3 i hi⟩
end Go.Vx

namespace Go.Vx
open Go Go.RowKit
def ZqT(c:Ctx)(rs:Array ResultVar)(res:AV)(os':List (Option Own)):Exit→St→Prop
  | .ret,st | .normal,st=> ∃ (s:List (Option Nat)) (rs':List ResultVar) (ds:List AV),rs=rs'.toArray∧RetWs c st rs' ds∧SelHp c.P (ZiY s st.hp) st.hp s os'∧dupL s os'=true∧ZiU 0 c.n0 s=true∧RenR (ZiY s st.hp) (Zoe ds) res
  |_,_=>False
theorem Xu{c:Ctx}{st:St}{rs:Array ResultVar}{res:AV}{os':List (Option Own)}(s:List (Option Nat)){rs':List ResultVar}{ds:List AV}(h1:rs=rs'.toArray)(h2:RetWs c st rs' ds)(h3:SelHp c.P (ZiY s st.hp) st.hp s os')
    (h4:dupL s os'=true) (h5:ZiU 0 c.n0 s=true) (h6:RenR (ZiY s st.hp) (Zoe ds) res):ZqT c rs res os' .ret st:=⟨s,rs',ds,h1,h2,h3,h4,h5,h6⟩
theorem Ql{P:Program}{gl:Gl}{f:FuncId}{fn:Func}{code:Code}{args:List AV}{os os':List (Option Own)}{res:AV}(hc:callable P f=true)(hf:P.funcs[f]?=some fn)(hb:fn.body=some code)
    (hlen:Nat.ble args.length fn.ntmps=true)
    (hT: ∀ w0 A W φ0,T ⟨P,fn.ntmps,w0,A,W,gl,os.length,φ0⟩ code ⟨ZjO 0 args,os⟩ (ZqT ⟨P,fn.ntmps,w0,A,W,gl,os.length,φ0⟩ fn.results res os')):GSpec P gl f args os res os':=by
  refine⟨hc,fun A W w φ vals hok hsz hv=> ?_⟩
  have hlen:args.length≤fn.ntmps:=by simpa using hlen
  refine calls_of_wp hf hb ?_
  have hconc:Conc ⟨P,fn.ntmps,w,A,W,gl,os.length,φ⟩ φ ⟨ZjO 0 args,os⟩ {tmps:=vals++Array.replicate (fn.ntmps-vals.size) undef,defers:= []} w:=by
    refine⟨by simp;omega,rfl,⟨hok.os,hok.tape,hok.output,hok.heap,hok.frame,hok.owned,hok.apart,hok.obj,hok.amb,hok.glob,hok.len,hok.mono⟩,?_⟩
    intro t av ht
    obtain⟨_,h2,h3⟩:=Zko ht
    simp only [Nat.sub_zero] at h2 h3
    have:=hv t h2
    rw [h3] at this
    have e:(vals++Array.replicate (fn.ntmps-vals.size) undef).getD t undef=vals.getD t undef:=by
      simp [Array.getD_eq_getD_getElem?,Array.getElem?_append,show t<vals.size by omega]
    rw [e]
    exact this
  refine wp_mono (hT w A W φ _ _ _ hconc) ?_
  rintro e a' w' ⟨st',φ',hk,hc'⟩
  have fin:ZqT ⟨P,fn.ntmps,w,A,W,gl,os.length,φ⟩ fn.results res os' .ret st'→a'.defers= []∧ ∃ v,(results fn a'.tmps).run P w'= .ok v w'∧
      (∃ v' φ',Ending.returned v= .returned v'∧HeapOK ⟨P,0,w,A,W,gl,os.length,φ⟩ φ' os' w'∧RelF P w' (Mut A φ' os') os'.length φ' res v'):=by
    rintro⟨s,rs',ds,h2,h4,h5,h6,h7,h8⟩
    obtain⟨v,e1,e2⟩:=h4.sound h2 hc'
    obtain⟨φ2,hok,hren⟩:=ZmF hc' s h5 h6 h7
    exact⟨hc'.defers,v,e1,v,φ2,rfl,⟨hok.os,hok.tape,hok.output,hok.heap,hok.frame,hok.owned,hok.apart,hok.obj,hok.amb,hok.glob,hok.len,hok.mono⟩,hren _ _ _ h8 e2⟩
  cases e with
  |ret=>exact fin hk
  |normal=>exact fin hk
  |exit id=>exact hk.elim
  |goto l=>exact hk.elim
  |panic ch=>exact hk.elim
  |outgrown=>exact hk.elim
def callR(ρ:List Nat)(n:Nat)(i r:Nat):Prop:=ρ[i]?=some r∨(ρ.length≤i∧r=n+(i-ρ.length))
inductive ArgsG (c:Ctx) (st:St) (R:Rw):List Operand→List AV→Prop
  |nil:ArgsG c st R [] []
  |cons {x:Operand} {av d:AV} {xs:List Operand} {ds:List AV}:Opv c st x av→RenR R av d→ArgsG c st R xs ds→ArgsG c st R (x::xs) (d::ds)
inductive Back (P:Program) (ρ:List Nat) (n:Nat) (hp os':List (Option Own)):Nat→List (Option Own)→Prop
  |nil {r:Nat}:Back P ρ n hp os' r []
  |none {r:Nat} {tl:List (Option Own)}:Back P ρ n hp os' (r+1) tl→Back P ρ n hp os' r (none::tl)
  |keep {r:Nat} {o:Own} {tl:List (Option Own)}:nth hp r=some o→ρ.contains r=false→Back P ρ n hp os' (r+1) tl→Back P ρ n hp os' r (some o::tl)
  |lent {r:Nat} {o o2:Own} {tl:List (Option Own)} (i:Nat):callR ρ n i r→nth os' i=some o→RenOO P (rwR (callR ρ n)) o o2→Back P ρ n hp os' (r+1) tl→Back P ρ n hp os' r (some o2::tl)
theorem Back.get{P:Program}{ρ:List Nat}{n:Nat}{hp os':List (Option Own)}{k:Nat}{tl:List (Option Own)}(h:Back P ρ n hp os' k tl): ∀ r o2,nth tl r=some o2→
    (∃ i o,callR ρ n i (k+r)∧nth os' i=some o∧RenOO P (rwR (callR ρ n)) o o2)∨(nth hp (k+r)=some o2∧ρ.contains (k+r)=false):=by
  induction h with
  |nil=>intro r o2 h;cases h
  |none _ ih=>
    intro r o2 h
    cases r with
    |zero=>cases h
    |succ r=>have:=ih r o2 h;rwa [Nat.add_assoc,Nat.add_comm 1 r] at this
  |keep h1 h2 _ ih=>
    intro r o2 h
    cases r with
    |zero=>cases h;exact .inr ⟨h1,h2⟩
    |succ r=>have:=ih r o2 h;rwa [Nat.add_assoc,Nat.add_comm 1 r] at this
  |lent i h1 h2 h3 _ ih=>
    intro r o2 h
    cases r with
    |zero=>cases h;exact .inl ⟨i,_,h1,h2,h3⟩
    |succ r=>have:=ih r o2 h;rwa [Nat.add_assoc,Nat.add_comm 1 r] at this
inductive Lend (P:Program) (ρ:List Nat) (hp:List (Option Own)):List Nat→List (Option Own)→Prop
  |nil:Lend P ρ hp [] []
  |cons {r:Nat} {o o1:Own} {s:List Nat} {os:List (Option Own)}:nth hp r=some o1→RenOO P (rwR fun r i=>ρ[i]?=some r) o1 o→Lend P ρ hp s os→Lend P ρ hp (r::s) (some o::os)
theorem Lend.len{P:Program}{ρ:List Nat}{hp:List (Option Own)}{s:List Nat}{os:List (Option Own)}(h:Lend P ρ hp s os):os.length=s.length:=by induction h<;>simp_all
theorem Lend.get{P:Program}{ρ:List Nat}{hp:List (Option Own)}{s:List Nat}{os:List (Option Own)}(h:Lend P ρ hp s os): ∀ i r,s[i]?=some r→ ∃ o o1,nth os i=some o∧nth hp r=some o1∧RenOO P (rwR fun r i=>ρ[i]?=some r) o1 o:=by
  induction h with
  |nil=>intro i r h;simp at h
  |cons h1 h2 _ ih=>
    intro i r h
    cases i with
    |zero=>simp at h;subst h;exact⟨_,_,rfl,h1,h2⟩
    |succ i=>simpa [nth] using ih i r (by simpa using h)
theorem ArgsG.rel{c:Ctx}{st:St}{R:Rw}{xs:List Operand}{ds:List AV}(h:ArgsG c st R xs ds){φ:Phi}{a:Act}{w:World}(hc:Conc c φ st a w):
    xs.length=ds.length∧ ∀ i,i<ds.length→ ∃ av,RenR R av (ds.getD i .any)∧RelF c.P w (Mut c.A φ st.hp) st.hp.length φ av ((xs.map a.eval).getD i undef):=by
  induction h with
  |nil=>exact⟨rfl,fun i hi=>by cases hi⟩
  | @cons x av d xs ds h1 h2 _ ih=>
    refine⟨by simp [ih.1],fun i hi=> ?_⟩
    cases i with
    |zero=>exact⟨av,by simpa using h2,by simpa using h1 φ a w hc⟩
    |succ i=>simpa using ih.2 i (by simpa using hi)
section
variable {c:Ctx} {ops:Array Oper} {st:St} {dst:Option Tmp} {ty:TypeId} {pos:String} {after:Array Edge}
theorem Znc(Cl:(Ending→World→Prop)→Prop)(hCl: ∀ {R R':Ending→World→Prop},Cl R→(∀ e w',R e w'→R' e w')→Cl R'){φ:Phi}{a:Act}{w:World}(hc:Conc c φ st a w){ds:List AV}{os os' hp':List (Option Own)}{res res':AV}{vals:Array Value}(ρ:List Nat)
    (hs: ∀ (A:Nat→Prop) (W:List Nat) (φ1:Phi),(∀ i r,ρ[i]?=some r→φ1 i=φ r)→(∀ b,b∈W→ ∃ i r:Nat,ρ[i]?=some r∧(φ r).has b)→HeapOK ⟨c.P,0,w,A,W,c.gl,os.length,φ1⟩ φ1 os w→vals.size=ds.length→
      (∀ i,i<ds.length→RelF c.P w (Mut A φ1 os) os.length φ1 (ds.getD i .any) (vals.getD i undef))→
      Cl fun e w'=> ∃ v φ',e= .returned v∧HeapOK ⟨c.P,0,w,A,W,c.gl,os.length,φ1⟩ φ' os' w'∧RelF c.P w' (Mut A φ' os') os'.length φ' res v)
    (hvs:vals.size=ds.length) (ha: ∀ i,i<ds.length→ ∃ av,RenR (rwR fun r i=>ρ[i]?=some r) av (ds.getD i .any)∧RelF c.P w (Mut c.A φ st.hp) st.hp.length φ av (vals.getD i undef))
    (hl:Lend c.P ρ st.hp ρ os) (hnd:Zju ρ=true) (hb:Back c.P ρ st.hp.length st.hp os' 0 hp') (hlen:st.hp.length+(os'.length-ρ.length)=hp'.length) (hr:RenR (rwR (callR ρ st.hp.length)) res res')
    (hin:os'.length≥ρ.length):
    Cl fun e w'=> ∃ v φ',e= .returned v∧HeapOK c φ' hp' w'∧
      (∀ av x,RelF c.P w (Mut c.A φ st.hp) st.hp.length φ av x→RelF c.P w' (Mut c.A φ' hp') hp'.length φ' av x)∧RelF c.P w' (Mut c.A φ' hp') hp'.length φ' res' v∧
      ∀ b,b<w.heap.size→(∀ r o,nth st.hp r=some o→ ¬(φ r).has b)→w'.heap[b]?=w.heap[b]?∧ ∀ r o,nth hp' r=some o→ ¬(φ' r).has b:=by
  have hos:=hl.len
  have hok:=hc.hok
  generalize hhp:st.hp=hp at*
  let W':List Nat:=open Classical in (List.range w.heap.size).filter fun b=>decide (∃ (i r:Nat),ρ[i]?=some r∧(φ r).has b)
  have hW': ∀ (b:Nat),b∈W'↔ ∃ (i r:Nat),ρ[i]?=some r∧(φ r).has b:=fun b=>by
    simp only [W',List.mem_filter,List.mem_range,decide_eq_true_eq]
    constructor
    · exact fun h=>h.2
    · rintro⟨i,r,h1,h2⟩
      obtain⟨o,o1,h3,h4,h5⟩:=hl.get i r h1
      exact⟨(hok.obj r o1 h4).has_lt h2,i,r,h1,h2⟩
  let A':Nat→Prop:=fun b=>Mut c.A φ hp b∧b∉W'
  let φc:Phi:=fun i=>match ρ[i]? with |some r=>φ r |none=>φz i
  have hφc: ∀ i r,ρ[i]?=some r→φc i=φ r:=fun i r h=>by simp only [φc,h]
  have hlentMut: ∀ b,b∈W'→ ∃ r o,ρ.contains r=true∧nth hp r=some o∧(φ r).has b:=fun b hb=>by
    obtain⟨i,r,h1,h2⟩:=(hW' b).1 hb
    obtain⟨o,o1,h3,h4,h5⟩:=hl.get i r h1
    exact⟨r,o1,by simpa using List.mem_of_getElem? h1,h4,h2⟩
  have hmutlt: ∀ b,Mut c.A φ hp b→b<w.heap.size:=fun b hb=>Zhm hc b (by rw [hhp];exact hb)
  have hMsub: ∀ b,Mut A' φc os b→Mut c.A φ hp b:=by
    rintro b (ha | ⟨i,o,hi,hbk⟩)
    · exact ha.1
    · have hlt:=XA hi
      obtain⟨r,hr⟩: ∃ r,ρ[i]?=some r:=⟨ρ[i]'(by omega),by simp [show i<ρ.length by omega]⟩
      obtain⟨o',o1,h3,h4,h5⟩:=hl.get i r hr
      rw [hφc i r hr] at hbk
      exact .inr ⟨r,o1,h4,hbk⟩
  have hRin: ∀ x y,(fun r i=>ρ[i]?=some r) x y→y<os.length∧φc y=φ x:=fun x y h=>⟨by rw [hos];exact(List.getElem?_eq_some_iff.1 h).1,hφc y x h⟩
  have hgl:=ZeZ hc
  rw [hhp] at hgl
  have hok':HeapOK ⟨c.P,0,w,A',W',c.gl,os.length,φc⟩ φc os w:=by
    refine⟨rfl,rfl,rfl,Nat.le_refl _,fun _ _ _=>rfl,?_,?_,?_,fun b hb=>⟨hmutlt b hb.1,hb.2⟩,?_,Nat.le_refl _,fun r _=> .inl (.refl _)⟩
    · intro i o b hi hbk
      have hlt:=XA hi
      obtain⟨r,hr⟩: ∃ r,ρ[i]?=some r:=⟨ρ[i]'(by omega),by simp [show i<ρ.length by omega]⟩
      rw [hφc i r hr] at hbk
      have:b∈W':=(hW' b).2 ⟨i,r,hr,hbk⟩
      exact⟨.inl this,fun h=>h.2 this⟩
    · intro i i' o o' b hi hi' hbk hbk'
      have hlt:=XA hi
      have hlt':=XA hi'
      obtain⟨r,hr⟩: ∃ r,ρ[i]?=some r:=⟨ρ[i]'(by omega),by simp [show i<ρ.length by omega]⟩
      obtain⟨r',hr'⟩: ∃ r,ρ[i']?=some r:=⟨ρ[i']'(by omega),by simp [show i'<ρ.length by omega]⟩
      rw [hφc i r hr] at hbk
      rw [hφc i' r' hr'] at hbk'
      obtain⟨_,o1,_,h4,_⟩:=hl.get i r hr
      obtain⟨_,o1',_,h4',_⟩:=hl.get i' r' hr'
      have:=hok.apart r r' o1 o1' b h4 h4' hbk hbk'
      subst this
      exact Zmu hnd i i' r hr hr'
    · intro i o hi
      have hlt:=XA hi
      obtain⟨r,hr⟩: ∃ r,ρ[i]?=some r:=⟨ρ[i]'(by omega),by simp [show i<ρ.length by omega]⟩
      obtain⟨o',o1,h3,h4,h5⟩:=hl.get i r hr
      rw [hi] at h3;cases h3
      exact(hok.obj r o1 h4).ren (hφc i r hr) h5 fun ψ hψ=>ZkA (fun x y hxy=>(hψ y (hRin x y hxy).1).trans (hRin x y hxy).2) (fun b _ hm hm'=>hm (hMsub b hm'))
    · refine⟨hgl.len,fun b hw=> ?_,fun p hp=> ?_⟩
      · obtain⟨r,o,_,h5,h6⟩:=hlentMut b hw
        rcases(hok.owned r o b h5 h6).1 with h7 |h7
        · exact hok.glob.W b h7
        · exact Nat.le_trans hok.glob.len h7
      · obtain⟨h1,h2,h3⟩:=hgl.tab p hp
        exact⟨h1,h2,fun ha=>h3 ha.1⟩
  refine hCl (hs A' W' φc hφc (fun b h=>(hW' b).1 h) hok' hvs (fun i hi=> ?_)) ?_
  · obtain⟨av,h1,h2⟩:=ha i hi
    exact h2.ren h1 fun ψ hψ=>ZkA (fun x y hxy=>(hψ y (hRin x y hxy).1).trans (hRin x y hxy).2) (fun b _ hm hm'=>hm (hMsub b hm'))
  rintro e w' ⟨v,φ',rfl,hq,hv⟩
  let φ'':Phi:=fun r=>if r<hp.length then(match ρ.findIdx? (· ==r) with |some i=>φ' i |none=>φ r) else φ' (ρ.length+(r-hp.length))
  have hlt_of: ∀ i r,ρ[i]?=some r→r<hp.length:=fun i r h=>by
    obtain⟨_,o1,_,h4,_⟩:=hl.get i r h
    exact XA h4
  have hφR: ∀ i r,callR ρ hp.length i r→φ'' r=φ' i:=by
    rintro i r (h | ⟨h1,rfl⟩)
    · have hlt:=hlt_of i r h
      have hfi:ρ.findIdx? (· ==r)=some i:=by
        rw [List.findIdx?_eq_some_iff_getElem]
        obtain⟨hi,he⟩:=List.getElem?_eq_some_iff.1 h
        refine⟨hi,by simp [he],fun j hj=> ?_⟩
        simp only [beq_iff_eq]
        intro hje
        have:j=i:=Zmu hnd j i r (by rw [List.getElem?_eq_getElem (by omega)];exact congrArg some hje) h
        omega
      simp only [φ'',pG hlt,hfi]
    · simp only [φ'',nG (show ¬hp.length+(i-ρ.length)<hp.length by omega)]
      congr 1;omega
  have hφK: ∀ r,r<hp.length→ρ.contains r=false→φ'' r=φ r:=fun r h1 h2=>by
    have:ρ.findIdx? (· ==r)=none:=by
      rw [List.findIdx?_eq_none_iff]
      intro x hx
      cases hxr:x==r
      · rfl
      · rw [beq_iff_eq] at hxr
        subst hxr
        rw [List.contains_eq_mem] at h2
        simp [hx] at h2
    simp only [φ'',pG h1,this]
  have hgrow: ∀ r,r<hp.length→(φ'' r).same (φ r)∨(φ r).n<(φ'' r).n:=fun r h=>by
    cases hcr:ρ.contains r with
    |false=>exact .inl (hφK r h hcr▸ .refl _)
    |true=>
      obtain⟨i,hi⟩:=List.mem_iff_getElem?.1 (show r∈ρ by simpa using hcr)
      rw [hφR i r (.inl hi),←hφc i r hi]
      exact hq.mono i (by show i<os.length;rw [hos];exact(List.getElem?_eq_some_iff.1 hi).1)
  have hback: ∀ r o2,nth hp' r=some o2→(∃ i o,callR ρ hp.length i r∧nth os' i=some o∧RenOO c.P (rwR (callR ρ hp.length)) o o2)∨(nth hp r=some o2∧ρ.contains r=false):=fun r o2 h=>by
    have:=hb.get r o2 h
    rwa [Nat.zero_add] at this
  have hcb: ∀ i o b,nth os' i=some o→(φ' i).has b→(b∈W'∨w.heap.size≤b)∧ ¬A' b:=fun i o b h1 h2=>hq.owned i o b h1 h2
  have hframe: ∀ b,b<w.heap.size→b∉W'→w'.heap[b]?=w.heap[b]?:=fun b h1 h2=>hq.frame b h1 h2
  have hnMut: ∀ b,b<w.heap.size→ ¬Mut c.A φ hp b→w'.heap[b]?=w.heap[b]?:=fun b h1 h2=>hframe b h1 fun hw=>by
    obtain⟨r,o,_,h5,h6⟩:=hlentMut b hw
    exact h2 (.inr ⟨r,o,h5,h6⟩)
  have hmm: ∀ b,b<w.heap.size→ ¬Mut c.A φ hp b→ ¬Mut c.A φ'' hp' b:=by
    rintro b hlt hm (ha | ⟨r,o2,hr2,hbk⟩)
    · exact hm (.inl ha)
    · rcases hback r o2 hr2 with ⟨i,o,h1,h2,_⟩ | ⟨h1,h2⟩
      · rw [hφR i r h1] at hbk
        rcases(hcb i o b h2 hbk).1 with h |h
        · obtain⟨r',o',_,h5,h6⟩:=hlentMut b h
          exact hm (.inr ⟨r',o',h5,h6⟩)
        · omega
      · rw [hφK r (XA h1) h2] at hbk
        exact hm (.inr ⟨r,o2,h1,hbk⟩)
  have hn'':hp.length≤hp'.length:=by omega
  have hrel: ∀ (ψ:Phi) av x,(∀ s,s<hp.length→ψ s=φ'' s)→Rel c.P w (Mut c.A φ hp) (fun s=>if s<hp.length then φ s else ψ s) av x→Rel c.P w' (Mut c.A φ'' hp') ψ av x:=by
    intro ψ av x hψ hx
    refine(hx.mono hq.heap hnMut hmm).loc fun s=> ?_
    by_cases hsl:s<hp.length
    · rw [hψ s hsl,pG hsl];exact hgrow s hsl
    · rw [nG hsl];exact .inl (.refl _)
  have htr: ∀ av x,RelF c.P w (Mut c.A φ hp) hp.length φ av x→RelF c.P w' (Mut c.A φ'' hp') hp'.length φ'' av x:=by
    intro av x hx ψ hψ
    refine hrel ψ av x (fun s hs=>hψ s (by omega)) (hx _ fun s hs=> ?_)
    simp only [pG hs]
  have hRout: ∀ x y,callR ρ hp.length x y∧x<os'.length→y<hp'.length∧φ'' y=φ' x:=by
    rintro x y ⟨h,hx⟩
    refine⟨?_,hφR x y h⟩
    rcases h with h | ⟨h1,rfl⟩
    · have:=hlt_of x y h;omega
    · omega
  have hMout: ∀ b,b<w'.heap.size→ ¬Mut A' φ' os' b→ ¬Mut c.A φ'' hp' b:=by
    rintro b _ hm (ha | ⟨r,o2,hr2,hbk⟩)
    · refine hm (.inl ⟨.inl ha,fun hw=> ?_⟩)
      obtain⟨r,o,_,h5,h6⟩:=hlentMut b hw
      exact(hok.owned r o b h5 h6).2 ha
    · rcases hback r o2 hr2 with ⟨i,o,h1,h2,_⟩ | ⟨h1,h2⟩
      · rw [hφR i r h1] at hbk
        exact hm (.inr ⟨i,o,h2,hbk⟩)
      · rw [hφK r (XA h1) h2] at hbk
        refine hm (.inl ⟨.inr ⟨r,o2,h1,hbk⟩,fun hw=> ?_⟩)
        obtain⟨r',o',h4,h5,h6⟩:=hlentMut b hw
        have:=hok.apart r r' o2 o' b h1 h5 hbk h6
        subst this
        rw [h2] at h4;cases h4
  have hren0: ∀ ψ,ZfP hp'.length φ'' ψ→ ∃ χ,ZfP os'.length φ' χ∧RwOK (rwR (callR ρ hp.length)) c.P w' (Mut A' φ' os') (Mut c.A φ'' hp') χ ψ:=by
    intro ψ hψ
    let χ:Phi:=fun i=>if i<os'.length then φ' i else match ρ[i]? with |some r=>ψ r |none=>ψ (hp.length+(i-ρ.length))
    refine⟨χ,fun i hi=>by simp only [χ,pG hi],ZkA (fun i r hir=> ?_) hMout⟩
    by_cases hi:i<os'.length
    · obtain⟨e1,e2⟩:=hRout i r ⟨hir,hi⟩
      simp only [χ,pG hi]
      rw [hψ r e1,e2]
    · simp only [χ,nG hi]
      rcases hir with h | ⟨h5,rfl⟩
      · rw [h]
      · rw [List.getElem?_eq_none (by omega)]
  have hrenC: ∀ {av av':AV} {S:Nat→Prop} {x:Value},RenC (rwR (callR ρ hp.length)) av av'→TRel c.P w' (Mut A' φ' os') os'.length φ' S av x→TRel c.P w' (Mut c.A φ'' hp') hp'.length φ'' S av' x:=
    fun h1 h2=>h1.relX (fun ψ hψ=>hren0 ψ hψ) h2
  have hren: ∀ (av av':AV) (x:Value),RenR (rwR (callR ρ hp.length)) av av'→RelF c.P w' (Mut A' φ' os') os'.length φ' av x→RelF c.P w' (Mut c.A φ'' hp') hp'.length φ'' av' x:=by
    intro av av' x h1 h2 ψ hψ
    let χ:Phi:=fun i=>if i<os'.length then φ' i else match ρ[i]? with |some r=>ψ r |none=>ψ (hp.length+(i-ρ.length))
    have h3:=h2 χ fun i hi=>by simp only [χ,pG hi]
    refine h1.rel (ZkA (fun i r hir=> ?_) hMout) h3
    by_cases hi:i<os'.length
    · obtain⟨e1,e2⟩:=hRout i r ⟨hir,hi⟩
      simp only [χ,pG hi]
      rw [hψ r e1,e2]
    · simp only [χ,nG hi]
      rcases hir with h | ⟨h5,rfl⟩
      · rw [h]
      · rw [List.getElem?_eq_none (by omega)]
  refine⟨v,φ'',rfl,⟨hq.os.trans hok.os,hq.tape.trans hok.tape,hq.output.trans hok.output,Nat.le_trans hok.heap hq.heap,?_,?_,?_,?_,hok.amb,hok.glob,Nat.le_trans (by have:=hok.len;exact this) hn'',?_⟩,htr,hren _ _ _ hr hv,?_⟩
  · intro b hlt hnW
    rw [hframe b (Nat.lt_of_lt_of_le hlt hok.heap) fun hw=> ?_]
    · exact hok.frame b hlt hnW
    · obtain⟨r,o,_,h5,h6⟩:=hlentMut b hw
      rcases(hok.owned r o b h5 h6).1 with h |h
      · exact hnW h
      · omega
  · intro r o2 b hr2 hbk
    rcases hback r o2 hr2 with ⟨i,o,h1,h2,_⟩ | ⟨h1,h2⟩
    · rw [hφR i r h1] at hbk
      rcases(hcb i o b h2 hbk).1 with h |h
      · obtain⟨r',o',_,h5,h6⟩:=hlentMut b h
        exact hok.owned r' o' b h5 h6
      · have:=hok.heap
        exact⟨.inr (by omega),fun ha=>by have:=(hok.amb b ha).1;omega⟩
    · rw [hφK r (XA h1) h2] at hbk
      exact hok.owned r o2 b h1 hbk
  · intro r r' o o' b hr1 hr1' hbk hbk'
    have mix: ∀ i x o y q,callR ρ hp.length i x→nth os' i=some o→(φ' i).has b→nth hp y=some q→ρ.contains y=false→(φ y).has b→False:=by
      intro i x o y q h1 h2 h3 h4 h5 h6
      rcases(hcb i o b h2 h3).1 with h |h
      · obtain⟨r',o',e4,e5,e6⟩:=hlentMut b h
        have:=hok.apart y r' q o' b h4 e5 h6 e6
        subst this
        rw [h5] at e4;cases e4
      · have:=hmutlt b (.inr ⟨y,q,h4,h6⟩);omega
    rcases hback r o hr1 with ⟨i,oi,h1,h2,_⟩ | ⟨h1,h2⟩
    · rw [hφR i r h1] at hbk
      rcases hback r' o' hr1' with ⟨i',oi',h1',h2',_⟩ | ⟨h1',h2'⟩
      · rw [hφR i' r' h1'] at hbk'
        have:=hq.apart i i' oi oi' b h2 h2' hbk hbk'
        subst this
        rcases h1 with h1 | ⟨h1,rfl⟩
        · rcases h1' with h1' | ⟨h1',rfl⟩
          · rw [h1] at h1';cases h1';rfl
          · have:=(List.getElem?_eq_some_iff.1 h1).1;omega
        · rcases h1' with h1' | ⟨h1',rfl⟩
          · have:=(List.getElem?_eq_some_iff.1 h1').1;omega
          · rfl
      · rw [hφK r' (XA h1') h2'] at hbk'
        exact(mix i r oi r' o' h1 h2 hbk h1' h2' hbk').elim
    · rw [hφK r (XA h1) h2] at hbk
      rcases hback r' o' hr1' with ⟨i',oi',h1',h2',_⟩ | ⟨h1',h2'⟩
      · rw [hφR i' r' h1'] at hbk'
        exact(mix i' r' oi' r o h1' h2' hbk' h1 h2 hbk).elim
      · rw [hφK r' (XA h1') h2'] at hbk'
        exact hok.apart r r' o o' b h1 h1' hbk hbk'
  · intro r o2 hr2
    rcases hback r o2 hr2 with ⟨i,o,h1,h2,h3⟩ | ⟨h1,h2⟩
    · have hO:=hq.obj i o h2
      obtain⟨g1,g2,g4,g5⟩:=h3
      have he:=hφR i r h1
      refine⟨by rw [he,←g2];exact hO.len,by rw [he,←g1];exact hO.sz,g4,by rw [he,←g2];exact hO.room,by rw [he];exact hO.cap,fun hb=> ?_,by rw [he];exact hO.subl,by rw [he];exact hO.subn,fun b hb=> ?_⟩
      · rw [he] at hb ⊢
        obtain⟨e1,e2⟩:=hO.none hb
        exact⟨List.eq_nil_of_length_eq_zero (by rw [←g2,e1];rfl),e2⟩
      · rw [he] at hb ⊢
        obtain⟨cs,e1,e2,T,t1,t2,e3⟩:=hO.some b hb
        refine⟨cs,by rw [←g1];exact e1,by rw [←g1];exact e2,T,t1,t2,fun i' j' hi' hj'=> ?_⟩
        rw [←g1] at hj' ⊢
        exact hrenC (g5 i' j' (by omega) hj') (e3 i' j' (by omega) hj')
    · have hO:=hok.obj r o2 h1
      have he:=hφK r (XA h1) h2
      have hsame: ∀ b,(φ r).has b→w'.heap[b]?=w.heap[b]?:=fun b hb=>hframe b (hO.has_lt hb) fun hw=>by
        obtain⟨r',o',e4,e5,e6⟩:=hlentMut b hw
        have:=hok.apart r r' o2 o' b h1 e5 hb e6
        subst this
        rw [h2] at e4;cases e4
      refine⟨by rw [he];exact hO.len,by rw [he];exact hO.sz,hO.rows,by rw [he];exact hO.room,by rw [he];exact hO.cap,by rw [he];exact hO.none,by rw [he];exact fun b hb=>Nat.lt_of_lt_of_le (hO.subl b hb) hq.heap,by rw [he];exact hO.subn,fun b hb=> ?_⟩
      rw [he] at hb ⊢
      obtain⟨cs,e1,e2,e3⟩:=hO.some b hb
      exact⟨cs,e1.congr (hsame b (.inl hb)),e2,e3.tr (fun x hx=>hsame x (.inr hx)) htr⟩
  · intro r hr0
    have hl0:c.n0≤hp.length:=hok.len
    rcases hok.mono r hr0 with h1 |h1
    · rcases hgrow r (by omega) with h2 |h2
      · exact .inl (h2.trans h1)
      · exact .inr (by rw [←h1.2.2.1];exact h2)
    · rcases hgrow r (by omega) with h2 |h2
      · exact .inr (by rw [h2.2.2.1];exact h1)
      · exact .inr (Nat.lt_trans h1 h2)
  · intro b hlt hno
    refine⟨hframe b hlt fun hw=> ?_,fun r o2 hr2 hbk=> ?_⟩
    · obtain⟨r,o,_,h5,h6⟩:=hlentMut b hw
      exact hno r o h5 h6
    · rcases hback r o2 hr2 with ⟨i,o,h1,h2,_⟩ | ⟨h1,h2⟩
      · rw [hφR i r h1] at hbk
        rcases(hcb i o b h2 hbk).1 with h |h
        · obtain⟨r',o',_,h5,h6⟩:=hlentMut b h
          exact hno r' o' h5 h6
        · omega
      · rw [hφK r (XA h1) h2] at hbk
        exact hno r o2 h1 hbk
theorem ZnF{φ:Phi}{a:Act}{w:World}(hc:Conc c φ st a w){f:FuncId}{ds:List AV}{os os' hp':List (Option Own)}{res res':AV}{vals:Array Value}(ρ:List Nat)(hs:GSpec c.P c.gl f ds os res os')
    (hvs:vals.size=ds.length) (ha: ∀ i,i<ds.length→ ∃ av,RenR (rwR fun r i=>ρ[i]?=some r) av (ds.getD i .any)∧RelF c.P w (Mut c.A φ st.hp) st.hp.length φ av (vals.getD i undef))
    (hl:Lend c.P ρ st.hp ρ os) (hnd:Zju ρ=true) (hb:Back c.P ρ st.hp.length st.hp os' 0 hp') (hlen:st.hp.length+(os'.length-ρ.length)=hp'.length) (hr:RenR (rwR (callR ρ st.hp.length)) res res')
    (hin:os'.length≥ρ.length):
    Calls c.P f vals w fun e w'=> ∃ v φ',e= .returned v∧HeapOK c φ' hp' w'∧
      (∀ av x,RelF c.P w (Mut c.A φ st.hp) st.hp.length φ av x→RelF c.P w' (Mut c.A φ' hp') hp'.length φ' av x)∧RelF c.P w' (Mut c.A φ' hp') hp'.length φ' res' v:=
  Calls.mono (Znc (fun R=>Calls c.P f vals w R) (fun h k=>Calls.mono h k) hc ρ (fun A W φ1 _ _ h1 h2 h3=>hs.spec A W w φ1 vals h1 h2 h3) hvs ha hl hnd hb hlen hr hin)
    fun _ _ ⟨v,φ',e,h1,h2,h3,_⟩=>⟨v,φ',e,h1,h2,h3⟩
theorem Zz{f:FuncId}{xs:List Operand}{ts:Array TypeId}{ds:List AV}{os os' hp':List (Option Own)}{res res':AV}(ρ:List Nat)(hs:GSpec c.P c.gl f ds os res os')(ha:ArgsG c st (rwR fun r i=>ρ[i]?=some r) xs ds)
    (hl:Lend c.P ρ st.hp ρ os) (hnd:Zju ρ=true) (hb:Back c.P ρ st.hp.length st.hp os' 0 hp') (hlen:st.hp.length+(os'.length-ρ.length)=hp'.length) (hin:Nat.ble ρ.length os'.length=true)
    (hr:RenR (rwR (callR ρ st.hp.length)) res res'):
    WVal c ops st ⟨dst,.call {callee:= .value (.func f),args:=xs.toArray,argTypes:=ts},ty,pos,after,none⟩ res' hp':=by
  intro φ a w hc
  refine⟨rfl,?_⟩
  obtain⟨h1,h2⟩:=ha.rel hc
  unfold Oper.wp
  have e:(execOp a.eval ⟨dst,.call {callee:= .value (.func f),args:=xs.toArray,argTypes:=ts},ty,pos,after,none⟩).run c.P w= .ok (.enter f (xs.map a.eval).toArray) w:=by
    simp [execOp,resolve,Act.eval,Deferred.ofValue,invoke,ZcQ hs.call]
  rw [e]
  refine(ZnF hc ρ hs (vals:=(xs.map a.eval).toArray) (by simpa using h1) (fun i hi=> ?_) hl hnd hb hlen hr (Nat.le_of_ble_eq_true hin)).mono ?_
  · obtain⟨av,e1,e2⟩:=h2 i hi
    exact⟨av,e1,by simpa [Array.getD_eq_getD_getElem?,gQ] using e2⟩
  rintro e w' ⟨v,φ',rfl,g1,g2,g3⟩
  exact⟨v,φ',rfl,g1,g2,g3⟩
end
end Go.Vx

namespace Go.Vx
open Go Go.RowKit
abbrev Str:=List UInt8
def idx{α:Type}(xs:List α)(i:Int):Option α:=if 0≤i then xs[i.toNat]? else none
theorem Zp{α:Type}{xs:List α}{i:Int}{x:α}(h:idx xs i=some x):i=(i.toNat:Int)∧xs[i.toNat]?=some x:=by
  unfold idx at h
  split at h
  · exact⟨by omega,h⟩
  · cases h
def gd{α:Type}(g:Bool)(d:α)(o:Option α):Option α:=if g=true then o else some d
theorem gdT{α:Type}{g:Bool}{d x:α}{o:Option α}(h:gd g d o=some x)(hg:g=true):o=some x:=by simpa [gd,hg] using h
def t0{β:Type}(f:β)(_:Unit):β:=f
def t1{α β:Type}(f:α→β)(a:α):β:=f a
@[simp] theorem Zpz {β:Type} (f:β):t0 f ()=f:=rfl
@[simp] theorem Xv {α β:Type} (f:α→β) (a:α):t1 f a=f a:=rfl
def t2{α β γ:Type}(f:α→β→γ)(p:α×β):γ:=f p.1 p.2
def t3{α β γ δ:Type}(f:α→β→γ→δ)(p:α×β×γ):δ:=f p.1 p.2.1 p.2.2
def t4{α β γ δ ε:Type}(f:α→β→γ→δ→ε)(p:α×β×γ×δ):ε:=f p.1 p.2.1 p.2.2.1 p.2.2.2
def t5{α β γ δ ε ζ:Type}(f:α→β→γ→δ→ε→ζ)(p:α×β×γ×δ×ε):ζ:=f p.1 p.2.1 p.2.2.1 p.2.2.2.1 p.2.2.2.2
def t6{α β γ δ ε ζ η:Type}(f:α→β→γ→δ→ε→ζ→η)(p:α×β×γ×δ×ε×ζ):η:=f p.1 p.2.1 p.2.2.1 p.2.2.2.1 p.2.2.2.2.1 p.2.2.2.2.2
def t7{α β γ δ ε ζ η θ:Type}(f:α→β→γ→δ→ε→ζ→η→θ)(p:α×β×γ×δ×ε×ζ×η):θ:=f p.1 p.2.1 p.2.2.1 p.2.2.2.1 p.2.2.2.2.1 p.2.2.2.2.2.1 p.2.2.2.2.2.2
def t8{α β γ δ ε ζ η θ ι:Type}(f:α→β→γ→δ→ε→ζ→η→θ→ι)(p:α×β×γ×δ×ε×ζ×η×θ):ι:=f p.1 p.2.1 p.2.2.1 p.2.2.2.1 p.2.2.2.2.1 p.2.2.2.2.2.1 p.2.2.2.2.2.2.1 p.2.2.2.2.2.2.2
@[simp] theorem Q1 {α β γ:Type} (f:α→β→γ) (a:α) (b:β):t2 f (a,b)=f a b:=rfl
@[simp] theorem Zc5 {α β γ δ:Type} (f:α→β→γ→δ) (a:α) (b:β) (c:γ):t3 f (a,b,c)=f a b c:=rfl
@[simp] theorem ZpV {α β γ δ ε:Type} (f:α→β→γ→δ→ε) (a:α) (b:β) (c:γ) (d:δ):t4 f (a,b,c,d)=f a b c d:=rfl
@[simp] theorem ZtN {α β γ δ ε ζ:Type} (f:α→β→γ→δ→ε→ζ) (a:α) (b:β) (c:γ) (d:δ) (e:ε):t5 f (a,b,c,d,e)=f a b c d e:=rfl
@[simp] theorem ZtO {α β γ δ ε ζ η:Type} (f:α→β→γ→δ→ε→ζ→η) (a:α) (b:β) (c:γ) (d:δ) (e:ε) (g:ζ):t6 f (a,b,c,d,e,g)=f a b c d e g:=rfl
@[simp] theorem Zqm {α β γ δ ε ζ η θ:Type} (f:α→β→γ→δ→ε→ζ→η→θ) (a:α) (b:β) (c:γ) (d:δ) (e:ε) (g:ζ) (h:η):t7 f (a,b,c,d,e,g,h)=f a b c d e g h:=rfl
@[simp] theorem ZlQ {α β γ δ ε ζ η θ ι:Type} (f:α→β→γ→δ→ε→ζ→η→θ→ι) (a:α) (b:β) (c:γ) (d:δ) (e:ε) (g:ζ) (h:η) (i:θ):t8 f (a,b,c,d,e,g,h,i)=f a b c d e g h i:=rfl
section
variable {α β γ:Type} {k:β→Option γ} {r:γ}
theorem Qb{X:Option γ}(h:X=some r):X.bind some=some r:=by simpa using h
theorem bnd{o:Option α}{f:α→Option β}(h:(o.bind f).bind k=some r): ∃ x,o=some x∧(f x).bind k=some r:=by
  cases o with
  |none=>cases h
  |some x=>exact⟨x,rfl,h⟩
theorem ret{v:γ}(h:(some v).bind some=some r):v=r:=Option.some.inj h
theorem lx{ρ:Type}{v r1:ρ}(h:some v=some r1):r1=v:=(Option.some.inj h).symm
theorem QC{o:Option β}(h:o.bind k=some r): ∃ x,o=some x∧k x=some r:=by
  cases o with
  |none=>cases h
  |some x=>exact⟨x,rfl,h⟩
theorem ell{β' δ:Type}{A:β'→Option β}{B:δ→Option β}{x:β'}(h:(Sum.elim A B (.inl x)).bind k=some r):(A x).bind k=some r:=h
theorem elr{β' δ:Type}{A:β'→Option β}{B:δ→Option β}{x:δ}(h:(Sum.elim A B (.inr x)).bind k=some r):(B x).bind k=some r:=h
theorem rt{v w:γ}(h:some v=some w):v=w:=Option.some.inj h
end
section
variable {α β γ δ ε ζ η θ κ ν:Type} {k:κ→Option ν} {r:ν}
theorem t0i{f:Option κ}(h:(t0 f ()).bind k=some r):f.bind k=some r:=h
theorem t1i{f:α→Option κ}{a:α}(h:(t1 f a).bind k=some r):(f a).bind k=some r:=h
theorem t2i{f:α→β→Option κ}{a:α}{b:β}(h:(t2 f (a,b)).bind k=some r):(f a b).bind k=some r:=h
theorem t7i{f:α→β→γ→δ→ε→ζ→η→Option κ}{a:α}{b:β}{c:γ}{d:δ}{e:ε}{g:ζ}{i:η}(h:(t7 f (a,b,c,d,e,g,i)).bind k=some r):(f a b c d e g i).bind k=some r:=h
theorem t8i{f:α→β→γ→δ→ε→ζ→η→θ→Option κ}{a:α}{b:β}{c:γ}{d:δ}{e:ε}{g:ζ}{i:η}{j:θ}(h:(t8 f (a,b,c,d,e,g,i,j)).bind k=some r):(f a b c d e g i j).bind k=some r:=h
end
section
variable {σ ρ:Type}
def Zbt(body:σ→Option (σ ⊕ ρ)):Nat→σ→Option ρ
  |0,_=>none
  |n+1,s=>(body s).bind (Sum.elim (Zbt body n) some)
open Classical in
noncomputable def loop(body:σ→Option (σ ⊕ ρ))(s:σ):Option ρ:=if h: ∃ r,∃ n,Zbt body n s=some r then some (Classical.choose h) else none
theorem Zjw{body:σ→Option (σ ⊕ ρ)}: ∀ {n m:Nat} {s:σ} {r:ρ},n≤m→Zbt body n s=some r→Zbt body m s=some r
  |0,_,_,_,_,h=>by cases h
  |n+1,0,_,_,h,_=>by omega
  |n+1,m+1,s,r,hnm,h=>by
    simp only [Zbt] at h ⊢
    cases hb:body s with
    |none=>rw [hb] at h;cases h
    |some o=>
      rw [hb] at h
      cases o with
      |inl s'=>exact Zjw (n:=n) (m:=m) (by omega) h
      |inr r'=>exact h
theorem ZgI{body:σ→Option (σ ⊕ ρ)}{n:Nat}{s:σ}{r:ρ}(h:Zbt body n s=some r):loop body s=some r:=by
  have hx: ∃ r,∃ n,Zbt body n s=some r:=⟨r,n,h⟩
  unfold loop
  rw [dif_pos hx]
  obtain⟨m,hm⟩:=Classical.choose_spec hx
  have h1:=Zjw (Nat.le_max_left n m) h
  have h2:=Zjw (Nat.le_max_right n m) hm
  rw [h1] at h2
  exact h2.symm
theorem ZdM{body:σ→Option (σ ⊕ ρ)}{s:σ}{r:ρ}(h:loop body s=some r): ∃ n,Zbt body n s=some r:=by
  unfold loop at h
  split at h
  · rename_i hx
    cases h
    exact Classical.choose_spec hx
  · cases h
theorem ZfE(body:σ→Option (σ ⊕ ρ))(s:σ):loop body s=(body s).bind (Sum.elim (loop body) some):=by
  cases hb:body s with
  |none=>
    cases hl:loop body s with
    |none=>rfl
    |some r=>
      obtain⟨n,hn⟩:=ZdM hl
      cases n with
      |zero=>cases hn
      |succ n=>simp only [Zbt,hb] at hn;cases hn
  |some o=>
    cases o with
    |inr r=>exact ZgI (n:=1) (by simp [Zbt,hb])
    |inl s'=>
      show loop body s=loop body s'
      cases hl:loop body s' with
      |some r=>
        obtain⟨n,hn⟩:=ZdM hl
        exact ZgI (n:=n+1) (by simp only [Zbt,hb];exact hn)
      |none=>
        cases hl2:loop body s with
        |none=>rfl
        |some r=>
          obtain⟨n,hn⟩:=ZdM hl2
          cases n with
          |zero=>cases hn
          |succ n=>
            simp only [Zbt,hb] at hn
            rw [ZgI (n:=n) hn] at hl;cases hl
theorem ZfD{c:Ctx}{code:Code}{st:St}{K:Exit→St→Prop}(body:σ→Option (σ ⊕ ρ))(I:σ→St)(s0:σ){r:ρ}(h:loop body s0=some r)(h0:Ent c st (I s0))
    (hr: ∀ n s,(body s).bind (Sum.elim (Zbt body n) some)=some r→T c code (I s) (Zft (fun st'=> ∃ s',Zbt body n s'=some r∧Ent c st' (I s')) K)):T c (.loop code) st K:=by
  obtain⟨N,hN⟩:=ZdM h
  refine Zpl (ι:=Nat×σ) (fun p=>Zbt body p.1 p.2=some r) (fun p=>I p.2) (fun p=>p.1) (N,s0) hN h0 ?_
  rintro⟨n,s⟩ hC
  cases n with
  |zero=>cases hC
  |succ n=>
    refine Zni (hr n s hC) ?_
    intro e st' hk
    cases e with
    |normal=>
      obtain⟨s',h1,h2⟩:=hk
      exact⟨(n,s'),h1,Nat.lt_succ_self n,h2⟩
    |exit id=>exact hk
    |goto l=>exact hk
    |ret=>exact hk
    |panic ch=>exact hk
    |outgrown=>exact hk
theorem Ze4{body:σ→Option (σ ⊕ ρ)}(I:σ→Prop)(μ:σ→Nat)(Q:ρ→Prop)(step: ∀ s,I s→(∃ s',body s=some (.inl s')∧I s'∧μ s'<μ s)∨(∃ r,body s=some (.inr r)∧Q r)):
    ∀ s,I s→ ∃ r,loop body s=some r∧Q r:=by
  have key: ∀ n s,μ s<n→I s→ ∃ r,loop body s=some r∧Q r:=by
    intro n
    induction n with
    |zero=>intro s h;omega
    |succ n ih=>
      intro s hn hs
      rcases step s hs with ⟨s',h1,h2,h3⟩ | ⟨r,h1,h2⟩
      · obtain⟨r,h4,h5⟩:=ih s' (by omega) h2
        exact⟨r,by rw [ZfE,h1];exact h4,h5⟩
      · exact⟨r,by rw [ZfE,h1];rfl,h2⟩
  intro s hs
  exact key (μ s+1) s (Nat.lt_succ_self _) hs
end
section
variable {c:Ctx} {st:St} {K:Exit→St→Prop} {β γ:Type} {k:β→Option γ} {r:γ} {X Y:Option β}
theorem Zds{ι τ:Type}{G:τ→Option β}{X:Option τ}{x y:Code}(inj:ι→τ)(J:ι→St)(h:(X.bind G).bind k=some r)
    (hx:X.bind (fun o=>(G o).bind k)=some r→T c x st (Zft (fun st'=> ∃ i,(G (inj i)).bind k=some r∧Ent c st' (J i)) K))
    (ky: ∀ i,(G (inj i)).bind k=some r→T c y (J i) K):T c (.seq x y) st K:=
  ZrU (fun i=>(G (inj i)).bind k=some r) J (hx (by rw [Option.bind_assoc] at h;exact h)) ky
theorem Ztt{t:Nat}{b:Bool}{x y:Code}(h:(if b=true then X else Y).bind k=some r)(hl:look st.tm t=some (.bool b))
    (h1:b=true→X.bind k=some r→T c x st K) (h2:b=false→Y.bind k=some r→T c y st K):T c (.cond (.tmp t) x y) st K:=
  Zl6 hl (fun hb=>h1 hb (by rw [if_pos hb] at h;exact h)) (fun hb=>h2 hb (by rw [if_neg (by rw [hb];simp)] at h;exact h))
end
section
variable {c:Ctx} {code:Code} {K:Exit→St→Prop} {α β γ δ ε ζ η θ:Type}
end
end Go.Vx

namespace Go.Vx
open Go Go.RowKit
abbrev i64(z:Int):Int:=IntKind.i64.wrap z
abbrev i8(z:Int):Int:=IntKind.i8.wrap z
abbrev u64(z:Int):Int:=IntKind.u64.wrap z
abbrev u32(z:Int):Int:=IntKind.u32.wrap z
abbrev u16(z:Int):Int:=IntKind.u16.wrap z
abbrev u8(z:Int):Int:=IntKind.u8.wrap z
def quo(k:IntKind)(a b:Int):Option Int:=if b=0 then none else some (k.wrap (a.tdiv b))
def rem(a b:Int):Option Int:=if b=0 then none else some (a.tmod b)
def QD(k:IntKind)(a b:Int):Int:=k.wrap ((BitVec.ofInt k.bits a&&&BitVec.ofInt k.bits b).toNat:Int)
def bor(k:IntKind)(a b:Int):Int:=k.wrap ((BitVec.ofInt k.bits a ||| BitVec.ofInt k.bits b).toNat:Int)
def Zbv(k:IntKind)(a b:Int):Int:=k.wrap ((BitVec.ofInt k.bits a^^^BitVec.ofInt k.bits b).toNat:Int)
def Zmv(k:IntKind)(a b:Int):Int:=k.wrap ((BitVec.ofInt k.bits a&&& ~~~ BitVec.ofInt k.bits b).toNat:Int)
def shl(k:IntKind)(a n:Int):Option Int:=if n<0 then none else some (k.wrap (a*2^min n.toNat k.bits))
def shr(k:IntKind)(a n:Int):Option Int:=if n<0 then none else some (a.fdiv (2^min n.toNat k.bits))
def Zos(s:Str)(i:Int):Option Int:=if 0≤i then(s[i.toNat]?).map fun b=>(b.toNat:Int) else none
def slc{α:Type}(xs:List α)(a b:Int):Option (List α):=if 0≤a∧a≤b∧b≤xs.length then some ((xs.take b.toNat).drop a.toNat) else none
def apz{α:Type}(s:Nat)(xs ys:List α):Option (List α):=if xs.length+ys.length≤140737488355328/s then some (xs++ys) else none
abbrev app{α:Type}(xs ys:List α):Option (List α):=apz 32768 xs ys
theorem ZkM{s b n:Nat}(h:n≤140737488355328/s)(hb:b≤s):n*b≤140737488355328:=Nat.le_trans (Nat.mul_le_mul h hb) (Nat.div_mul_le_self ..)
theorem ZkC{s n:Nat}(h:n≤140737488355328/s):n<2^63:=Nat.lt_of_le_of_lt (Nat.le_trans h (Nat.div_le_self ..)) (by decide)
def mk{α:Type}(n:Int)(z:α):Option (List α):=if 0≤n∧n≤4294967296 then some (List.replicate n.toNat z) else none
section ops
variable {c:Ctx} {ops:Array Oper} {st:St} {dst:Option Tmp} {ty:TypeId} {pos:String} {after:Array Edge}
section arith
variable {x y:Operand} {k yk:IntKind} {m n z:Int} {t u:TypeId}
theorem Zgq(h:Opv c st x (.int k m))(h':Opv c st y (.int k n))(hz:quo k m n=some z):SVal c ops st ⟨dst,.binOp .quo t x y u,ty,pos,after,none⟩ (.int k z):=by
  unfold quo at hz
  split at hz
  · cases hz
  · rename_i h0;cases hz;exact ZsT h h' h0 rfl
theorem Zaf(h:Opv c st x (.int k m))(h':Opv c st y (.int k n))(hz:rem m n=some z):SVal c ops st ⟨dst,.binOp .rem t x y u,ty,pos,after,none⟩ (.int k z):=by
  unfold rem at hz
  split at hz
  · cases hz
  · rename_i h0;cases hz;exact ZsF h h' h0 rfl
theorem Zbk(h:Opv c st x (.int k m))(h':Opv c st y (.int k n)):SVal c ops st ⟨dst,.binOp .and t x y u,ty,pos,after,none⟩ (.int k (QD k m n)):=
  ZfO h h' (by simp [binOp,Op.intBits,QD,pure]) (by simp) (by simp)
theorem Zho(h:Opv c st x (.int k m))(h':Opv c st y (.int k n)):SVal c ops st ⟨dst,.binOp .or t x y u,ty,pos,after,none⟩ (.int k (bor k m n)):=
  ZfO h h' (by simp [binOp,Op.intBits,bor,pure]) (by simp) (by simp)
theorem ZlY(h:Opv c st x (.int k m))(h':Opv c st y (.int k n)):SVal c ops st ⟨dst,.binOp .xor t x y u,ty,pos,after,none⟩ (.int k (Zbv k m n)):=
  ZfO h h' (by simp [binOp,Op.intBits,Zbv,pure]) (by simp) (by simp)
theorem ZnO{op:BinOp}(h:Opv c st x (.int k m))(h':Opv c st y (.int yk n))(ho:op= .shl∨op= .shr)
    (hz:(Op.shift op k m yk n:Sem Value)= .pure (.int k z)):SVal c ops st ⟨dst,.binOp op t x y u,ty,pos,after,none⟩ (.int k z):=
  .pure rfl fun φ a w hc=>by
    refine⟨.int k z,?_,Zt (.int _ _)⟩
    have e:=h.int hc
    have e':=h'.int hc
    rcases ho with rfl |rfl
    · simp only [execOp,e,e',binOp,hz];rfl
    · simp only [execOp,e,e',binOp,hz];rfl
theorem ZgJ(h:Opv c st x (.int k m))(h':Opv c st y (.int yk n))(hz:shl k m n=some z):SVal c ops st ⟨dst,.binOp .shl t x y u,ty,pos,after,none⟩ (.int k z):=by
  unfold shl at hz
  split at hz
  · cases hz
  · rename_i h0;cases hz;exact ZnO h h' (.inl rfl) (by simp [Op.shift,h0,pure])
theorem Zbf(h:Opv c st x (.int k m))(h':Opv c st y (.int yk n))(hz:shr k m n=some z):SVal c ops st ⟨dst,.binOp .shr t x y u,ty,pos,after,none⟩ (.int k z):=by
  unfold shr at hz
  split at hz
  · cases hz
  · rename_i h0;cases hz;exact ZnO h h' (.inr rfl) (by simp [Op.shift,h0,pure])
theorem Zl2(h:Opv c st x (.int k m)):SVal c ops st ⟨dst,.unOp .xor t x,ty,pos,after,none⟩ (.int k (Zbv k (if k.signed then-1 else k.max) m)):=
  .pure rfl fun φ a w hc=>by
    refine⟨_,?_,Zt (.int _ _)⟩
    simp [execOp,h.int hc,Op.unary,Op.intBits,Zbv,pure,bind,Sem.bind]
end arith
section str
variable {x y:Operand} {s s' r:Str} {t u:TypeId}
theorem Zq3{op:BinOp}{v:Value}{av:AV}(h:Opv c st x (.str s))(h':Opv c st y (.str s'))(hne:op≠ .shl∧op≠ .shr)(hv:(Op.stringOp op ⟨s.toArray⟩ ⟨s'.toArray⟩:Sem Value)= .pure v)
    (hr: ∀ w M,RelD c.P w M av v):SVal c ops st ⟨dst,.binOp op t x y u,ty,pos,after,none⟩ av:=
  .pure rfl fun φ a w hc=>by
    refine⟨v,?_,Zt (hr _ _)⟩
    have e:=h.str hc
    have e':=h'.str hc
    simp only [execOp,e,e']
    have:binOp op t (.string ⟨s.toArray⟩) (.string ⟨s'.toArray⟩)= .pure v:=by
      rw [←hv];cases op<;>first |rfl |exact absurd rfl hne.1 |exact absurd rfl hne.2
    cases op<;>simp only [this]<;>rfl
theorem Zm6(s:Str):(ByteArray.mk s.toArray).toList=s:=by
  have key: ∀ (n i:Nat) (r:List UInt8),s.length-i=n→ByteArray.toList.loop (ByteArray.mk s.toArray) i r=r.reverse++s.drop i:=by
    intro n
    induction n with
    |zero=>
      intro i r h
      unfold ByteArray.toList.loop
      have: ¬i<(ByteArray.mk s.toArray).size:=by simp [ByteArray.size];omega
      rw [nG this,List.drop_eq_nil_of_le (by omega)];simp
    |succ n ih=>
      intro i r h
      unfold ByteArray.toList.loop
      have:i<(ByteArray.mk s.toArray).size:=by simp [ByteArray.size];omega
      rw [pG this,ih (i+1) _ (by omega)]
      have hlt:i<s.length:=by omega
      rw [List.drop_eq_getElem_cons hlt]
      simp [ByteArray.get!,hlt]
  have:=key s.length 0 [] (by simp)
  simpa [ByteArray.toList] using this
theorem ZsJ(s s':Str):(s==s')=decide (s=s'):=by rw [Bool.eq_iff_iff];simp
theorem Zp9(h:Opv c st x (.str s))(h':Opv c st y (.str s')):SVal c ops st ⟨dst,.binOp .eql t x y u,ty,pos,after,none⟩ (.bool (decide (s=s'))):=
  Zq3 h h' (by simp) (v:= .bool (decide (s=s'))) (by simp only [Op.stringOp,Zm6,ZsJ];rfl) fun _ _=> .bool _
theorem Zp7(h:Opv c st x (.str s))(h':Opv c st y (.str s')):SVal c ops st ⟨dst,.binOp .neq t x y u,ty,pos,after,none⟩ (.bool (!decide (s=s'))):=
  Zq3 h h' (by simp) (v:= .bool (!decide (s=s'))) (by simp only [Op.stringOp,Zm6,ZsJ];rfl) fun _ _=> .bool _
theorem ZmX{k:IntKind}{i z:Int}(h:Opv c st x (.str s))(hy:Opv c st y (.int k i))(ht:tStr c.P t=true)(hz:Zos s i=some z):SVal c ops st ⟨dst,.index t x y,ty,pos,after,none⟩ (.int .u8 z):=
  .pure rfl fun φ a w hc=>by
    refine⟨.int .u8 z,?_,Zt (.int _ _)⟩
    unfold Zos at hz
    split at hz
    · rename_i h0
      obtain⟨b,hb,rfl⟩:=Option.map_eq_some_iff.1 hz
      have hlt:=(List.getElem?_eq_some_iff.1 hb).1
      have e:(ByteArray.mk s.toArray)[i.toNat]?=some b:=by
        have e1:(ByteArray.mk s.toArray)[i.toNat]?=s[i.toNat]?:=by
          rw [List.getElem?_eq_getElem hlt,getElem?_pos (ByteArray.mk s.toArray) i.toNat (by simpa [ByteArray.size] using hlt)]
          rfl
        rw [e1,hb]
      have hr:(Instr.index t (.string ⟨s.toArray⟩) (.int k i)).run c.P w= .ok (.int .u8 (b.toNat:Int)) w:=by
        unfold Instr.index
        simp [asIntOf,run_underlying (tStr.spec ht),h0,e]
      show((do pure (Next.value (←Instr.index t (a.eval x) (a.eval y))):Sem Next)).run c.P w=_
      rw [h.str hc,hy.int hc,Sem.run_bind,hr]
      rfl
    · cases hz
end str
theorem JL{t n:Nat}{l:List AV}{x:Operand}(h:CellV c st x l)(hl:l.length=n)(hs:c.P.cellsOf t=n)(hd:l.all datB=true):SVal c ops st ⟨dst,.box t x,ty,pos,after,none⟩ (.rp l 0):=by
  subst hl
  refine .run rfl fun φ a w hc=> ?_
  obtain⟨h1,h2⟩:=h φ a w hc
  have hBl:Below w.heap.size w (w.alloc (.cells (a.eval x).cells t)):=(Below.refl _ _).alloc (Nat.le_refl _) _
  refine⟨.pointer (some ⟨w.heap.size,0,none⟩),w.alloc (.cells (a.eval x).cells t),?_,hBl,Zt ?_⟩
  · simp only [execOp,Instr.box,newVar,newRow]
    rfl
  · have hnew:(w.alloc (.cells (a.eval x).cells t)).heap[w.heap.size]?=some (.cells (a.eval x).cells t (0,0)):=heap_alloc_new w _
    have hnM: ¬Mut c.A φ st.hp w.heap.size:=fun hmm=>by have:=Zhm hc _ hmm;omega
    refine .rp l w.heap.size 0 0 (fun j=>(a.eval x).cells.getD j undef) (by simp) hnM (fun j hj=> ?_) (fun j hj=> ?_)
    · rw [Z0 hnew,Nat.zero_add]
      simp [show j<(a.eval x).cells.size by omega]
    · have hdj:datB (l.getD j .any)=true:=by
        have:l.getD j .any=l[j]:=by simp [gQ,hj]
        rw [this];exact List.all_eq_true.1 hd _ (List.getElem_mem _)
      exact(Dat.b (c:=c) (st:=st) hdj φ a w hc _ (h2 j hj)).mono hBl.size (fun b hb _=>hBl.block b hb) (fun _ _ hm=>hm)
def Zj5(c:Ctx)(st:St)(d:Int):Option Operand→Int→Prop
  |none,z=>z=d
  |some x,z=> ∃ k,Opv c st x (.int k z)
theorem oi{x:Operand}{k:IntKind}{z d:Int}(h:Opv c st x (.int k z)):Zj5 c st d (some x) z:=⟨k,h⟩
theorem on{d:Int}:Zj5 c st d none d:=rfl
theorem Zjr{P:Program}{w:World}{k:IntKind}{z:Int}{y:Nat}{code:BoundsCode}(h0:0≤z)(h1:z≤y):(Instr.sliceBound (.int k z) y code).run P w= .ok z.toNat w:=by
  simp [Instr.sliceBound,asIntOf,h0,h1]
theorem Zgs{φ:Phi}{a:Act}{w:World}(hc:Conc c φ st a w){lo hi:Option Operand}{len cap:Nat}{isS:Bool}{p q:Int}(hl:Zj5 c st 0 lo p)(hh:Zj5 c st len hi q)(h0:0≤p)(h1:p≤q)(h2:q≤cap)(hlc:len≤cap):
    (Instr.sliceBounds isS len cap (lo.map a.eval) (hi.map a.eval) none).run c.P w= .ok (p.toNat,q.toNat,cap) w:=by
  have b1: ∀ {x:Operand} {k:IntKind} {z:Int} {y:Nat} {code:BoundsCode},Opv c st x (.int k z)→0≤z→z≤y→(Instr.sliceBound (a.eval x) y code).run c.P w= .ok z.toNat w:=
    fun h h0 h1=>by rw [h.int hc];exact Zjr h0 h1
  cases hi with
  |none=>
    have e:q=len:=hh
    subst e
    cases lo with
    |none=>
      have e:p=0:=hl
      subst e
      simp [Instr.sliceBounds]
    |some x=>
      obtain⟨k,hx⟩:=hl
      have:=fun code=>b1 (code:=code) (y:=len) hx h0 h1
      simp [Instr.sliceBounds,this]
  |some y=>
    obtain⟨k',hy⟩:=hh
    have hy':=fun code=>b1 (code:=code) hy (by omega) h2
    cases lo with
    |none=>
      have e:p=0:=hl
      subst e
      simp [Instr.sliceBounds,hy']
    |some x=>
      obtain⟨k,hx⟩:=hl
      have:=fun code=>b1 (code:=code) (y:=q.toNat) hx h0 (by omega)
      simp [Instr.sliceBounds,hy',this]
theorem Zf8{α:Type}{f:α→List AV}{t e n by_:Nat}{x:Operand}{lo hi:Option Operand}{xs ys:List α}{p q:Int}(h:Opv c st x (.sl e (xs.map f)))(ht:tSl c.P t e n by_=true)
    (hl:Zj5 c st 0 lo p) (hh:Zj5 c st (xs.length:Int) hi q) (hz:slc xs p q=some ys):SVal c ops st ⟨dst,.slice t x lo hi none,ty,pos,after,none⟩ (.sl e (ys.map f)):=
  .pure rfl fun φ a w hc=>by
    unfold slc at hz
    split at hz
    · rename_i hb
      cases hz
      obtain⟨h0,h1,h2⟩:=hb
      obtain⟨hu,inf,z,hi',hs,hby,hn0,hz,hzs,hcs⟩:=tSl.spec ht
      have hr:=ZhJ (h φ a w hc)
      generalize hx:a.eval x=ax at hr
      have hsz:(sizeOf e).run c.P w= .ok n w:=by simp [sizeOf,typeInfo,hi',hs]
      have run: ∀ (ad:Option Addr) (cap:Nat),xs.length≤cap→(execOp a.eval ⟨dst,.slice t x lo hi none,ty,pos,after,none⟩).run c.P w= .ok (.value (.slice (if cap=p.toNat then ad else ad.map (·.add (p.toNat*n))) (q.toNat-p.toNat) (cap-p.toNat))) w∨ax≠ .slice ad xs.length cap:=by
        intro ad cap hcap
        by_cases hax:ax= .slice ad xs.length cap
        · left
          have:=Zgs hc (isS:=true) hl hh h0 h1 (by omega) hcap
          show((do pure (Next.value (←Instr.sliceAt t (a.eval x) (lo.map a.eval) (hi.map a.eval) none)):Sem Next)).run c.P w=_
          rw [hx,hax,Sem.run_bind]
          have e:(Instr.sliceAt t (.slice ad xs.length cap) (lo.map a.eval) (hi.map a.eval) none).run c.P w= .ok (.slice (if cap=p.toNat then ad else ad.map (·.add (p.toNat*n))) (q.toNat-p.toNat) (cap-p.toNat)) w:=by
            unfold Instr.sliceAt
            rw [Sem.run_bind,run_underlying hu]
            simp only [Result.andThen_ok]
            unfold Instr.slice
            rw [Sem.run_bind,run_underlying hu]
            simp only [Result.andThen_ok]
            rw [Sem.run_bind,this]
            simp only [Result.andThen_ok]
            rw [Sem.run_bind,hsz]
            rfl
          rw [e]
          rfl
        · exact .inr hax
      have hlen:((xs.take q.toNat).drop p.toNat).length=q.toNat-p.toNat:=by simp;omega
      generalize hL:xs.map f=L at hr
      cases hr with
      |sl0 _ ad cp=>
        have hx0:xs= []:=by simpa using hL
        subst hx0
        rcases run ad cp (Nat.zero_le _) with h3 |h3
        · refine⟨_,h3,Zt ?_⟩
          simp only [List.length_nil] at h2
          have:q.toNat-p.toNat=0:=by omega
          rw [this]
          simp only [List.take_nil,List.drop_nil,List.map_nil]
          exact .sl0 _ _ _
        · exact absurd rfl h3
      |sl _ _ b off cp us g0 g1 g2 g2' g3 g4 g5=>
        subst hL
        simp only [lM] at g2' run
        rcases run (some ⟨b,off,none⟩) cp g2' with h3 |h3
        · refine⟨_,h3,Zt ?_⟩
          by_cases hpq:q.toNat-p.toNat=0
          · have:(xs.take q.toNat).drop p.toNat= []:=List.eq_nil_of_length_eq_zero (by omega)
            rw [this,hpq]
            exact .sl0 _ _ _
          · have hne: ¬cp=p.toNat:=by omega
            rw [nG hne]
            have had:(some (⟨b,off,none⟩:Addr)).map (·.add (p.toNat*n))=some ⟨b,off+p.toNat*n,none⟩:=by
              simp only [Option.map_some,Addr.add]
              split
              · rename_i h9;rw [h9];rfl
              · rfl
            rw [had]
            have hget: ∀ i,i<q.toNat-p.toNat→((xs.take q.toNat).drop p.toNat)[i]?=xs[p.toNat+i]?:=fun i hi=>by
              rw [List.getElem?_drop,List.getElem?_take,pG (by omega)]
            have hcell: ∀ i j,i<q.toNat-p.toNat→cellAt (((xs.take q.toNat).drop p.toNat).map f) i j=cellAt (xs.map f) (p.toNat+i) j:=fun i j hi=>by
              unfold cellAt
              simp only [gQ,List.getElem?_map,hget i hi]
            have hL2:(((xs.take q.toNat).drop p.toNat).map f).length=q.toNat-p.toNat:=by rw [lM];exact hlen
            have:=RelD.sl (P:=c.P) (w:=w) (M:=Mut c.A φ st.hp) e (((xs.take q.toNat).drop p.toNat).map f) b (off+p.toNat*n) (cp-p.toNat) (fun i j=>us (p.toNat+i) j) g0 g1
              (by rw [hL2];rw [lM] at g2;omega) (by rw [hL2];omega) (fun row hr=>by
                obtain⟨z',hz',rfl⟩:=List.mem_map.1 hr
                exact g3 _ (List.mem_map_of_mem (List.mem_of_mem_take (List.mem_of_mem_drop hz'))))
              (fun i j hi hj=>by
                rw [hL2] at hi
                rw [←g4 (p.toNat+i) j (by simp;omega) hj]
                congr 2
                rw [hcs,Nat.add_mul];omega)
              (fun i j hi hj=>by
                rw [hL2] at hi
                rw [hcell i j hi]
                exact g5 (p.toNat+i) j (by simp;omega) hj)
            rw [hL2] at this
            exact this
        · exact(h3 rfl).elim
    · cases hz
end ops
end Go.Vx
namespace Go.Vx
open Go Go.RowKit
section ops
variable {c:Ctx} {ops:Array Oper} {st:St} {dst:Option Tmp} {ty:TypeId} {pos:String} {after:Array Edge}
theorem Zb9{α:Type}{f:α→List AV}{y:Operand}{t e sz by_ r n:Nat}{xs:List α}(h:Opv c st y (.own r n))(ho:nth st.hp r=some ⟨e,xs.map f⟩)(hn:xs.length=n)(ht:tSl c.P t e sz by_=true):
    SVal c ops st ⟨dst,.call {callee:= .builtin .len,args:= #[y],argTypes:= #[t]},ty,pos,after,none⟩ (.int .i64 (xs.length:Int)):=
  .pure rfl fun φ a w hc=>by
    have hO:=hc.hok.obj r _ ho
    have hx:=JZ (h φ a w hc) (by rw [hO.len];simpa using hn)
    obtain⟨hu,_⟩:=tSl.spec ht
    refine⟨.int .i64 (xs.length:Int),?_,Zt (.int _ _)⟩
    simp [execOp,resolve,invoke,builtin,hx,Builtin.len_,run_underlying hu,goInt,hn]
theorem Z4{α:Type}{f:α→List AV}{x y:Operand}{t e sz by_ r n:Nat}{k:IntKind}{z:Int}{xs:List α}{u:α}(h:Opv c st x (.own r n))(hy:Opv c st y (.int k z))(ht:tSl c.P t e sz by_=true)
    (ho:nth st.hp r=some ⟨e,xs.map f⟩) (hn:xs.length=n) (hx:idx xs z=some u):SVal c ops st ⟨dst,.indexAddr t x y,ty,pos,after,none⟩ (.ptr r n z.toNat 0):=by
  obtain⟨h1,h2⟩:=Zp hx
  obtain⟨_,_,_,_,_,_,_,_,_,hcs⟩:=tSl.spec ht
  exact Zq7 h hy ht ho (by simpa using hn) hcs h1 (by have:=(List.getElem?_eq_some_iff.1 h2).1;omega)
theorem ZP{α:Type}{f:α→List AV}{x y:Operand}{t e n by_:Nat}{k:IntKind}{z:Int}{xs:List α}{u:α}(h:Opv c st x (.sl e (xs.map f)))(hy:Opv c st y (.int k z))(ht:tSl c.P t e n by_=true)
    (hx:idx xs z=some u):SVal c ops st ⟨dst,.indexAddr t x y,ty,pos,after,none⟩ (.rp (f u) 0):=by
  obtain⟨h1,h2⟩:=Zp hx
  exact ZsN h hy ht h1 (Zki h2)
theorem QK{α:Type}{f:α→List AV}{x y:Operand}{t e sz by_ r n s:Nat}{xs ys zs:List α}(h:Opv c st x (.own r n))(hy:SlV c st y sz (ys.map f))(ht:tSl c.P t e sz by_=true)
    (ho:nth st.hp r=some ⟨e,xs.map f⟩) (hn:xs.length=n) (hpos:Nat.blt 0 ys.length=true) (h1: ∀ u,∀ v∈f u,ZgU c st v) (hby:Nat.ble by_ s=true) (hz:apz s xs ys=some zs):
    WVal c ops st ⟨dst,.call {callee:= .builtin .append,args:= #[x,y],argTypes:= #[t,t]},ty,pos,after,none⟩ (.own r zs.length) (Xh st.hp r (some ⟨e,zs.map f⟩)):=by
  unfold apz at hz
  split at hz
  · rename_i hle
    cases hz
    have hby:=Nat.le_of_ble_eq_true hby
    have hle2:n+ys.length≤140737488355328/s:=hn▸hle
    have hmul:(n+ys.length)*by_≤140737488355328:=ZkM hle2 hby
    have:=Zm9 (c:=c) (ops:=ops) (dst:=dst) (ty:=ty) (pos:=pos) (after:=after) (m:=ys.length) h hy ht ho (by simpa using hn) rfl (by simp) (by simpa using hpos) (fun row hr u hu=>by
      obtain⟨a,_,rfl⟩:=List.mem_map.1 hr
      exact h1 a u hu) hmul (ZkC hle2)
    rw [←hn,←List.length_append] at this
    simpa [List.map_append] using this
  · cases hz
theorem Xg{α:Type}{f:α→List AV}{x y:Operand}{t e r n:Nat}{z:Int}{xs:List α}{u u':α}{v:AV}{l:List AV}{j:Nat}(h:Opv c st x (.ptr r n z.toNat j))(hy:Opv c st y v)(ht:Ziz c.P t v l)
    (ho:nth st.hp r=some ⟨e,xs.map f⟩) (hn:xs.length=n) (hx:idx xs z=some u) (hlen:Nat.ble (j+l.length) (f u).length=true) (h1: ∀ q∈l,ZgU c st q)
    (hrow':(f u).take j++(l++(f u).drop (j+l.length))=f u'):
    WVal c ops st ⟨none,.store t x y,ty,pos,after,none⟩ .any (Xh st.hp r (some ⟨e,(xs.set z.toNat u').map f⟩)):=by
  have:=Zm (c:=c) (ops:=ops) (ty:=ty) (pos:=pos) (after:=after) h hy ht ho (by simpa using hn) (Zki (Zp hx).2) (Nat.le_of_ble_eq_true hlen) h1 hrow'
  simpa [List.map_set] using this
theorem ZmS{α:Type}{f:α→List AV}{x:Operand}{r n j t sz e:Nat}{z:Int}{xs:List α}{u:α}{l:List AV}(h:Opv c st x (.ptr r n z.toNat j))(ho:nth st.hp r=some ⟨e,xs.map f⟩)(hn:xs.length=n)(hx:idx xs z=some u)
    (ht:tAgg c.P t sz=true) (hl:((f u).drop j).take sz=l) (hlen:l.length=sz) (hns:NS l:=by first |exact nsR rfl |exact nsM (fun _=>rfl)):SVal c ops st ⟨dst,.load t x,ty,pos,after,none⟩ (.agg l):=
  Qt h ho (by simpa using hn) (Zki (Zp hx).2) ht hl hlen hns
theorem Qj{α:Type}{f:α→List AV}{x:Operand}{r n j t e:Nat}{z:Int}{xs:List α}{u:α}{v:AV}(h:Opv c st x (.ptr r n z.toNat j))(ho:nth st.hp r=some ⟨e,xs.map f⟩)(hn:xs.length=n)(hx:idx xs z=some u)
    (ht:tScal c.P t=true) (hv:(f u)[j]?=some v) (hns:noSub v=true:=by rfl):SVal c ops st ⟨dst,.load t x,ty,pos,after,none⟩ v:=
  Zl h ho (by simpa using hn) (Zki (Zp hx).2) ht hv hns
theorem Ju{α:Type}{fr:α→List AV}{x:Operand}{r n i j s f off e:Nat}{xs:List α}(h:Opv c st x (.ptr r n i j))(ho:nth st.hp r=some ⟨e,xs.map fr⟩)(hn:xs.length=n)(ht:tFld c.P s f off=true):
    SVal c ops st ⟨dst,.fieldAddr s x f,ty,pos,after,none⟩ (.ptr r n i (j+off)):=Ze h ho (by simpa using hn) ht
theorem Zfr{α:Type}{f:α→List AV}{t e sz by_ n r:Nat}{ps:List (Nat×Operand)}{xs:List α}(hr:st.hp.length=r)(ht:tSl c.P t e sz by_=true)(hp:Elems c st sz ps 0 (xs.map f))(hn:ps.length=n)(hx:xs.length=n)(hbig:Nat.ble (n*sz) (2^24)=true):
    WVal c ops st ⟨dst,.buildSlice t n ps.toArray,ty,pos,after,none⟩ (.own r xs.length) (st.hp++ [some ⟨e,xs.map f⟩]):=by
  rw [hx];exact ZsX hr ht hp hn hbig
end ops
theorem Dat.nils{c:Ctx}{st:St}(e:TypeId):Dat c st .nils (.sl e []):=fun φ a w hc v hv=>by
  have:=hv φ (fun _ _=>rfl)
  cases this with |data h=>cases h;exact .sl0 e none 0
theorem View.ownM{c:Ctx}{st:St}{α:Type}{f:α→List AV}{r n:Nat}{e:TypeId}{xs:List α}(ho:nth st.hp r=some ⟨e,xs.map f⟩)(hn:xs.length=n)(h: ∀ x,(f x).length=c.P.cellsOf e∧(f x).all datB=true):View c st (.own r n) (.sl e (xs.map f)):=
  View.ownB (o:=⟨e,xs.map f⟩) ho (by simpa using hn) fun row hr=>by obtain⟨x,_,rfl⟩:=List.mem_map.1 hr;exact h x
theorem Zms{α:Type}{f:α→List AV}{s:List (Option Nat)}{hp:List (Option Own)}{r n e sz:Nat}{xs:List α}(h1:s.contains (some r)=false)(h2:nth hp r=some ⟨e,xs.map f⟩)(hn:xs.length=n)(hd: ∀ x,(f x).length=sz∧(f x).all datB=true):
    RenR (ZiY s hp) (.own r n) (.sl e (xs.map f)):=
  .frz ⟨h1,h2,by simpa using hn,fun row hr=>by obtain⟨x,_,rfl⟩:=List.mem_map.1 hr;exact(hd x).2⟩
theorem View.nils{c:Ctx}{st:St}(e:TypeId):View c st .nils (.sl e []):=(Dat.nils e).view
end Go.Vx

namespace Go.Vx
open Go Go.RowKit
theorem ZiW{β γ:Type}{k:β→Option γ}{r:γ}(h:(none:Option β).bind k=some r):False:=by cases h
theorem Zbu{q:Rw}{r r' n n':Nat}(hn:n=n')(h:q.R r r'):RenR q (.own r n) (.own r' n'):=by subst hn;exact .own n h
theorem Zh0{c:Ctx}{st:St}{rs:Array ResultVar}{res:AV}{os':List (Option Own)}(s:List (Option Nat)){rs':List ResultVar}{ds:List AV}(h1:rs=rs'.toArray)(h2:RetWs c st rs' ds)(h3:SelHp c.P (ZiY s st.hp) st.hp s os')
    (h4:dupL s os'=true) (h5:ZiU 0 c.n0 s=true) (h6:RenR (ZiY s st.hp) (Zoe ds) res):ZqT c rs res os' .normal st:=⟨s,rs',ds,h1,h2,h3,h4,h5,h6⟩
theorem ZqH{c:Ctx}{x y:Code}{st:St}{K:Exit→St→Prop}(h1:T c y st K):T c (.cond (.const (.bool false)) x y) st K:=
  fun φ a w hc=>wp_cond_split (t:=false) rfl (fun h=>by cases h) (fun _=>h1 φ a w hc)
section ops
variable {c:Ctx} {ops:Array Oper} {st:St} {dst:Option Tmp} {ty:TypeId} {pos:String} {after:Array Edge}
theorem Zi{x:Operand}{r n i j:Nat}{o:Own}(h:Opv c st x (.ptr r n i j))(ho:nth st.hp r=some o)(hn:o.es.length=n):SVal c ops st ⟨dst,.nilCheck x,ty,pos,after,none⟩ (.ptr r n i j):=
  .pure rfl fun φ a w hc=>by
    have hO:=hc.hok.obj r o ho
    obtain⟨b,hb,hx⟩:=Zbb (h φ a w hc) (by rw [hO.len,hn])
    exact⟨a.eval x,by simp only [execOp,hx];rfl,h φ a w hc⟩
theorem ZG{x:Operand}{cells:List AV}{o:Nat}(h:Opv c st x (.rp cells o)):SVal c ops st ⟨dst,.nilCheck x,ty,pos,after,none⟩ (.rp cells o):=
  .pure rfl fun φ a w hc=>by
    have hr:=ZhE (h φ a w hc)
    refine⟨a.eval x,?_,h φ a w hc⟩
    generalize hx:a.eval x=ax at hr
    cases hr with
    |rp _ b base _ us _ _ _ _=>simp only [execOp,hx];rfl
theorem Zmh{e u:TypeId}{t:Nat}{x:Operand}{rest:List Oper}{l:List (List AV)}{K:Exit→St→Prop}(h:Opv c st x (.sl e l))(ht:(match c.P.underlying t with |some (.slice _)=>true |_=>false)=true)(hd:dstLt dst c.nt=true)
    (k: ∀ b,(b=true→l= [])→R c ops rest (st.puto dst (.bool b)) K):R c ops (⟨dst,.binOp .eql t x (.const (.slice none 0 0)) u,ty,pos,after,none⟩::rest) st K:=by
  intro φ a w hc
  have hu: ∃ e',c.P.underlying t=some (.slice e'):=by
    split at ht
    · rename_i e' hu;exact⟨e',hu⟩
    · cases ht
  obtain⟨e',hu⟩:=hu
  have hr:=ZhJ (h φ a w hc)
  generalize hx:a.eval x=ax at hr
  have key: ∀ (ad:Option Addr) n cp,ax= .slice ad n cp→(execOp a.eval ⟨dst,.binOp .eql t x (.const (.slice none 0 0)) u,ty,pos,after,none⟩).run c.P w= .ok (.value (.bool ad.isNone)) w:=by
    intro ad n cp hax
    subst hax
    show((do pure (Next.value (←(do eqGuard .eql t x (.const (.slice none 0 0)) (a.eval x) (.slice none 0 0);binOp .eql t (a.eval x) (.slice none 0 0):Sem Value))):Sem Next)).run c.P w=_
    rw [hx]
    have he:(Op.equal t (.slice ad n cp) (.slice none 0 0)).run c.P w= .ok ad.isNone w:=by
      unfold Op.equal Op.maxDepth
      show(Op.equalIn (9999+1) t _ _).run c.P w=_
      generalize 9999=d
      cases ad with
      |none=>unfold Op.equalIn;rw [Sem.run_bind,run_underlying hu];rfl
      |some b=>unfold Op.equalIn;rw [Sem.run_bind,run_underlying hu];rfl
    have hb:(binOp .eql t (.slice ad n cp) (.slice none 0 0)).run c.P w= .ok (.bool ad.isNone) w:=by
      show((do pure (Value.bool (←Op.equal t (.slice ad n cp) (.slice none 0 0))):Sem Value)).run c.P w=_
      rw [Sem.run_bind,he];rfl
    rw [Sem.run_bind]
    show(((do eqGuard .eql t x (.const (.slice none 0 0)) (.slice ad n cp) (.slice none 0 0);binOp .eql t (.slice ad n cp) (.slice none 0 0):Sem Value)).run c.P w).andThen _=_
    rw [Sem.run_bind]
    have hg:(eqGuard .eql t x (.const (.slice none 0 0)) (.slice ad n cp) (.slice none 0 0)).run c.P w= .ok () w:=rfl
    rw [hg]
    simp only [Result.andThen_ok]
    rw [hb]
    rfl
  have go: ∀ ad n cp,ax= .slice ad n cp→(ad.isNone=true→l= [])→wpList c.P ops (ZoI c K) (⟨dst,.binOp .eql t x (.const (.slice none 0 0)) u,ty,pos,after,none⟩::rest) a w:=by
    intro ad n cp hax hb
    unfold wpList
    rw [pG (ZbC rfl)]
    left
    unfold Oper.wp
    rw [key ad n cp hax]
    exact k _ hb φ _ _ (hc.puto hd (Zt (.bool _)))
  cases hr with
  |sl0 _ ad cp=>exact go ad 0 cp rfl fun _=>rfl
  |sl _ _ b off cp us=>exact go (some ⟨b,off,none⟩) _ cp rfl fun h=>by cases h
theorem Zlp{α:Type}{f:α→List AV}{x y:Operand}{t e sz by_ r n:Nat}{xs:List α}(h:Opv c st x (.own r n))(hy:SlV c st y sz [])(ht:tSl c.P t e sz by_=true)
    (ho:nth st.hp r=some ⟨e,xs.map f⟩) (hn:xs.length=n):
    WVal c ops st ⟨dst,.call {callee:= .builtin .append,args:= #[x,y],argTypes:= #[t,t]},ty,pos,after,none⟩ (.own r n) st.hp:=by
  refine .run rfl fun φ a w hc=> ?_
  obtain⟨hu,inf,z,hi,hs,hby,hn0,hz,hzs,hcs⟩:=tSl.spec ht
  have hO:=hc.hok.obj r _ ho
  have hx:=JZ (h φ a w hc) (by rw [hO.len];simpa using hn)
  obtain⟨base,cap,hyv,_,_,_⟩:=hy φ a w hc
  have hroom:n≤(φ r).cap:=by have:=hO.room;simpa [hn] using this
  refine⟨_,w,φ,?_,hc.hok,fun _ _ h=>h,h φ a w hc⟩
  simp only [List.length_nil] at hyv
  have hfc:(Builtin.firstCells inf.size 0 (.slice base 0 cap)).run c.P w= .ok #[] w:=by
    cases base with
    |none=>rfl
    |some b=>simp [Builtin.firstCells,loadCells,loadCellsFrom]
  have:(Builtin.append_ #[t,t] ty #[a.eval x,a.eval y]).run c.P w= .ok (a.eval x) w:=by
    rw [hx,hyv]
    cases hb:(φ r).blk with
    |none=>simp [Builtin.append_,run_underlying hu,sizeOf,typeInfo,hi,Builtin.lenOf,hroom,hfc]
    |some b=>simp [Builtin.append_,run_underlying hu,sizeOf,typeInfo,hi,Builtin.lenOf,hroom,hfc,storeCells]
  simp only [execOp,resolve,invoke,builtin]
  simp [this]
theorem Zaj{α:Type}{f:α→List AV}{x y:Operand}{t e sz by_ r n s:Nat}{xs ys zs:List α}(h:Opv c st x (.own r n))(hy:SlV c st y sz (ys.map f))(ht:tSl c.P t e sz by_=true)
    (ho:nth st.hp r=some ⟨e,xs.map f⟩) (hn:xs.length=n) (h1: ∀ u,∀ v∈f u,ZgU c st v) (hby:Nat.ble by_ s=true) (hz:apz s xs ys=some zs):
    WVal c ops st ⟨dst,.call {callee:= .builtin .append,args:= #[x,y],argTypes:= #[t,t]},ty,pos,after,none⟩ (.own r zs.length) (Xh st.hp r (some ⟨e,zs.map f⟩)):=by
  cases ys with
  |cons u ys=>exact QK h hy ht ho hn rfl h1 hby hz
  |nil=>
    unfold apz at hz
    split at hz
    · simp only [List.append_nil,Option.some.injEq] at hz
      subst hz
      have hset:Xh st.hp r (some (⟨e,xs.map f⟩:Own))=st.hp:=by
        generalize st.hp=hp at ho
        clear h hy
        induction hp generalizing r with
        |nil=>cases ho
        |cons o hp ih=>
          cases r with
          |zero=>simp only [nth] at ho;simp [Xh,ho]
          |succ r=>simp only [nth] at ho;simp only [Xh];rw [ih ho]
      rw [hset,hn]
      exact Zlp h hy ht ho hn
    · cases hz
end ops
end Go.Vx

namespace Go.Vx
open Go Go.RowKit
def ZY{α:Type}{n:Nat}(v:Vector α n)(i:Int):Option α:=if 0≤i then v.toList[i.toNat]? else none
theorem ZeW{α:Type}{n:Nat}{v:Vector α n}{i:Int}{x:α}(h:ZY v i=some x):i=(i.toNat:Int)∧i.toNat<n∧v.toList[i.toNat]?=some x:=by
  unfold ZY at h
  split at h
  · have:=(List.getElem?_eq_some_iff.1 h).1
    simp at this
    exact⟨by omega,this,h⟩
  · cases h
def ZaB{α:Type}{n:Nat}(v:Vector α n)(i:Int)(x:α):Vector α n:=v.setIfInBounds i.toNat x
theorem ZlN{α:Type}{n:Nat}(v:Vector α n)(i:Int)(x:α):(ZaB v i x).toList=v.toList.set i.toNat x:=by simp [ZaB]
section
variable {α:Type} {n:Nat} {v:Vector α n} {f:α→AV} {z:Int} {u:α}
theorem arL:(v.toList.map f).length=n:=by simp
theorem arD(h: ∀ x,datB (f x)=true):(v.toList.map f).all datB=true:=by simp [List.all_eq_true,h]
theorem arC(h: ∀ x,c1B (f x)=true):(v.toList.map f).all c1B=true:=by simp [List.all_eq_true,h]
theorem arB(h:ZY v z=some u){x:AV}:(0+z.toNat*1)+ [x].length≤(v.toList.map f).length:=by
  obtain⟨_,h2,_⟩:=ZeW h
  simp;omega
theorem arS(h:ZY v z=some u){x:α}:(v.toList.map f).take (0+z.toNat*1)++([f x]++(v.toList.map f).drop ((0+z.toNat*1)+ [f x].length))=(ZaB v z x).toList.map f:=by
  obtain⟨_,h2,_⟩:=ZeW h
  rw [ZlN]
  have hlt:z.toNat<(v.toList.map f).length:=by simpa using h2
  rw [List.map_set,List.set_eq_take_append_cons_drop,pG (by simpa using hlt)]
  simp
end
section ops
variable {c:Ctx} {ops:Array Oper} {st:St} {dst:Option Tmp} {ty:TypeId} {pos:String} {after:Array Edge}
theorem Zbg{α:Type}{m:Nat}{v:Vector α m}{x y:Operand}{t e n r q i j:Nat}{k:IntKind}{z:Int}{o:Own}{u:α}(h:Opv c st x (.ptr r q i j))(hy:Opv c st y (.int k z))(ht:tArr c.P t m e n=true)
    (ho:nth st.hp r=some o) (hq:o.es.length=q) (hx:ZY v z=some u):SVal c ops st ⟨dst,.indexAddr t x y,ty,pos,after,none⟩ (.ptr r q i (j+z.toNat*n)):=by
  obtain⟨h1,h2,_⟩:=ZeW hx
  exact ZsE h hy ht ho hq h1 h2
theorem Q6{α:Type}{m:Nat}{v:Vector α m}{x y:Operand}{t e n o:Nat}{k:IntKind}{z:Int}{cells:List AV}{u:α}(h:Opv c st x (.rp cells o))(hy:Opv c st y (.int k z))(ht:tArr c.P t m e n=true)
    (hx:ZY v z=some u):SVal c ops st ⟨dst,.indexAddr t x y,ty,pos,after,none⟩ (.rp cells (o+z.toNat*n)):=by
  obtain⟨h1,h2,_⟩:=ZeW hx
  exact ZsG h hy ht h1 h2
theorem ZhH{α:Type}{n:Nat}{v:Vector α n}{f:α→AV}{x y:Operand}{t e:Nat}{k:IntKind}{z:Int}{u:α}(h:Opv c st x (.agg (v.toList.map f)))(hy:Opv c st y (.int k z))(ht:tArr c.P t n e 1=true)(he:tScal c.P e=true)
    (hx:ZY v z=some u):SVal c ops st ⟨dst,.index t x y,ty,pos,after,none⟩ (f u):=by
  obtain⟨h1,h2,h3⟩:=ZeW hx
  exact Zo0 h hy ht he h1 h2 (by simp [h3])
end ops
end Go.Vx
