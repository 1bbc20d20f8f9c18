/- A text of the proof: a verified executor of the program form, or the contracts of the functions that the law reaches. -/
import Derived.Test.YtgohgnaapbpggaaGreatDoorVA
import Derived.Laws.CopyRow
import Derived.Laws.Append
set_option linter.all false
namespace Go.Vx
open Go Go.RowKit
def tAgg(P:Program)(t n:Nat):Bool:=
  match P.info? t with
  |some i=>(Nat.beq i.size n&&Nat.blt 0 n)&&(match P.underlying t with |some (.struct _)=>true |some (.array _ _)=>true |_=>false)
  |none=>false
def tScal(P:Program)(t:Nat):Bool:=
  match P.info? t with
  |some i=>Nat.beq i.size 1&&(match P.underlying t with |some (.struct _)=>false |some (.array _ _)=>false |some _=>true |none=>false)
  |none=>false
def tSl(P:Program)(t e n by_:Nat):Bool:=
  (match P.underlying t with |some (.slice e')=>Nat.beq e' e |_=>false)&&
  (match P.info? e with |some i=>Nat.beq i.size n&&Nat.beq i.bytes by_&&Nat.blt 0 n&&(match i.zero with |some z=>Nat.beq z.cells.size n |none=>false) |none=>false)
def tArr(P:Program)(t len e n:Nat):Bool:=
  (match P.underlying t with |some (.array l e')=>Nat.beq l len&&Nat.beq e' e |_=>false)&&
  (match P.info? e with |some i=>Nat.beq i.size n |none=>false)
def tFld(P:Program)(s f off:Nat):Bool:=
  match P.underlying s with
  |some (.struct fs)=>(match fs[f]? with
    |some fd=>Nat.beq fd.offset off&&(match P.info? fd.type with |some i=>Nat.blt 0 i.size |none=>false)
    |none=>false)
  |_=>false
def JM(P:Program)(t:Nat):Option (List Value):=match P.info? t with |some i=>i.zero.map fun z=>z.cells.toList |none=>none
theorem tAgg.spec{P:Program}{t n:Nat}(h:tAgg P t n=true): ∃ i d,P.info? t=some i∧i.size=n∧P.underlying t=some d∧d.isRow=true∧P.cellsOf t=n∧0<n:=by
  unfold tAgg at h
  split at h
  · rename_i i hi
    simp only [Bool.and_eq_true] at h
    have h1:=Nat.eq_of_beq_eq_true h.1.1
    have h0:0<n:=by simpa using h.1.2
    have hc:P.cellsOf t=n:=by simp [Program.cellsOf,hi,h1]
    split at h
    · exact⟨i,_,hi,h1,by assumption,rfl,hc,h0⟩
    · exact⟨i,_,hi,h1,by assumption,rfl,hc,h0⟩
    · simp at h
  · cases h
theorem tScal.spec{P:Program}{t:Nat}(h:tScal P t=true): ∃ i d,P.info? t=some i∧i.size=1∧P.underlying t=some d∧d.isRow=false∧P.cellsOf t=1:=by
  unfold tScal at h
  split at h
  · rename_i i hi
    simp only [Bool.and_eq_true] at h
    have h1:=Nat.eq_of_beq_eq_true h.1
    have hc:P.cellsOf t=1:=by simp [Program.cellsOf,hi,h1]
    have h2:=h.2
    split at h2
    · cases h2
    · cases h2
    · rename_i d hd1 hd2 hu
      refine⟨i,d,hi,h1,hu,?_,hc⟩
      cases d<;>first |rfl |exact absurd rfl (hd1 _) |exact absurd rfl (hd2 _ _)
    · cases h2
  · cases h
theorem tSl.spec{P:Program}{t e n by_:Nat}(h:tSl P t e n by_=true):P.underlying t=some (.slice e)∧ ∃ i z,P.info? e=some i∧i.size=n∧i.bytes=by_∧0<n∧i.zero=some z∧z.cells.size=n∧P.cellsOf e=n:=by
  unfold tSl at h
  simp only [Bool.and_eq_true] at h
  obtain⟨h1,h2⟩:=h
  split at h1
  · rename_i e' hu
    have he:=Nat.eq_of_beq_eq_true h1
    subst he
    split at h2
    · rename_i i hi
      simp only [Bool.and_eq_true] at h2
      obtain⟨⟨⟨h3,h4⟩,h5⟩,h6⟩:=h2
      split at h6
      · rename_i z hz
        have h3':=Nat.eq_of_beq_eq_true h3
        exact⟨hu,i,z,hi,h3',Nat.eq_of_beq_eq_true h4,by simpa using h5,hz,Nat.eq_of_beq_eq_true h6,by simp [Program.cellsOf,hi,h3']⟩
      · cases h6
    · cases h2
  · cases h1
theorem tArr.spec{P:Program}{t len e n:Nat}(h:tArr P t len e n=true):P.underlying t=some (.array len e)∧ ∃ i,P.info? e=some i∧i.size=n:=by
  unfold tArr at h
  simp only [Bool.and_eq_true] at h
  obtain⟨h1,h2⟩:=h
  split at h1
  · rename_i l e' hu
    simp only [Bool.and_eq_true] at h1
    have he:=Nat.eq_of_beq_eq_true h1.2
    have hl:=Nat.eq_of_beq_eq_true h1.1
    subst he hl
    split at h2
    · rename_i i hi
      exact⟨hu,i,hi,Nat.eq_of_beq_eq_true h2⟩
    · cases h2
  · cases h1
theorem tFld.spec{P:Program}{s f off:Nat}(h:tFld P s f off=true): ∃ fs fd i,P.underlying s=some (.struct fs)∧fs[f]?=some fd∧fd.offset=off∧P.info? fd.type=some i∧i.size≠0:=by
  unfold tFld at h
  split at h
  · rename_i fs hu
    split at h
    · rename_i fd hf
      simp only [Bool.and_eq_true] at h
      obtain⟨h1,h2⟩:=h
      split at h2
      · rename_i i hi
        exact⟨fs,fd,i,hu,hf,Nat.eq_of_beq_eq_true h1,hi,by simp at h2;omega⟩
      · cases h2
    · cases h
  · cases h
theorem Zcu{P:Program}(w:World)(b o t:Nat)(v:Value)(ht:tScal P t=true)(hc:w.cell? ⟨b,o,none⟩=some v):
    (Instr.loadAt t (.pointer (some ⟨b,o,none⟩))).run P w= .ok v w:=by
  obtain⟨i,d,hi,_,hu,hd,_⟩:=tScal.spec ht
  have hagg:(isAgg t).run P w= .ok false w:=by
    unfold isAgg
    rw [Sem.run_bind,run_underlying hu w]
    cases d<;>simp_all
  simp [Instr.loadAt,Instr.sureAddr,loadVar,Sem.run_bind,hagg,load,Sem.run,hc]
theorem Zc6{P:Program}(w:World)(b o t n:Nat)(cs:List Value)(ht:tAgg P t n=true)(hn:cs.length=n)(hc: ∀ j,j<n→w.cell? ⟨b,o+j,none⟩=some (cs.getD j undef)):
    (Instr.loadAt t (.pointer (some ⟨b,o,none⟩))).run P w= .ok (.agg cs.toArray) w:=by
  obtain⟨i,d,hi,hs,hu,hd,_,_⟩:=tAgg.spec ht
  refine run_loadAt_mid w b o t cs d (fun j v hv=> ?_) hu hd (by simp [hi,hs,hn])
  have hlt:j<cs.length:=(List.getElem?_eq_some_iff.1 hv).1
  rw [hc j (by omega)]
  simp [gQ,hv]
theorem Z0{w:World}{b off:Nat}{cs:Array Value}{e:TypeId}{fr:Nat×Nat}(h:w.heap[b]?=some (.cells cs e fr)):w.cell? ⟨b,off,none⟩=cs[off]?:=by
  simp [World.cell?,h]
theorem Zbb{P:Program}{w:World}{M:Nat→Prop}{m:Nat}{φ:Phi}{r n i j:Nat}{v:Value}(h:RelF P w M m φ (.ptr r n i j) v):
    (φ r).n=n→ ∃ b,(φ r).blk=some b∧v= .pointer (some ⟨b,i*(φ r).sz+j,none⟩):=by
  have:=h φ (fun _ _=>rfl)
  cases this with
  |data h=>cases h
  |ptr _ _ _ _ _ _ _ h=>exact fun e=>(h e).2
theorem Jk{P:Program}{w:World}{M:Nat→Prop}{m:Nat}{φ:Phi}{r n i j:Nat}{v:Value}(h:RelF P w M m φ (.ptr r n i j) v):(φ r).n=n→(φ r).mp=false:=by
  have:=h φ (fun _ _=>rfl)
  cases this with
  |data h=>cases h
  |ptr _ _ _ _ _ _ _ h=>exact fun e=>(h e).1
theorem JZ{P:Program}{w:World}{M:Nat→Prop}{m:Nat}{φ:Phi}{r n:Nat}{v:Value}(h:RelF P w M m φ (.own r n) v):
    (φ r).n=n→v= .slice ((φ r).blk.map fun b=>⟨b,0,none⟩) n (φ r).cap:=by
  have:=h φ (fun _ _=>rfl)
  cases this with
  |data h=>cases h
  |own _ _ _ _ _ h=>exact fun e=>(h e).2
theorem XY{P:Program}{w:World}{M:Nat→Prop}{m:Nat}{φ:Phi}{r n:Nat}{v:Value}(h:RelF P w M m φ (.own r n) v):(φ r).n=n→(φ r).mp=false:=by
  have:=h φ (fun _ _=>rfl)
  cases this with
  |data h=>cases h
  |own _ _ _ _ _ h=>exact fun e=>(h e).1
theorem Zfg{P:Program}{w:World}{M:Nat→Prop}{m:Nat}{φ:Phi}{av:AV}{v:Value}(h:RelF P w M m φ av v):noSub av=true:=Zsl (h φ (fun _ _=>rfl))
def NS(l:List AV):Prop:= ∀ x∈l,noSub x=true
theorem nsR{l:List AV}(h:l.all noSub=true):NS l:=fun x hx=>List.all_eq_true.1 h x hx
theorem nsM{α:Type}{f:α→AV}{l:List α}(h: ∀ x,noSub (f x)=true):NS (l.map f):=fun x hx=>by obtain⟨y,_,rfl⟩:=List.mem_map.1 hx;exact h y
theorem nsA{l m:List AV}(h:NS l)(k:NS m):NS (l++m):=fun x hx=>(List.mem_append.1 hx).elim (h x) (k x)
theorem nsC{x:AV}{m:List AV}(h:noSub x=true)(k:NS m):NS (x::m):=fun y hy=>(List.mem_cons.1 hy).elim (fun e=>e▸h) (k y)
theorem NS.getD{l:List AV}(h:NS l){i:Nat}(hi:i<l.length):noSub (l.getD i .any)=true:=by
  have:l.getD i .any=l[i]:=by simp [gQ,hi]
  rw [this];exact h _ (List.getElem_mem _)
theorem NS.getD'{l:List AV}(h:NS l)(i:Nat):noSub (l.getD i .any)=true:=by
  by_cases hi:i<l.length
  · exact h.getD hi
  · rw [gQ,List.getElem?_eq_none (by omega)];rfl
theorem Zn5{P:Program}{w:World}{M:Nat→Prop}{φ:Phi}{l:List AV}{v:Value}(h:Rel P w M φ (.agg l) v):
    ∃ vs,v= .agg vs∧l.length=vs.size∧ ∀ i,i<l.length→Rel P w M φ (l.getD i .any) (vs.getD i undef):=by
  cases h with
  |data h=>cases h with |agg _ vs h1 h2=>exact⟨vs,rfl,h1,fun i hi=> .data (h2 i hi)⟩
  |agg _ vs h1 h2=>exact⟨vs,rfl,h1,h2⟩
theorem Zcg{P:Program}{w:World}{M:Nat→Prop}{m:Nat}{φ:Phi}{l:List AV}{v:Value}(h:RelF P w M m φ (.agg l) v):
    ∃ vs,v= .agg vs∧l.length=vs.size∧ ∀ i,i<l.length→RelF P w M m φ (l.getD i .any) (vs.getD i undef):=by
  obtain⟨vs,hv,hl,_⟩:=Zn5 (h φ (fun _ _=>rfl))
  refine⟨vs,hv,hl,fun i hi φ' hφ=> ?_⟩
  obtain⟨vs',hv',_,h2⟩:=Zn5 (h φ' hφ)
  rw [hv] at hv'
  cases hv'
  exact h2 i hi
theorem ZlB{P:Program}{w:World}{M:Nat→Prop}{φ:Phi}{l:List AV}{v:Value}(h:Rel P w M φ (.tuple l) v):
    ∃ vs,v= .tuple vs∧l.length=vs.size∧ ∀ i,i<l.length→Rel P w M φ (l.getD i .any) (vs.getD i undef):=by
  cases h with
  |data h=>cases h with |tuple _ vs h1 h2=>exact⟨vs,rfl,h1,fun i hi=> .data (h2 i hi)⟩
  |tuple _ vs h1 h2=>exact⟨vs,rfl,h1,h2⟩
theorem ZeV{P:Program}{w:World}{M:Nat→Prop}{m:Nat}{φ:Phi}{l:List AV}{vs:Array Value}(h1:l.length=vs.size)(h2: ∀ i,i<l.length→RelF P w M m φ (l.getD i .any) (vs.getD i undef)):
    RelF P w M m φ (.agg l) (.agg vs):=fun φ' hφ=> .agg l vs h1 fun i hi=>h2 i hi φ' hφ
theorem ZhE{P:Program}{w:World}{M:Nat→Prop}{m:Nat}{φ:Phi}{l:List AV}{off:Nat}{v:Value}(h:RelF P w M m φ (.rp l off) v):RelD P w M (.rp l off) v:=by
  have:=h φ (fun _ _=>rfl)
  cases this with |data h=>exact h
theorem ZhJ{P:Program}{w:World}{M:Nat→Prop}{m:Nat}{φ:Phi}{e:TypeId}{l:List (List AV)}{v:Value}(h:RelF P w M m φ (.sl e l) v):RelD P w M (.sl e l) v:=by
  have:=h φ (fun _ _=>rfl)
  cases this with |data h=>exact h
theorem getD_of_get?{α:Type}{l:List α}{i:Nat}{x d:α}(h:l[i]?=some x):l.getD i d=x:=by simp [gQ,h]
theorem ZbD{i n j m:Nat}(hi:i<n)(hj:j<m):i*m+j<n*m:=by
  have h1:i*m+j<i*m+m:=by omega
  have h2:i*m+m=(i+1)*m:=by rw [Nat.add_mul,Nat.one_mul]
  have h3:(i+1)*m≤n*m:=Nat.mul_le_mul_right m (by omega)
  omega
section ops
variable {c:Ctx} {ops:Array Oper} {st:St} {dst:Option Tmp} {ty:TypeId} {pos:String} {after:Array Edge}
theorem Za6{φ:Phi}{a:Act}{w:World}(hc:Conc c φ st a w){r:Nat}{o:Own}(ho:nth st.hp r=some o){i:Nat}{row:List AV}(hrow:o.es[i]?=some row)(hmp:(φ r).mp=false):
    ∃ b cs,(φ r).blk=some b∧(φ r).n=o.es.length∧(φ r).sz=row.length∧w.heap[b]?=some (.cells cs o.elem (0,0))∧row.length=c.P.cellsOf o.elem∧
      cs.size=(φ r).cap*row.length∧i<(φ r).cap∧
      (∀ j,j<row.length→i*row.length+j<cs.size)∧ ∀ j,j<row.length→noSub (row.getD j .any)=true→RelF c.P w (Mut c.A φ st.hp) st.hp.length φ (row.getD j .any) (cs.getD (i*row.length+j) undef):=by
  have hO:=hc.hok.obj r o ho
  have hi:i<o.es.length:=(List.getElem?_eq_some_iff.1 hrow).1
  have hmem:row∈o.es:=List.mem_of_getElem? hrow
  have hrl:=hO.rows row hmem
  cases hb:(φ r).blk with
  |none=>have:=(hO.none hb).1;rw [this] at hi;simp at hi
  |some b=>
    obtain⟨cs,h1,h2,h3⟩:=hO.some b hb
    have hcap:=hO.room
    refine⟨b,cs,rfl,hO.len,by rw [hO.sz,hrl],h1.cells hmp,hrl,by rw [h2,hrl],by omega,fun j hj=> ?_,fun j hj hn=> ?_⟩
    · rw [h2,←hrl];exact ZbD (by omega) hj
    · have e:cellAt o.es i j=row.getD j .any:=by unfold cellAt;rw [getD_of_get? hrow]
      have:=h3.plain hi (j:=j) (by omega) (by rw [e];exact hn)
      rw [hrl]
      rw [e] at this
      exact this
theorem Qt{x:Operand}{r n i j t sz:Nat}{o:Own}{row l:List AV}(h:Opv c st x (.ptr r n i j))(ho:nth st.hp r=some o)(hn:o.es.length=n)(hrow:o.es[i]?=some row)
    (ht:tAgg c.P t sz=true) (hl:(row.drop j).take sz=l) (hlen:l.length=sz) (hns:NS l:=by first |exact nsR rfl |exact nsM (fun _=>rfl)):SVal c ops st ⟨dst,.load t x,ty,pos,after,none⟩ (.agg l):=
  .pure rfl fun φ a w hc=>by
    obtain⟨b,cs,h1,h2,h3,h4,h5,_,_,h6,h7⟩:=Za6 hc ho hrow (Jk (h φ a w hc) (by rw [(hc.hok.obj r o ho).len,hn]))
    obtain⟨b',hb',hx⟩:=Zbb (h φ a w hc) (by rw [h2,hn])
    rw [h1] at hb';cases hb'
    obtain⟨_,_,_,_,_,_,_,hsz0⟩:=tAgg.spec ht
    have hjl:j+sz≤row.length:=by rw [←hl] at hlen;simp at hlen;omega
    refine⟨.agg ((cs.toList.drop (i*row.length+j)).take sz).toArray,?_,?_⟩
    · simp only [execOp,hx,h3]
      rw [Sem.run_bind,Zc6 w b (i*row.length+j) t sz _ ht]
      · rfl
      · simp
        have:=h6 (j+sz-1) (by omega)
        omega
      · intro k hk
        rw [Z0 h4]
        have:=h6 (j+k) (by omega)
        simp [gQ,hk,List.getElem?_drop]
        have e:i*row.length+j+k=i*row.length+(j+k):=by omega
        rw [e,Array.getElem?_eq_getElem (by omega)]
        simp
    · refine ZeV ?_ fun k hk=> ?_
      · simp [hlen]
        have:=h6 (j+sz-1) (by omega)
        omega
      · have e1:l.getD k .any=row.getD (j+k) .any:=by
          rw [←hl];simp [gQ,List.getElem?_drop,show k<sz by omega]
        have h8:=h7 (j+k) (by omega) (by rw [←e1];exact hns.getD hk)
        have e2:((cs.toList.drop (i*row.length+j)).take sz).toArray.getD k undef=cs.getD (i*row.length+(j+k)) undef:=by
          simp [Array.getD_eq_getD_getElem?,List.getElem?_drop,show k<sz by omega,Nat.add_assoc]
        rw [e1,e2];exact h8
theorem Zl{x:Operand}{r n i j t:Nat}{o:Own}{row:List AV}{v:AV}(h:Opv c st x (.ptr r n i j))(ho:nth st.hp r=some o)(hn:o.es.length=n)(hrow:o.es[i]?=some row)
    (ht:tScal c.P t=true) (hv:row[j]?=some v) (hns:noSub v=true:=by rfl):SVal c ops st ⟨dst,.load t x,ty,pos,after,none⟩ v:=
  .pure rfl fun φ a w hc=>by
    obtain⟨b,cs,h1,h2,h3,h4,h5,_,_,h6,h7⟩:=Za6 hc ho hrow (Jk (h φ a w hc) (by rw [(hc.hok.obj r o ho).len,hn]))
    obtain⟨b',hb',hx⟩:=Zbb (h φ a w hc) (by rw [h2,hn])
    rw [h1] at hb';cases hb'
    have hj:j<row.length:=(List.getElem?_eq_some_iff.1 hv).1
    have h6':=h6 j hj
    refine⟨cs.getD (i*row.length+j) undef,?_,?_⟩
    · simp only [execOp,hx,h3]
      rw [Sem.run_bind,Zcu w b (i*row.length+j) t _ ht]
      · rfl
      · rw [Z0 h4,Array.getElem?_eq_getElem h6'];simp [h6']
    · have:=h7 j hj (by rw [getD_of_get? hv];exact hns)
      rw [getD_of_get? hv] at this
      exact this
theorem Z3{x:Operand}{t sz off:Nat}{cells l:List AV}(h:Opv c st x (.rp cells off))(ht:tAgg c.P t sz=true)(hl:(cells.drop off).take sz=l)(hlen:l.length=sz):
    SVal c ops st ⟨dst,.load t x,ty,pos,after,none⟩ (.agg l):=
  .pure rfl fun φ a w hc=>by
    have hr:=ZhE (h φ a w hc)
    generalize hx:a.eval x=ax at hr
    cases hr with
    |rp _ b base _ us hlt hM h1 h2=>
      obtain⟨_,_,_,_,_,_,_,hsz0⟩:=tAgg.spec ht
      have hjl:off+sz≤cells.length:=by rw [←hl] at hlen;simp at hlen;omega
      refine⟨.agg (((List.range sz).map fun k=>us (off+k))).toArray,?_,?_⟩
      · simp only [execOp,hx]
        rw [Sem.run_bind,Zc6 w b (base+off) t sz ((List.range sz).map fun k=>us (off+k)) ht]
        · rfl
        · simp
        · intro k hk
          rw [Nat.add_assoc,h1 (off+k) (by omega)]
          simp [gQ,hk]
      · refine ZeV (by simp [hlen]) fun k hk=>Zt ?_
        have h8:=h2 (off+k) (by omega)
        have e1:l.getD k .any=cells.getD (off+k) .any:=by
          rw [←hl];simp [gQ,List.getElem?_drop,show k<sz by omega]
        rw [e1]
        simpa [Array.getD_eq_getD_getElem?,show k<sz by omega] using h8
theorem Zd{x:Operand}{t off:Nat}{cells:List AV}{v:AV}(h:Opv c st x (.rp cells off))(ht:tScal c.P t=true)(hv:cells[off]?=some v):
    SVal c ops st ⟨dst,.load t x,ty,pos,after,none⟩ v:=
  .pure rfl fun φ a w hc=>by
    have hr:=ZhE (h φ a w hc)
    generalize hx:a.eval x=ax at hr
    cases hr with
    |rp _ b base _ us hlt hM h1 h2=>
      have hj:off<cells.length:=(List.getElem?_eq_some_iff.1 hv).1
      refine⟨us off,?_,Zt ?_⟩
      · simp only [execOp,hx]
        rw [Sem.run_bind,Zcu w b (base+off) t _ ht (h1 off hj)]
        rfl
      · have:=h2 off hj
        rw [getD_of_get? hv] at this
        exact this
theorem Zao(b o n:Nat):(⟨b,o,none⟩:Addr).add n=⟨b,o+n,none⟩:=by unfold Addr.add;split<;>simp_all
theorem ZiN{P:Program}(w:World)(b o s f off:Nat)(ht:tFld P s f off=true):(Instr.fieldAt s (.pointer (some ⟨b,o,none⟩)) f).run P w= .ok (.pointer (some ⟨b,o+off,none⟩)) w:=by
  obtain⟨fs,fd,i,hu,hf,ho,hi,hs⟩:=tFld.spec ht
  simp [Instr.fieldAt,run_underlying hu,hf,Instr.sureAddr,fieldPlace,sizeOf,typeInfo,hi,hs,Zao,ho]
theorem Ze{x:Operand}{r n i j s f off:Nat}{o:Own}(h:Opv c st x (.ptr r n i j))(ho:nth st.hp r=some o)(hn:o.es.length=n)(ht:tFld c.P s f off=true):
    SVal c ops st ⟨dst,.fieldAddr s x f,ty,pos,after,none⟩ (.ptr r n i (j+off)):=
  .pure rfl fun φ a w hc=>by
    have hO:=hc.hok.obj r o ho
    obtain⟨b,hb,hx⟩:=Zbb (h φ a w hc) (by rw [hO.len,hn])
    refine⟨.pointer (some ⟨b,i*(φ r).sz+j+off,none⟩),?_,?_⟩
    · simp only [execOp,hx]
      rw [Sem.run_bind,ZiN w b _ s f off ht]
      rfl
    · intro φ' hφ
      have e:φ' r=φ r:=hφ r (XA ho)
      refine .ptr r n i (j+off) _ rfl (by rw [e,hO.len,hn];exact Nat.le_refl _) fun _=>⟨by rw [e];exact Jk (h φ a w hc) (by rw [hO.len,hn]),b,by rw [e];exact hb,by rw [e,Nat.add_assoc]⟩
theorem Zv{x:Operand}{cells:List AV}{o s f off:Nat}(h:Opv c st x (.rp cells o))(ht:tFld c.P s f off=true):
    SVal c ops st ⟨dst,.fieldAddr s x f,ty,pos,after,none⟩ (.rp cells (o+off)):=
  .pure rfl fun φ a w hc=>by
    have hr:=ZhE (h φ a w hc)
    generalize hx:a.eval x=ax at hr
    cases hr with
    |rp _ b base _ us hlt hM h1 h2=>
      refine⟨.pointer (some ⟨b,base+o+off,none⟩),?_,Zt ?_⟩
      · simp only [execOp,hx]
        rw [Sem.run_bind,ZiN w b _ s f off ht]
        rfl
      · rw [Nat.add_assoc];exact .rp cells b base (o+off) us hlt hM h1 h2
theorem ZsN{x y:Operand}{t e n by_ m:Nat}{k:IntKind}{z:Int}{l:List (List AV)}{row:List AV}(h:Opv c st x (.sl e l))(hy:Opv c st y (.int k z))(ht:tSl c.P t e n by_=true)
    (hz:z=(m:Int)) (hrow:l[m]?=some row):SVal c ops st ⟨dst,.indexAddr t x y,ty,pos,after,none⟩ (.rp row 0):=
  .pure rfl fun φ a w hc=>by
    have hr:=ZhJ (h φ a w hc)
    have e1:=hy.int hc
    obtain⟨hu,i,zz,hi,hs,hby,hn0,_,_,hcs⟩:=tSl.spec ht
    have hm:m<l.length:=(List.getElem?_eq_some_iff.1 hrow).1
    generalize hx:a.eval x=ax at hr
    cases hr with
    |sl0 _ _ _=>simp at hm
    |sl _ _ b off c' us hlt hM h1 h1' h2 h3 h4=>
      refine⟨.pointer (some ⟨b,off+m*n,none⟩),?_,Zt ?_⟩
      · subst hz
        simp [execOp,hx,e1,Instr.indexAt,asIntOf,run_underlying hu,sizeOf,typeInfo,hi,hs,Zao];intro h';omega
      · have:=RelD.rp (P:=c.P) (w:=w) (M:=Mut c.A φ st.hp) row b (off+m*n) 0 (us m) hlt hM (fun j hj=> ?_) (fun j hj=> ?_)
        · simpa using this
        · have hl:=h2 row (List.mem_of_getElem? hrow)
          rw [hcs] at hl
          have:=h3 m j hm (by rw [hcs];omega)
          rw [hcs] at this
          rw [Nat.add_assoc];exact this
        · have hl:=h2 row (List.mem_of_getElem? hrow)
          have:=h4 m j hm (by omega)
          unfold cellAt at this
          rw [getD_of_get? hrow] at this
          exact this
theorem Zq7{x y:Operand}{t e n by_ m r q:Nat}{k:IntKind}{z:Int}{o:Own}(h:Opv c st x (.own r q))(hy:Opv c st y (.int k z))(ht:tSl c.P t e n by_=true)
    (ho:nth st.hp r=some o) (hq:o.es.length=q) (he:c.P.cellsOf o.elem=n) (hz:z=(m:Int)) (hm:m<q):SVal c ops st ⟨dst,.indexAddr t x y,ty,pos,after,none⟩ (.ptr r q m 0):=
  .pure rfl fun φ a w hc=>by
    have hO:=hc.hok.obj r o ho
    have hx:=JZ (h φ a w hc) (by rw [hO.len,hq])
    have e1:=hy.int hc
    obtain⟨hu,i,zz,hi,hs,hby,hn0,_,_,hcs⟩:=tSl.spec ht
    cases hb:(φ r).blk with
    |none=>have:=(hO.none hb).1;rw [this] at hq;simp at hq;omega
    |some b=>
      rw [hb] at hx
      refine⟨.pointer (some ⟨b,0+m*n,none⟩),?_,fun φ' hφ=> ?_⟩
      · subst hz
        simp [execOp,hx,e1,Instr.indexAt,asIntOf,run_underlying hu,sizeOf,typeInfo,hi,hs,Zao];intro h';omega
      · have e:φ' r=φ r:=hφ r (XA ho)
        refine .ptr r q m 0 _ rfl (by rw [e,hO.len,hq];exact Nat.le_refl _) fun _=>⟨by rw [e];exact XY (h φ a w hc) (by rw [hO.len,hq]),b,by rw [e];exact hb,by rw [e,hO.sz,he];simp⟩
theorem ZgN{P:Program}(w:World){t len e n:Nat}(ht:tArr P t len e n=true)(b o:Nat)(k:IntKind)(m:Nat)(hm:m<len):
    (Instr.indexAt t (.pointer (some ⟨b,o,none⟩)) (.int k (m:Int))).run P w= .ok (.pointer (some ⟨b,o+m*n,none⟩)) w:=by
  obtain⟨hu,inf,hi,hs⟩:=tArr.spec ht
  simp [Instr.indexAt,asIntOf,run_underlying hu,sizeOf,typeInfo,hi,hs,Zao,Instr.sureAddr]
  intro h';omega
theorem ZsE{x y:Operand}{t e n len m r q i j:Nat}{k:IntKind}{z:Int}{o:Own}(h:Opv c st x (.ptr r q i j))(hy:Opv c st y (.int k z))(ht:tArr c.P t len e n=true)
    (ho:nth st.hp r=some o) (hq:o.es.length=q) (hz:z=(m:Int)) (hm:m<len):SVal c ops st ⟨dst,.indexAddr t x y,ty,pos,after,none⟩ (.ptr r q i (j+m*n)):=
  .pure rfl fun φ a w hc=>by
    have hO:=hc.hok.obj r o ho
    obtain⟨b,hb,hx⟩:=Zbb (h φ a w hc) (by rw [hO.len,hq])
    have e1:=hy.int hc
    refine⟨.pointer (some ⟨b,i*(φ r).sz+j+m*n,none⟩),?_,fun φ' hφ=> ?_⟩
    · subst hz
      simp only [execOp,hx,e1]
      rw [Sem.run_bind,ZgN w ht _ _ _ _ hm]
      rfl
    · have e:φ' r=φ r:=hφ r (XA ho)
      refine .ptr r q i (j+m*n) _ rfl (by rw [e,hO.len,hq];exact Nat.le_refl _) fun _=>⟨by rw [e];exact Jk (h φ a w hc) (by rw [hO.len,hq]),b,by rw [e];exact hb,by rw [e,Nat.add_assoc]⟩
theorem ZsG{x y:Operand}{t e n len m o:Nat}{cells:List AV}{k:IntKind}{z:Int}(h:Opv c st x (.rp cells o))(hy:Opv c st y (.int k z))(ht:tArr c.P t len e n=true)
    (hz:z=(m:Int)) (hm:m<len):SVal c ops st ⟨dst,.indexAddr t x y,ty,pos,after,none⟩ (.rp cells (o+m*n)):=
  .pure rfl fun φ a w hc=>by
    have hr:=ZhE (h φ a w hc)
    have e1:=hy.int hc
    generalize hx:a.eval x=ax at hr
    cases hr with
    |rp _ b base _ us hlt hM h1 h2=>
      refine⟨.pointer (some ⟨b,base+o+m*n,none⟩),?_,Zt ?_⟩
      · subst hz
        show((do pure (Next.value (←Instr.indexAt t (a.eval x) (a.eval y))):Sem Next)).run c.P w=_
        rw [hx,e1,Sem.run_bind,ZgN w ht _ _ _ _ hm]
        rfl
      · rw [Nat.add_assoc];exact .rp cells b base (o+m*n) us hlt hM h1 h2
theorem Xa{x:Operand}{l:List AV}{i:Nat}{v:AV}(h:Opv c st x (.tuple l))(hv:l[i]?=some v):SVal c ops st ⟨dst,.extract x i,ty,pos,after,none⟩ v:=
  .pure rfl fun φ a w hc=>by
    have hi:i<l.length:=(List.getElem?_eq_some_iff.1 hv).1
    obtain⟨vs,hx,hl,_⟩:=ZlB (h φ a w hc φ (fun _ _=>rfl))
    refine⟨vs.getD i undef,?_,fun φ' hφ=> ?_⟩
    · have:vs[i]?=some (vs.getD i undef):=by rw [Array.getElem?_eq_getElem (by omega)];simp [show i<vs.size by omega]
      have e:Instr.extract (.tuple vs) i= .pure (vs.getD i undef):=by unfold Instr.extract;simp only [this];rfl
      simp only [execOp,hx,e]
      rfl
    · obtain⟨vs',hx',_,h2⟩:=ZlB (h φ a w hc φ' hφ)
      rw [hx] at hx';cases hx'
      have:=h2 i hi
      rw [getD_of_get? hv] at this
      exact this
end ops
end Go.Vx

namespace Go.Vx
open Go Go.RowKit
def c1B:AV→Bool
  | .int _ _ | .bool _ | .str _ | .nils | .sl _ _ | .rp _ _ | .fn _ _ | .own _ _ | .ptr _ _ _ _ | .osl _ _ _ _ | .mref _ _ | .bptr _ _=>true
  | .lit v=>v.oneCell'
  |_=>false
theorem Zip{P:Program}{w:World}{M:Nat→Prop}{n:Nat}{φ:Phi}{av:AV}{v:Value}(h:RelF P w M n φ av v)(hb:c1B av=true):v.oneCell'=true:=by
  have h:=h φ (fun _ _=>rfl)
  cases h with
  |data h=>cases h<;>first |rfl |exact hb |cases hb
  |own _ _ _ h0=>exact h0
  |ptr _ _ _ _ _ h0=>exact h0
  |osl _ _ _ _ _ h0=>exact h0
  |agg=>cases hb
  |tuple=>cases hb
  |fn=>rfl
  |when=>cases hb
  |mref _ _ _ h0=>exact h0
  |bptr _ _ _ h0=>exact h0
def ZgU(c:Ctx)(st:St)(av:AV):Prop:= ∀ φ a w,Conc c φ st a w→ ∀ u,RelF c.P w (Mut c.A φ st.hp) st.hp.length φ av u→u.oneCell'=true
section cell1
variable {c:Ctx} {st:St}
theorem Zn{av:AV}(h:c1B av=true):ZgU c st av:=fun _ _ _ _ _ hu=>Zip hu h
theorem Za{l:List AV}(h:l.all c1B=true): ∀ x∈l,ZgU c st x:=fun x hx=>Zn (List.all_eq_true.1 h x hx)
end cell1
theorem Zly{v:Value}(h:v.oneCell'=true):v.cells= #[v]:=by cases v<;>first |rfl |cases h
section ops
variable {c:Ctx} {ops:Array Oper} {st:St} {dst:Option Tmp} {ty:TypeId} {pos:String} {after:Array Edge}
theorem WVal.run{o:Oper}{v:AV}{hp':List (Option Own)}(hg:o.guard=none)
    (h: ∀ φ a w,Conc c φ st a w→ ∃ u w' φ',(execOp a.eval o).run c.P w= .ok (.value u) w'∧HeapOK c φ' hp' w'∧
      (∀ av x,RelF c.P w (Mut c.A φ st.hp) st.hp.length φ av x→RelF c.P w' (Mut c.A φ' hp') hp'.length φ' av x)∧RelF c.P w' (Mut c.A φ' hp') hp'.length φ' v u):WVal c ops st o v hp':=by
  intro φ a w hc
  refine⟨ZbC hg,?_⟩
  obtain⟨u,w',φ',h1,h2,h3,h4⟩:=h φ a w hc
  unfold Oper.wp
  rw [h1]
  exact⟨u,φ',rfl,h2,h3,h4⟩
theorem ZmL{P:Program}{w:World}{M:Nat→Prop}{hp:List (Option Own)}{φ:Phi}{o:Own}{L:Loc}{b:Nat}(hb:L.blk=some b)(hn:L.n=1)(hmp:L.mp=false:=by rfl):
    RelF P w M (hp++ [some o]).length (fun x=>if x=hp.length then L else φ x) (.ptr hp.length 1 0 0) (.pointer (some ⟨b,0,none⟩)):=by
  intro φ' hφ
  have e:φ' hp.length=L:=by
    have:=hφ hp.length (by simp)
    simpa using this
  exact .ptr _ _ _ _ _ rfl (by rw [e,hn];exact Nat.le_refl _) fun _=>⟨by rw [e];exact hmp,b,by rw [e];exact hb,by simp⟩
theorem Zrb{o:Oper}{t sz r:Nat}{l:List AV}(hr:st.hp.length=r)(hg:o.guard=none)(hl:l.length=sz)(hsz:c.P.cellsOf t=sz)
    (h: ∀ φ a w,Conc c φ st a w→ ∃ cs,(execOp a.eval o).run c.P w= .ok (.value (.pointer (some ⟨w.heap.size,0,none⟩))) (w.alloc (.cells cs t))∧cs.size=sz∧
      ∀ j,j<sz→RelF c.P w (Mut c.A φ st.hp) st.hp.length φ (l.getD j .any) (cs.getD j undef)):
    WVal c ops st o (.ptr r 1 0 0) (st.hp++ [some ⟨t,[l]⟩]):=by
  subst hr
  refine .run hg fun φ a w hc=> ?_
  obtain⟨cs,h1,h2,h3⟩:=h φ a w hc
  have hn:=ZiB (o:=⟨t,[l]⟩) (cs:=cs) (cap:=1) hc.hok (by simp [h2,hsz]) (by decide) (by simp) (by simp [hl,hsz]) (fun i j hi hj=>by
    simp at hi
    subst hi
    have:=h3 j (by simpa [hsz] using hj)
    simpa [cellAt] using this)
  exact⟨_,_,_,h1,hn.1,hn.2,ZmL rfl (by simp)⟩
theorem ZmW{x:Operand}{t n:Nat}{l:List AV}(r:Nat)(hr:st.hp.length=r)(h:Opv c st x (.agg l))(ht:tAgg c.P t n=true)(hl:l.length=n):
    WVal c ops st ⟨dst,.box t x,ty,pos,after,none⟩ (.ptr r 1 0 0) (st.hp++ [some ⟨t,[l]⟩]):=by
  obtain⟨i,d,hi,hs,hu,hd,hc',_⟩:=tAgg.spec ht
  refine Zrb hr rfl hl hc' fun φ a w hc=> ?_
  obtain⟨vs,hx,hvs,h2⟩:=Zcg (h φ a w hc)
  refine⟨vs,?_,by omega,fun j hj=>h2 j (by omega)⟩
  simp only [execOp,hx,Instr.box,newVar,newRow,Value.cells]
  rfl
theorem Qd{t:Nat}{zs:List Value}{row:List AV}(r:Nat)(hr:st.hp.length=r)(hz:JM c.P t=some zs)(hrow:zs.map constAV=row)(hl:c.P.cellsOf t=row.length):
    WVal c ops st ⟨dst,.alloc t,ty,pos,after,none⟩ (.ptr r 1 0 0) (st.hp++ [some ⟨t,[row]⟩]):=by
  refine Zrb hr rfl rfl hl fun φ a w hc=> ?_
  unfold JM at hz
  split at hz
  · rename_i i hi
    simp only [Option.map_eq_some_iff] at hz
    obtain⟨z,hz,hzs⟩:=hz
    have hsz:z.cells.size=row.length:=by rw [←hrow,←hzs];simp
    refine⟨z.cells,?_,hsz,fun j hj=> ?_⟩
    · simp [execOp,Instr.alloc,zeroValue,typeInfo,hi,hz,newVar,newRow]
    · refine Zt ?_
      have e:row.getD j .any=constAV (z.cells.getD j undef):=by
        rw [←hrow,←hzs]
        have hj':j<z.cells.size:=by omega
        simp [gQ,hj']
      rw [e]
      exact ZcI _ _ _ _
  · cases hz
theorem ZjM{α:Type}(xs l:List α)(j k:Nat)(d:α)(h:j+l.length≤xs.length):
    (xs.take j++(l++xs.drop (j+l.length))).getD k d=if k<j then xs.getD k d else if k<j+l.length then l.getD (k-j) d else xs.getD k d:=by
  have hm:min j xs.length=j:=by omega
  simp only [gQ]
  by_cases h1:k<j
  · rw [pG h1,List.getElem?_append_left (by rw [List.length_take];omega),List.getElem?_take,pG h1]
  · rw [nG h1,List.getElem?_append_right (by rw [List.length_take];omega),List.length_take,hm]
    by_cases h2:k<j+l.length
    · rw [pG h2,List.getElem?_append_left (by omega)]
    · rw [nG h2,List.getElem?_append_right (by omega),List.getElem?_drop]
      congr 2
      omega
theorem Zan(cs:Array Value)(vs:List Value)(o k:Nat)(h:o+vs.length≤cs.size):
    (cs.toList.take o++vs++cs.toList.drop (o+vs.length)).toArray.getD k undef=if k<o then cs.getD k undef else if k<o+vs.length then vs.getD (k-o) undef else cs.getD k undef:=by
  have e: ∀ (l:List Value) i,l.toArray.getD i undef=l.getD i undef:=fun l i=>by simp [Array.getD_eq_getD_getElem?,gQ]
  have e': ∀ i,cs.getD i undef=cs.toList.getD i undef:=fun i=>by simp [Array.getD_eq_getD_getElem?,gQ]
  rw [e,List.append_assoc,ZjM _ _ _ _ _ (by simpa using h),e']
theorem Znu{φ:Phi}{a:Act}{w:World}(hc:Conc c φ st a w){r n i j:Nat}{o:Own}{row l row':List AV}{vs:List Value}(ho:nth st.hp r=some o)(hn:o.es.length=n)(hrow:o.es[i]?=some row)
    (hlen:j+l.length≤row.length) (hvl:vs.length=l.length) (hvs: ∀ k,k<l.length→RelF c.P w (Mut c.A φ st.hp) st.hp.length φ (l.getD k .any) (vs.getD k undef)) (h1: ∀ v∈vs,v.oneCell'=true)
    (hrow':row.take j++(l++row.drop (j+l.length))=row') {b:Nat} (hb:(φ r).blk=some b) (hmp:(φ r).mp=false):
    ∃ w',(storeCells ⟨b,i*(φ r).sz+j,none⟩ vs).run c.P w= .ok () w'∧HeapOK c φ (Xh st.hp r (some ⟨o.elem,o.es.set i row'⟩)) w'∧
      (∀ av x,RelF c.P w (Mut c.A φ st.hp) st.hp.length φ av x→RelF c.P w' (Mut c.A φ (Xh st.hp r (some ⟨o.elem,o.es.set i row'⟩))) (Xh st.hp r (some ⟨o.elem,o.es.set i row'⟩)).length φ av x):=by
  obtain⟨b',cs,hb',h2,h3,h4,h5,h6,h7,h8,h9⟩:=Za6 hc ho hrow hmp
  rw [hb] at hb';cases hb'
  have hO:=hc.hok.obj r o ho
  have hi:i<o.es.length:=(List.getElem?_eq_some_iff.1 hrow).1
  have hcap:=hO.room
  have hbound:i*row.length+row.length≤cs.size:=by
    rw [h6]
    have:(i+1)*row.length≤(φ r).cap*row.length:=Nat.mul_le_mul_right _ (by omega)
    rw [Nat.add_mul,Nat.one_mul] at this
    exact this
  have hst:=run_storeCells_at c.P b (i*row.length+j) o.elem vs 0 cs w h4 (by omega) h1
  simp only [Nat.add_zero] at hst
  rw [h3]
  have hrl':row'.length=row.length:=by rw [←hrow'];simp;omega
  have hφ:(fun x=>if x=r then φ r else φ x)=φ:=by funext x;split;subst_vars;rfl;rfl
  have hu:=Zcw (L:=φ r) (o':=⟨o.elem,o.es.set i row'⟩) (w':=w.setRow b (cs.toList.take (i*row.length+j)++vs++cs.toList.drop (i*row.length+j+vs.length)).toArray) hc.hok ho rfl rfl rfl (by simp)
    (fun b' hlt hne=>setRow_other w b b' _ (fun e=>hne (by rw [hb,e]))) (.inl rfl) (.inl (.refl _)) (fun htr=>by
      simp only [hφ] at htr ⊢
      refine⟨by rw [hO.len];simp,hO.sz,?_,by simpa using hO.room,hO.cap,(fun h=>by rw [hb] at h;cases h),(by simpa using hO.subl),hO.subn,fun b' hb'=> ?_⟩
      · intro x hx
        rcases List.mem_or_eq_of_mem_set hx with hx |rfl
        · exact hO.rows x hx
        · rw [hrl',h5]
      · rw [hb] at hb';cases hb'
        obtain⟨cs2,g1,g2,T,t1,t2,g3⟩:=hO.some b hb
        have g1:=g1.cells hmp
        rw [h4] at g1;cases g1
        refine⟨_,(by rw [hmp];exact setRow_heap w b cs _ o.elem _ h4),?_,fun i' j' x=>T i' j' x∧ ¬(i'=i∧j≤j'∧j'<j+l.length),fun i' j' x hx=>t1 i' j' x hx.1,fun i1 j1 i2 j2 x hx hy=>t2 i1 j1 i2 j2 x hx.1 hy.1,fun i' j' hi' hj'=> ?_⟩
        · simp;rw [←h5];rw [h6] at hbound ⊢;omega
        · simp only [List.length_set] at hi'
          rw [←h5] at hj' ⊢
          have hii:i'*row.length+j'<cs.size:=by rw [h6];exact ZbD (by omega) hj'
          have gold:=fun hj=>(g3 i' j' hi' hj).tr (fun x hx=>setRow_other w b x (cs.toList.take (i*row.length+j)++vs++cs.toList.drop (i*row.length+j+vs.length)).toArray (fun e=>hO.subn b hb (by rw [←e];exact t1 i' j' x hx))) htr
          rw [←h5] at gold
          have gold:=gold hj'
          have keep: ¬(i'=i∧j≤j'∧j'<j+l.length)→ ∀ av x,TRel c.P (w.setRow b (cs.toList.take (i*row.length+j)++vs++cs.toList.drop (i*row.length+j+vs.length)).toArray) (Mut c.A φ (Xh st.hp r (some ⟨o.elem,o.es.set i row'⟩))) st.hp.length φ (T i' j') av x→
              TRel c.P (w.setRow b (cs.toList.take (i*row.length+j)++vs++cs.toList.drop (i*row.length+j+vs.length)).toArray) (Mut c.A φ (Xh st.hp r (some ⟨o.elem,o.es.set i row'⟩))) st.hp.length φ (fun x=>T i' j' x∧ ¬(i'=i∧j≤j'∧j'<j+l.length)) av x:=fun hk av x hx=>hx.sub fun y hy=>⟨hy,hk⟩
          by_cases hii':i'=i
          · subst hii'
            have ec:cellAt (o.es.set i' row') i' j'=(row.take j++(l++row.drop (j+l.length))).getD j' .any:=by rw [hrow'];simp [cellAt,hi]
            have er:cellAt o.es i' j'=row.getD j' .any:=by simp [cellAt,gQ,hrow]
            rw [er] at gold
            rw [ec]
            rw [ZjM row l j j' .any hlen,Zan cs vs _ _ (by omega)]
            by_cases hj1:j'<j
            · rw [pG hj1,pG (by omega)];exact keep (by omega) _ _ gold
            · by_cases hj2:j'<j+l.length
              · rw [nG hj1,pG hj2,nG (show ¬i'*row.length+j'<i'*row.length+j by omega),pG (by omega),show i'*row.length+j'-(i'*row.length+j)=j'-j by omega]
                exact .leaf (htr _ _ (hvs _ (by omega)))
              · rw [nG hj1,nG hj2,nG (show ¬i'*row.length+j'<i'*row.length+j by omega),nG (by omega)];exact keep (by omega) _ _ gold
          · have ec:cellAt (o.es.set i row') i' j'=cellAt o.es i' j':=by simp [cellAt,gQ,List.getElem?_set_ne (Ne.symm hii')]
            rw [ec,Zan cs vs _ _ (by omega)]
            rcases Nat.lt_or_ge i' i with hlt |hge
            · have:i'*row.length+j'<i*row.length:=ZbD hlt hj'
              rw [pG (by omega)];exact keep (by omega) _ _ gold
            · have:(i+1)*row.length≤i'*row.length:=Nat.mul_le_mul_right _ (by omega)
              rw [Nat.add_mul,Nat.one_mul] at this
              rw [nG (by omega),nG (by omega)];exact keep (by omega) _ _ gold)
  simp only [hφ] at hu
  exact⟨_,hst,hu.1,hu.2⟩
end ops
end Go.Vx

namespace Go.Vx
open Go Go.RowKit
section ops
variable {c:Ctx} {ops:Array Oper} {st:St} {dst:Option Tmp} {ty:TypeId} {pos:String} {after:Array Edge}
theorem WVal.skip{o:Oper}{v:AV}{hp':List (Option Own)}(hg:o.guard=none)
    (h: ∀ φ a w,Conc c φ st a w→ ∃ w' φ',(execOp a.eval o).run c.P w= .ok .skip w'∧HeapOK c φ' hp' w'∧
      (∀ av x,RelF c.P w (Mut c.A φ st.hp) st.hp.length φ av x→RelF c.P w' (Mut c.A φ' hp') hp'.length φ' av x)∧RelF c.P w' (Mut c.A φ' hp') hp'.length φ' v undef):WVal c ops st o v hp':=by
  intro φ a w hc
  refine⟨ZbC hg,?_⟩
  obtain⟨w',φ',h1,h2,h3,h4⟩:=h φ a w hc
  unfold Oper.wp
  rw [h1]
  exact⟨undef,φ',rfl,h2,h3,h4⟩
def Ziz(P:Program)(t:Nat)(v:AV)(l:List AV):Prop:=(v= .agg l∧tAgg P t l.length=true)∨(l= [v]∧tScal P t=true)
theorem ZB{P:Program}{t n:Nat}{l:List AV}(h:tAgg P t n=true)(hl:l.length=n):Ziz P t (.agg l) l:= .inl ⟨rfl,by rw [hl];exact h⟩
theorem Zj{P:Program}{t:Nat}{v:AV}(h:tScal P t=true):Ziz P t v [v]:= .inr ⟨rfl,h⟩
theorem Zm{x y:Operand}{t r n i j:Nat}{o:Own}{v:AV}{row l row':List AV}(h:Opv c st x (.ptr r n i j))(hy:Opv c st y v)(ht:Ziz c.P t v l)
    (ho:nth st.hp r=some o) (hn:o.es.length=n) (hrow:o.es[i]?=some row) (hlen:j+l.length≤row.length) (h1: ∀ u∈l,ZgU c st u)
    (hrow':row.take j++(l++row.drop (j+l.length))=row'):
    WVal c ops st ⟨none,.store t x y,ty,pos,after,none⟩ .any (Xh st.hp r (some ⟨o.elem,o.es.set i row'⟩)):=by
  refine .skip rfl fun φ a w hc=> ?_
  have hO:=hc.hok.obj r o ho
  obtain⟨b,hb,hx⟩:=Zbb (h φ a w hc) (by rw [hO.len,hn])
  have hyv:=hy φ a w hc
  have key: ∃ vs:List Value,(a.eval y).cells=vs.toArray∧vs.length=l.length∧(∀ k,k<l.length→RelF c.P w (Mut c.A φ st.hp) st.hp.length φ (l.getD k .any) (vs.getD k undef))∧
      (∀ u∈vs,u.oneCell'=true)∧(sizeOf t).run c.P w= .ok l.length w:=by
    rcases ht with ⟨rfl,ht⟩ | ⟨rfl,ht⟩
    · obtain⟨vs,hv,hvl,h2⟩:=Zcg hyv
      obtain⟨inf,d,hi,hs,_,_,_,_⟩:=tAgg.spec ht
      refine⟨vs.toList,by rw [hv];rfl,by simp [hvl],fun k hk=> ?_,?_,?_⟩
      · have:=h2 k hk
        simpa [Array.getD_eq_getD_getElem?,gQ] using this
      · intro u hu
        obtain⟨k,hk,rfl⟩:=List.getElem_of_mem hu
        simp at hk
        have:=h2 k (by omega)
        have hm:l.getD k .any∈l:=by simp [gQ,show k<l.length by omega]
        have:=h1 _ hm φ a w hc _ this
        simpa [hk] using this
      · simp [sizeOf,typeInfo,hi,hs]
    · obtain⟨inf,d,hi,hs,_,_,_⟩:=tScal.spec ht
      have h2:=h1 v (by simp) φ a w hc _ hyv
      refine⟨[a.eval y],by rw [Zly h2],by simp,fun k hk=> ?_,by simpa using h2,by simp [sizeOf,typeInfo,hi,hs]⟩
      simp at hk
      subst hk
      simpa using hyv
  obtain⟨vs,hvc,hvl,hvs,hv1,hsz⟩:=key
  obtain⟨w',hst,hh,hf⟩:=Znu hc ho hn hrow hlen hvl hvs hv1 hrow' hb (Jk (h φ a w hc) (by rw [hO.len,hn]))
  refine⟨w',φ,?_,hh,hf,Zt (.any _)⟩
  have e:(Instr.storeAt t (a.eval x) (a.eval y)).run c.P w= .ok () w':=by
    rw [hx]
    simp [Instr.storeAt,Instr.sureAddr,storeVar,hsz,hvc,hvl,hst]
  show((do Instr.storeAt t (a.eval x) (a.eval y);pure Next.skip:Sem Next)).run c.P w=_
  rw [Sem.run_bind,e]
  rfl
theorem ZsD{α:Type}{f:α→List AV}{l:List α}(h: ∀ x,NS (f x)): ∀ row∈l.map f,NS row:=fun row hr=>by obtain⟨y,_,rfl⟩:=List.mem_map.1 hr;exact h y
theorem nsO{l:List (List AV)}(h:(l.all fun row=>row.all noSub)=true): ∀ row∈l,NS row:=fun row hr=>nsR (List.all_eq_true.1 h row hr)
theorem Zme{l:List (List AV)}(h: ∀ row∈l,NS row)(i j:Nat):noSub (cellAt l i j)=true:=by
  unfold cellAt
  by_cases hi:i<l.length
  · have:l.getD i []=l[i]:=by simp [gQ,hi]
    rw [this];exact(h _ (List.getElem_mem _)).getD' j
  · have:l.getD i []= []:=by rw [gQ,List.getElem?_eq_none (by omega)];rfl
    rw [this];rfl
def SlV(c:Ctx)(st:St)(y:Operand)(sz:Nat)(ys:List (List AV)):Prop:= ∀ φ a w,Conc c φ st a w→ ∃ base cap,a.eval y= .slice base ys.length cap∧ys.length<2^63∧(∀ row∈ys,row.length=sz)∧
  (ys≠ []→ ∃ (b off:Nat) (us:Nat→Nat→Value),base=some ⟨b,off,none⟩∧(∀ i j,i<ys.length→j<sz→w.cell? ⟨b,off+(i*sz+j),none⟩=some (us i j))∧
    (∀ i j,i<ys.length→j<sz→RelF c.P w (Mut c.A φ st.hp) st.hp.length φ (cellAt ys i j) (us i j)))
theorem Qr{y:Operand}{e sz:Nat}{ys:List (List AV)}(h:Opv c st y (.sl e ys))(hsz:c.P.cellsOf e=sz):SlV c st y sz ys:=by
  intro φ a w hc
  have hr:=ZhJ (h φ a w hc)
  generalize hx:a.eval y=ay at hr
  subst hsz
  cases hr with
  |sl0 _ ad cp=>exact⟨ad,cp,rfl,by simp,by simp,fun h=>absurd rfl h⟩
  |sl _ _ b off cp us h0 h1 h2 h2' h3 h4 h5=>exact⟨_,cp,rfl,h2,h3,fun _=>⟨b,off,us,rfl,h4,fun i j hi hj=>Zt (h5 i j hi hj)⟩⟩
theorem Jv{y:Operand}{r n sz:Nat}{o:Own}(h:Opv c st y (.own r n))(ho:nth st.hp r=some o)(hn:o.es.length=n)(hsz:c.P.cellsOf o.elem=sz)(hns: ∀ row∈o.es,NS row:=by first |exact ZsD (fun _=>nsR rfl) |exact ZsD (fun _=>nsM (fun _=>rfl)) |exact nsO rfl):SlV c st y sz o.es:=by
  intro φ a w hc
  have hO:=hc.hok.obj r o ho
  have hx:=JZ (h φ a w hc) (by rw [hO.len,hn])
  refine⟨_,(φ r).cap,by rw [hx,hn],Nat.lt_of_le_of_lt hO.room hO.cap,by rw [←hsz];exact hO.rows,fun hne=> ?_⟩
  cases hb:(φ r).blk with
  |none=>exact absurd (hO.none hb).1 hne
  |some b=>
    obtain⟨cs,h1,h2,h3⟩:=hO.some b hb
    refine⟨b,0,fun i j=>cs.getD (i*c.P.cellsOf o.elem+j) undef,rfl,fun i j hi hj=> ?_,fun i j hi hj=> ?_⟩
    · rw [Z0 (h1.cells (XY (h φ a w hc) (by rw [hO.len,hn]))),hsz]
      have hroom:=hO.room
      have:i*sz+j<cs.size:=by rw [h2,hsz];exact ZbD (by omega) hj
      simp [this]
    · exact h3.plain hi (by rw [hsz];exact hj) (Zme hns i j)
theorem Zk2{y:Operand}{t e sz by_:Nat}{ys:List (List AV)}{z:Int}(h:SlV c st y sz ys)(ht:tSl c.P t e sz by_=true)(hz:(ys.length:Int)=z):
    SVal c ops st ⟨dst,.call {callee:= .builtin .len,args:= #[y],argTypes:= #[t]},ty,pos,after,none⟩ (.int .i64 z):=
  .pure rfl fun φ a w hc=>by
    obtain⟨base,cap,hx,_⟩:=h φ a w hc
    obtain⟨hu,_⟩:=tSl.spec ht
    refine⟨.int .i64 z,?_,Zt (.int _ _)⟩
    simp [execOp,resolve,invoke,builtin,hx,Builtin.len_,run_underlying hu,goInt,hz]
def tStr(P:Program)(t:Nat):Bool:=match P.underlying t with |some .string=>true |_=>false
theorem tStr.spec{P:Program}{t:Nat}(h:tStr P t=true):P.underlying t=some .string:=by
  unfold tStr at h;split at h;assumption;cases h
theorem Zn7{x y:Operand}{k:IntKind}{m n z:Int}{ts:Array TypeId}(h:Opv c st x (.int k m))(h':Opv c st y (.int k n))(hz:max m n=z):
    SVal c ops st ⟨dst,.call {callee:= .builtin .max,args:= #[x,y],argTypes:=ts},ty,pos,after,none⟩ (.int k z):=
  .pure rfl fun φ a w hc=>by
    refine⟨.int k z,?_,Zt (.int _ _)⟩
    have:(if n>m then n else m)=z:=by rw [←hz];split<;>omega
    simp [execOp,resolve,invoke,builtin,h.int hc,h'.int hc,Builtin.max_,Builtin.max2,this]
def tInt(P:Program)(t:Nat)(k:IntKind):Bool:=match P.underlying t with |some (.int k')=>decide (k'=k) |_=>false
theorem tInt.spec{P:Program}{t:Nat}{k:IntKind}(h:tInt P t k=true):P.underlying t=some (.int k):=by
  unfold tInt at h
  split at h
  · rename_i k' hu;simp at h;rw [hu,h]
  · cases h
theorem Qh{x:Operand}{s t:Nat}{k k':IntKind}{m z:Int}(h:Opv c st x (.int k m))(hs:tInt c.P s k=true)(ht:tInt c.P t k'=true)(hz:k'.wrap m=z):
    SVal c ops st ⟨dst,.convert s t x,ty,pos,after,none⟩ (.int k' z):=
  .pure rfl fun φ a w hc=>by
    refine⟨.int k' z,?_,Zt (.int _ _)⟩
    simp [execOp,h.int hc,convert,run_underlying (tInt.spec hs),run_underlying (tInt.spec ht),Conv.intToInt,hz]
theorem Zke{φ:Phi}{a:Act}{w:World}{sz:Nat}{ys:List (List AV)}(_hc:Conc c φ st a w){b off:Nat}{us:Nat→Nat→Value}
    (h1: ∀ i j,i<ys.length→j<sz→w.cell? ⟨b,off+(i*sz+j),none⟩=some (us i j)) (hsz:0<sz):
    ∃ news:List Value,news.length=ys.length*sz∧(∀ j u,news[j]?=some u→w.cell? ((⟨b,off,none⟩:Addr).add j)=some u)∧(∀ i j,i<ys.length→j<sz→news.getD (i*sz+j) undef=us i j):=by
  refine⟨(List.range (ys.length*sz)).map fun k=>us (k/sz) (k % sz),by simp,fun k u hk=> ?_,fun i j hi hj=> ?_⟩
  · have hlt:k<ys.length*sz:=by
      have:=(List.getElem?_eq_some_iff.1 hk).1
      simpa using this
    have hu:us (k/sz) (k % sz)=u:=by simpa [hlt] using hk
    rw [Zao,←hu,←h1 (k/sz) (k % sz) (Nat.div_lt_of_lt_mul (by rw [Nat.mul_comm];exact hlt)) (Nat.mod_lt _ hsz)]
    have:k/sz*sz+k % sz=k:=by rw [Nat.mul_comm];exact Nat.div_add_mod k sz
    rw [this]
  · have hlt:i*sz+j<ys.length*sz:=ZbD hi hj
    have h1:(i*sz+j)/sz=i:=by rw [Nat.mul_comm,Nat.mul_add_div hsz,Nat.div_eq_of_lt hj];omega
    have h2:(i*sz+j) % sz=j:=by rw [Nat.mul_comm,Nat.mul_add_mod,Nat.mod_eq_of_lt hj]
    simp [gQ,hlt,h1,h2]
theorem Za1{xs ys:List (List AV)}{i j:Nat}(h:i<xs.length):cellAt (xs++ys) i j=cellAt xs i j:=by simp [cellAt,gQ,List.getElem?_append_left h]
theorem ZaH{xs ys:List (List AV)}{i j:Nat}(h:xs.length≤i):cellAt (xs++ys) i j=cellAt ys (i-xs.length) j:=by simp [cellAt,gQ,List.getElem?_append_right h]
theorem Zg8(olds news:List Value)(Z:Array Value)(k:Nat):(olds.toArray++news.toArray++Z).getD k undef=
    if k<olds.length then olds.getD k undef else if k<olds.length+news.length then news.getD (k-olds.length) undef else Z.getD (k-olds.length-news.length) undef:=by
  simp only [Array.getD_eq_getD_getElem?,Array.getElem?_append,Array.size_append,List.size_toArray,List.getElem?_toArray,gQ]
  by_cases h1:k<olds.length
  · rw [pG (by omega),pG h1,pG h1]
  · by_cases h2:k<olds.length+news.length
    · rw [pG h2,nG h1,nG h1,pG h2]
    · rw [nG h2,nG h1,nG h2]
      congr 2
      omega
theorem Zm9{x y:Operand}{t e sz by_ r n m:Nat}{o:Own}{ys:List (List AV)}(h:Opv c st x (.own r n))(hy:SlV c st y sz ys)(ht:tSl c.P t e sz by_=true)
    (ho:nth st.hp r=some o) (hn:o.es.length=n) (he:o.elem=e) (hm:ys.length=m) (hpos:0<m) (h1: ∀ row∈ys,∀ u∈row,ZgU c st u) (hb:(n+m)*by_≤140737488355328) (h63:n+m<2^63):
    WVal c ops st ⟨dst,.call {callee:= .builtin .append,args:= #[x,y],argTypes:= #[t,t]},ty,pos,after,none⟩ (.own r (n+m)) (Xh st.hp r (some ⟨e,o.es++ys⟩)):=by
  subst he
  refine .run rfl fun φ a w hc=> ?_
  obtain⟨hu,inf,z,hi,hs,hby,hn0,hz,hzs,hcs⟩:=tSl.spec ht
  have hO:=hc.hok.obj r o ho
  have hx:=JZ (h φ a w hc) (by rw [hO.len,hn])
  obtain⟨base,cap,hyv,_,hyr,hyc⟩:=hy φ a w hc
  have hyne:ys≠ []:=fun e=>by rw [e] at hm;simp at hm;omega
  obtain⟨b,off,us,rfl,hc1,hc2⟩:=hyc hyne
  obtain⟨news,hnl,hn1,hn2⟩:=Zke hc hc1 hn0
  rw [hm] at hnl hyv
  have hone: ∀ u∈news,u.oneCell'=true:=by
    intro u hu'
    obtain⟨k,hk,rfl⟩:=List.getElem_of_mem hu'
    have hk':k<ys.length*sz:=by rw [hm];omega
    have hdi:k/sz<ys.length:=Nat.div_lt_of_lt_mul (by rw [Nat.mul_comm];exact hk')
    have hmo:k % sz<sz:=Nat.mod_lt _ hn0
    have e1:k/sz*sz+k % sz=k:=by rw [Nat.mul_comm];exact Nat.div_add_mod k sz
    have e2:=hn2 (k/sz) (k % sz) hdi hmo
    rw [e1] at e2
    have e3:news[k]=us (k/sz) (k % sz):=by rw [←e2];simp [gQ,hk]
    rw [e3]
    have hrow:ys[k/sz]∈ys:=List.getElem_mem hdi
    refine h1 _ hrow (cellAt ys (k/sz) (k % sz)) ?_ φ a w hc _ (hc2 _ _ hdi hmo)
    have hl:=hyr _ hrow
    have:cellAt ys (k/sz) (k % sz)=ys[k/sz][k % sz]'(by omega):=by simp [cellAt,gQ,hdi,hl,hmo]
    rw [this]
    exact List.getElem_mem _
  have hmp:=XY (h φ a w hc) (by rw [hO.len,hn])
  have h2n:(o.es++ys).length=n+m:=by simp [hn,hm]
  have hrl:r<st.hp.length:=XA ho
  have fin: ∀ (w':World) (L:Loc) (g:Nat) (cs:Array Value),w'.os=w.os→w'.tape=w.tape→w'.output=w.output→w.heap.size≤w'.heap.size→
      (∀ b,b<w.heap.size→(φ r).blk≠some b→w'.heap[b]?=w.heap[b]?)→(L.blk=(φ r).blk∨w.heap.size≤g)→L.blk=some g→L.n=n+m→L.sz=sz→L.cap<2^63→n+m≤L.cap→L.mp=false→L.sub=(φ r).sub→
      w'.heap[g]?=some (.cells cs o.elem (0,0))→cs.size=L.cap*sz→(∀ i j,i<n→j<sz→ ∃ b csO,(φ r).blk=some b∧w.heap[b]?=some (.cells csO o.elem (0,0))∧cs.getD (i*sz+j) undef=csO.getD (i*sz+j) undef)→
      (∀ i j,i<m→j<sz→cs.getD ((n+i)*sz+j) undef=us i j)→
      ∃ φ',HeapOK c φ' (Xh st.hp r (some ⟨o.elem,o.es++ys⟩)) w'∧
      (∀ av x,RelF c.P w (Mut c.A φ st.hp) st.hp.length φ av x→RelF c.P w' (Mut c.A φ' (Xh st.hp r (some ⟨o.elem,o.es++ys⟩))) (Xh st.hp r (some ⟨o.elem,o.es++ys⟩)).length φ' av x)∧
      RelF c.P w' (Mut c.A φ' (Xh st.hp r (some ⟨o.elem,o.es++ys⟩))) (Xh st.hp r (some ⟨o.elem,o.es++ys⟩)).length φ' (.own r (n+m)) (.slice (some ⟨g,0,none⟩) (n+m) L.cap):=by
    intro w' L g cs hos htp hou hsz hblk hLb hLg hLn hLs hLc hLr hLm hLu hg hcsz hold hnew
    have hgs: ¬(φ r).sub g:=fun hs=>by
      rcases hLb with h |h
      · exact hO.subn g (by rw [←h];exact hLg) hs
      · have:=hO.subl g hs;omega
    have hupd:=Zcw (L:=L) (o':=⟨o.elem,o.es++ys⟩) (w':=w') hc.hok ho hos htp hou hsz hblk (by
        rcases hLb with h |h
        · exact .inl h
        · exact .inr fun b hb=>by rw [hLg] at hb;cases hb;exact h) (.inr (by rw [hO.len,hn,hLn];omega)) (fun htr=>by
      refine⟨by simp only [if_true,hLn,h2n],by simp [hLs,hcs],?_,by simp [hn,hm];exact hLr,by simpa using hLc,(fun h=>by simp [hLg] at h),(by simp only [if_true,hLu];exact fun b hb=>Nat.lt_of_lt_of_le (hO.subl b hb) hsz),(by simp only [if_true,hLu,hLg];rintro b hb;cases hb;exact hgs),fun b' hb'=> ?_⟩
      · intro row hrow
        rcases List.mem_append.1 hrow with hrow |hrow
        · exact hO.rows row hrow
        · rw [hcs];exact hyr row hrow
      · simp only [if_true,hLg] at hb'
        cases hb'
        have hT: ∃ T:Nat→Nat→Nat→Prop,(∀ i j b,T i j b→(φ r).sub b)∧(∀ i j i' j' b,T i j b→T i' j' b→i=i'∧j=j')∧ ∀ i j,i<n→j<sz→ ∀ b0 csO,(φ r).blk=some b0→w.heap[b0]?=some (.cells csO o.elem (0,0))→
            TRel c.P w (Mut c.A φ st.hp) st.hp.length φ (T i j) (cellAt o.es i j) (csO.getD (i*sz+j) undef):=by
          cases hbk:(φ r).blk with
          |none=>exact⟨fun _ _ _=>False,fun _ _ _ h=>h.elim,fun _ _ _ _ _ h=>h.elim,fun i j _ _ b0 csO h=>by cases h⟩
          |some b0=>
            obtain⟨cs2,g1,g2,T,t1,t2,g3⟩:=hO.some b0 hbk
            refine⟨T,t1,t2,fun i j hi hj b1 csO hb1 hgO=> ?_⟩
            cases hb1
            have g1:=g1.cells hmp
            rw [hgO] at g1;cases g1
            have:=g3 i j (by rw [hn];exact hi) (by rw [hcs];exact hj)
            rwa [hcs] at this
        obtain⟨T,t1,t2,g3⟩:=hT
        refine⟨cs,(by simp only [if_true,hLm];exact hg),by simp [hcsz,hcs],fun i j x=>T i j x∧i<n,(fun i j x hx=>by simp only [if_true,hLu];exact t1 i j x hx.1),(fun i1 j1 i2 j2 x hx hy=>t2 i1 j1 i2 j2 x hx.1 hy.1),fun i j hi' hj'=> ?_⟩
        simp only [hcs] at hj' ⊢
        by_cases hin:i<n
        · obtain⟨b0,csO,hb0,hgO,hvO⟩:=hold i j hin hj'
          rw [hvO,Za1 (by rw [hn];exact hin)]
          exact((g3 i j hin hj' b0 csO hb0 hgO).tr (fun x hx=>hblk x (hO.subl x (t1 i j x hx)) (fun e=>hO.subn x e (t1 i j x hx))) htr).sub fun x hx=>⟨hx,hin⟩
        · rw [ZaH (by rw [hn];omega),hn]
          have hlt:i-n<m:=by simp [hn,hm] at hi';omega
          have e:=hnew (i-n) j hlt hj'
          rw [show n+(i-n)=i by omega] at e
          rw [e]
          exact .leaf (htr _ _ (hc2 (i-n) j (by rw [hm];exact hlt) hj'))) (by exact hLu)
    refine⟨_,hupd.1,hupd.2,fun φ' hφ=> ?_⟩
    have e:φ' r=L:=by
      have:=hφ r (by rw [ZbA];exact hrl)
      simpa using this
    exact .own r (n+m) _ rfl (by rw [e,hLn];exact Nat.le_refl _) fun _=>by rw [e,hLg];exact⟨hLm,rfl⟩
  have hml:n+m≤maxLen:=by simp only [maxLen];omega
  cases hbk:(φ r).blk with
  |none=>
    obtain⟨hes,hcap⟩:=hO.none hbk
    have hn':n=0:=by rw [←hn,hes];rfl
    subst hn'
    rw [hbk,hcap] at hx
    have hr:=run_append_nil (P:=c.P) w t ty o.elem inf z hu hi hz ⟨b,off,none⟩ m cap news (by rw [hnl,hs]) hn1 hpos (by omega) (by rw [hby];simp at hb;omega)
    obtain⟨φ',g1,g2,g3⟩:=fin (w.drew.alloc (.cells (news.toArray++Builtin.zeroCells z.cells (grownCap w m 0 o.elem-m)) o.elem)) ⟨some w.heap.size,grownCap w m 0 o.elem,0+m,sz,false,(φ r).sub⟩ w.heap.size (news.toArray++Builtin.zeroCells z.cells (grownCap w m 0 o.elem-m)) rfl rfl rfl (by simp) (fun b' hlt _=>heap_alloc_old w.drew _ b' hlt) (.inr (Nat.le_refl _)) rfl rfl rfl
      (by have:=grownCap_le_maxLen w m 0 o.elem (by simpa using hml);simp only [maxLen] at this;show grownCap w m 0 o.elem<2^63;omega) (by simpa using grownCap_ge w m 0 o.elem) rfl rfl
      (heap_alloc_new w.drew _) (by
        have hge:=grownCap_ge w m 0 o.elem
        simp only [Array.size_append,List.size_toArray,size_zeroCells,hzs,hnl,←Nat.add_mul]
        congr 1;omega) (fun i j hi' _=>absurd hi' (by omega)) (fun i j hi' hj'=>by
        rw [←hn2 i j (by rw [hm];exact hi') hj']
        have:i*sz+j<news.length:=by rw [hnl];exact ZbD hi' hj'
        simp [Array.getD_eq_getD_getElem?,gQ,Array.getElem?_append,this])
    refine⟨_,_,φ',?_,g1,g2,g3⟩
    simp [execOp,resolve,invoke,builtin,hx,hyv,hr]
  |some g=>
    obtain⟨cs,h4,h5,_⟩:=hO.some g hbk
    have h4:=h4.cells hmp
    rw [hcs] at h5
    have hroom:=hO.room
    have hcap63:=hO.cap
    rw [hbk] at hx
    simp only [Option.map_some] at hx
    by_cases hfit:n+m≤(φ r).cap
    · have hbnd:n*sz+news.length≤cs.size:=by
        rw [hnl,h5,←Nat.add_mul];exact Nat.mul_le_mul_right _ hfit
      have hr:=run_append_room (P:=c.P) w t ty o.elem inf hu hi g n (φ r).cap cs h4 ⟨b,off,none⟩ m cap news (by rw [hnl,hs]) hn1 hone hfit (by rw [hs];exact hbnd)
      rw [hs] at hr
      obtain⟨φ',g1,g2,g3⟩:=fin (w.setRow g (cs.toList.take (n*sz)++news++cs.toList.drop (n*sz+news.length)).toArray) ⟨some g,(φ r).cap,n+m,sz,false,(φ r).sub⟩ g (cs.toList.take (n*sz)++news++cs.toList.drop (n*sz+news.length)).toArray rfl rfl rfl (by simp) (fun b' _ hne=>setRow_other w g b' _ (fun e=>hne (by rw [hbk,e]))) (.inl hbk.symm) rfl rfl rfl hcap63 hfit rfl rfl
        (setRow_heap w g cs _ o.elem _ h4) (by simp;omega) (fun i j hi' hj'=>⟨g,cs,hbk,h4,by
          have:i*sz+j<n*sz:=ZbD hi' hj'
          rw [Zan cs news _ _ hbnd,pG this]⟩) (fun i j hi' hj'=>by
          rw [←hn2 i j (by rw [hm];exact hi') hj']
          have h7:i*sz+j<news.length:=by rw [hnl];exact ZbD hi' hj'
          rw [Zan cs news _ _ hbnd,Nat.add_mul,nG (by omega),pG (by omega)]
          congr 1;omega)
      refine⟨_,_,φ',?_,g1,g2,g3⟩
      simp [execOp,resolve,invoke,builtin,hx,hyv,hr]
    · obtain⟨olds,holdl,holds,holdv⟩: ∃ olds:List Value,olds.length=n*sz∧(∀ j u,olds[j]?=some u→w.cell? ((⟨g,0,none⟩:Addr).add j)=some u)∧(∀ k,k<n*sz→olds.getD k undef=cs.getD k undef):=by
        refine⟨cs.toList.take (n*sz),?_,fun j u hu'=> ?_,fun k hk=> ?_⟩
        · have:n*sz≤cs.size:=by rw [h5];exact Nat.mul_le_mul_right _ (by omega)
          simp;omega
        · rw [Zao,Nat.zero_add,Z0 h4]
          rw [List.getElem?_take] at hu'
          split at hu'
          · simpa using hu'
          · cases hu'
        · rw [gQ,List.getElem?_take,pG hk]
          simp [Array.getD_eq_getD_getElem?]
      have hr:=run_append_grow (P:=c.P) w t ty o.elem inf z hu hi hz ⟨g,0,none⟩ n (φ r).cap olds (by rw [holdl,hs]) holds ⟨b,off,none⟩ m cap news (by rw [hnl,hs]) hn1 (by omega) (by omega) (growslice_fits (by omega) (by rw [hby];exact hb))
      obtain⟨φ',g1,g2,g3⟩:=fin (w.drew.alloc (.cells (olds.toArray++news.toArray++Builtin.zeroCells z.cells (grownCap w (n+m) (φ r).cap o.elem-(n+m))) o.elem)) ⟨some w.heap.size,grownCap w (n+m) (φ r).cap o.elem,n+m,sz,false,(φ r).sub⟩ w.heap.size (olds.toArray++news.toArray++Builtin.zeroCells z.cells (grownCap w (n+m) (φ r).cap o.elem-(n+m))) rfl rfl rfl (by simp) (fun b' hlt _=>heap_alloc_old w.drew _ b' hlt) (.inr (Nat.le_refl _)) rfl rfl rfl
        (by have:=grownCap_le_maxLen w (n+m) (φ r).cap o.elem hml;simp only [maxLen] at this;show grownCap w (n+m) (φ r).cap o.elem<2^63;omega) (grownCap_ge w (n+m) (φ r).cap o.elem) rfl rfl
        (heap_alloc_new w.drew _) (by
          have hge:=grownCap_ge w (n+m) (φ r).cap o.elem
          rw [Array.size_append,Array.size_append,List.size_toArray,List.size_toArray,size_zeroCells,hzs,hnl,holdl,←Nat.add_mul,←Nat.add_mul,Nat.add_sub_cancel' hge]) (fun i j hi' hj'=>⟨g,cs,hbk,h4,by
          have h8:i*sz+j<n*sz:=ZbD hi' hj'
          rw [←holdv _ h8]
          rw [Zg8,holdl,pG h8]⟩) (fun i j hi' hj'=>by
          rw [←hn2 i j (by rw [hm];exact hi') hj']
          have h7:i*sz+j<news.length:=by rw [hnl];exact ZbD hi' hj'
          have h8: ¬((n+i)*sz+j<n*sz):=by rw [Nat.add_mul];omega
          have h9:(n+i)*sz+j-n*sz=i*sz+j:=by rw [Nat.add_mul];omega
          rw [Zg8,holdl,nG h8,pG (by rw [Nat.add_mul];omega),h9])
      refine⟨_,_,φ',?_,g1,g2,g3⟩
      simp [execOp,resolve,invoke,builtin,hx,hyv,hr]
end ops
end Go.Vx

namespace Go.Vx
open Go Go.RowKit
inductive Keep (tm:List (Nat×AV)):List (Nat×AV)→Prop
  |nil:Keep tm []
  |cons {t:Nat} {v v':AV} {tl:List (Nat×AV)}:look tm t=some v→v=v'→Keep tm tl→Keep tm ((t,v')::tl)
theorem Keep.look{tm tl:List (Nat×AV)}(h:Keep tm tl){t:Nat}{v:AV}(hl:look tl t=some v):look tm t=some v:=by
  induction h with
  |nil=>cases hl
  |cons h1 h2 _ ih=>
    simp only [Vx.look] at hl
    split at hl
    · rename_i he
      have he:=Nat.eq_of_beq_eq_true he
      subst he
      cases hl
      rw [h1,h2]
    · exact ih hl
theorem kn{tm:List (Nat×AV)}:Keep tm []:= .nil
theorem kc{tm:List (Nat×AV)}(t:Nat){v:AV}{tl:List (Nat×AV)}(h:look tm t=some v)(k:Keep tm tl):Keep tm ((t,v)::tl):= .cons h rfl k
theorem Ent.keep{c:Ctx}{tm tm':List (Nat×AV)}{hp hp':List (Option Own)}(h:Keep tm tm')(e:hp=hp'):Ent c ⟨tm,hp⟩ ⟨tm',hp'⟩:=by
  subst e
  exact fun φ a w hc=>⟨φ,hc.size,hc.defers,hc.hok,fun t av ht=>hc.tm t av (h.look ht)⟩
theorem JW{c:Ctx}{code:Code}{st:St}{tm':List (Nat×AV)}{hp':List (Option Own)}{K:Exit→St→Prop}(h:Keep st.tm tm')(e:st.hp=hp')(k:T c code ⟨tm',hp'⟩ K):T c code st K:=
  ZbK (Ent.keep h e) k
inductive Low (n:Nat):AV→Prop
  |int (k:IntKind) (z:Int):Low n (.int k z)
  |bool (b:Bool):Low n (.bool b)
  |str (s:List UInt8):Low n (.str s)
  |lit (v:Value):Low n (.lit v)
  |nils:Low n .nils
  |sl (e:TypeId) (l:List (List AV)):Low n (.sl e l)
  |rp (l:List AV) (o:Nat):Low n (.rp l o)
  |own (r m:Nat):r<n→Low n (.own r m)
  |ptr (r m i j:Nat):r<n→Low n (.ptr r m i j)
  |osl (r m j k:Nat):r<n→Low n (.osl r m j k)
  |mref (r m:Nat):r<n→Low n (.mref r m)
  |bptr (r m:Nat):r<n→Low n (.bptr r m)
  |agg (l:List AV):(∀ x∈l,Low n x)→Low n (.agg l)
  |tuple (l:List AV):(∀ x∈l,Low n x)→Low n (.tuple l)
  |fn (f:FuncId) (l:List AV):(∀ x∈l,Low n x)→Low n (.fn f l)
  |any:Low n .any
theorem Low.rel{P:Program}{w:World}{M:Nat→Prop}{n:Nat}{φ φ':Phi}{av:AV}{v:Value}(h:Rel P w M φ av v)(hl:Low n av)(hφ:ZfP n φ φ'):Rel P w M φ' av v:=by
  induction h with
  |data h=>exact .data h
  |own r m v h0 h1 h2=>
    cases hl with |own _ _ hr=>exact .own r m v h0 (by rw [hφ r hr];exact h1) (by rw [hφ r hr];exact h2)
  |ptr r m i j v h0 h1 h2=>
    cases hl with |ptr _ _ _ _ hr=>exact .ptr r m i j v h0 (by rw [hφ r hr];exact h1) (by rw [hφ r hr];exact h2)
  |osl r m i j v h0 h1 h2=>
    cases hl with |osl _ _ _ _ hr=>exact .osl r m i j v h0 (by rw [hφ r hr];exact h1) (by rw [hφ r hr];exact h2)
  |agg l vs h1 h2 ih=>cases hl with |agg _ hl=>exact .agg l vs h1 fun i hi=>ih i hi (hl _ (by simp [gQ,hi]))
  |tuple l vs h1 h2 ih=>cases hl with |tuple _ hl=>exact .tuple l vs h1 fun i hi=>ih i hi (hl _ (by simp [gQ,hi]))
  |fn f l vs h1 h2 ih=>cases hl with |fn _ _ hl=>exact .fn f l vs h1 fun i hi=>ih i hi (hl _ (by simp [gQ,hi]))
  |when b av v h1 h2 ih=>cases hl
  |mref r m v h0 h1 h2=>
    cases hl with |mref _ _ hr=>exact .mref r m v h0 (by rw [hφ r hr];exact h1) (by rw [hφ r hr];exact h2)
  |bptr r m v h0 h1 h2=>
    cases hl with |bptr _ _ hr=>exact .bptr r m v h0 (by rw [hφ r hr];exact h1) (by rw [hφ r hr];exact h2)
def LowTm(n:Nat):List (Nat×AV)→Prop
  | []=>True
  | (_,v)::tl=>Low n v∧LowTm n tl
theorem LowTm.look{n:Nat}{tm:List (Nat×AV)}(h:LowTm n tm): ∀ t v,look tm t=some v→Low n v:=by
  induction tm with
  |nil=>intro t v hl;cases hl
  |cons x tl ih=>
    intro t v hl
    obtain⟨s,u⟩:=x
    simp only [Vx.look] at hl
    split at hl
    · cases hl;exact h.1
    · exact ih h.2 t v hl
def LowHp(n:Nat):List (Option Own)→Prop
  | []=>True
  |none::tl=>LowHp n tl
  |some o::tl=>(∀ row∈o.es,∀ x∈row,Low n x)∧LowHp n tl
theorem LowHp.nth{n:Nat}{hp:List (Option Own)}(h:LowHp n hp): ∀ r o,nth hp r=some o→ ∀ row∈o.es,∀ x∈row,Low n x:=by
  induction hp with
  |nil=>intro r o hr;simp [Vx.nth] at hr
  |cons x tl ih=>
    intro r o hr
    cases r with
    |zero=>
      simp only [Vx.nth] at hr
      subst hr
      exact h.1
    |succ r=>
      simp only [Vx.nth] at hr
      cases x with
      |none=>exact ih h r o hr
      |some y=>exact ih h.2 r o hr
theorem Ent.row{c:Ctx}{tm:List (Nat×AV)}{hp:List (Option Own)}(t:Nat)(e:TypeId)(hl:look tm t=some .nils):Ent c ⟨tm,hp⟩ ⟨(t,.own hp.length 0)::tm,hp++ [some ⟨e,[]⟩]⟩:=by
  intro φ a w hc
  have hlen:(hp++ [some (⟨e,[]⟩:Own)]).length=hp.length+1:=by simp
  have hno: ∀ b,¬(⟨none,0,0,c.P.cellsOf e,false,fun _=>False⟩:Loc).has b:=by rintro b (h |h);cases h;exact h
  have hmut: ∀ b,Mut c.A (fun x=>if x=hp.length then⟨none,0,0,c.P.cellsOf e,false,fun _=>False⟩ else φ x) (hp++ [some ⟨e,[]⟩]) b→Mut c.A φ hp b:=by
    rintro b (ha | ⟨r,o,hr,hb⟩)
    · exact .inl ha
    · rw [Za2] at hr
      by_cases h:r=hp.length
      · simp only [pG h] at hb;exact(hno b hb).elim
      · rw [nG h] at hr;simp only [nG h] at hb;exact .inr ⟨r,o,hr,hb⟩
  have htr: ∀ av x,RelF c.P w (Mut c.A φ hp) hp.length φ av x→RelF c.P w (Mut c.A (fun x=>if x=hp.length then⟨none,0,0,c.P.cellsOf e,false,fun _=>False⟩ else φ x) (hp++ [some ⟨e,[]⟩])) (hp.length+1)
      (fun x=>if x=hp.length then⟨none,0,0,c.P.cellsOf e,false,fun _=>False⟩ else φ x) av x:=by
    intro av x hx ψ hψ
    refine(hx ψ fun s hs=> ?_).mono (Nat.le_refl _) (fun _ _ _=>rfl) (fun b _ hm hm'=>hm (hmut b hm'))
    rw [hψ s (by omega)]
    show(if s=hp.length then _ else φ s)=φ s
    rw [nG (by omega)]
  refine⟨fun x=>if x=hp.length then⟨none,0,0,c.P.cellsOf e,false,fun _=>False⟩ else φ x,hc.size,hc.defers,⟨hc.hok.os,hc.hok.tape,hc.hok.output,hc.hok.heap,hc.hok.frame,?_,?_,?_,hc.hok.amb,hc.hok.glob,by rw [hlen];exact Nat.le_succ_of_le hc.hok.len,fun s hs=>by
    have hh:c.n0≤hp.length:=hc.hok.len
    have: ¬s=hp.length:=by omega
    simp only [nG this]
    exact hc.hok.mono s hs⟩,?_⟩
  · intro r o b hr hb
    rw [Za2] at hr
    by_cases h:r=hp.length
    · simp only [pG h] at hb;exact(hno b hb).elim
    · rw [nG h] at hr;simp only [nG h] at hb;exact hc.hok.owned r o b hr hb
  · intro r r' o o' b hr hr' hb hb'
    rw [Za2] at hr hr'
    by_cases h:r=hp.length
    · simp only [pG h] at hb;exact(hno b hb).elim
    · by_cases h':r'=hp.length
      · simp only [pG h'] at hb';exact(hno b hb').elim
      · rw [nG h] at hr;simp only [nG h] at hb
        rw [nG h'] at hr';simp only [nG h'] at hb'
        exact hc.hok.apart r r' o o' b hr hr' hb hb'
  · intro r o hr
    rw [hlen]
    rw [Za2] at hr
    by_cases h:r=hp.length
    · rw [pG h] at hr
      cases hr
      refine⟨by simp [h],by simp [h],by simp,by simp,by simp [h],by simp [h],by simp [h],by simp [h],fun b hb=>by simp [h] at hb⟩
    · rw [nG h] at hr
      have hO:=hc.hok.obj r o hr
      refine⟨by simp only [nG h];exact hO.len,by simp only [nG h];exact hO.sz,hO.rows,by simp only [nG h];exact hO.room,by simp only [nG h];exact hO.cap,by simp only [nG h];exact hO.none,by simp only [nG h];exact hO.subl,by simp only [nG h];exact hO.subn,fun b hb=> ?_⟩
      simp only [nG h] at hb ⊢
      obtain⟨cs,h3,h4,h5⟩:=hO.some b hb
      exact⟨cs,h3,h4,h5.tr (fun _ _=>rfl) htr⟩
  · intro s av hs
    rw [hlen]
    simp only [look] at hs
    split at hs
    · rename_i he
      have he:=Nat.eq_of_beq_eq_true he
      subst he
      cases hs
      have hv:=hc.tm t _ hl φ (fun _ _=>rfl)
      have hv:a.tmps.getD t undef= .slice none 0 0:=by
        generalize a.tmps.getD t undef=x at hv
        cases hv with |data h=>cases h;rfl
      intro ψ hψ
      have e1:ψ hp.length=⟨none,0,0,c.P.cellsOf e,false,fun _=>False⟩:=by
        have:=hψ hp.length (by omega)
        simpa using this
      rw [hv]
      exact .own _ 0 _ rfl (by rw [e1];exact Nat.le_refl _) fun _=>by rw [e1];exact⟨rfl,rfl⟩
    · exact htr _ _ (hc.tm s av hs)
def View(c:Ctx)(st:St)(av dv:AV):Prop:= ∀ φ a w,Conc c φ st a w→ ∀ v,RelF c.P w (Mut c.A φ st.hp) st.hp.length φ av v→RelD c.P w c.A dv v
def Dat(c:Ctx)(st:St)(av dv:AV):Prop:= ∀ φ a w,Conc c φ st a w→ ∀ v,RelF c.P w (Mut c.A φ st.hp) st.hp.length φ av v→RelD c.P w (Mut c.A φ st.hp) dv v
def Zpr:AV→Bool
  | .int _ _ | .bool _ | .str _ | .nils | .sl _ _ | .rp _ _ | .lit _ | .any | .slf _ _ | .ifc _=>true
  |_=>false
def datB:AV→Bool
  | .fn _ l=>l.all Zpr
  |av=>Zpr av
theorem ZoD{P:Program}{w:World}{M:Nat→Prop}{φ:Phi}{av:AV}{v:Value}(h:Rel P w M φ av v)(hb:Zpr av=true):RelD P w M av v:=by
  cases h with
  |data h=>exact h
  |_=>cases hb
theorem Zhf{P:Program}{w:World}{M:Nat→Prop}{φ:Phi}{av:AV}{v:Value}(h:Rel P w M φ av v)(hb:datB av=true):RelD P w M av v:=by
  cases h with
  |data h=>exact h
  |fn f l vs h1 h2=>exact .fn f l vs h1 fun i hi=>ZoD (h2 i hi) (by
      have:l.getD i .any=l[i]:=by simp [gQ,hi]
      rw [this];exact List.all_eq_true.1 hb _ (List.getElem_mem _))
  |_=>cases hb
theorem Zgu{av:AV}(h:datB av=true):noSub av=true:=by cases av<;>first |rfl |cases h
theorem ZnQ{l:List AV}(h:l.all datB=true):NS l:=fun x hx=>Zgu (List.all_eq_true.1 h x hx)
section view
variable {c:Ctx} {st:St}
theorem Dat.b{av:AV}(h:datB av=true):Dat c st av av:=fun φ a w hc v hv=>Zhf (hv φ (fun _ _=>rfl)) h
theorem Dat.view{av dv:AV}(h:Dat c st av dv):View c st av dv:=fun φ a w hc v hv=>
  (h φ a w hc v hv).mono (Nat.le_refl _) (fun _ _ _=>rfl) (fun _ _ hm ha=>hm (.inl ha))
theorem Dat.agg{l l':List AV}(hl:l.length=l'.length)(h: ∀ i,i<l.length→Dat c st (l.getD i .any) (l'.getD i .any)):Dat c st (.agg l) (.agg l'):=by
  intro φ a w hc v hv
  obtain⟨vs,rfl,h1,h2⟩:=Zcg hv
  exact .agg l' vs (by omega) fun i hi=>h i (by omega) φ a w hc _ (h2 i (by omega))
theorem View.agg{l l':List AV}(hl:l.length=l'.length)(h: ∀ i,i<l.length→View c st (l.getD i .any) (l'.getD i .any)):View c st (.agg l) (.agg l'):=by
  intro φ a w hc v hv
  obtain⟨vs,rfl,h1,h2⟩:=Zcg hv
  exact .agg l' vs (by omega) fun i hi=>h i (by omega) φ a w hc _ (h2 i (by omega))
inductive Pw (R:AV→AV→Prop):List AV→List AV→Prop
  |nil:Pw R [] []
  |cons {x y:AV} {l m:List AV}:R x y→Pw R l m→Pw R (x::l) (y::m)
theorem Pw.len{R:AV→AV→Prop}{l m:List AV}(h:Pw R l m):l.length=m.length:=by induction h with |nil=>rfl |cons _ _ ih=>simp [ih]
theorem Pw.get{R:AV→AV→Prop}{l m:List AV}(h:Pw R l m): ∀ i,i<l.length→R (l.getD i .any) (m.getD i .any):=by
  induction h with
  |nil=>intro i hi;cases hi
  |cons h1 _ ih=>
    intro i hi
    cases i with
    |zero=>simpa using h1
    |succ i=>simpa using ih i (by simpa using hi)
theorem Pw.refl{R:AV→AV→Prop}{l:List AV}(h: ∀ x∈l,R x x):Pw R l l:=by
  induction l with
  |nil=>exact .nil
  |cons x l ih=>exact .cons (h x (by simp)) (ih fun y hy=>h y (by simp [hy]))
theorem Dat.aggL{l l':List AV}(h:Pw (Dat c st) l l'):Dat c st (.agg l) (.agg l'):= .agg h.len h.get
theorem View.aggL{l l':List AV}(h:Pw (View c st) l l'):View c st (.agg l) (.agg l'):= .agg h.len h.get
theorem Dat.aggB{l:List AV}(h:l.all datB=true):Dat c st (.agg l) (.agg l):= .aggL (.refl fun x hx=> .b (List.all_eq_true.1 h x hx))
theorem View.own{r n:Nat}{o:Own}{es:List (List AV)}(ho:nth st.hp r=some o)(hn:o.es.length=n)(hes:es.length=n)(hrows: ∀ row∈es,row.length=c.P.cellsOf o.elem)
    (h: ∀ i j,i<n→j<c.P.cellsOf o.elem→View c st (cellAt o.es i j) (cellAt es i j)) (hns: ∀ row∈o.es,NS row):View c st (.own r n) (.sl o.elem es):=by
  intro φ a w hc v hv
  have hO:=hc.hok.obj r o ho
  have hx:=JZ hv (by rw [hO.len,hn])
  rw [hx]
  have h63:n<2^63:=by have:=hO.room;have:=hO.cap;omega
  cases hb:(φ r).blk with
  |none=>
    have:=(hO.none hb).1
    rw [this] at hn
    simp at hn
    subst hn
    have:es= []:=List.eq_nil_of_length_eq_zero hes
    subst this
    exact .sl0 _ _ _
  |some b=>
    obtain⟨cs,h3,h4,h5⟩:=hO.some b hb
    have h3:=h3.cells (XY hv (by rw [hO.len,hn]))
    have hlt:b<w.heap.size:=(Array.getElem?_eq_some_iff.1 h3).1
    have hcells: ∀ i j,i<es.length→j<c.P.cellsOf o.elem→w.cell? ⟨b,0+(i*c.P.cellsOf o.elem+j),none⟩=some (cs.getD (i*c.P.cellsOf o.elem+j) undef):=fun i j hi hj=>by
      rw [Z0 h3]
      have hroom:=hO.room
      have:i*c.P.cellsOf o.elem+j<cs.size:=by rw [h4];exact ZbD (by omega) hj
      simp [this]
    have:=RelD.sl (P:=c.P) (w:=w) (M:=c.A) o.elem es b 0 (φ r).cap (fun i j=>cs.getD (i*c.P.cellsOf o.elem+j) undef) hlt (hc.hok.owned r o b ho (.inl hb)).2 (by omega) (by have:=hO.room;omega) hrows hcells
      (fun i j hi hj=>h i j (by omega) hj φ a w hc _ (h5.plain (by omega) hj (Zme hns i j)))
    rw [hes] at this
    exact this
theorem View.ownB{r n:Nat}{o:Own}(ho:nth st.hp r=some o)(hn:o.es.length=n)(h: ∀ row∈o.es,row.length=c.P.cellsOf o.elem∧row.all datB=true):View c st (.own r n) (.sl o.elem o.es):=by
  refine .own ho hn hn (fun row hr=>(h row hr).1) (fun i j hi hj=> ?_) (fun row hr=>ZnQ (h row hr).2)
  have hi':i<o.es.length:=by omega
  have hrow:=h _ (List.getElem_mem hi')
  have:cellAt o.es i j=o.es[i][j]'(by omega):=by simp [cellAt,gQ,hi',hrow.1,hj]
  rw [this]
  exact(Dat.b (List.all_eq_true.1 hrow.2 _ (List.getElem_mem _))).view
end view
theorem ZeZ{c:Ctx}{φ:Phi}{st:St}{a:Act}{w:World}(hc:Conc c φ st a w):GlOK c.gl w (Mut c.A φ st.hp) []:=by
  have hg:=hc.hok.glob
  refine⟨Nat.le_trans hg.len hc.hok.heap,(fun b hb=>by cases hb),fun p hp=> ?_⟩
  obtain⟨h1,⟨e,fr,h2⟩,h3⟩:=hg.tab p hp
  have hlt:=(Array.getElem?_eq_some_iff.1 h2).1
  have hW:p.1∉c.W:=fun hw=>by have:=hg.W p.1 hw;omega
  refine⟨h1,⟨e,fr,(hc.hok.frame p.1 hlt hW).trans h2⟩,?_⟩
  rintro(ha | ⟨r,o,hr,hb⟩)
  · exact h3 ha
  · rcases(hc.hok.owned r o p.1 hr hb).1 with hw |hw
    · exact hW hw
    · omega
def Spec(P:Program)(gl:Gl)(f:FuncId)(args:List AV)(res:AV):Prop:= ∀ (A:Nat→Prop) (w:World) (vals:Array Value),(∀ b,A b→b<w.heap.size)→GlOK gl w A []→vals.size=args.length→
  (∀ i,i<args.length→RelD P w A (args.getD i .any) (vals.getD i undef))→Calls P f vals w fun e w'=> ∃ v,e= .returned v∧Below w.heap.size w w'∧RelD P w' A res v
inductive RetV (c:Ctx) (st:St):ResultVar→AV→Prop
  |tmp {t:Nat} {av dv:AV}:look st.tm t=some av→View c st av dv→RetV c st (.tmp t) dv
  |agg {t ty r n i j sz:Nat} {o:Own} {row l l':List AV}:look st.tm t=some (.ptr r n i j)→nth st.hp r=some o→o.es.length=n→o.es[i]?=some row→tAgg c.P ty sz=true→(row.drop j).take sz=l→l.length=sz→
      Pw (View c st) l l'→(hns:NS l:=by first |exact nsR rfl |exact nsM (fun _=>rfl))→RetV c st (.cell t ty) (.agg l')
  |scal {t ty r n i j:Nat} {o:Own} {row:List AV} {v v':AV}:look st.tm t=some (.ptr r n i j)→nth st.hp r=some o→o.es.length=n→o.es[i]?=some row→tScal c.P ty=true→row[j]?=some v→
      View c st v v'→(hns:noSub v=true:=by rfl)→RetV c st (.cell t ty) v'
def ZjF(tmps:Array Value):ResultVar→Sem Value
  | .tmp t=>pure (tmps.getD t undef)
  | .cell t ty=>do loadVar ty (←asAddr (tmps.getD t undef))
theorem RetV.sound{c:Ctx}{st:St}{rv:ResultVar}{dv:AV}(h:RetV c st rv dv){φ:Phi}{a:Act}{w:World}(hc:Conc c φ st a w):
    ∃ v,(ZjF a.tmps rv).run c.P w= .ok v w∧RelD c.P w c.A dv v:=by
  unfold ZjF
  cases h with
  |tmp hl hv=>exact⟨_,rfl,hv φ a w hc _ (hc.tm _ _ hl)⟩
  | @agg t ty r n i j sz o row l l' hl ho hn hrow ht hl' hlen hv hns=>
    have hmp:=Jk (hc.tm t _ hl) (by rw [(hc.hok.obj r o ho).len,hn])
    have hld:=Qt (c:=c) (ops:= #[]) (st:=st) (dst:=none) (ty:=0) (pos:= "") (after:= #[]) (x:= .tmp t) (ov hl) ho hn hrow ht hl' hlen hns φ a w hc
    obtain⟨hw,_⟩:=hld
    have hw:=hw rfl
    obtain⟨b,cs,h1,h2,h3,h4,h5,_,_,h6,h7⟩:=Za6 hc ho hrow hmp
    obtain⟨b',hb',hx⟩:=Zbb (hc.tm t _ hl) (by rw [h2,hn])
    unfold Oper.wp at hw
    simp only [execOp,Act.eval,hx,Sem.run_bind] at hw
    simp only [hx]
    have e:(do loadVar ty (←asAddr (.pointer (some ⟨b',i*(φ r).sz+j,none⟩))):Sem Value).run c.P w=(Instr.loadAt ty (.pointer (some ⟨b',i*(φ r).sz+j,none⟩))).run c.P w:=rfl
    rw [e]
    cases hr:(Instr.loadAt ty (.pointer (some ⟨b',i*(φ r).sz+j,none⟩))).run c.P w with
    |halt hh w''=>rw [hr] at hw;cases hh<;>exact hw.elim
    |ok v w''=>
      rw [hr] at hw
      obtain⟨u,hu1,hu2,hu3⟩:=hw
      obtain⟨inf,d,hi,hs,hu,hd,_,hsz0⟩:=tAgg.spec ht
      have hjl:j+sz≤row.length:=by rw [←hl'] at hlen;simp at hlen;omega
      have hw2:(Instr.loadAt ty (.pointer (some ⟨b',i*(φ r).sz+j,none⟩))).run c.P w= .ok (.agg ((cs.toList.drop (i*row.length+j)).take sz).toArray) w:=by
        rw [h1] at hb';cases hb'
        rw [h3]
        refine Zc6 w b (i*row.length+j) ty sz _ ht ?_ ?_
        · simp
          have:=h6 (j+sz-1) (by omega)
          omega
        · intro k hk
          rw [Z0 h4]
          have:=h6 (j+k) (by omega)
          simp [gQ,hk,List.getElem?_drop]
          have e:i*row.length+j+k=i*row.length+(j+k):=by omega
          rw [e,Array.getElem?_eq_getElem (by omega)]
          simp
      rw [hw2] at hr
      cases hr
      refine⟨_,rfl,?_⟩
      refine .agg l' _ (by rw [←hv.len,hlen];simp;have:=h6 (j+sz-1) (by omega);omega) fun k hk=> ?_
      have hk':k<sz:=by rw [←hv.len,hlen] at hk;exact hk
      refine hv.get k (by rw [hlen];exact hk') φ a w hc _ ?_
      have e1:l.getD k .any=row.getD (j+k) .any:=by
        rw [←hl'];simp [gQ,List.getElem?_drop,show k<sz by omega]
      have h8:=h7 (j+k) (by omega) (by rw [←e1];exact hns.getD' k)
      have e2:((cs.toList.drop (i*row.length+j)).take sz).toArray.getD k undef=cs.getD (i*row.length+(j+k)) undef:=by
        simp [Array.getD_eq_getD_getElem?,List.getElem?_drop,show k<sz by omega,Nat.add_assoc]
      rw [e1,e2];exact h8
  | @scal t ty r n i j o row v v' hl ho hn hrow ht hv hvv hns=>
    have hmp:=Jk (hc.tm t _ hl) (by rw [(hc.hok.obj r o ho).len,hn])
    obtain⟨b,cs,h1,h2,h3,h4,h5,_,_,h6,h7⟩:=Za6 hc ho hrow hmp
    obtain⟨b',hb',hx⟩:=Zbb (hc.tm t _ hl) (by rw [h2,hn])
    rw [h1] at hb';cases hb'
    have hj:j<row.length:=(List.getElem?_eq_some_iff.1 hv).1
    have h6':=h6 j hj
    refine⟨cs.getD (i*row.length+j) undef,?_,?_⟩
    · simp only [hx,h3]
      have e:(do loadVar ty (←asAddr (.pointer (some ⟨b,i*row.length+j,none⟩))):Sem Value).run c.P w=(Instr.loadAt ty (.pointer (some ⟨b,i*row.length+j,none⟩))).run c.P w:=rfl
      rw [e,Zcu w b (i*row.length+j) ty _ ht]
      rw [Z0 h4,Array.getElem?_eq_getElem h6'];simp [h6']
    · have:=h7 j hj (by rw [getD_of_get? hv];exact hns)
      rw [getD_of_get? hv] at this
      exact hvv φ a w hc _ this
end Go.Vx
