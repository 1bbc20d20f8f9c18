/- A text of the proof: a verified executor of the program form, or the contracts of the functions that the law reaches. -/
import Derived.Test.YtailpehcgelmdaaGreatDoorVS
import Derived.Lib.AppendZerosOnto
import Derived.Lib.Overlaps
import Derived.Shelf.Spec.SlicesInsert
import Derived.Test.YtailpehcgelmdaaGreatDoorVR
set_option linter.all false
namespace Go.Vx
open Go Go.RowKit Go.Lib
structure InsK (P:Program) (f ov:FuncId) (t tn:TypeId) (sz:Nat):Prop where
  fin0: ∀ (vb voff vc:Nat) (v':Value) (w w':World),
    (Builtin.append_ #[t,t] t #[.slice none 0 0,.slice (some ⟨vb,voff,none⟩) 1 vc]).run P w= .ok v' w'→
    Calls P f #[.slice none 0 0,.int .i64 (0:Nat),.slice (some ⟨vb,voff,none⟩) 1 vc] w fun e W=>e= .returned v'∧W=w'
  fin: ∀ (b n c vb voff vc:Nat) (v':Value) (w w':World),n≤c→c≤9223372036854775807→
    (Builtin.append_ #[t,t] t #[.slice (some ⟨b,0,none⟩) n c,.slice (some ⟨vb,voff,none⟩) 1 vc]).run P w= .ok v' w'→
    Calls P f #[.slice (some ⟨b,0,none⟩) n c,.int .i64 n,.slice (some ⟨vb,voff,none⟩) 1 vc] w fun e W=>e= .returned v'∧W=w'
  room: ∀ (b n c i vb voff vc:Nat) (w w1 w2:World),i<n→n+1≤c→c≤9223372036854775807→
    (∀ lb cb,(callFunc ov #[.slice (some ⟨vb,voff,none⟩) 1 vc,.slice (some ⟨b,(i+1)*sz,none⟩) lb cb]).run P w= .ok (.value (.bool false)) w)→
    (∀ ty dc sc,(Builtin.copy_ #[t,t] ty #[.slice (some ⟨b,(i+1)*sz,none⟩) (n-i) dc,.slice (some ⟨b,i*sz,none⟩) (n+1-i) sc]).run P w.drew= .ok (goInt (n-i:Nat)) w1)→
    (∀ ty dc,(Builtin.copy_ #[t,t] ty #[.slice (some ⟨b,i*sz,none⟩) (n+1-i) dc,.slice (some ⟨vb,voff,none⟩) 1 vc]).run P w1= .ok (goInt 1) w2)→
    Calls P f #[.slice (some ⟨b,0,none⟩) n c,.int .i64 i,.slice (some ⟨vb,voff,none⟩) 1 vc] w fun e W=>e= .returned (.slice (some ⟨b,0,none⟩) (n+1) c)∧W=w2
  grow: ∀ (b n c i vb voff vc g c':Nat) (w w1 w2 w3:World),i<n→n≤c→c<n+1→c≤9223372036854775806→n+1≤c'→c'≤9223372036854775807→
    (∀ ty,(Builtin.append_ #[t,tn] ty #[.slice (some ⟨b,0,none⟩) i c,.int .i64 ((n+1-i:Nat):Int)]).run P w= .ok (.slice (some ⟨g,0,none⟩) (n+1) c') w1)→
    (∀ ty dc,(Builtin.copy_ #[t,t] ty #[.slice (some ⟨g,i*sz,none⟩) (n+1-i) dc,.slice (some ⟨vb,voff,none⟩) 1 vc]).run P w1= .ok (goInt 1) w2)→
    (∀ ty dc sc,(Builtin.copy_ #[t,t] ty #[.slice (some ⟨g,(i+1)*sz,none⟩) (n-i) dc,.slice (some ⟨b,i*sz,none⟩) (n-i) sc]).run P w2.drew= .ok (goInt (n-i:Nat)) w3)→
    Calls P f #[.slice (some ⟨b,0,none⟩) n c,.int .i64 i,.slice (some ⟨vb,voff,none⟩) 1 vc] w fun e W=>e= .returned (.slice (some ⟨g,0,none⟩) (n+1) c')∧W=w3
def OvK(P:Program)(ov:FuncId):Prop:= ∀ (w:World) (a b:Addr) (la ca lb cb:Nat),a.block≠b.block→ ∀ (tA tB:TypeId) (kA kB:Nat),w.shape? a.block=some (tA,kA)→w.shape? b.block=some (tB,kB)→kB≠0→
  w.frozen? a=false→w.frozen? ⟨a.block,kA,none⟩=false→(callFunc ov #[.slice (some a) la ca,.slice (some b) lb cb]).run P w= .ok (.value (.bool false)) w
def ins{α:Type}(xs:List α)(i:Int)(vs:List α):Option (List α):=
  if 0≤i∧i≤xs.length∧xs.length+1≤4294967296∧vs.length=1 then some (xs.take i.toNat++vs++xs.drop i.toNat) else none
theorem Znd{α:Type}{c:Ctx}{φ:Phi}{hp:List (Option Own)}{w w':World}{f:α→List AV}{e r sz g:Nat}{xs zs:List α}{L:Loc}{cs':Array Value}(hok:HeapOK c φ hp w)(ho:nth hp r=some ⟨e,xs.map f⟩)
    (hcs:c.P.cellsOf e=sz) (hf: ∀ u,(f u).length=sz) (hlen:xs.length<zs.length)
    (hos:w'.os=w.os) (htp:w'.tape=w.tape) (hou:w'.output=w.output) (hsz:w.heap.size≤w'.heap.size)
    (hblk: ∀ b,b<w.heap.size→(φ r).blk≠some b→w'.heap[b]?=w.heap[b]?) (hLb:L.blk=(φ r).blk∨w.heap.size≤g) (hLg:L.blk=some g) (hLn:L.n=zs.length) (hLs:L.sz=sz) (hLc:L.cap<2^63) (hLr:zs.length≤L.cap) (hLm:L.mp=false) (hLu:L.sub=(φ r).sub)
    (hg:w'.heap[g]?=some (.cells cs' e (0,0))) (hcsz:cs'.size=L.cap*sz)
    (hcell: ∀ i j,i<zs.length→j<sz→RelF c.P w (Mut c.A φ hp) hp.length φ (cellAt (zs.map f) i j) (cs'.getD (i*sz+j) undef)):
    ∃ φ',HeapOK c φ' (JE hp r (some ⟨e,zs.map f⟩)) w'∧
      (∀ av x,RelF c.P w (Mut c.A φ hp) hp.length φ av x→RelF c.P w' (Mut c.A φ' (JE hp r (some ⟨e,zs.map f⟩))) (JE hp r (some ⟨e,zs.map f⟩)).length φ' av x)∧
      RelF c.P w' (Mut c.A φ' (JE hp r (some ⟨e,zs.map f⟩))) (JE hp r (some ⟨e,zs.map f⟩)).length φ' (.own r zs.length) (.slice (some ⟨g,0,none⟩) zs.length L.cap):=by
  have hO:=hok.obj r _ ho
  have hrl:r<hp.length:=XA ho
  have hgs: ¬(φ r).sub g:=fun hs=>by
    rcases hLb with h |h
    · exact hO.subn g (by rw [←h];exact hLg) hs
    · have:=hO.subl g hs;omega
  have hupd:=ZfW (L:=L) (o':=⟨e,zs.map f⟩) (w':=w') hok ho hos htp hou hsz hblk (by
      rcases hLb with h |h
      · exact .inl h
      · exact .inr fun b hb=>by rw [hLg] at hb;cases hb;exact h) (.inr (by rw [hO.len,hLn];simpa using hlen)) (fun htr=>by
    refine⟨by simp [hLn],by simp [hLs,hcs],?_,by simpa using hLr,by simpa using hLc,(fun h=>by simp [hLg] at h),(by simp only [if_true,hLu];exact fun b hb=>Nat.lt_of_lt_of_le (hO.subl b hb) hsz),(by simp only [if_true,hLu,hLg];rintro b hb;cases hb;exact hgs),fun b' hb'=> ?_⟩
    · intro row hrow
      obtain⟨u,_,rfl⟩:=List.mem_map.1 hrow
      simp only [hcs];exact hf u
    · simp only [if_true,hLg] at hb'
      cases hb'
      refine⟨cs',by simp only [if_true,hLm];exact hg,by simp [hcsz,hcs],Cells.of fun i j hi hj=> ?_⟩
      simp only [hcs] at hj ⊢
      exact htr _ _ (hcell i j (by simpa using hi) hj)) (by exact hLu)
  refine⟨_,hupd.1,hupd.2,fun φ' hφ=> ?_⟩
  have e:φ' r=L:=by
    have:=hφ r (by rw [Ze3];exact hrl)
    simpa using this
  exact .own r zs.length _ rfl (by rw [e,hLn];exact Nat.le_refl _) fun _=>by rw [e,hLg];exact⟨hLm,rfl⟩
theorem Zhn{w:World}{b:Nat}{cs:Array Value}{e:TypeId}(h:w.heap[b]?=some (.cells cs e (0,0))):w.shape? b=some (e,cs.size):=by simp [World.shape?,h]
section ins
variable {c:Ctx} {ops:Array Oper} {st:St} {dst:Option Tmp} {ty:TypeId} {pos:String} {after:Array Edge}
theorem Zno{F:FuncId}{x y z:Operand}{ts:Array TypeId}{a:Act}{w:World}(hcall:callable c.P F=true):
    (execOp a.eval ⟨dst,.call {callee:= .value (.func F),args:= #[x,y,z],argTypes:=ts},ty,pos,after,none⟩).run c.P w= .ok (.enter F #[a.eval x,a.eval y,a.eval z]) w:=by
  have hf:a.eval (.func F)= .func (.func F) #[] #[]:=rfl
  simp [execOp,resolve,Deferred.ofValue,invoke,Za9 hcall,hf]
theorem JM{α:Type}{F ov:FuncId}{f:α→List AV}{x y z:Operand}{t tn e sz by_ r q n m:Nat}{ts:Array TypeId}{xs vs zs:List α}{i:Int}
    (K:InsK c.P F ov t tn sz) (hov:OvK c.P ov) (hcall:callable c.P F=true) (htn:c.P.underlying tn=some (.int .i64))
    (h:Opv c st x (.own r n)) (hi:Opv c st y (.int .i64 i)) (hv:Opv c st z (.own q m)) (ht:tSl c.P t e sz by_=true) (hby:Nat.ble by_ 32768=true)
    (ho:nth st.hp r=some ⟨e,xs.map f⟩) (hq:nth st.hp q=some ⟨e,vs.map f⟩) (hn:xs.length=n) (hm:vs.length=m)
    (hD: ∀ u,(f u).length=c.P.cellsOf e∧(f u).all datB=true) (h1: ∀ u,(f u).all c1B=true) (hqr:Nat.beq q r=false) (hz:ins xs i vs=some zs):
    WVal c ops st ⟨dst,.call {callee:= .value (.func F),args:= #[x,y,z],argTypes:=ts},ty,pos,after,none⟩ (.own r zs.length) (JE st.hp r (some ⟨e,zs.map f⟩)):=by
  have hf: ∀ u,(f u).all datB=true:=fun u=>(hD u).2
  have hfl: ∀ u,(f u).length=c.P.cellsOf e:=fun u=>(hD u).1
  intro φ a w hc
  refine⟨rfl,?_⟩
  unfold Oper.wp
  rw [Zno hcall]
  obtain⟨hu,inf,z0,hi',hs,hbt,hn0,hz0,hzs,hcs⟩:=tSl.spec ht
  have hne:q≠r:=Nat.ne_of_beq_eq_false hqr
  unfold ins at hz
  split at hz
  case isFalse=>cases hz
  rename_i hcond
  obtain⟨i0,i1,i2,i3⟩:=hcond
  cases hz
  subst hn
  have hm1:m=1:=by omega
  subst hm1
  obtain⟨k,rfl⟩:=Int.eq_ofNat_of_zero_le i0
  simp only [Int.toNat_natCast] at*
  have hk:k≤xs.length:=by omega
  have hO:=hc.hok.obj r _ ho
  have hQ:=hc.hok.obj q _ hq
  have hxv:=Zcu (h φ a w hc) (by rw [hO.len];simp)
  have hmp:=Za2 (h φ a w hc) (by rw [hO.len];simp)
  have hyv:=Zih (hi φ a w hc)
  have hzv:=Zcu (hv φ a w hc) (by rw [hQ.len];simp [i3])
  have hmq:=Za2 (hv φ a w hc) (by rw [hQ.len];simp [i3])
  have hvb: ∃ vb,(φ q).blk=some vb:=by
    cases hb:(φ q).blk with
    |none=>have:=(hQ.none hb).1;simp at this;rw [this] at i3;cases i3
    |some vb=>exact⟨vb,rfl⟩
  obtain⟨vb,hvb⟩:=hvb
  rw [hvb] at hzv
  simp only [Option.map_some] at hzv
  obtain⟨csv,d1,d2,d3⟩:=hQ.some vb hvb
  have d1:=d1.cells hmq
  rw [hcs] at d2
  have hcq:1≤(φ q).cap:=by have:=hQ.room;simpa [i3] using this
  have hx63:=hO.cap
  have hroom0:xs.length≤(φ r).cap:=by have:=hO.room;simpa using this
  have hb48: ∀ N:Nat,N≤4294967296→N*inf.bytes≤140737488355328:=fun N hN=>by
    rw [hbt]
    exact Nat.le_trans (Nat.mul_le_mul hN (by simpa using hby)) (by decide)
  by_cases hkn:k=xs.length
  · -- at its end
    subst hkn
    have hz':apz 32768 xs vs=some (xs++vs):=by unfold apz;rw [if_pos (by omega)]
    have hlist:xs.take xs.length++vs++xs.drop xs.length=xs++vs:=by simp
    rw [hlist]
    have hcc:Conc ⟨c.P,2,c.w0,c.A,c.W,c.gl,c.n0,c.φ0⟩ φ ⟨[(0,.own r xs.length),(1,.own q 1)],st.hp⟩ {tmps:= #[a.eval x,a.eval z],defers:= []} w:=
      ⟨rfl,rfl,hc.hok.nt 2,fun t av ht=>by
        simp only [look] at ht
        split at ht
        · rename_i he
          have he:=Nat.eq_of_beq_eq_true he
          subst he;cases ht
          exact h φ a w hc
        · split at ht
          · rename_i he
            have he:=Nat.eq_of_beq_eq_true he
            subst he;cases ht
            exact hv φ a w hc
          · cases ht⟩
    obtain⟨_,hwp⟩:=JR (c:=⟨c.P,2,c.w0,c.A,c.W,c.gl,c.n0,c.φ0⟩) (ops:= #[]) (st:=⟨[(0,.own r xs.length),(1,.own q 1)],st.hp⟩) (dst:=some 0) (ty:=t) (pos:= "") (after:= #[]) (f:=f) (x:= .tmp 0) (y:= .tmp 1)
      (fun φ a w hc=>hc.tm 0 _ rfl) (Znc (o:=⟨e,vs.map f⟩) (fun φ a w hc=>hc.tm 1 _ rfl) hq (by simp [i3]) hcs (fun row hr=>by obtain⟨u,_,rfl⟩:=List.mem_map.1 hr;exact ZmP (hf u)))
      ht ho rfl (fun u=>Zd (h1 u)) hby hz' φ _ w hcc
    unfold Oper.wp at hwp
    have he:(execOp (Act.eval {tmps:= #[a.eval x,a.eval z],defers:= []}) ⟨some 0,.call {callee:= .builtin .append,args:= #[.tmp 0,.tmp 1],argTypes:= #[t,t]},t, "",#[],none⟩).run c.P w=
        ((Builtin.append_ #[t,t] t #[a.eval x,a.eval z]).run c.P w).andThen fun v w=> .ok (.value v) w:=by
      simp [execOp,resolve,invoke,builtin,Act.eval]
    rw [he] at hwp
    have hap: ∃ v' w2 φ2,(Builtin.append_ #[t,t] t #[a.eval x,a.eval z]).run c.P w= .ok v' w2∧HeapOK c φ2 (JE st.hp r (some ⟨e,(xs++vs).map f⟩)) w2∧
        (∀ av x,RelF c.P w (Mut c.A φ st.hp) st.hp.length φ av x→RelF c.P w2 (Mut c.A φ2 (JE st.hp r (some ⟨e,(xs++vs).map f⟩))) (JE st.hp r (some ⟨e,(xs++vs).map f⟩)).length φ2 av x)∧
        RelF c.P w2 (Mut c.A φ2 (JE st.hp r (some ⟨e,(xs++vs).map f⟩))) (JE st.hp r (some ⟨e,(xs++vs).map f⟩)).length φ2 (.own r (xs++vs).length) v':=by
      cases hrun:(Builtin.append_ #[t,t] t #[a.eval x,a.eval z]).run c.P w with
      |halt x w'=>rw [hrun] at hwp;cases x<;>simp [Result.andThen,Oper.upon,noQ] at hwp
      |ok v' w2=>
        rw [hrun] at hwp
        obtain⟨u',φ2,e1,e2,e3,e4⟩:=hwp
        have:v'=u':=by
          have:=congrArg (fun a:Act=>a.tmps.getD 0 undef) e1
          simpa [Act.put] using this
        subst this
        exact⟨v',w2,φ2,rfl,e2.tn,e3,e4⟩
    obtain⟨v',w2,φ2,hrun,g4,g5,g6⟩:=hap
    rw [hxv,hzv] at hrun
    rw [hxv,hyv,hzv]
    cases hb:(φ r).blk with
    |none=>
      obtain⟨q1,q2⟩:=hO.none hb
      have q1:xs.length=0:=by simpa using q1
      rw [hb,q2,q1] at hrun
      rw [q2,q1]
      refine(K.fin0 vb 0 _ v' w w2 hrun).mono ?_
      rintro e w' ⟨rfl,rfl⟩
      exact⟨_,φ2,rfl,g4,g5,g6⟩
    |some b=>
      rw [hb] at hrun
      refine(K.fin b _ _ vb 0 _ v' w w2 hroom0 (by omega) hrun).mono ?_
      rintro e w' ⟨rfl,rfl⟩
      exact⟨_,φ2,rfl,g4,g5,g6⟩
  · have hkl:k<xs.length:=by omega
    obtain⟨b,hb⟩: ∃ b,(φ r).blk=some b:=by
      cases hb:(φ r).blk with
      |none=>have:=(hO.none hb).1;simp at this;rw [this] at hkl;cases hkl
      |some b=>exact⟨b,rfl⟩
    rw [hb] at hxv
    simp only [Option.map_some] at hxv
    obtain⟨cs,c1,c2,c3⟩:=hO.some b hb
    have c1:=c1.cells hmp
    rw [hcs] at c2
    have hbq:vb≠b:=fun e=>hne (by subst e;exact hc.hok.apart q r _ _ vb hq ho (.inl hvb) (.inl hb))
    have hblt:b<w.heap.size:=(Array.getElem?_eq_some_iff.1 c1).1
    have hvlt:vb<w.heap.size:=(Array.getElem?_eq_some_iff.1 d1).1
    obtain⟨u,rfl⟩: ∃ u,vs= [u]:=List.length_eq_one_iff.1 i3
    have hfl': ∀ u,(f u).length=sz:=fun u=>(hfl u).trans hcs
    have cX: ∀ i j,i<xs.length→j<sz→RelF c.P w (Mut c.A φ st.hp) st.hp.length φ (cellAt (xs.map f) i j) (cs.getD (i*sz+j) undef)∧c1B (cellAt (xs.map f) i j)=true:=by
      intro i j hi hj
      have e1:cellAt (xs.map f) i j=(f xs[i])[j]'(by rw [hfl'];exact hj):=by simp [cellAt,List.getD_eq_getElem?_getD,hi,hfl',hj]
      have:=c3.plain (i:=i) (j:=j) (by simpa using hi) (by rw [hcs];omega) (by simp only;rw [e1];exact ZcJ (List.all_eq_true.1 (hf xs[i]) _ (List.getElem_mem _)))
      simp only at this
      rw [hcs] at this
      exact⟨this,by rw [e1];exact List.all_eq_true.1 (h1 xs[i]) _ (List.getElem_mem _)⟩
    have cV: ∀ j,j<sz→RelF c.P w (Mut c.A φ st.hp) st.hp.length φ (cellAt ([u].map f) 0 j) (csv.getD j undef)∧c1B (cellAt ([u].map f) 0 j)=true:=by
      intro j hj
      have e1:cellAt ([u].map f) 0 j=(f u)[j]'(by rw [hfl'];exact hj):=by simp [cellAt,List.getD_eq_getElem?_getD,hfl',hj]
      have:=d3.plain (i:=0) (j:=j) (by simp) (by rw [hcs];omega) (by simp only;rw [e1];exact ZcJ (List.all_eq_true.1 (hf u) _ (List.getElem_mem _)))
      simp only at this
      rw [hcs,Nat.zero_mul,Nat.zero_add] at this
      exact⟨this,by rw [e1];exact List.all_eq_true.1 (h1 u) _ (List.getElem_mem _)⟩
    have hcsz:xs.length*sz≤cs.size:=by rw [c2];exact Nat.mul_le_mul_right _ hroom0
    have hvsz:sz≤csv.size:=by rw [d2];exact Nat.le_mul_of_pos_left _ hcq
    have q1:(k+1)*sz≤xs.length*sz:=Nat.mul_le_mul_right _ (by omega)
    have q2:(xs.length-k)*sz=xs.length*sz-k*sz:=Nat.sub_mul ..
    rw [Nat.add_mul,Nat.one_mul] at q1
    have hmid:((cs.toList.drop (k*sz)).take ((xs.length-k)*sz)).length=(xs.length-k)*sz:=by simp;omega
    have hmidg: ∀ x,x<(xs.length-k)*sz→((cs.toList.drop (k*sz)).take ((xs.length-k)*sz)).getD x undef=cs.getD (k*sz+x) undef:=fun x hx=>by
      rw [List.getD_eq_getElem?_getD,List.getElem?_take_of_lt hx,List.getElem?_drop]
      simp [Array.getD_eq_getD_getElem?]
    have hmid1: ∀ v∈(cs.toList.drop (k*sz)).take ((xs.length-k)*sz),v.oneCell'=true:=by
      intro v hv
      obtain⟨j,hj,rfl⟩:=List.getElem_of_mem hv
      have hjl:j<(xs.length-k)*sz:=by omega
      have hd:=Nat.div_add_mod j sz
      have hmod:=Nat.mod_lt j hn0
      have hdl:j/sz<xs.length-k:=Nat.div_lt_of_lt_mul (by rw [Nat.mul_comm];exact hjl)
      have hq:=cX (k+j/sz) (j % sz) (by omega) hmod
      have e3:((cs.toList.drop (k*sz)).take ((xs.length-k)*sz))[j]=cs.getD ((k+j/sz)*sz+j % sz) undef:=by
        have:(k+j/sz)*sz+j % sz=k*sz+j:=by rw [Nat.add_mul,Nat.mul_comm (j/sz)];omega
        rw [this,←hmidg j hjl,List.getD_eq_getElem?_getD,List.getElem?_eq_getElem hj]
        rfl
      rw [e3]
      exact ZfY hq.1 hq.2
    have hnw:(csv.toList.take sz).length=sz:=by simp;omega
    have hnwg: ∀ x,x<sz→(csv.toList.take sz).getD x undef=csv.getD x undef:=fun x hx=>by
      rw [List.getD_eq_getElem?_getD,List.getElem?_take_of_lt hx]
      simp [Array.getD_eq_getD_getElem?]
    have hnw1: ∀ v∈csv.toList.take sz,v.oneCell'=true:=by
      intro v hv
      obtain⟨j,hj,rfl⟩:=List.getElem_of_mem hv
      have hjl:j<sz:=by omega
      have e3:(csv.toList.take sz)[j]=csv.getD j undef:=by
        rw [←hnwg j hjl,List.getD_eq_getElem?_getD,List.getElem?_eq_getElem hj]
        rfl
      rw [e3]
      exact ZfY (cV j hjl).1 (cV j hjl).2
    have hsi:(c.P.info? e).map (·.size)=some sz:=by simp [hi',hs]
    have hzl:(xs.take k++ [u]++xs.drop k).length=xs.length+1:=by simp;omega
    have fin: ∀ cs':Array Value,(∀ x,x<k*sz→cs'.getD x undef=cs.getD x undef)→(∀ x,x<sz→cs'.getD (k*sz+x) undef=csv.getD x undef)→
        (∀ x,x<(xs.length-k)*sz→cs'.getD ((k+1)*sz+x) undef=cs.getD (k*sz+x) undef)→
        ∀ i j,i<(xs.take k++ [u]++xs.drop k).length→j<sz→RelF c.P w (Mut c.A φ st.hp) st.hp.length φ (cellAt ((xs.take k++ [u]++xs.drop k).map f) i j) (cs'.getD (i*sz+j) undef):=by
      intro cs' f1 f2 f3 i j hi hj
      rw [hzl] at hi
      by_cases h1:i<k
      · have:(i+1)*sz≤k*sz:=Nat.mul_le_mul_right _ h1
        rw [Nat.add_mul] at this
        rw [f1 _ (by omega)]
        have e:cellAt ((xs.take k++ [u]++xs.drop k).map f) i j=cellAt (xs.map f) i j:=by
          simp only [cellAt,List.getD_eq_getElem?_getD,List.getElem?_map,List.append_assoc,List.getElem?_append,List.length_take]
          rw [if_pos (by omega),List.getElem?_take_of_lt h1]
        rw [e]
        exact(cX i j (by omega) hj).1
      · by_cases h2:i=k
        · subst h2
          rw [f2 j hj]
          have e:cellAt ((xs.take i++ [u]++xs.drop i).map f) i j=cellAt ([u].map f) 0 j:=by
            simp only [cellAt,List.getD_eq_getElem?_getD,List.getElem?_map,List.append_assoc,List.getElem?_append,List.length_take]
            rw [if_neg (by omega),show i-min i xs.length=0 by omega]
            rfl
          rw [e]
          exact(cV j hj).1
        · have g:i*sz+j=(k+1)*sz+((i-(k+1))*sz+j):=by rw [←Nat.add_assoc,←Nat.add_mul,show k+1+(i-(k+1))=i by omega]
          have g2:(i-(k+1)+1)*sz≤(xs.length-k)*sz:=Nat.mul_le_mul_right _ (by omega)
          rw [Nat.add_mul] at g2
          rw [g,f3 _ (by omega),←Nat.add_assoc,←Nat.add_mul,show k+(i-(k+1))=i-1 by omega]
          have e:cellAt ((xs.take k++ [u]++xs.drop k).map f) i j=cellAt (xs.map f) (i-1) j:=by
            simp only [cellAt,List.getD_eq_getElem?_getD,List.getElem?_map,List.append_assoc,List.getElem?_append,List.length_take,List.length_singleton]
            rw [if_neg (by omega),if_neg (by omega),List.getElem?_drop,show k+(i-min k xs.length-1)=i-1 by omega]
          rw [e]
          exact(cX (i-1) j (by omega) hj).1
    have hsrcV: ∀ (W:World),W.heap[vb]?=w.heap[vb]?→ ∀ j v,(csv.toList.take sz)[j]?=some v→W.cell? ((⟨vb,0,none⟩:Addr).add j)=some v:=fun W hW j v hj=>by
      rw [Zby,Nat.zero_add,Z6 (hW.trans d1)]
      rw [List.getElem?_take] at hj
      split at hj
      · simpa using hj
      · cases hj
    have hsrcX: ∀ (W:World),W.heap[b]?=w.heap[b]?→ ∀ j v,((cs.toList.drop (k*sz)).take ((xs.length-k)*sz))[j]?=some v→W.cell? ((⟨b,k*sz,none⟩:Addr).add j)=some v:=fun W hW j v hj=>by
      rw [Zby,Z6 (hW.trans c1)]
      rw [List.getElem?_take] at hj
      split at hj
      · rw [List.getElem?_drop] at hj
        simpa using hj
      · cases hj
    have hlr:(xs.length-k)*sz=Nat.min (xs.length+1-k) (xs.length-k)*sz:=by rw [show Nat.min (xs.length+1-k) (xs.length-k)=xs.length-k from Nat.min_eq_right (by omega)]
    have hl1:sz=Nat.min 1 (xs.length+1-k)*sz:=by rw [show Nat.min 1 (xs.length+1-k)=1 from Nat.min_eq_left (by omega),Nat.one_mul]
    have hk1:(k+1)*sz=k*sz+sz:=by rw [Nat.add_mul,Nat.one_mul]
    rw [hxv,hyv,hzv]
    by_cases hfit:xs.length+1≤(φ r).cap
    · -- there is room
      have hfs:(xs.length+1)*sz≤cs.size:=by rw [c2];exact Nat.mul_le_mul_right _ hfit
      rw [Nat.add_mul,Nat.one_mul] at hfs
      have X1:=fun ty dc sc=>Zcx (P:=c.P) w.drew t t ty e b ((k+1)*sz) (xs.length-k) dc ⟨b,k*sz,none⟩ (xs.length+1-k) sc cs e ((cs.toList.drop (k*sz)).take ((xs.length-k)*sz)) sz hu hsi c1 (hmid.trans hlr)
        (hsrcX w.drew rfl) (by rw [hmid,hk1];omega) hmid1
      generalize hA1:(cs.toList.take ((k+1)*sz)++(cs.toList.drop (k*sz)).take ((xs.length-k)*sz)++cs.toList.drop ((k+1)*sz+((cs.toList.drop (k*sz)).take ((xs.length-k)*sz)).length)).toArray=A1 at X1
      have sA1:A1.size=cs.size:=by rw [←hA1];simp;omega
      have gA1: ∀ x,A1.getD x undef=if x<(k+1)*sz then cs.getD x undef else if x<(k+1)*sz+(xs.length-k)*sz then cs.getD (k*sz+(x-(k+1)*sz)) undef else cs.getD x undef:=fun x=>by
        rw [←hA1,JG _ _ _ _ (by rw [hmid,hk1];omega),hmid]
        split
        · rfl
        · split
          · rw [hmidg _ (by omega)]
          · rfl
      have w1h:(w.drew.setRow b A1).heap[b]?=some (.cells A1 e (0,0)):=setRow_heap w.drew b _ _ e _ c1
      have X2:=fun ty dc=>Zcx (P:=c.P) (w.drew.setRow b A1) t t ty e b (k*sz) (xs.length+1-k) dc ⟨vb,0,none⟩ 1 (φ q).cap A1 e (csv.toList.take sz) sz hu hsi w1h (hnw.trans hl1)
        (hsrcV _ (setRow_other w.drew _ _ _ hbq)) (by rw [hnw,sA1];omega) hnw1
      generalize hA2:(A1.toList.take (k*sz)++csv.toList.take sz++A1.toList.drop (k*sz+(csv.toList.take sz).length)).toArray=A2 at X2
      have sA2:A2.size=cs.size:=by rw [←hA2,←sA1];simp;omega
      have gA2: ∀ x,A2.getD x undef=if x<k*sz then A1.getD x undef else if x<k*sz+sz then csv.getD (x-k*sz) undef else A1.getD x undef:=fun x=>by
        rw [←hA2,JG _ _ _ _ (by rw [hnw,sA1];omega),hnw]
        split
        · rfl
        · split
          · rw [hnwg _ (by omega)]
          · rfl
      have hcall2:=K.room b xs.length (φ r).cap k vb 0 (φ q).cap w (w.drew.setRow b A1) ((w.drew.setRow b A1).setRow b A2) hkl hfit (by omega)
        (fun lb cb=>hov w ⟨vb,0,none⟩ ⟨b,(k+1)*sz,none⟩ 1 (φ q).cap lb cb hbq e e csv.size cs.size (Zhn d1) (Zhn c1) (by omega) (frozen_of_heap d1 0) (frozen_of_heap d1 _))
        (fun ty dc sc=>by have:=X1 ty dc sc;rwa [show Nat.min (xs.length+1-k) (xs.length-k)=xs.length-k from Nat.min_eq_right (by omega)] at this)
        (fun ty dc=>by have:=X2 ty dc;rwa [show Nat.min 1 (xs.length+1-k)=1 from Nat.min_eq_left (by omega)] at this)
      refine hcall2.mono ?_
      rintro e' w' ⟨rfl,rfl⟩
      obtain⟨φ',g1,g2,g3⟩:=Znd (f:=f) (zs:=xs.take k++ [u]++xs.drop k) (w':=(w.drew.setRow b A1).setRow b A2) (g:=b) (L:=⟨some b,(φ r).cap,(xs.take k++ [u]++xs.drop k).length,sz,false,(φ r).sub⟩) (cs':=A2) hc.hok ho hcs hfl'
        (by rw [hzl];omega) rfl rfl rfl (by simp) (fun b' _ hne'=>by
          have:b'≠b:=fun e=>hne' (by rw [hb,e])
          rw [setRow_other _ _ _ _ this,setRow_other _ _ _ _ this];rfl) (.inl hb.symm) rfl rfl rfl hx63 (by rw [hzl];exact hfit) rfl rfl
        (setRow_heap _ b _ _ e _ w1h) (by rw [sA2,c2]) (fin A2 (fun x hx=>by rw [gA2,if_pos hx,gA1,if_pos (by omega)]) (fun x hx=>by rw [gA2,if_neg (by omega),if_pos (by omega)];congr 1;omega)
          (fun x hx=>by rw [gA2,if_neg (by omega),if_neg (by omega),gA1,if_neg (by omega),if_pos (by omega)];congr 1;omega))
      refine⟨_,φ',rfl,g1,g2,?_⟩
      rw [hzl] at g3 ⊢
      exact g3
    · -- a new row
      have hcapn:(φ r).cap=xs.length:=by omega
      rw [hcapn] at c2 ⊢
      have hN:k+(xs.length+1-k)=xs.length+1:=by omega
      have hkn2:k*sz≤cs.size:=by omega
      have hold:(Builtin.firstCells inf.size k (.slice (some ⟨b,0,none⟩) k xs.length)).run c.P w.drew= .ok (cs.toList.take (k*sz)).toArray w.drew:=
        run_firstCells_some w.drew inf.size k ⟨b,0,none⟩ k xs.length (cs.toList.take (k*sz)) (by rw [hs];simp;omega) (fun j v hj=>by
          rw [Zby,Nat.zero_add,Z6 (w:=w.drew) c1]
          rw [List.getElem?_take] at hj
          split at hj
          · simpa using hj
          · cases hj)
      have AP:=fun ty=>run_append_grow_zeros (P:=c.P) w t tn ty e inf z0 .i64 .i64 hu htn hi' hz0 (some ⟨b,0,none⟩) k xs.length _ hold (xs.length+1-k) (by omega) (by omega) (by omega) (by omega)
        (by have:=hb48 (xs.length+1-k) (by omega);omega) (by rw [hN];exact growslice_fits (by omega) (hb48 _ (by omega)))
      simp only [hN] at AP
      have hge:=grownCap_ge w (xs.length+1) xs.length e
      have hle:=grownCap_le_maxLen w (xs.length+1) xs.length e (by simp only [maxLen];omega)
      simp only [maxLen] at hle
      generalize hC:grownCap w (xs.length+1) xs.length e=C at AP hge hle
      generalize hA0:(cs.toList.take (k*sz)).toArray++Builtin.zeroCells z0.cells (xs.length+1-k)++Builtin.zeroCells z0.cells (C-(xs.length+1))=A0 at AP
      have sA0:A0.size=C*sz:=by
        rw [←hA0]
        simp only [Array.size_append,List.size_toArray,size_zeroCells,hzs,List.length_take,Array.length_toList]
        rw [Nat.min_eq_left hkn2,←Nat.add_mul,←Nat.add_mul]
        congr 1;omega
      have gA0: ∀ x,x<k*sz→A0.getD x undef=cs.getD x undef:=fun x hx=>by
        rw [←hA0,Array.append_assoc]
        simp only [Array.getD_eq_getD_getElem?,Array.getElem?_append,List.size_toArray,List.length_take,Array.length_toList]
        rw [if_pos (by omega)]
        simp [hx]
      have hCs:(xs.length+1)*sz≤A0.size:=by rw [sA0];exact Nat.mul_le_mul_right _ hge
      rw [Nat.add_mul,Nat.one_mul] at hCs
      have w0h:(w.drew.alloc (.cells A0 e)).heap[w.heap.size]?=some (.cells A0 e (0,0)):=heap_alloc_new w.drew _
      have hold0: ∀ b',b'<w.heap.size→(w.drew.alloc (.cells A0 e)).heap[b']?=w.heap[b']?:=fun b' hb'=>heap_alloc_old w.drew _ hb'
      have X1:=fun ty dc=>Zcx (P:=c.P) (w.drew.alloc (.cells A0 e)) t t ty e w.heap.size (k*sz) (xs.length+1-k) dc ⟨vb,0,none⟩ 1 (φ q).cap A0 e (csv.toList.take sz) sz hu hsi w0h (hnw.trans hl1)
        (hsrcV _ (hold0 _ hvlt)) (by rw [hnw];omega) hnw1
      generalize hA1:(A0.toList.take (k*sz)++csv.toList.take sz++A0.toList.drop (k*sz+(csv.toList.take sz).length)).toArray=A1 at X1
      have sA1:A1.size=A0.size:=by rw [←hA1];simp;omega
      have gA1: ∀ x,A1.getD x undef=if x<k*sz then A0.getD x undef else if x<k*sz+sz then csv.getD (x-k*sz) undef else A0.getD x undef:=fun x=>by
        rw [←hA1,JG _ _ _ _ (by rw [hnw];omega),hnw]
        split
        · rfl
        · split
          · rw [hnwg _ (by omega)]
          · rfl
      have w1h:((w.drew.alloc (.cells A0 e)).setRow w.heap.size A1).heap[w.heap.size]?=some (.cells A1 e (0,0)):=setRow_heap _ _ _ _ e _ w0h
      have hold1: ∀ b',b'<w.heap.size→((w.drew.alloc (.cells A0 e)).setRow w.heap.size A1).heap[b']?=w.heap[b']?:=fun b' hb'=>(setRow_other _ _ _ _ (by omega)).trans (hold0 b' hb')
      have X2:=fun ty dc sc=>Zcx (P:=c.P) ((w.drew.alloc (.cells A0 e)).setRow w.heap.size A1).drew t t ty e w.heap.size ((k+1)*sz) (xs.length-k) dc ⟨b,k*sz,none⟩ (xs.length-k) sc A1 e ((cs.toList.drop (k*sz)).take ((xs.length-k)*sz)) sz hu hsi w1h
        (hmid.trans (by rw [show Nat.min (xs.length-k) (xs.length-k)=xs.length-k from Nat.min_eq_left (Nat.le_refl _)])) (hsrcX _ (hold1 _ hblt)) (by rw [hmid,hk1,sA1];omega) hmid1
      generalize hA2:(A1.toList.take ((k+1)*sz)++(cs.toList.drop (k*sz)).take ((xs.length-k)*sz)++A1.toList.drop ((k+1)*sz+((cs.toList.drop (k*sz)).take ((xs.length-k)*sz)).length)).toArray=A2 at X2
      have sA2:A2.size=A0.size:=by rw [←hA2,←sA1];simp;omega
      have gA2: ∀ x,A2.getD x undef=if x<(k+1)*sz then A1.getD x undef else if x<(k+1)*sz+(xs.length-k)*sz then cs.getD (k*sz+(x-(k+1)*sz)) undef else A1.getD x undef:=fun x=>by
        rw [←hA2,JG _ _ _ _ (by rw [hmid,hk1,sA1];omega),hmid]
        split
        · rfl
        · split
          · rw [hmidg _ (by omega)]
          · rfl
      have hcall2:=K.grow b xs.length xs.length k vb 0 (φ q).cap w.heap.size C w (w.drew.alloc (.cells A0 e)) ((w.drew.alloc (.cells A0 e)).setRow w.heap.size A1) (((w.drew.alloc (.cells A0 e)).setRow w.heap.size A1).drew.setRow w.heap.size A2)
        hkl (Nat.le_refl _) (by omega) (by omega) hge (by omega) AP
        (fun ty dc=>by have:=X1 ty dc;rwa [show Nat.min 1 (xs.length+1-k)=1 from Nat.min_eq_left (by omega)] at this)
        (fun ty dc sc=>by have:=X2 ty dc sc;rwa [show Nat.min (xs.length-k) (xs.length-k)=xs.length-k from Nat.min_eq_left (Nat.le_refl _)] at this)
      refine hcall2.mono ?_
      rintro e' w' ⟨rfl,rfl⟩
      obtain⟨φ',g1,g2,g3⟩:=Znd (f:=f) (zs:=xs.take k++ [u]++xs.drop k) (w':=((w.drew.alloc (.cells A0 e)).setRow w.heap.size A1).drew.setRow w.heap.size A2) (g:=w.heap.size) (L:=⟨some w.heap.size,C,(xs.take k++ [u]++xs.drop k).length,sz,false,(φ r).sub⟩) (cs':=A2) hc.hok ho hcs hfl'
        (by rw [hzl];omega) rfl rfl rfl (by simp) (fun b' hb' _=>(setRow_other _ _ _ _ (by omega)).trans (hold1 b' hb')) (.inr (Nat.le_refl _)) rfl rfl rfl (by simp only;omega) (by rw [hzl];exact hge) rfl rfl
        (setRow_heap _ _ _ _ e _ w1h) (by rw [sA2,sA0]) (fin A2 (fun x hx=>by rw [gA2,if_pos (by omega),gA1,if_pos hx,gA0 x hx]) (fun x hx=>by rw [gA2,if_pos (by omega),gA1,if_neg (by omega),if_pos (by omega)];congr 1;omega)
          (fun x hx=>by rw [gA2,if_neg (by omega),if_pos (by omega)];congr 1;omega))
      refine⟨_,φ',rfl,g1,g2,?_⟩
      rw [hzl] at g3 ⊢
      exact g3
end ins
end Go.Vx

namespace Go.Vx
open Go Go.RowKit
def t13{α0 α1 α2 α3 α4 α5 α6 α7 α8 α9 α10 α11 α12 ι:Type}(f:α0→α1→α2→α3→α4→α5→α6→α7→α8→α9→α10→α11→α12→ι)(p:α0×α1×α2×α3×α4×α5×α6×α7×α8×α9×α10×α11×α12):ι:=f p.1 p.2.1 p.2.2.1 p.2.2.2.1 p.2.2.2.2.1 p.2.2.2.2.2.1 p.2.2.2.2.2.2.1 p.2.2.2.2.2.2.2.1 p.2.2.2.2.2.2.2.2.1 p.2.2.2.2.2.2.2.2.2.1 p.2.2.2.2.2.2.2.2.2.2.1 p.2.2.2.2.2.2.2.2.2.2.2.1 p.2.2.2.2.2.2.2.2.2.2.2.2
@[simp] theorem Zoj {α0 α1 α2 α3 α4 α5 α6 α7 α8 α9 α10 α11 α12 ι:Type} (f:α0→α1→α2→α3→α4→α5→α6→α7→α8→α9→α10→α11→α12→ι) (a0:α0) (a1:α1) (a2:α2) (a3:α3) (a4:α4) (a5:α5) (a6:α6) (a7:α7) (a8:α8) (a9:α9) (a10:α10) (a11:α11) (a12:α12):t13 f (a0,a1,a2,a3,a4,a5,a6,a7,a8,a9,a10,a11,a12)=f a0 a1 a2 a3 a4 a5 a6 a7 a8 a9 a10 a11 a12:=rfl
theorem Zrb{α0 α1 α2 α3 α4 α5 α6 α7 α8 α9 α10 α11 α12 κ ρ:Type}{f:α0→α1→α2→α3→α4→α5→α6→α7→α8→α9→α10→α11→α12→Option κ}{k:κ→Option ρ}{r:ρ}{a0:α0}{a1:α1}{a2:α2}{a3:α3}{a4:α4}{a5:α5}{a6:α6}{a7:α7}{a8:α8}{a9:α9}{a10:α10}{a11:α11}{a12:α12}(h:(t13 f (a0,a1,a2,a3,a4,a5,a6,a7,a8,a9,a10,a11,a12)).bind k=some r):(f a0 a1 a2 a3 a4 a5 a6 a7 a8 a9 a10 a11 a12).bind k=some r:=h
theorem Zq3{α0 α1 α2 α3 α4 α5 α6 α7 α8 α9 α10 α11 α12:Type}{cx:Ctx}{code:Code}{K:Exit→St→Prop}{f:α0→α1→α2→α3→α4→α5→α6→α7→α8→α9→α10→α11→α12→St}{a0:α0}{a1:α1}{a2:α2}{a3:α3}{a4:α4}{a5:α5}{a6:α6}{a7:α7}{a8:α8}{a9:α9}{a10:α10}{a11:α11}{a12:α12}(h:T cx code (f a0 a1 a2 a3 a4 a5 a6 a7 a8 a9 a10 a11 a12) K):T cx code (t13 f (a0,a1,a2,a3,a4,a5,a6,a7,a8,a9,a10,a11,a12)) K:=h
def t18{α0 α1 α2 α3 α4 α5 α6 α7 α8 α9 α10 α11 α12 α13 α14 α15 α16 α17 ι:Type}(f:α0→α1→α2→α3→α4→α5→α6→α7→α8→α9→α10→α11→α12→α13→α14→α15→α16→α17→ι)(p:α0×α1×α2×α3×α4×α5×α6×α7×α8×α9×α10×α11×α12×α13×α14×α15×α16×α17):ι:=f p.1 p.2.1 p.2.2.1 p.2.2.2.1 p.2.2.2.2.1 p.2.2.2.2.2.1 p.2.2.2.2.2.2.1 p.2.2.2.2.2.2.2.1 p.2.2.2.2.2.2.2.2.1 p.2.2.2.2.2.2.2.2.2.1 p.2.2.2.2.2.2.2.2.2.2.1 p.2.2.2.2.2.2.2.2.2.2.2.1 p.2.2.2.2.2.2.2.2.2.2.2.2.1 p.2.2.2.2.2.2.2.2.2.2.2.2.2.1 p.2.2.2.2.2.2.2.2.2.2.2.2.2.2.1 p.2.2.2.2.2.2.2.2.2.2.2.2.2.2.2.1 p.2.2.2.2.2.2.2.2.2.2.2.2.2.2.2.2.1 p.2.2.2.2.2.2.2.2.2.2.2.2.2.2.2.2.2
@[simp] theorem Zp8 {α0 α1 α2 α3 α4 α5 α6 α7 α8 α9 α10 α11 α12 α13 α14 α15 α16 α17 ι:Type} (f:α0→α1→α2→α3→α4→α5→α6→α7→α8→α9→α10→α11→α12→α13→α14→α15→α16→α17→ι) (a0:α0) (a1:α1) (a2:α2) (a3:α3) (a4:α4) (a5:α5) (a6:α6) (a7:α7) (a8:α8) (a9:α9) (a10:α10) (a11:α11) (a12:α12) (a13:α13) (a14:α14) (a15:α15) (a16:α16) (a17:α17):t18 f (a0,a1,a2,a3,a4,a5,a6,a7,a8,a9,a10,a11,a12,a13,a14,a15,a16,a17)=f a0 a1 a2 a3 a4 a5 a6 a7 a8 a9 a10 a11 a12 a13 a14 a15 a16 a17:=rfl
theorem Zrd{α0 α1 α2 α3 α4 α5 α6 α7 α8 α9 α10 α11 α12 α13 α14 α15 α16 α17 κ ρ:Type}{f:α0→α1→α2→α3→α4→α5→α6→α7→α8→α9→α10→α11→α12→α13→α14→α15→α16→α17→Option κ}{k:κ→Option ρ}{r:ρ}{a0:α0}{a1:α1}{a2:α2}{a3:α3}{a4:α4}{a5:α5}{a6:α6}{a7:α7}{a8:α8}{a9:α9}{a10:α10}{a11:α11}{a12:α12}{a13:α13}{a14:α14}{a15:α15}{a16:α16}{a17:α17}(h:(t18 f (a0,a1,a2,a3,a4,a5,a6,a7,a8,a9,a10,a11,a12,a13,a14,a15,a16,a17)).bind k=some r):(f a0 a1 a2 a3 a4 a5 a6 a7 a8 a9 a10 a11 a12 a13 a14 a15 a16 a17).bind k=some r:=h
theorem Zq6{α0 α1 α2 α3 α4 α5 α6 α7 α8 α9 α10 α11 α12 α13 α14 α15 α16 α17:Type}{cx:Ctx}{code:Code}{K:Exit→St→Prop}{f:α0→α1→α2→α3→α4→α5→α6→α7→α8→α9→α10→α11→α12→α13→α14→α15→α16→α17→St}{a0:α0}{a1:α1}{a2:α2}{a3:α3}{a4:α4}{a5:α5}{a6:α6}{a7:α7}{a8:α8}{a9:α9}{a10:α10}{a11:α11}{a12:α12}{a13:α13}{a14:α14}{a15:α15}{a16:α16}{a17:α17}(h:T cx code (f a0 a1 a2 a3 a4 a5 a6 a7 a8 a9 a10 a11 a12 a13 a14 a15 a16 a17) K):T cx code (t18 f (a0,a1,a2,a3,a4,a5,a6,a7,a8,a9,a10,a11,a12,a13,a14,a15,a16,a17)) K:=h
end Go.Vx

namespace Go.Vx
open Go Go.RowKit
end Go.Vx
