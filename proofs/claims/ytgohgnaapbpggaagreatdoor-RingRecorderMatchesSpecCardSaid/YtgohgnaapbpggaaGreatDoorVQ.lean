/- A text of the proof: a verified executor of the program form, or the contracts of the functions that the law reaches. -/
import Derived.Test.YtgohgnaapbpggaaGreatDoorVP
import Derived.Laws.CopyOwn
import Derived.Laws.IdiomCopy
set_option linter.all false
namespace Go.Vx
open Go Go.RowKit
def slq{α:Type}(xs:List α)(p q:Int):Option Unit:=ck (decide (0≤p)&&(decide (p≤q)&&(decide (q≤xs.length)&&decide (0<xs.length))))
theorem ZmY{α:Type}{xs:List α}{p q:Int}{u:Unit}(h:slq xs p q=some u):0≤p∧p≤q∧q≤xs.length∧0<xs.length:=by
  have:=Zl9 h
  simpa using this
theorem Zet{α:Type}{xs:List α}{p q:Int}{u:Unit}(h:slq xs p q=some u):p.toNat+(q-p).toNat≤xs.length:=by have:=ZmY h;omega
def cpy{α:Type}(xs:List α)(p m q n:Nat):List α:=xs.take p++((xs.drop q).take (min n m)++xs.drop (p+min n m))
theorem Zd4{α:Type}{xs:List α}{p m q n:Nat}(h1:p+m≤xs.length)(h2:q+n≤xs.length):(cpy xs p m q n).length=xs.length:=by
  simp only [cpy,List.length_append,List.length_take,List.length_drop];omega
theorem ZnY{α:Type}{xs:List α}{p m q n i:Nat}(h1:p+m≤xs.length)(h2:q+n≤xs.length)(hi:i<xs.length):
    (cpy xs p m q n)[i]?=xs[if p≤i∧i<p+min n m then q+(i-p) else i]?:=by
  unfold cpy
  by_cases hp:i<p
  · rw [List.getElem?_append_left (by simp;omega),List.getElem?_take_of_lt hp,nG (by omega)]
  · rw [List.getElem?_append_right (by simp;omega)]
    have e:(xs.take p).length=p:=by simp;omega
    rw [e]
    by_cases hk:i<p+min n m
    · rw [List.getElem?_append_left (by simp;omega),List.getElem?_take_of_lt (by omega),List.getElem?_drop,pG (by omega)]
    · rw [List.getElem?_append_right (by simp;omega),List.getElem?_drop,nG (by omega)]
      congr 1
      simp
      omega
section ops
variable {c:Ctx} {ops:Array Oper} {st:St} {dst:Option Tmp} {ty:TypeId} {pos:String} {after:Array Edge}
theorem ZnN{α:Type}{f:α→List AV}{t e by_ r m:Nat}{x:Operand}{lo hi:Option Operand}{xs:List α}{p q:Int}{u:Unit}(h:Opv c st x (.own r m))(ho:nth st.hp r=some ⟨e,xs.map f⟩)(hm:xs.length=m)(ht:tSl c.P t e 1 by_=true)
    (hl:Zj5 c st 0 lo p) (hh:Zj5 c st (xs.length:Int) hi q) (hz:slq xs p q=some u):SVal c ops st ⟨dst,.slice t x lo hi none,ty,pos,after,none⟩ (.osl r m p.toNat (q-p).toNat):=
  .pure rfl fun φ a w hc=>by
    obtain⟨h0,h1,h2,h3⟩:=ZmY hz
    obtain⟨hu,inf,z,hi',hs,hby,hn0,hz,hzs,hcs⟩:=tSl.spec ht
    have hO:=hc.hok.obj r _ ho
    have hv:=JZ (h φ a w hc) (by rw [hO.len];simpa using hm)
    have hroom:=hO.room
    simp only [lM] at hroom
    have hsz:(sizeOf e).run c.P w= .ok 1 w:=by simp [sizeOf,typeInfo,hi',hs]
    have hrb:=Zgs hc (isS:=true) hl hh h0 h1 (show q≤(((φ r).cap:Nat):Int) by omega) hroom
    cases hb:(φ r).blk with
    |none=>have:=(hO.none hb).1;simp at this;rw [this] at h3;simp at h3
    |some b=>
      rw [hb] at hv
      simp only [Option.map_some] at hv
      have hrun: ∀ j',(if(φ r).cap=p.toNat then(some ⟨b,0,none⟩:Option Addr) else some ⟨b,0+p.toNat*1,none⟩)=some ⟨b,j',none⟩→
          (execOp a.eval ⟨dst,.slice t x lo hi none,ty,pos,after,none⟩).run c.P w= .ok (.value (.slice (some ⟨b,j',none⟩) (q.toNat-p.toNat) ((φ r).cap-p.toNat))) w:=by
        intro j' hj'
        show((do pure (Next.value (←Instr.sliceAt t (a.eval x) (lo.map a.eval) (hi.map a.eval) none)):Sem Next)).run c.P w=_
        rw [hv,Sem.run_bind]
        have e:(Instr.sliceAt t (.slice (some ⟨b,0,none⟩) m (φ r).cap) (lo.map a.eval) (hi.map a.eval) none).run c.P w= .ok (.slice (some ⟨b,j',none⟩) (q.toNat-p.toNat) ((φ r).cap-p.toNat)) w:=by
          unfold Instr.sliceAt
          rw [Sem.run_bind,run_underlying hu]
          simp only [Result.andThen_ok]
          unfold Instr.slice
          rw [Sem.run_bind,run_underlying hu]
          simp only [Result.andThen_ok]
          rw [hm] at hrb
          rw [Sem.run_bind,hrb]
          simp only [Result.andThen_ok]
          rw [Sem.run_bind,hsz,←hj']
          simp only [Result.andThen_ok,Option.map_some,Zao]
          rfl
        rw [e]
        rfl
      have hrel: ∀ j',(p.toNat<q.toNat→j'=p.toNat)→ ∀ φ',ZfP st.hp.length φ φ'→Rel c.P w (Mut c.A φ st.hp) φ' (.osl r m p.toNat (q-p).toNat) (.slice (some ⟨b,j',none⟩) (q.toNat-p.toNat) ((φ r).cap-p.toNat)):=by
        intro j' hj' φ' hφ
        have e:φ' r=φ r:=hφ r (XA ho)
        refine .osl r m p.toNat _ _ rfl (by rw [e,hO.len];simp [hm]) fun _=>⟨by rw [e];exact XY (h φ a w hc) (by rw [hO.len];simpa using hm),b,j',(φ r).cap-p.toNat,by rw [e];exact hb,by omega,fun hp=>hj' (by omega),?_⟩
        rw [show(q-p).toNat=q.toNat-p.toNat by omega]
      by_cases hcp:(φ r).cap=p.toNat
      · exact⟨_,hrun 0 (by rw [pG hcp]),hrel 0 (fun hlt=>by omega)⟩
      · exact⟨_,hrun (0+p.toNat*1) (by rw [nG hcp]),hrel _ (fun _=>by omega)⟩
theorem Zom{α:Type}{f:α→List AV}{g:α→AV}{t t2 e by_ r m p1 n1 p2 n2:Nat}{x y:Operand}{xs:List α}(h:Opv c st x (.osl r m p1 n1))(h':Opv c st y (.osl r m p2 n2))(ho:nth st.hp r=some ⟨e,xs.map f⟩)
    (hm:xs.length=m) (hf: ∀ u,f u= [g u]) (h1: ∀ u,c1B (g u)=true) (hns: ∀ u,noSub (g u)=true) (ht:tSl c.P t e 1 by_=true) (hp1:p1+n1≤xs.length) (hp2:p2+n2≤xs.length):
    WVal c ops st ⟨dst,.call {callee:= .builtin .copy,args:= #[x,y],argTypes:= #[t,t2]},ty,pos,after,none⟩ (.int .i64 ((min n2 n1:Nat):Int)) (Xh st.hp r (some ⟨e,(cpy xs p1 n1 p2 n2).map f⟩)):=by
  refine .run rfl fun φ a w hc=> ?_
  obtain⟨hu,inf,z,hi',hs,hby,hn0,hz,hzs,hcs⟩:=tSl.spec ht
  have hO:=hc.hok.obj r _ ho
  have hlen:(φ r).n=xs.length:=by rw [hO.len];simp
  obtain⟨b,j1,c1,hb,hc1,hj1,hx⟩:=Zhh (h φ a w hc) (by omega)
  obtain⟨b',j2,c2,hb',hc2,hj2,hy⟩:=Zhh (h' φ a w hc) (by omega)
  have hmp:=ZjS (h φ a w hc) (by omega)
  rw [hb] at hb';cases hb'
  obtain⟨cs,k1,k2,k3⟩:=hO.some b hb
  have k1:=k1.cells hmp
  have hroom:=hO.room
  simp only [lM] at hroom
  rw [hcs,Nat.mul_one] at k2
  have hcell: ∀ i (hi:i<xs.length),RelF c.P w (Mut c.A φ st.hp) st.hp.length φ (g xs[i]) (cs.getD i undef):=by
    intro i hi
    have e:cellAt (xs.map f) i 0=g xs[i]:=by simp [cellAt,gQ,hi,hf]
    have:=k3.plain (i:=i) (j:=0) (by simpa using hi) (by rw [hcs];omega) (by simp only;rw [e];exact hns _)
    simp only at this
    rw [e,hcs] at this
    simpa using this
  have hφ:(fun x=>if x=r then φ r else φ x)=φ:=by funext x;split;subst_vars;rfl;rfl
  have hrun0: ∀ v w1,(Builtin.copy_ #[t,t2] ty #[a.eval x,a.eval y]).run c.P w= .ok v w1→(execOp a.eval ⟨dst,.call {callee:= .builtin .copy,args:= #[x,y],argTypes:= #[t,t2]},ty,pos,after,none⟩).run c.P w= .ok (.value v) w1:=by
    intro v w1 hr
    simp [execOp,resolve,invoke,builtin,hr]
  have hk:min n2 n1=Nat.min n2 n1:=rfl
  have main: ∃ w' cs',(Builtin.copy_ #[t,t2] ty #[a.eval x,a.eval y]).run c.P w= .ok (goInt ((min n2 n1:Nat):Int)) w'∧w'.os=w.os∧w'.tape=w.tape∧w'.output=w.output∧w.heap.size≤w'.heap.size∧
      (∀ b',b'≠b→w'.heap[b']?=w.heap[b']?)∧w'.heap[b]?=some (.cells cs' e (0,0))∧cs'.size=cs.size∧
      ∀ i,i<xs.length→cs'.getD i undef=cs.getD (if p1≤i∧i<p1+min n2 n1 then p2+(i-p1) else i) undef:=by
    by_cases h0:min n2 n1=0
    · refine⟨w,cs,?_,rfl,rfl,rfl,Nat.le_refl _,fun _ _=>rfl,k1,rfl,fun i hi=>by rw [nG (by omega)]⟩
      rw [hx,hy,h0]
      exact run_copy_none (P:=c.P) w t t2 ty e _ _ n1 c1 n2 c2 hu (by simp [hi',hs]) h0
    · rw [hj1 (by omega)] at hx
      rw [hj2 (by omega)] at hy
      have hl:((cs.toList.drop p2).take (min n2 n1)).length=min n2 n1:=by simp;omega
      have:=run_copy_row (P:=c.P) w t t2 ty e b p1 n1 c1 ⟨b,p2,none⟩ n2 c2 cs e ((cs.toList.drop p2).take (min n2 n1)) hu (by simp [hi',hs]) k1 hl ?_ (by rw [hl];omega) ?_
      · refine⟨w.setRow b (cs.toList.take p1++(cs.toList.drop p2).take (min n2 n1)++cs.toList.drop (p1+min n2 n1)).toArray,(cs.toList.take p1++(cs.toList.drop p2).take (min n2 n1)++cs.toList.drop (p1+min n2 n1)).toArray,by rw [hx,hy];rw [hl] at this;exact this,rfl,rfl,rfl,(by simp [World.setRow]),fun b' hb'=>setRow_other w b b' _ hb',setRow_heap w b cs _ e _ k1,by simp;omega,fun i hi=> ?_⟩
        have e2:=Zan cs ((cs.toList.drop p2).take (min n2 n1)) p1 i (by rw [hl];omega)
        rw [hl] at e2
        rw [e2]
        by_cases hi1:i<p1
        · rw [pG hi1,nG (by omega)]
        · rw [nG hi1]
          by_cases hi2:i<p1+min n2 n1
          · rw [pG hi2,pG (by omega),gQ,List.getElem?_take_of_lt (by omega),List.getElem?_drop]
            simp [Array.getD_eq_getD_getElem?]
          · rw [nG hi2,nG (by omega)]
      · intro j v hj
        rw [Zao]
        have hjl:j<min n2 n1:=by have:=(List.getElem?_eq_some_iff.1 hj).1;omega
        rw [List.getElem?_take_of_lt hjl,List.getElem?_drop] at hj
        simp only [Array.getElem?_toList] at hj
        simp [World.cell?,k1,hj]
      · intro v hv
        obtain⟨j,hj,rfl⟩:=List.getElem_of_mem hv
        have hjl:j<min n2 n1:=by omega
        have hlt:p2+j<xs.length:=by omega
        have:=hcell (p2+j) hlt
        have e3:((cs.toList.drop p2).take (min n2 n1))[j]=cs.getD (p2+j) undef:=by
          have hcz:p2+j<cs.size:=by omega
          simp [Array.getD_eq_getD_getElem?,hcz]
        rw [e3]
        exact Zip this (h1 _)
  obtain⟨w',cs',hrun,e1,e2,e3,e4,e5,e6,e7,e8⟩:=main
  have hu':=Zcw (L:=φ r) (o':=⟨e,(cpy xs p1 n1 p2 n2).map f⟩) (w':=w') hc.hok ho e1 e2 e3 e4 (fun b' _ hne=>e5 b' (fun e=>hne (by rw [hb,e]))) (.inl rfl) (.inl (.refl _)) (fun htr=>by
      simp only [hφ] at htr ⊢
      refine⟨by rw [hO.len];simp [Zd4 hp1 hp2],hO.sz,?_,by simpa [Zd4 hp1 hp2] using hroom,hO.cap,(fun h=>by rw [hb] at h;cases h),(fun b' hs'=>Nat.lt_of_lt_of_le (hO.subl b' hs') e4),hO.subn,fun b' hb'=> ?_⟩
      · intro row hr
        obtain⟨u,_,rfl⟩:=List.mem_map.1 hr
        rw [hf,hcs];rfl
      · rw [hb] at hb';cases hb'
        refine⟨cs',by rw [hmp];exact e6,by rw [hcs,e7,k2,Nat.mul_one],Cells.of fun i j hi hj=> ?_⟩
        simp only [lM,Zd4 hp1 hp2] at hi
        rw [hcs] at hj ⊢
        obtain rfl:j=0:=by omega
        have hget:=ZnY (p:=p1) (m:=n1) (q:=p2) (n:=n2) hp1 hp2 hi
        have hσ:(if p1≤i∧i<p1+min n2 n1 then p2+(i-p1) else i)<xs.length:=by split<;>omega
        have ec:cellAt ((cpy xs p1 n1 p2 n2).map f) i 0=g (xs[if p1≤i∧i<p1+min n2 n1 then p2+(i-p1) else i]):=by
          simp only [cellAt,gQ,List.getElem?_map,hget,List.getElem?_eq_getElem hσ,Option.map_some,Option.getD_some,hf]
          rfl
        simp only [Nat.mul_one,Nat.add_zero]
        rw [ec,e8 i hi]
        exact htr _ _ (hcell _ hσ))
  simp only [hφ] at hu'
  refine⟨goInt ((min n2 n1:Nat):Int),w',φ,?_,hu'.1,hu'.2,Zt (.int _ _)⟩
  exact hrun0 _ _ hrun
end ops
end Go.Vx

namespace Go.Vx
open Go Go.RowKit
section
variable {c:Ctx} {ops:Array Oper} {st:St} {dst:Option Tmp} {ty:TypeId} {pos:String} {after:Array Edge}
end
end Go.Vx
