/- A text of the proof: a verified executor of the program form, or the contracts of the functions that the law reaches. -/
import Derived.Test.YtailpehcgelmdaaGreatDoorVK
import Derived.Lib.Join
set_option linter.all false
namespace Go.Vx
open Go Go.RowKit Go.Lib
def Zkg(l:List Str)(sep:Str):Option Str:=if l.length≤140737488355328∧(Go.Lib.join l sep).length≤140737488355328 then some (Go.Lib.join l sep) else none
theorem Zmm{l:List Str}{j:Nat}{s:Str}(h:l[j]?=some s):cellAt (l.map fun s=> [AV.str s]) j 0= .str s:=by
  unfold cellAt
  have:(l.map fun s=> [AV.str s]).getD j []= [AV.str s]:=by rw [List.getD_eq_getElem?_getD,List.getElem?_map,h];rfl
  rw [this];rfl
theorem Zn2{P:Program}{gl:Gl}{f:Nat}{e:TypeId}{l:List Str}{sep r:Str}(hc:callable P f=true)(he:P.cellsOf e=1)
    (C0: ∀ (a:Option Addr) (c:Nat) (sep:ByteArray) (w:World),Calls P f #[.slice a 0 c,.string sep] w fun e w'=>e= .returned (.string ⟨#[]⟩)∧w'=w)
    (C: ∀ (bk o c:Nat) (xs:List ByteArray) (sep:ByteArray) (w:World),(∀ (j:Nat) x,xs[j]?=some x→w.cell? ⟨bk,o+j,none⟩=some (.string x))→bk<w.heap.size→xs.length≤140737488355328→xs.length≤c→
      (Go.Lib.join (xs.map (·.data.toList)) sep.data.toList).length≤140737488355328→
      Calls P f #[.slice (some ⟨bk,o,none⟩) xs.length c,.string sep] w fun e w'=>e= .returned (.string ⟨(Go.Lib.join (xs.map (·.data.toList)) sep.data.toList).toArray⟩)∧Below w.heap.size w w')
    (h:Zkg l sep=some r):CSpec P gl f [.sl e (l.map fun s=> [AV.str s]),.str sep] (.str r):=by
  refine⟨hc,fun A w vals hA hgl hsz hv=> ?_⟩
  unfold Zkg at h
  split at h
  · rename_i hb
    cases h
    have e0:=hv 0 (by simp)
    have e1:=hv 1 (by simp)
    have hvals:vals= #[vals.getD 0 undef,vals.getD 1 undef]:=by
      have:vals.size=2:=by simpa using hsz
      apply Array.ext
      · simp [this]
      · intro i h1 h2
        have:i=0∨i=1:=by omega
        rcases this with rfl |rfl<;>simp [Array.getD,h1]
    rw [hvals]
    generalize vals.getD 0 undef=v0 at e0 ⊢
    generalize vals.getD 1 undef=v1 at e1 ⊢
    have e1':v1= .string ⟨sep.toArray⟩:=by
      have:RelD P w A (.str sep) v1:=e1
      cases this;rfl
    subst e1'
    have e0':RelD P w A (.sl e (l.map fun s=> [AV.str s])) v0:=e0
    cases l with
    |nil=>
      cases e0' with
      |sl0 _ a c=>
        refine(C0 a c _ w).mono ?_
        rintro e w' ⟨rfl,rfl⟩
        exact⟨_,rfl,Below.refl _ _,by simpa [Go.Lib.join] using RelD.str []⟩
      |sl _ _ b off c us h1 h2 h3 h4 h5 h6 h7=>
        refine(C0 (some ⟨b,off,none⟩) c _ w).mono ?_
        rintro e w' ⟨rfl,rfl⟩
        exact⟨_,rfl,Below.refl _ _,by simpa [Go.Lib.join] using RelD.str []⟩
    |cons a tl=>
      cases e0' with
      |sl _ _ b off c us h1 h2 h3 h4 h5 h6 h7=>
        have hl:((a::tl).map fun s=> [AV.str s]).length=(a::tl).length:=by simp
        have key:=C b off c ((a::tl).map fun s=>(⟨s.toArray⟩:ByteArray)) ⟨sep.toArray⟩ w (fun j x hx=>by
          rw [List.getElem?_map] at hx
          obtain⟨s,hs,rfl⟩:=Option.map_eq_some_iff.1 hx
          have hj:j<(a::tl).length:=(List.getElem?_eq_some_iff.1 hs).1
          have c1:=h6 j 0 (by rw [hl];exact hj) (by omega)
          have c2:=h7 j 0 (by rw [hl];exact hj) (by omega)
          rw [Zmm hs] at c2
          rw [he,Nat.mul_one,Nat.add_zero] at c1
          rw [c1]
          generalize us j 0=v at c2 ⊢
          cases c2;rfl) h1 (by simpa using hb.1) (by simpa using h4) (by simpa [Function.comp_def] using hb.2)
        rw [show((a::tl).map fun s=>(⟨s.toArray⟩:ByteArray)).length=((a::tl).map fun s=> [AV.str s]).length by simp] at key
        refine key.mono ?_
        rintro e w' ⟨rfl,hbel⟩
        exact⟨_,rfl,hbel,by simpa [Function.comp_def] using RelD.str (Go.Lib.join (a::tl) sep)⟩
  · cases h
end Go.Vx

namespace Go.Vx
open Go Go.RowKit
def ck(b:Bool):Option Unit:=if b=true then some () else none
def slp{α:Type}(xs:List α)(p q:Int):Option Unit:=ck (decide (0≤p)&&(decide (p<q)&&decide (q≤xs.length)))
theorem ZjI{b:Bool}{u:Unit}(h:ck b=some u):b=true:=by
  unfold ck at h
  split at h
  · assumption
  · cases h
theorem Zkf{α:Type}{xs:List α}{p q:Int}{u:Unit}(h:slp xs p q=some u):0≤p∧p<q∧q≤xs.length:=by
  have:=ZjI h
  simpa using this
section ops
variable {c:Ctx} {ops:Array Oper} {st:St} {dst:Option Tmp} {ty:TypeId} {pos:String} {after:Array Edge}
theorem ZqA{α:Type}{f:α→List AV}{t e by_ r m:Nat}{x:Operand}{lo hi:Option Operand}{xs:List α}{p q:Int}{u:Unit}(h:Opv c st x (.own r m))(ho:nth st.hp r=some ⟨e,xs.map f⟩)(hm:xs.length=m)(ht:tSl c.P t e 1 by_=true)
    (hl:Zjm c st 0 lo p) (hh:Zjm c st (xs.length:Int) hi q) (hz:slp xs p q=some u):SVal c ops st ⟨dst,.slice t x lo hi none,ty,pos,after,none⟩ (.osl r m p.toNat (q-p).toNat):=
  .pure rfl fun φ a w hc=>by
    obtain⟨h0,h1,h2⟩:=Zkf hz
    obtain⟨hu,inf,z,hi',hs,hby,hn0,hz,hzs,hcs⟩:=tSl.spec ht
    have hO:=hc.hok.obj r _ ho
    have hv:=Zcu (h φ a w hc) (by rw [hO.len];simpa using hm)
    have hroom:=hO.room
    simp only [List.length_map] at hroom
    have hsz:(sizeOf e).run c.P w= .ok 1 w:=by simp [sizeOf,typeInfo,hi',hs]
    have hrb:=Zf8 hc (isS:=true) hl hh h0 (Int.le_of_lt h1) (show q≤(((φ r).cap:Nat):Int) by omega) hroom
    cases hb:(φ r).blk with
    |none=>have:=(hO.none hb).1;simp at this;rw [this] at h2;simp at h2;omega
    |some b=>
      rw [hb] at hv
      simp only [Option.map_some] at hv
      refine⟨.slice (some ⟨b,0+p.toNat*1,none⟩) (q.toNat-p.toNat) ((φ r).cap-p.toNat),?_,fun φ' hφ=> ?_⟩
      · show((do pure (Next.value (←Instr.sliceAt t (a.eval x) (lo.map a.eval) (hi.map a.eval) none)):Sem Next)).run c.P w=_
        rw [hv,Sem.run_bind]
        have e:(Instr.sliceAt t (.slice (some ⟨b,0,none⟩) m (φ r).cap) (lo.map a.eval) (hi.map a.eval) none).run c.P w= .ok (.slice (some ⟨b,0+p.toNat*1,none⟩) (q.toNat-p.toNat) ((φ r).cap-p.toNat)) w:=by
          unfold Instr.sliceAt
          rw [Sem.run_bind,run_underlying hu]
          simp only [Result.andThen_ok]
          unfold Instr.slice
          rw [Sem.run_bind,run_underlying hu]
          simp only [Result.andThen_ok]
          rw [hm] at hrb
          rw [Sem.run_bind,hrb]
          simp only [Result.andThen_ok]
          rw [Sem.run_bind,hsz]
          have hne: ¬(φ r).cap=p.toNat:=by omega
          simp [hne,Zby]
          try rfl
        rw [e]
        rfl
      · have e:φ' r=φ r:=hφ r (XA ho)
        refine .osl r m p.toNat _ _ rfl (by rw [e,hO.len];simp [hm]) fun _=>⟨by rw [e];exact Za2 (h φ a w hc) (by rw [hO.len];simpa using hm),b,0+p.toNat*1,(φ r).cap-p.toNat,by rw [e];exact hb,by omega,fun _=>by omega,?_⟩
        rw [show(q-p).toNat=q.toNat-p.toNat by omega]
theorem Zqq{m:Nat}{x:Operand}{t e r n j len:Nat}{o:Own}{u:Unit}(h:Opv c st x (.osl r n j len))(ht:tArr c.P t m e 1=true)(ho:nth st.hp r=some o)(hn:o.es.length=n)(hsz:c.P.cellsOf o.elem=1)
    (hm:Nat.blt 0 m=true) (hz:ck (decide (m≤len))=some u):SVal c ops st ⟨dst,.sliceToArrayPointer t x,ty,pos,after,none⟩ (.ptr r n j 0):=
  .pure rfl fun φ a w hc=>by
    have hm:0<m:=by simpa using hm
    have hml:m≤len:=by simpa using ZjI hz
    have hu:c.P.underlying t=some (.array m e):=by
      unfold tArr at ht
      simp only [Bool.and_eq_true] at ht
      have:=ht.1
      split at this
      · rename_i heq
        simp only [Bool.and_eq_true] at this
        rw [heq,Nat.eq_of_beq_eq_true this.1,Nat.eq_of_beq_eq_true this.2]
      · cases this
    have hO:=hc.hok.obj r o ho
    obtain⟨b,j',cap,hb,hcap,hj,hx⟩:=Zkj (h φ a w hc) (by rw [hO.len,hn])
    obtain rfl:=hj (by omega)
    refine⟨.pointer (some ⟨b,j',none⟩),?_,fun φ' hφ=> ?_⟩
    · show((do pure (Next.value (←Instr.arrayAt t (a.eval x))):Sem Next)).run c.P w=_
      rw [hx,Sem.run_bind]
      have:(Instr.arrayAt t (.slice (some ⟨b,j',none⟩) len cap)).run c.P w= .ok (.pointer (some ⟨b,j',none⟩)) w:=by
        unfold Instr.arrayAt
        rw [Sem.run_bind,run_underlying hu]
        simp only [Result.andThen_ok]
        rw [if_neg (by omega)]
        rfl
      rw [this];rfl
    · have e:φ' r=φ r:=hφ r (XA ho)
      refine .ptr r n j' 0 _ rfl (by rw [e,hO.len,hn];exact Nat.le_refl _) fun _=>⟨by rw [e];exact Zi4 (h φ a w hc) (by rw [hO.len,hn]),b,by rw [e];exact hb,by rw [e,hO.sz,hsz];simp⟩
theorem Zpu{α:Type}{f:α→List AV}{x y:Operand}{t e m r n el:Nat}{k:IntKind}{p z:Int}{xs:List α}{u:α}{u':Unit}(h:Opv c st x (.ptr r n p.toNat 0))(hy:Opv c st y (.int k z))(ht:tArr c.P t m e 1=true)
    (ho:nth st.hp r=some ⟨el,xs.map f⟩) (hn:xs.length=n) (hsz:c.P.cellsOf el=1) (hp:0≤p) (hz:ck (decide (0≤z)&&decide (z<(m:Int)))=some u') (hx:idx xs (p+z)=some u):
    SVal c ops st ⟨dst,.indexAddr t x y,ty,pos,after,none⟩ (.ptr r n (p+z).toNat 0):=
  .pure rfl fun φ a w hc=>by
    have hz':=ZjI hz
    simp only [Bool.and_eq_true,decide_eq_true_eq] at hz'
    obtain⟨z1,z2⟩:=hz'
    obtain⟨zn,rfl⟩:=Int.eq_ofNat_of_zero_le z1
    have hO:=hc.hok.obj r _ ho
    obtain⟨b,hb,hxx⟩:=ZbA (h φ a w hc) (by rw [hO.len];simpa using hn)
    have e1:=hy.int hc
    refine⟨.pointer (some ⟨b,p.toNat*(φ r).sz+0+zn*1,none⟩),?_,fun φ' hφ=> ?_⟩
    · simp only [execOp,hxx,e1]
      rw [Sem.run_bind,Zd4 w ht _ _ _ _ (by omega)]
      rfl
    · have e:φ' r=φ r:=hφ r (XA ho)
      refine .ptr r n _ 0 _ rfl (by rw [e,hO.len];simp [hn]) fun _=>⟨by rw [e];exact Jg (h φ a w hc) (by rw [hO.len];simpa using hn),b,by rw [e];exact hb,?_⟩
      rw [e,hO.sz,hsz,show(p+(zn:Int)).toNat=p.toNat+zn by omega]
      simp
end ops
end Go.Vx
