/- A text of the proof: a verified executor of the program form, or the contracts of the functions that the law reaches. -/
import Derived.Test.YtgohgnaapbpggaaGreatDoorVK
import Derived.Lib.Join
set_option linter.all false
namespace Go.Vx
open Go Go.RowKit Go.Lib
end Go.Vx

namespace Go.Vx
open Go Go.RowKit
def ck(b:Bool):Option Unit:=if b=true then some () else none
def slp{α:Type}(xs:List α)(p q:Int):Option Unit:=ck (decide (0≤p)&&(decide (p<q)&&decide (q≤xs.length)))
theorem Zl9{b:Bool}{u:Unit}(h:ck b=some u):b=true:=by
  unfold ck at h
  split at h
  · assumption
  · cases h
theorem Zi3{α:Type}{xs:List α}{p q:Int}{u:Unit}(h:slp xs p q=some u):0≤p∧p<q∧q≤xs.length:=by
  have:=Zl9 h
  simpa using this
section ops
variable {c:Ctx} {ops:Array Oper} {st:St} {dst:Option Tmp} {ty:TypeId} {pos:String} {after:Array Edge}
theorem Zra{α:Type}{f:α→List AV}{t e by_ r m:Nat}{x:Operand}{lo hi:Option Operand}{xs:List α}{p q:Int}{u:Unit}(h:Opv c st x (.own r m))(ho:nth st.hp r=some ⟨e,xs.map f⟩)(hm:xs.length=m)(ht:tSl c.P t e 1 by_=true)
    (hl:Zj5 c st 0 lo p) (hh:Zj5 c st (xs.length:Int) hi q) (hz:slp xs p q=some u):SVal c ops st ⟨dst,.slice t x lo hi none,ty,pos,after,none⟩ (.osl r m p.toNat (q-p).toNat):=
  .pure rfl fun φ a w hc=>by
    obtain⟨h0,h1,h2⟩:=Zi3 hz
    obtain⟨hu,inf,z,hi',hs,hby,hn0,hz,hzs,hcs⟩:=tSl.spec ht
    have hO:=hc.hok.obj r _ ho
    have hv:=JZ (h φ a w hc) (by rw [hO.len];simpa using hm)
    have hroom:=hO.room
    simp only [lM] at hroom
    have hsz:(sizeOf e).run c.P w= .ok 1 w:=by simp [sizeOf,typeInfo,hi',hs]
    have hrb:=Zgs hc (isS:=true) hl hh h0 (Int.le_of_lt h1) (show q≤(((φ r).cap:Nat):Int) by omega) hroom
    cases hb:(φ r).blk with
    |none=>have:=(hO.none hb).1;simp at this;rw [this] at h2;simp at h2;omega
    |some b=>
      rw [hb] at hv
      simp only [Option.map_some] at hv
      refine⟨.slice (some ⟨b,0+p.toNat*1,none⟩) (q.toNat-p.toNat) ((φ r).cap-p.toNat),?_,fun φ' hφ=> ?_⟩
      · show((do pure (Next.value (←Instr.sliceAt t (a.eval x) (lo.map a.eval) (hi.map a.eval) none)):Sem Next)).run c.P w=_
        rw [hv,Sem.run_bind]
        have e:(Instr.sliceAt t (.slice (some ⟨b,0,none⟩) m (φ r).cap) (lo.map a.eval) (hi.map a.eval) none).run c.P w= .ok (.slice (some ⟨b,0+p.toNat*1,none⟩) (q.toNat-p.toNat) ((φ r).cap-p.toNat)) w:=by
          unfold Instr.sliceAt
          rw [Sem.run_bind,run_underlying hu]
          simp only [Result.andThen_ok]
          unfold Instr.slice
          rw [Sem.run_bind,run_underlying hu]
          simp only [Result.andThen_ok]
          rw [hm] at hrb
          rw [Sem.run_bind,hrb]
          simp only [Result.andThen_ok]
          rw [Sem.run_bind,hsz]
          have hne: ¬(φ r).cap=p.toNat:=by omega
          simp [hne,Zao]
          try rfl
        rw [e]
        rfl
      · have e:φ' r=φ r:=hφ r (XA ho)
        refine .osl r m p.toNat _ _ rfl (by rw [e,hO.len];simp [hm]) fun _=>⟨by rw [e];exact XY (h φ a w hc) (by rw [hO.len];simpa using hm),b,0+p.toNat*1,(φ r).cap-p.toNat,by rw [e];exact hb,by omega,fun _=>by omega,?_⟩
        rw [show(q-p).toNat=q.toNat-p.toNat by omega]
end ops
end Go.Vx
