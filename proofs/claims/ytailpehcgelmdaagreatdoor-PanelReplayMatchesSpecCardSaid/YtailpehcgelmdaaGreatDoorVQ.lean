/- A text of the proof: a verified executor of the program form, or the contracts of the functions that the law reaches. -/
import Derived.Test.YtailpehcgelmdaaGreatDoorVP
import Derived.Laws.CopyOwn
import Derived.Laws.IdiomCopy
set_option linter.all false
namespace Go.Vx
open Go Go.RowKit
def slq{α:Type}(xs:List α)(p q:Int):Option Unit:=ck (decide (0≤p)&&(decide (p≤q)&&(decide (q≤xs.length)&&decide (0<xs.length))))
theorem ZlS{α:Type}{xs:List α}{p q:Int}{u:Unit}(h:slq xs p q=some u):0≤p∧p≤q∧q≤xs.length∧0<xs.length:=by
  have:=ZjI h
  simpa using this
theorem Zcr{α:Type}{xs:List α}{p q:Int}{u:Unit}(h:slq xs p q=some u):p.toNat+(q-p).toNat≤xs.length:=by have:=ZlS h;omega
def cpy{α:Type}(xs:List α)(p m q n:Nat):List α:=xs.take p++((xs.drop q).take (min n m)++xs.drop (p+min n m))
theorem Zcg{α:Type}{xs:List α}{p m q n:Nat}(h1:p+m≤xs.length)(h2:q+n≤xs.length):(cpy xs p m q n).length=xs.length:=by
  simp only [cpy,List.length_append,List.length_take,List.length_drop];omega
theorem Zm8{α:Type}{xs:List α}{p m q n i:Nat}(h1:p+m≤xs.length)(h2:q+n≤xs.length)(hi:i<xs.length):
    (cpy xs p m q n)[i]?=xs[if p≤i∧i<p+min n m then q+(i-p) else i]?:=by
  unfold cpy
  by_cases hp:i<p
  · rw [List.getElem?_append_left (by simp;omega),List.getElem?_take_of_lt hp,if_neg (by omega)]
  · rw [List.getElem?_append_right (by simp;omega)]
    have e:(xs.take p).length=p:=by simp;omega
    rw [e]
    by_cases hk:i<p+min n m
    · rw [List.getElem?_append_left (by simp;omega),List.getElem?_take_of_lt (by omega),List.getElem?_drop,if_pos (by omega)]
    · rw [List.getElem?_append_right (by simp;omega),List.getElem?_drop,if_neg (by omega)]
      congr 1
      simp
      omega
section ops
variable {c:Ctx} {ops:Array Oper} {st:St} {dst:Option Tmp} {ty:TypeId} {pos:String} {after:Array Edge}
end ops
end Go.Vx

namespace Go.Vx
open Go Go.RowKit
section
variable {c:Ctx} {ops:Array Oper} {st:St} {dst:Option Tmp} {ty:TypeId} {pos:String} {after:Array Edge}
theorem ZlR{f:FuncId}{t:Tmp}{xs:List Operand}{ts:Array TypeId}{ds cs ds2:List AV}{os os' hp':List (Option Own)}{res res':AV}(ρ:List Nat)(hf:Opv c st (.tmp t) (.fn f cs))
    (hcs:Zjn (rwR fun r i=>ρ[i]?=some r) cs ds2) (ha:ArgsG c st (rwR fun r i=>ρ[i]?=some r) xs ds) (hs:GSpec c.P c.gl f (ds++ds2) os res os')
    (hl:Lend c.P ρ st.hp ρ os) (hnd:ZhB ρ=true) (hb:Back c.P ρ st.hp.length st.hp os' 0 hp') (hlen:st.hp.length+(os'.length-ρ.length)=hp'.length) (hin:Nat.ble ρ.length os'.length=true)
    (hr:RenR (rwR (callR ρ st.hp.length)) res res'):
    WVal c ops st ⟨dst,.call {callee:= .value (.tmp t),args:=xs.toArray,argTypes:=ts},ty,pos,after,none⟩ res' hp':=by
  intro φ a w hc
  refine⟨rfl,?_⟩
  obtain⟨h1,h2⟩:=ha.rel hc
  obtain⟨vs,hfv,hvl,hvr⟩:=Ziu (hf φ a w hc)
  unfold Oper.wp
  have e:(execOp a.eval ⟨dst,.call {callee:= .value (.tmp t),args:=xs.toArray,argTypes:=ts},ty,pos,after,none⟩).run c.P w= .ok (.enter f ((xs.map a.eval).toArray++vs)) w:=by
    simp [execOp,resolve,hfv,Deferred.ofValue,invoke,Za9 hs.call]
  rw [e]
  refine(Zj4 hc ρ hs (vals:=(xs.map a.eval).toArray++vs) (by simp [h1,←hvl,hcs.1]) (fun i hi=> ?_) hl hnd hb hlen hr (Nat.le_of_ble_eq_true hin)).mono ?_
  · by_cases h:i<ds.length
    · obtain⟨av,e1,e2⟩:=h2 i h
      refine⟨av,?_,?_⟩
      · simpa [List.getD_eq_getElem?_getD,List.getElem?_append,h] using e1
      · have hx:i<xs.length:=by omega
        simpa [Array.getD_eq_getD_getElem?,List.getD_eq_getElem?_getD,Array.getElem?_append,List.getElem?_append,h,hx] using e2
    · have hi':i-ds.length<cs.length:=by rw [hcs.1];simp at hi;omega
      have q:=hvr (i-ds.length) hi'
      have e1:(ds++ds2).getD i .any=ds2.getD (i-ds.length) .any:=by simp [List.getD_eq_getElem?_getD,List.getElem?_append,h]
      have e2:((xs.map a.eval).toArray++vs).getD i undef=vs.getD (i-ds.length) undef:=by
        simp [Array.getD_eq_getD_getElem?,Array.getElem?_append,h1,h]
      exact⟨cs.getD (i-ds.length) .any,by rw [e1];exact hcs.2 (i-ds.length) hi',by rw [e2];exact q⟩
  rintro e w' ⟨v,φ',rfl,g1,g2,g3⟩
  exact⟨v,φ',rfl,g1,g2,g3⟩
end
end Go.Vx
