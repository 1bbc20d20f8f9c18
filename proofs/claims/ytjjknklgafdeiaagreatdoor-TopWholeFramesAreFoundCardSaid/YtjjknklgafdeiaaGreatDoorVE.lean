/- A text of the proof: a verified executor of the program form, or the contracts of the functions that the law reaches. -/
import Derived.Test.YtjjknklgafdeiaaGreatDoorVD
set_option linter.all false
namespace Go.Vx
open Go Go.RowKit
def ZA{α:Type}{n:Nat}(v:Vector α n)(i:Int):Option α:=if 0≤i then v.toList[i.toNat]? else none
theorem ZdK{α:Type}{n:Nat}{v:Vector α n}{i:Int}{x:α}(h:ZA v i=some x):i=(i.toNat:Int)∧i.toNat<n∧v.toList[i.toNat]?=some x:=by
  unfold ZA at h
  split at h
  · have:=(List.getElem?_eq_some_iff.1 h).1
    simp at this
    exact⟨by omega,this,h⟩
  · cases h
def Qr{α:Type}{n:Nat}(v:Vector α n)(i:Int)(x:α):Vector α n:=v.setIfInBounds i.toNat x
theorem ZdL{α:Type}{n:Nat}(v:Vector α n)(i:Int)(x:α):(Qr v i x).toList=v.toList.set i.toNat x:=by simp [Qr]
section
variable {α:Type} {n:Nat} {v:Vector α n} {f:α→AV} {z:Int} {u:α}
theorem arL:(v.toList.map f).length=n:=by simp
theorem arD(h: ∀ x,datB (f x)=true):(v.toList.map f).all datB=true:=by simp [List.all_eq_true,h]
theorem arC(h: ∀ x,c1B (f x)=true):(v.toList.map f).all c1B=true:=by simp [List.all_eq_true,h]
theorem arB(h:ZA v z=some u){x:AV}:(0+z.toNat*1)+ [x].length≤(v.toList.map f).length:=by
  obtain⟨_,h2,_⟩:=ZdK h
  simp;omega
theorem arS(h:ZA v z=some u){x:α}:(v.toList.map f).take (0+z.toNat*1)++([f x]++(v.toList.map f).drop ((0+z.toNat*1)+ [f x].length))=(Qr v z x).toList.map f:=by
  obtain⟨_,h2,_⟩:=ZdK h
  rw [ZdL]
  have hlt:z.toNat<(v.toList.map f).length:=by simpa using h2
  rw [List.map_set,List.set_eq_take_append_cons_drop,if_pos (by simpa using hlt)]
  simp
end
section ops
variable {c:Ctx} {ops:Array Oper} {st:St} {dst:Option Tmp} {ty:TypeId} {pos:String} {after:Array Edge}
theorem QB{α:Type}{m:Nat}{v:Vector α m}{x y:Operand}{t e n r q i j:Nat}{k:IntKind}{z:Int}{o:Own}{u:α}(h:Opv c st x (.ptr r q i j))(hy:Opv c st y (.int k z))(ht:tArr c.P t m e n=true)
    (ho:nth st.hp r=some o) (hq:o.es.length=q) (hx:ZA v z=some u):SVal c ops st ⟨dst,.indexAddr t x y,ty,pos,after,none⟩ (.ptr r q i (j+z.toNat*n)):=by
  obtain⟨h1,h2,_⟩:=ZdK hx
  exact ZsE h hy ht ho hq h1 h2
theorem QI{α:Type}{m:Nat}{v:Vector α m}{x y:Operand}{t e n o:Nat}{k:IntKind}{z:Int}{cells:List AV}{u:α}(h:Opv c st x (.rp cells o))(hy:Opv c st y (.int k z))(ht:tArr c.P t m e n=true)
    (hx:ZA v z=some u):SVal c ops st ⟨dst,.indexAddr t x y,ty,pos,after,none⟩ (.rp cells (o+z.toNat*n)):=by
  obtain⟨h1,h2,_⟩:=ZdK hx
  exact Zto h hy ht h1 h2
theorem ZeN{α:Type}{n:Nat}{v:Vector α n}{f:α→AV}{x y:Operand}{t e:Nat}{k:IntKind}{z:Int}{u:α}(h:Opv c st x (.agg (v.toList.map f)))(hy:Opv c st y (.int k z))(ht:tArr c.P t n e 1=true)(he:tScal c.P e=true)
    (hx:ZA v z=some u):SVal c ops st ⟨dst,.index t x y,ty,pos,after,none⟩ (f u):=by
  obtain⟨h1,h2,h3⟩:=ZdK hx
  exact Zpb h hy ht he h1 h2 (by simp [h3])
end ops
end Go.Vx
