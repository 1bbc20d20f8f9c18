/- A text of the proof: a verified executor of the program form, or the contracts of the functions that the law reaches. -/
import Derived.Test.YtgohgnaapbpggaaGreatDoorVM
import Derived.Shelf.Strings.FuncGrows
set_option linter.all false
namespace Go.Vx
open Go Go.RowKit Go.Proofs
theorem GlOK.later{gl:Gl}{w w':World}{A:Nat→Prop}(h:GlOK gl w A [])(hb:Below w.heap.size w w'):GlOK gl w' A []:=by
  refine⟨Nat.le_trans h.len hb.size,(fun b hb=>by cases hb),fun p hp=> ?_⟩
  obtain⟨h1,⟨e,fr,h2⟩,h3⟩:=h.tab p hp
  exact⟨h1,⟨e,fr,(hb.block p.1 (Array.getElem?_eq_some_iff.1 h2).1).trans h2⟩,h3⟩
end Go.Vx

namespace Go.Vx
open Go Go.RowKit
def tPtr(P:Program)(t:TypeId):Bool:=match P.underlying t with |some (.pointer _)=>true |_=>false
theorem tPtr.spec{P:Program}{t:TypeId}(h:tPtr P t=true): ∃ e,P.underlying t=some (.pointer e):=by
  unfold tPtr at h
  split at h
  · rename_i e he;exact⟨e,he⟩
  · cases h
section ops
variable {c:Ctx} {ops:Array Oper} {st:St} {dst:Option Tmp} {ty:TypeId} {pos:String} {after:Array Edge} {x y:Operand} {t u:Nat}
end ops
end Go.Vx

namespace Go.Vx
open Go Go.RowKit
def At(row:List AV)(o n:Nat)(sub:List AV):Prop:=(row.drop o).take n=sub∧o+n≤row.length
def Put(row:List AV)(o:Nat)(l row':List AV):Prop:=row.take o++(l++row.drop (o+l.length))=row'
theorem Zpi{row sub:List AV}{o n:Nat}(h:At row o n sub):sub.length=n:=by
  obtain⟨h1,h2⟩:=h;rw [←h1];simp;omega
theorem XV{row sub sub':List AV}{o n o' n':Nat}(h:At row o n sub)(k:At sub o' n' sub'):At row (o+o') n' sub':=by
  have hl:=Zpi h
  obtain⟨h1,h2⟩:=h
  obtain⟨k1,k2⟩:=k
  refine⟨?_,by omega⟩
  rw [←k1,←h1,List.drop_take,List.take_take,List.drop_drop,Nat.min_eq_left (by omega)]
theorem Qx{row:List AV}{o:Nat}{v:AV}(h:At row o 1 [v]):row[o]?=some v:=by
  obtain⟨h1,h2⟩:=h
  have:(row.drop o)[0]?=some v:=by
    have h3:=congrArg (·[0]?) h1
    simpa using h3
  simpa using this
theorem Qs{row sub:List AV}{o n:Nat}(h:At row o n sub):(row.drop o).take n=sub:=h.1
theorem Zu{row:List AV}{n:Nat}(h:row.length=n):At row 0 n row:=⟨by simp [←h],by omega⟩
theorem ZaF{row l:List AV}(h:row.length=l.length):Put row 0 l l:=by simp [Put,h]
theorem Zb4{row sub l:List AV}{o n:Nat}(h:At row o n sub)(hl:l.length=n):o+l.length≤row.length:=by rw [hl];exact h.2
def Hd(row:List AV)(n:Nat)(sub:List AV):Prop:=row.take n=sub∧n≤row.length
theorem hd0{t:List AV}:Hd t 0 []:=⟨rfl,Nat.zero_le _⟩
theorem hdc{x:AV}{t s:List AV}{n:Nat}(h:Hd t n s):Hd (x::t) (n+1) (x::s):=⟨by simp [h.1],by simpa using h.2⟩
theorem hdw{A t:List AV}{m:Nat}(hA:A.length=m):Hd (A++t) m A:=⟨by rw [←hA];simp,by simp [hA]⟩
theorem hdl{A:List AV}{m:Nat}(hA:A.length=m):Hd A m A:=⟨by simp [←hA],by omega⟩
theorem at0{row s:List AV}{n:Nat}(h:Hd row n s):At row 0 n s:=⟨by simpa using h.1,by simpa using h.2⟩
theorem atc{x:AV}{t s:List AV}{o n:Nat}(h:At t o n s):At (x::t) (o+1) n s:=⟨by simpa using h.1,by have:=h.2;simp;omega⟩
theorem ata{A t s:List AV}{m o n:Nat}(hA:A.length=m)(h:At t o n s):At (A++t) (m+o) n s:=⟨by rw [List.drop_append,List.drop_of_length_le (by omega),hA,Nat.add_sub_cancel_left];simpa using h.1,by have:=h.2;simp [hA];omega⟩
theorem Zln{x:AV}{t l t':List AV}{o:Nat}(h:Put t o l t'):Put (x::t) (o+1) l (x::t'):=by
  unfold Put at*
  rw [show o+1+l.length=(o+l.length)+1 by omega];simp [h]
theorem Zqu{x y:AV}{t:List AV}:Put (x::t) 0 [y] (y::t):=by simp [Put]
theorem Ztj{A B t:List AV}(h:A.length=B.length):Put (A++t) 0 B (B++t):=by simp [Put,←h]
section vec
variable {α:Type} {n:Nat} {v:Vector α n} {f:α→AV} {R:α→List AV} {z:Int} {u:α}
theorem XR(h:ZY v z=some u):At (v.toList.map f) (z.toNat*1) 1 [f u]:=by
  obtain⟨_,h2,h3⟩:=ZeW h
  refine⟨?_,by simp;omega⟩
  rw [Nat.mul_one]
  have hlt:z.toNat<(v.toList.map f).length:=by simpa using h2
  rw [List.drop_eq_getElem_cons hlt]
  simp [List.getElem?_eq_some_iff.1 h3 |>.2]
theorem Znd(h: ∀ x,(R x).all datB=true):(v.toList.flatMap R).all datB=true:=by
  rw [List.all_eq_true];intro x hx;obtain⟨y,_,hy⟩:=List.mem_flatMap.1 hx;exact List.all_eq_true.1 (h y) x hy
end vec
theorem alN{p:AV→Bool}:([]:List AV).all p=true:=rfl
theorem alC{p:AV→Bool}{x:AV}{t:List AV}(h:p x=true)(k:t.all p=true):(x::t).all p=true:=by simp only [List.all_cons,h,k,Bool.and_self]
theorem alA{p:AV→Bool}{A t:List AV}(h:A.all p=true)(k:t.all p=true):(A++t).all p=true:=by simp only [List.all_append,h,k,Bool.and_self]
theorem lnN:([]:List AV).length=0:=rfl
theorem lnC{x:AV}{t:List AV}{n:Nat}(h:t.length=n):(x::t).length=n+1:=by simp [h]
theorem lnA{A t:List AV}{m n:Nat}(hA:A.length=m)(h:t.length=n):(A++t).length=m+n:=by simp [hA,h]
theorem rla{q:Rw}{A A' l m:List AV}(h:Zjv q A A')(k:Zjv q l m):Zjv q (A++l) (A'++m):=by
  refine⟨by simp [h.1,k.1],fun i hi=> ?_⟩
  by_cases c:i<A.length
  · have c':i<A'.length:=by rw [←h.1];exact c
    have:=h.2 i c
    simpa [gQ,List.getElem?_append_left c,List.getElem?_append_left c'] using this
  · have h1:=h.1
    have:=k.2 (i-A.length) (by simp at hi;omega)
    rw [gQ,List.getElem?_append_right (by omega),gQ,List.getElem?_append_right (by omega),←h1]
    simpa [gQ] using this
end Go.Vx

namespace Go.Vx
open Go Go.RowKit
section
variable {c:Ctx} {ops:Array Oper} {st:St} {dst:Option Tmp} {ty:TypeId} {pos:String} {after:Array Edge}
def Zo6(P:Program)(s f off t n:Nat):Bool:=
  (match P.underlying s with
  |some (.struct fs)=>(match fs[f]? with
    |some fd=>Nat.beq fd.offset off&&Nat.beq fd.type t
    |none=>false)
  |_=>false)&&tAgg P t n
theorem ZoV{P:Program}{w:World}{t n off:Nat}{vs:Array Value}(ht:tAgg P t n=true):(part t vs off).run P w= .ok (.agg (vs.extract off (off+n))) w:=by
  obtain⟨i,d,h1,h2,h3,h4,h5,h6⟩:=tAgg.spec ht
  have hagg:(isAgg t).run P w= .ok true w:=by
    unfold isAgg
    rw [Sem.run_bind,run_underlying h3 w]
    cases d<;>first |rfl |cases h4
  unfold part
  rw [Sem.run_bind,hagg]
  simp [sizeOf,typeInfo,h1,h2]
theorem ZlW{P:Program}{w:World}{M:Nat→Prop}{m:Nat}{φ:Phi}{l s:List AV}{vs:Array Value}{off n:Nat}(hl:l.length=vs.size)(h: ∀ i,i<l.length→RelF P w M m φ (l.getD i .any) (vs.getD i undef))(ha:At l off n s):
    RelF P w M m φ (.agg s) (.agg (vs.extract off (off+n))):=by
  have hs:=Zpi ha
  obtain⟨h1,h2⟩:=ha
  refine ZeV (by simp [hs];omega) fun i hi=> ?_
  have:=h (off+i) (by omega)
  have e1:s.getD i .any=l.getD (off+i) .any:=by
    rw [←h1];simp only [gQ,List.getElem?_take,List.getElem?_drop];rw [pG (by omega)]
  have e2:(vs.extract off (off+n)).getD i undef=vs.getD (off+i) undef:=by
    simp only [Array.getD_eq_getD_getElem?,Array.getElem?_extract];rw [pG (by omega)]
  rw [e1,e2];exact this
theorem ZpK{x:Operand}{s f off t n:Nat}{l sub:List AV}(h:Opv c st x (.agg l))(ht:Zo6 c.P s f off t n=true)(ha:At l off n sub):
    SVal c ops st ⟨dst,.field s x f,ty,pos,after,none⟩ (.agg sub):=
  .pure rfl fun φ a w hc=>by
    unfold Zo6 at ht
    rw [Bool.and_eq_true] at ht
    obtain⟨ht,hA⟩:=ht
    split at ht
    case h_2=>cases ht
    rename_i fs hu
    split at ht
    case h_2=>cases ht
    rename_i fd hf
    simp only [Bool.and_eq_true] at ht
    have ho:=Nat.eq_of_beq_eq_true ht.1
    have hty:=Nat.eq_of_beq_eq_true ht.2
    obtain⟨vs,hx,hl,h2⟩:=Zcg (h φ a w hc)
    refine⟨.agg (vs.extract off (off+n)),?_,ZlW hl h2 ha⟩
    show((do pure (Next.value (←Instr.field s (a.eval x) f)):Sem Next)).run c.P w=_
    have:(Instr.field s (a.eval x) f).run c.P w= .ok (.agg (vs.extract off (off+n))) w:=by
      unfold Instr.field
      rw [Sem.run_bind,run_underlying hu]
      simp only [Result.andThen_ok,hf]
      rw [hx,ho,hty]
      exact ZoV hA
    rw [Sem.run_bind,this]
    rfl
theorem Zqg{xs l:List AV}{n:Nat}(h:n+l.length≤xs.length):Zlt xs n l=xs.take n++(l++xs.drop (n+l.length)):=by
  obtain⟨h1,h2⟩:=Zje xs n l h
  apply List.ext_getElem
  · rw [h1];simp;omega
  · intro i hi hj
    have:=h2 i
    simp only [gQ] at this
    rw [List.getElem?_eq_getElem hi,Option.getD_some] at this
    rw [this]
    have hix:i<xs.length:=by rw [←h1];exact hi
    by_cases c1:i<n
    · rw [pG c1,List.getElem_append_left (by simp;omega),List.getElem_take,List.getElem?_eq_getElem hix];rfl
    · rw [nG c1,List.getElem_append_right (by simp;omega)]
      by_cases c2:i<n+l.length
      · rw [pG c2,List.getElem_append_left (by simp;omega),List.getElem?_eq_getElem (by omega)]
        simp [Nat.min_eq_left (show n≤xs.length by omega)]
      · rw [nG c2,List.getElem_append_right (by simp;omega),List.getElem?_eq_getElem hix]
        simp only [List.getElem_drop,Option.getD_some]
        congr 1;simp;omega
theorem Zru{pl:Nat→Option (Nat×Nat)}{xs:List AV}:Zh4 pl xs []=some xs:=rfl
theorem Zix{pl:Nat→Option (Nat×Nat)}{xs xs' l sub ys:List AV}{i off sz:Nat}{rest:List (Nat×List AV)}(hp:pl i=some (off,sz))(hl:l.length=sz)(ha:At xs off sz sub)(hput:Put xs off l xs')
    (h:Zh4 pl xs' rest=some ys):Zh4 pl xs ((i,l)::rest)=some ys:=by
  have h2:=ha.2
  have e1:Nat.beq l.length sz=true:=by rw [hl];exact Nat.beq_refl sz
  have e2:Nat.ble (off+sz) xs.length=true:=Nat.ble_eq_true_of_le h2
  unfold Zh4
  rw [hp]
  simp only [e1,e2]
  rw [Zqg (by omega),show xs.take off++(l++xs.drop (off+l.length))=xs' from hput]
  exact h
theorem Zpa{t:Nat}{ps:List (Nat×Operand)}{qs:List (Nat×List AV)}{pl:List (Nat×Nat)}{zs:List Value}{zr ys:List AV}(hpl:Zco c.P t=some pl)(hal:Zf3 c.P t=true)(hz:JM c.P t=some zs)
    (hzr:zs.map constAV=zr) (hp:Parts c st ps qs) (hf:Zh4 (pl[·]?) zr qs=some ys):SVal c ops st ⟨dst,.build t ps.toArray,ty,pos,after,none⟩ (.agg ys):=
  Xw hpl hal hz hp (hzr▸hf)
end
end Go.Vx
