/- A text of the proof: a verified executor of the program form, or the contracts of the functions that the law reaches. -/
import Derived.Test.YtjjknklgafdeiaaGreatDoorVH
import Derived.OpenShut
import Derived.Test.YtjjknklgafdeiaaGreatDoorVO
set_option linter.all false
namespace Go.Vx
open Go Go.RowKit Go.ChangeShapes Go.WideShapes
section
variable {H:Type} {enc:TypeId×Value→H} {P:Program} {w:World} {base:Nat} {spare:Nat→Bool} {held:Bool}
end
end Go.Vx

namespace Go.Vx
open Go Go.RowKit
end Go.Vx

namespace Go.Vx
open Go Go.RowKit
def Zfj(P:Program)(t:TypeId):Bool:=match P.underlying t with |some (.struct _)=>true |some (.array _ _)=>true |_=>false
def szT(P:Program)(t n:Nat):Bool:=match P.info? t with |some i=>Nat.beq i.size n |none=>false
def Zp4(P:Program)(g:TypeId→Option (List Kd)):Nat→List Field→Option (List Kd)
  |_,[]=>some []
  |off,f::fs=>match g f.type with
    |none=>none
    |some ks=>match (f.name != "_")&&Nat.beq f.offset off&&szT P f.type ks.length,Zp4 P g (off+ks.length) fs with
      |true,some r=>some (ks++r)
      |_,_=>none
def ZiH(P:Program):Nat→TypeId→Option (List Kd)
  |0,_=>none
  |d+1,t=>match P.underlying t with
    |some (.int k)=>some [.i k]
    |some .bool=>some [.b]
    |some .string=>some [.s]
    |some (.struct fs)=>if P.stoodInHeld t then none else Zp4 P (ZiH P d) 0 fs.toList
    |some (.array n e)=>match ZiH P d e with
      |some ks=>if szT P e ks.length&&Nat.beq (P.cellsOf e) ks.length then some (List.replicate n ks).flatten else none
      |none=>none
    |_=>none
theorem szT.spec{P:Program}{t n:Nat}(h:szT P t n=true): ∃ i,P.info? t=some i∧i.size=n:=by
  unfold szT at h
  split at h
  · rename_i i hi;exact⟨i,hi,Nat.eq_of_beq_eq_true h⟩
  · cases h
theorem ZnN{P:Program}{w:World}{t:TypeId}{d:TypeDesc}(h:P.underlying t=some d):(isAgg t).run P w= .ok (Zfj P t) w:=by
  unfold isAgg Zfj
  rw [Sem.run_bind,run_underlying h w,h]
  cases d<;>rfl
def VR(P:Program)(w:World)(M:Nat→Prop)(t:TypeId)(v:Value)(l:List AV):Prop:=match Zfj P t with
  |true=> ∃ xs,v= .agg xs∧l.length=xs.size∧ ∀ i,i<l.length→RelD P w M (l.getD i .any) (xs.getD i undef)
  |false=> ∃ a,l= [a]∧RelD P w M a v
theorem ZgY: ∀ {ks ks':List Kd} {l:List AV},Q1 (ks++ks') l=true→Q1 ks (l.take ks.length)=true∧Q1 ks' (l.drop ks.length)=true
  | [],ks',l,h=>⟨by simp [Q1],by simpa using h⟩
  |k::ks,ks',[],h=>by simp [Q1] at h
  |k::ks,ks',a::l,h=>by
    simp only [List.cons_append,Q1,Bool.and_eq_true] at h
    have ih:=ZgY h.2
    exact⟨by simp [Q1,h.1,ih.1],by simpa using ih.2⟩
theorem Ziv{ks:List Kd}{l:List AV}(h:Q1 ks l=true):l.length=ks.length:=(Zkh h).symm
theorem ZgZ: ∀ {l l' m m':List AV},l.length=m.length→Zbn (l++l') (m++m')=(Zbn l m&&Zbn l' m')
  | [],l',[],m',_=>by simp [Zbn]
  | [],_,_::_,_,h=>by simp at h
  |_::_,_,[],_,h=>by simp at h
  |a::l,l',b::m,m',h=>by
    simp only [List.cons_append,Zbn]
    rw [ZgZ (by simpa using h),Bool.and_assoc]
theorem Zp2{P:Program}{w:World}{M:Nat→Prop}{l:List AV}{xs:Array Value}{off n:Nat}(hl:l.length=xs.size)(h: ∀ i,i<l.length→RelD P w M (l.getD i .any) (xs.getD i undef))(hb:off+n≤l.length):
    ((l.drop off).take n).length=(xs.extract off (off+n)).size∧ ∀ i,i<((l.drop off).take n).length→RelD P w M (((l.drop off).take n).getD i .any) ((xs.extract off (off+n)).getD i undef):=by
  refine⟨by simp;omega,fun i hi=> ?_⟩
  have hi':i<n:=by simp at hi;omega
  have:=h (off+i) (by omega)
  have e1:((l.drop off).take n).getD i .any=l.getD (off+i) .any:=by
    simp only [List.getD_eq_getElem?_getD,List.getElem?_take,List.getElem?_drop];rw [if_pos hi']
  have e2:(xs.extract off (off+n)).getD i undef=xs.getD (off+i) undef:=by
    simp only [Array.getD_eq_getD_getElem?,Array.getElem?_extract];rw [if_pos (by omega)]
  rw [e1,e2];exact this
theorem ZiA{P:Program}{w:World}{M:Nat→Prop}{t:TypeId}{d:TypeDesc}(hu:P.underlying t=some d){n off:Nat}(hs:szT P t n=true)(h1:Zfj P t=false→n=1){l:List AV}{xs:Array Value}(hl:l.length=xs.size)
    (h: ∀ i,i<l.length→RelD P w M (l.getD i .any) (xs.getD i undef)) (hb:off+n≤l.length): ∃ v,(part t xs off).run P w= .ok v w∧VR P w M t v ((l.drop off).take n):=by
  obtain⟨i,hi,hin⟩:=szT.spec hs
  unfold part
  rw [Sem.run_bind,ZnN hu]
  unfold VR
  cases ha:Zfj P t with
  |true=>
    refine⟨.agg (xs.extract off (off+n)),by simp [sizeOf,typeInfo,hi,hin],_,rfl,Zp2 hl h hb⟩
  |false=>
    have hn:=h1 ha
    subst hn
    have hx:xs[off]?=some (xs.getD off undef):=by rw [Array.getElem?_eq_getElem (by omega)];simp [show off<xs.size by omega]
    refine⟨xs.getD off undef,?_,l.getD off .any,?_,h off (by omega)⟩
    · simp only [Result.andThen_ok,Bool.false_eq_true,if_false]
      generalize xs.getD off undef=v at hx
      rw [hx];rfl
    · have hlt:off<l.length:=by omega
      rw [List.drop_eq_getElem_cons hlt,List.take_succ_cons,List.take_zero]
      simp [hlt]
theorem Znf{P:Program}{d:Nat}{t:TypeId}{ks:List Kd}(h:ZiH P d t=some ks):(∃ de,P.underlying t=some de)∧(Zfj P t=false→ks.length=1):=by
  cases d with
  |zero=>cases h
  |succ d=>
    simp only [ZiH] at h
    unfold Zfj
    split at h
    · rename_i hu;cases h;exact⟨⟨_,hu⟩,fun _=>rfl⟩
    · rename_i hu;cases h;exact⟨⟨_,hu⟩,fun _=>rfl⟩
    · rename_i hu;cases h;exact⟨⟨_,hu⟩,fun _=>rfl⟩
    · rename_i hu;exact⟨⟨_,hu⟩,fun ha=>by simp [hu] at ha⟩
    · rename_i hu;exact⟨⟨_,hu⟩,fun ha=>by simp [hu] at ha⟩
    · cases h
theorem Zko{P:Program}{w:World}{M:Nat→Prop}{d D:Nat}(ih: ∀ t ks,ZiH P d t=some ks→ ∀ vx vy l m,VR P w M t vx l→VR P w M t vy m→Q1 ks l=true→Q1 ks m=true→(Op.equalIn D t vx vy).run P w= .ok (Zbn l m) w)
    {xs ys:Array Value} {lx ly:List AV} (hlx:lx.length=xs.size) (hx: ∀ i,i<lx.length→RelD P w M (lx.getD i .any) (xs.getD i undef)) (hly:ly.length=ys.size) (hy: ∀ i,i<ly.length→RelD P w M (ly.getD i .any) (ys.getD i undef)):
    ∀ (fs:List Field) (off:Nat) (ks:List Kd),Zp4 P (ZiH P d) off fs=some ks→off+ks.length≤lx.length→off+ks.length≤ly.length→Q1 ks ((lx.drop off).take ks.length)=true→Q1 ks ((ly.drop off).take ks.length)=true→
      (Op.eqFields D xs ys fs).run P w= .ok (Zbn ((lx.drop off).take ks.length) ((ly.drop off).take ks.length)) w
  | [],off,ks,h,_,_,_,_=>by cases h;simp [Op.eqFields,Zbn]
  |f::fs,off,ks,h,b1,b2,f1,f2=>by
    simp only [Zp4] at h
    split at h
    · cases h
    · rename_i k1 hk1
      split at h
      · rename_i r hc hr
        cases h
        simp only [Bool.and_eq_true,bne_iff_ne] at hc
        obtain⟨⟨c1,c2⟩,c3⟩:=hc
        have c2:=Nat.eq_of_beq_eq_true c2
        obtain⟨⟨de,hu⟩,hone⟩:=Znf hk1
        rw [List.length_append] at b1 b2 f1 f2
        have t1: ∀ (z:List AV),((z.drop off).take (k1.length+r.length)).take k1.length=(z.drop off).take k1.length:=fun z=>by rw [List.take_take,Nat.min_eq_left (by omega)]
        have t2: ∀ (z:List AV),((z.drop off).take (k1.length+r.length)).drop k1.length=(z.drop (off+k1.length)).take r.length:=fun z=>by rw [List.drop_take,List.drop_drop];congr 1;omega
        have g1:=ZgY f1
        have g2:=ZgY f2
        rw [t1,t2] at g1 g2
        obtain⟨vx,px,rx⟩:=ZiA (off:=off) hu c3 hone hlx hx (by omega)
        obtain⟨vy,py,ry⟩:=ZiA (off:=off) hu c3 hone hly hy (by omega)
        have he:=ih _ _ hk1 vx vy _ _ rx ry g1.1 g2.1
        have hrec:=Zko ih hlx hx hly hy fs (off+k1.length) r hr (by omega) (by omega) g1.2 g2.2
        simp only [Op.eqFields,if_pos c1]
        rw [c2,Sem.run_bind,px]
        simp only [Result.andThen_ok]
        rw [Sem.run_bind,py]
        simp only [Result.andThen_ok]
        rw [Sem.run_bind,he]
        simp only [Result.andThen_ok]
        have e:Zbn ((lx.drop off).take (k1++r).length) ((ly.drop off).take (k1++r).length)=(Zbn ((lx.drop off).take k1.length) ((ly.drop off).take k1.length)&&Zbn ((lx.drop (off+k1.length)).take r.length) ((ly.drop (off+k1.length)).take r.length)):=by
          rw [List.length_append,List.take_add,List.take_add,List.drop_drop,List.drop_drop,ZgZ (by simp;omega)]
        rw [e]
        cases hb:Zbn ((lx.drop off).take k1.length) ((ly.drop off).take k1.length)
        · simp
        · simp [hrec]
      · cases h
theorem Zk9{P:Program}{w:World}{M:Nat→Prop}{d D:Nat}{e:TypeId}{ks:List Kd}(ih: ∀ vx vy l m,VR P w M e vx l→VR P w M e vy m→Q1 ks l=true→Q1 ks m=true→(Op.equalIn D e vx vy).run P w= .ok (Zbn l m) w)
    (hk:ZiH P d e=some ks) (hs:szT P e ks.length=true) {xs ys:Array Value} {lx ly:List AV} (hlx:lx.length=xs.size) (hx: ∀ i,i<lx.length→RelD P w M (lx.getD i .any) (xs.getD i undef)) (hly:ly.length=ys.size) (hy: ∀ i,i<ly.length→RelD P w M (ly.getD i .any) (ys.getD i undef)):
    ∀ (n i:Nat),(i+n)*ks.length≤lx.length→(i+n)*ks.length≤ly.length→Q1 (List.replicate n ks).flatten ((lx.drop (i*ks.length)).take (n*ks.length))=true→Q1 (List.replicate n ks).flatten ((ly.drop (i*ks.length)).take (n*ks.length))=true→
      (Op.eqItems D e ks.length xs ys (List.range' i n)).run P w= .ok (Zbn ((lx.drop (i*ks.length)).take (n*ks.length)) ((ly.drop (i*ks.length)).take (n*ks.length))) w
  |0,i,_,_,_,_=>by simp [Op.eqItems,Zbn]
  |n+1,i,b1,b2,f1,f2=>by
    obtain⟨⟨de,hu⟩,hone⟩:=Znf hk
    have em:(n+1)*ks.length=ks.length+n*ks.length:=by rw [Nat.succ_mul];omega
    have eb:(i+(n+1))*ks.length=i*ks.length+(ks.length+n*ks.length):=by rw [Nat.add_mul,em]
    have eb2:(i+1+n)*ks.length=i*ks.length+(ks.length+n*ks.length):=by rw [←eb];congr 1;omega
    rw [em] at f1 f2 ⊢
    rw [eb] at b1 b2
    have t1: ∀ (z:List AV),((z.drop (i*ks.length)).take (ks.length+n*ks.length)).take ks.length=(z.drop (i*ks.length)).take ks.length:=fun z=>by rw [List.take_take,Nat.min_eq_left (by omega)]
    have t2: ∀ (z:List AV),((z.drop (i*ks.length)).take (ks.length+n*ks.length)).drop ks.length=(z.drop ((i+1)*ks.length)).take (n*ks.length):=fun z=>by rw [List.drop_take,List.drop_drop,Nat.succ_mul];congr 1;omega
    rw [List.replicate_succ,List.flatten_cons] at f1 f2
    have g1:=ZgY f1
    have g2:=ZgY f2
    rw [t1,t2] at g1 g2
    obtain⟨vx,px,rx⟩:=ZiA (off:=i*ks.length) hu hs hone hlx hx (by omega)
    obtain⟨vy,py,ry⟩:=ZiA (off:=i*ks.length) hu hs hone hly hy (by omega)
    have he:=ih vx vy _ _ rx ry g1.1 g2.1
    have hrec:=Zk9 ih hk hs hlx hx hly hy n (i+1) (by rw [eb2];omega) (by rw [eb2];omega) g1.2 g2.2
    rw [List.range'_succ]
    unfold Op.eqItems
    rw [Sem.run_bind,px]
    simp only [Result.andThen_ok]
    rw [Sem.run_bind,py]
    simp only [Result.andThen_ok]
    rw [Sem.run_bind,he]
    simp only [Result.andThen_ok]
    have e:Zbn ((lx.drop (i*ks.length)).take (ks.length+n*ks.length)) ((ly.drop (i*ks.length)).take (ks.length+n*ks.length))=(Zbn ((lx.drop (i*ks.length)).take ks.length) ((ly.drop (i*ks.length)).take ks.length)&&Zbn ((lx.drop ((i+1)*ks.length)).take (n*ks.length)) ((ly.drop ((i+1)*ks.length)).take (n*ks.length))):=by
      rw [List.take_add,List.take_add,List.drop_drop,List.drop_drop,ZgZ (by simp;omega),Nat.succ_mul]
    rw [e]
    cases hb:Zbn ((lx.drop (i*ks.length)).take ks.length) ((ly.drop (i*ks.length)).take ks.length)
    · simp
    · simp [hrec]
theorem ZoX{P:Program}{w:World}{M:Nat→Prop}: ∀ (d:Nat) (t:TypeId) (ks:List Kd),ZiH P d t=some ks→ ∀ D,d≤D→ ∀ vx vy l m,VR P w M t vx l→VR P w M t vy m→Q1 ks l=true→Q1 ks m=true→
    (Op.equalIn D t vx vy).run P w= .ok (Zbn l m) w
  |0,_,_,h,_,_,_,_,_,_,_,_,_,_=>by cases h
  |d+1,t,ks,h,D,hD,vx,vy,l,m,rx,ry,fx,fy=>by
    obtain⟨D,rfl⟩: ∃ D',D=D'+1:=⟨D-1,by omega⟩
    simp only [ZiH] at h
    unfold VR at rx ry
    have ih: ∀ t ks,ZiH P d t=some ks→ ∀ vx vy l m,VR P w M t vx l→VR P w M t vy m→Q1 ks l=true→Q1 ks m=true→(Op.equalIn D t vx vy).run P w= .ok (Zbn l m) w:=fun t ks h vx vy l m=>ZoX d t ks h D (by omega) vx vy l m
    split at h
    · rename_i k hu
      cases h
      have ha:Zfj P t=false:=by unfold Zfj;rw [hu]
      rw [ha] at rx ry
      obtain⟨a,rfl,rx⟩:=rx
      obtain⟨b,rfl,ry⟩:=ry
      cases a<;>simp [Q1,ZgQ] at fx
      cases b<;>simp [Q1,ZgQ] at fy
      cases rx;cases ry
      subst fx;subst fy
      rw [run_equalIn_int w D t _ _ _ _ hu]
      simp [Zbn,Zpy]
      first |rfl | (rename_i x y;by_cases hh:x=y<;>simp [hh])
    · rename_i hu
      cases h
      have ha:Zfj P t=false:=by unfold Zfj;rw [hu]
      rw [ha] at rx ry
      obtain⟨a,rfl,rx⟩:=rx
      obtain⟨b,rfl,ry⟩:=ry
      cases a<;>simp [Q1,ZgQ] at fx
      cases b<;>simp [Q1,ZgQ] at fy
      cases rx;cases ry
      rw [run_equalIn_bool' w D t _ _ hu]
      simp [Zbn,Zpy]
    · rename_i hu
      cases h
      have ha:Zfj P t=false:=by unfold Zfj;rw [hu]
      rw [ha] at rx ry
      obtain⟨a,rfl,rx⟩:=rx
      obtain⟨b,rfl,ry⟩:=ry
      cases a<;>simp [Q1,ZgQ] at fx
      cases b<;>simp [Q1,ZgQ] at fy
      cases rx;cases ry
      rw [run_equalIn_string w D t _ _ hu]
      simp only [Zbn,Zpy,ByteArray.toList_eq,Bool.and_true]
      congr 1
      rw [Bool.eq_iff_iff];simp
    · rename_i fs hu
      split at h
      · cases h
      · rename_i hst
        have ha:Zfj P t=true:=by unfold Zfj;rw [hu]
        rw [ha] at rx ry
        obtain⟨xs,rfl,x1,x2⟩:=rx
        obtain⟨ys,rfl,y1,y2⟩:=ry
        have hfs:P.fieldsOf t=fs:=by simp [Program.fieldsOf,hu]
        have l1:=Ziv fx
        have l2:=Ziv fy
        have key:=Zko (D:=D) ih x1 x2 y1 y2 fs.toList 0 ks h (by omega) (by omega) (by rw [List.drop_zero,List.take_of_length_le (by omega)];exact fx) (by rw [List.drop_zero,List.take_of_length_le (by omega)];exact fy)
        rw [List.drop_zero,List.drop_zero,List.take_of_length_le (by omega),List.take_of_length_le (by omega)] at key
        rw [run_equalIn_struct w D t xs ys (by rw [hfs];exact hu) (by simpa using hst),hfs]
        exact key
    · rename_i n e hu
      split at h
      · rename_i k1 hk1
        split at h
        · rename_i hc
          cases h
          simp only [Bool.and_eq_true] at hc
          have hc2:=Nat.eq_of_beq_eq_true hc.2
          obtain⟨i,hi,_⟩:=szT.spec hc.1
          have ha:Zfj P t=true:=by unfold Zfj;rw [hu]
          rw [ha] at rx ry
          obtain⟨xs,rfl,x1,x2⟩:=rx
          obtain⟨ys,rfl,y1,y2⟩:=ry
          have l1:=Ziv fx
          have l2:=Ziv fy
          have hfl:(List.replicate n k1).flatten.length=n*k1.length:=by simp
          rw [hfl] at l1 l2
          have key:=Zk9 (D:=D) (ih _ _ hk1) hk1 hc.1 x1 x2 y1 y2 n 0 (by rw [Nat.zero_add];omega) (by rw [Nat.zero_add];omega) (by rw [Nat.zero_mul,List.drop_zero,List.take_of_length_le (by omega)];exact fx) (by rw [Nat.zero_mul,List.drop_zero,List.take_of_length_le (by omega)];exact fy)
          rw [Nat.zero_mul,List.drop_zero,List.drop_zero,List.take_of_length_le (by omega),List.take_of_length_le (by omega)] at key
          rw [run_equalIn_array w D xs ys hu hi,hc2,List.range_eq_range']
          exact key
        · cases h
      · cases h
    · cases h
def Zqt(P:Program)(t:TypeId)(ks:List Kd):Prop:=ZiH P 9 t=some ks∧Zfj P t=true∧P.eqGuardType P.depth t=false
section ops
variable {c:Ctx} {ops:Array Oper} {st:St} {dst:Option Tmp} {ty:TypeId} {pos:String} {after:Array Edge}
theorem Zol{x y:Operand}{t:Nat}{ks:List Kd}{l m:List AV}{e:Bool}(ht:Zqt c.P t ks)(hx:Opv c st x (.agg l))(hy:Opv c st y (.agg m))(dx:Dat c st (.agg l) (.agg l))(dy:Dat c st (.agg m) (.agg m))
    (hl:Q1 ks l=true) (hm:Q1 ks m=true) (he:Zbn l m=e) {φ:Phi} {a:Act} {w:World} (hc:Conc c φ st a w):(Op.equal t (a.eval x) (a.eval y)).run c.P w= .ok e w:=by
  obtain⟨h1,h2,h3⟩:=ht
  have hvx:=dx φ a w hc _ (hx φ a w hc)
  have hvy:=dy φ a w hc _ (hy φ a w hc)
  have r: ∀ {v:Value} {l:List AV},RelD c.P w (Mut c.A φ st.hp) (.agg l) v→VR c.P w (Mut c.A φ st.hp) t v l:=by
    intro v l h
    unfold VR
    rw [h2]
    cases h with
    |agg _ xs a1 a2=>exact⟨xs,rfl,a1,a2⟩
  unfold Op.equal Op.maxDepth
  rw [←he]
  exact ZoX 9 t ks h1 _ (by decide) _ _ l m (r hvx) (r hvy) hl hm
theorem ZoW{x y:Operand}{t u:Nat}{ks:List Kd}{l m:List AV}{e:Bool}(ht:Zqt c.P t ks)(hx:Opv c st x (.agg l))(hy:Opv c st y (.agg m))(dx:Dat c st (.agg l) (.agg l))(dy:Dat c st (.agg m) (.agg m))
    (hl:Q1 ks l=true) (hm:Q1 ks m=true) (he:Zbn l m=e):SVal c ops st ⟨dst,.binOp .eql t x y u,ty,pos,after,none⟩ (.bool e):=
  .pure rfl fun φ a w hc=>by
    have key:=Zol ht hx hy dx dy hl hm he hc
    refine⟨.bool e,?_,Zz (.bool _)⟩
    show((do pure (Next.value (←(do eqGuard .eql t x y (a.eval x) (a.eval y);binOp .eql t (a.eval x) (a.eval y):Sem Value))):Sem Next)).run c.P w=_
    obtain⟨xs,ex,_⟩:=ZbD (hx φ a w hc)
    obtain⟨ys,ey,_⟩:=ZbD (hy φ a w hc)
    rw [ex,ey] at key ⊢
    have hb:(do eqGuard .eql t x y (.agg xs) (.agg ys);binOp .eql t (.agg xs) (.agg ys):Sem Value).run c.P w= .ok (.bool e) w:=by
      rw [Sem.run_bind,show(eqGuard .eql t x y (.agg xs) (.agg ys)).run c.P w= .ok () w by simp [eqGuard,ht.2.2]]
      simp only [Result.andThen_ok]
      simp [binOp,key]
    rw [Sem.run_bind,hb]
    rfl
theorem Zsp{x y:Operand}{t u:Nat}{ks:List Kd}{l m:List AV}{e:Bool}(ht:Zqt c.P t ks)(hx:Opv c st x (.agg l))(hy:Opv c st y (.agg m))(dx:Dat c st (.agg l) (.agg l))(dy:Dat c st (.agg m) (.agg m))
    (hl:Q1 ks l=true) (hm:Q1 ks m=true) (he:Zbn l m=e):SVal c ops st ⟨dst,.binOp .neq t x y u,ty,pos,after,none⟩ (.bool (!e)):=
  .pure rfl fun φ a w hc=>by
    have key:=Zol ht hx hy dx dy hl hm he hc
    refine⟨.bool (!e),?_,Zz (.bool _)⟩
    show((do pure (Next.value (←(do eqGuard .neq t x y (a.eval x) (a.eval y);binOp .neq t (a.eval x) (a.eval y):Sem Value))):Sem Next)).run c.P w=_
    obtain⟨xs,ex,_⟩:=ZbD (hx φ a w hc)
    obtain⟨ys,ey,_⟩:=ZbD (hy φ a w hc)
    rw [ex,ey] at key ⊢
    have hb:(do eqGuard .neq t x y (.agg xs) (.agg ys);binOp .neq t (.agg xs) (.agg ys):Sem Value).run c.P w= .ok (.bool (!e)) w:=by
      rw [Sem.run_bind,show(eqGuard .neq t x y (.agg xs) (.agg ys)).run c.P w= .ok () w by simp [eqGuard,ht.2.2]]
      simp only [Result.andThen_ok]
      simp [binOp,key]
    rw [Sem.run_bind,hb]
    rfl
end ops
theorem fkN:Q1 [] []=true:=rfl
theorem fkC{k:Kd}{ks:List Kd}{x:AV}{l:List AV}(h:ZgQ k x=true)(g:Q1 ks l=true):Q1 (k::ks) (x::l)=true:=by simp [Q1,h,g]
theorem fkA: ∀ {ks ks':List Kd} {A l:List AV},Q1 ks A=true→Q1 ks' l=true→Q1 (ks++ks') (A++l)=true
  | [],ks',[],l,_,h=>h
  | [],_,_::_,_,h,_=>by simp [Q1] at h
  |_::_,_,[],_,h,_=>by simp [Q1] at h
  |k::ks,ks',a::A,l,h,g=>by
    simp only [Q1,Bool.and_eq_true,List.cons_append] at h ⊢
    exact⟨h.1,fkA h.2 g⟩
theorem ZtQ{α:Type}{n:Nat}{v:Vector α n}{R:α→List AV}{ks:List Kd}(h: ∀ x,Q1 ks (R x)=true):Q1 (List.replicate n ks).flatten (v.toList.flatMap R)=true:=by
  have key: ∀ (l:List α),Q1 (List.replicate l.length ks).flatten (l.flatMap R)=true:=by
    intro l
    induction l with
    |nil=>rfl
    |cons x l ih=>rw [List.length_cons,List.replicate_succ,List.flatten_cons,List.flatMap_cons];exact fkA (h x) ih
  have:=key v.toList
  simpa using this
theorem ZfA{α:Type}(f:α→AV)(l:List α):l.flatMap (fun x=> [f x])=l.map f:=by
  induction l with
  |nil=>rfl
  |cons x xs ih=>simp only [List.flatMap_cons,List.map_cons,ih];rfl
theorem fkV{α:Type}{n:Nat}{v:Vector α n}{f:α→AV}{k:Kd}(h: ∀ x,ZgQ k (f x)=true):Q1 (List.replicate n [k]).flatten (v.toList.map f)=true:=by
  rw [←ZfA];exact ZtQ fun x=>fkC (h x) fkN
def Zsw{α:Type}{n:Nat}(eq:α→α→Bool)(v u:Vector α n):Bool:=(v.toList.zip u.toList).all fun p=>eq p.1 p.2
theorem ZtB{α:Type}{n k:Nat}{v u:Vector α n}{R:α→List AV}{eq:α→α→Bool}(hR: ∀ x,(R x).length=k)(h: ∀ x y,Zbn (R x) (R y)=eq x y):Zbn (v.toList.flatMap R) (u.toList.flatMap R)=Zsw eq v u:=by
  have key: ∀ (l m:List α),l.length=m.length→Zbn (l.flatMap R) (m.flatMap R)=(l.zip m).all fun p=>eq p.1 p.2:=by
    intro l
    induction l with
    |nil=>intro m hm;cases m with |nil=>rfl |cons=>simp at hm
    |cons x l ih=>
      intro m hm
      cases m with
      |nil=>simp at hm
      |cons y m=>
        rw [List.flatMap_cons,List.flatMap_cons,ZgZ (by rw [hR,hR]),h,ih m (by simpa using hm)]
        rfl
  exact key _ _ (by simp)
theorem Zqy{α:Type}[DecidableEq α]{n:Nat}(v u:Vector α n):Zsw (fun x y=>decide (x=y)) v u=decide (v=u):=by
  unfold Zsw
  rw [Bool.eq_iff_iff,List.all_eq_true,decide_eq_true_iff]
  constructor
  · intro h
    apply Vector.ext
    intro i hi
    have:=h (v[i],u[i]) (by
      rw [List.mem_iff_getElem]
      exact⟨i,by simpa using hi,by simp⟩)
    simpa using this
  · rintro rfl p hp
    obtain⟨i,hi,rfl⟩:=List.mem_iff_getElem.1 hp
    simp
theorem eqV{α:Type}[DecidableEq α]{n:Nat}{v u:Vector α n}{f:α→AV}(h: ∀ x y,Zpy (f x) (f y)=decide (x=y)):Zbn (v.toList.map f) (u.toList.map f)=decide (v=u):=by
  rw [←ZfA,←ZfA,←Zqy]
  exact ZtB (k:=1) (fun _=>rfl) fun x y=>by simp [Zbn,h]
end Go.Vx

namespace Go.Vx
open Go Go.RowKit
section
variable {c:Ctx} {ops:Array Oper} {st:St} {dst:Option Tmp} {ty:TypeId} {pos:String} {after:Array Edge}
theorem og{g n:Nat}{v:Vector Int n}{f:Int→AV}{k:IntKind}(hm:(g,(v.toList.map fun z=>Value.int k z).toArray)∈c.gl.tabs)(hf: ∀ z,f z= .int k z):Opv c st (.global g) (.rp (v.toList.map f) 0):=fun φ a w hc=>by
  have hg:=(ZeL hc).tab _ hm
  obtain⟨h1,⟨e,fr,h2⟩,h3⟩:=hg
  simp only at h1 h2 h3
  have hlt:g<w.heap.size:=(Array.getElem?_eq_some_iff.1 h2).1
  show RelF _ _ _ _ _ _ (.pointer (some ⟨g,0+0,none⟩))
  refine Zz (.rp _ g 0 0 (fun j=>(v.toList.map fun z=>Value.int k z).getD j undef) hlt h3 (fun j hj=> ?_) fun j hj=> ?_)
  · rw [Qs h2]
    have hj':j<n:=by simpa using hj
    simp [hj']
  · have hj':j<n:=by simpa using hj
    have e1:(v.toList.map f).getD j .any= .int k (v.toList.getD j 0):=by simp [List.getD_eq_getElem?_getD,hj',hf]
    have e2:(v.toList.map fun z=>Value.int k z).getD j undef= .int k (v.toList.getD j 0):=by simp [List.getD_eq_getElem?_getD,hj']
    rw [e1,e2]
    exact .int _ _
theorem ZjV{α:Type}{m:Nat}{v:Vector α m}{f:α→AV}{ys:List α}{x:Operand}{t e off:Nat}{cells:List AV}{lo hi:Option Operand}{p q:Int}(h:Opv c st x (.rp cells off))(ht:tArr c.P t m e 1=true)(he:c.P.cellsOf e=1)
    (ha:At cells off m (v.toList.map f)) (hm:Nat.ble m 65536=true) (hl:ZjD c st 0 lo p) (hh:ZjD c st (m:Int) hi q) (hz:slc v.toList p q=some ys):
    SVal c ops st ⟨dst,.slice t x lo hi none,ty,pos,after,none⟩ (.sl e (ys.map fun u=> [f u])):=
  .pure rfl fun φ a w hc=>by
    unfold slc at hz
    split at hz
    · rename_i hb
      cases hz
      obtain⟨h0,h1,h2⟩:=hb
      simp only [Vector.length_toList] at h2
      have hm:=Nat.le_of_ble_eq_true hm
      have hr:=ZfU (h φ a w hc)
      generalize hx:a.eval x=ax at hr
      cases hr with
      |rp _ b base _ us g0 g1 g2 g3=>
      have hbd:=Zgr hc (isS:=false) hl hh h0 h1 (by omega) (Nat.le_refl _)
      have hu:c.P.underlying t=some (.array m e):=(tArr.spec ht).1
      have hs:(sizeOf e).run c.P w= .ok 1 w:=by
        obtain⟨_,i,hi,hin⟩:=tArr.spec ht
        simp [sizeOf,typeInfo,hi,hin]
      have hlen:((v.toList.take q.toNat).drop p.toNat).length=q.toNat-p.toNat:=by simp;omega
      have hL:(((v.toList.take q.toNat).drop p.toNat).map fun u=> [f u]).length=q.toNat-p.toNat:=by rw [List.length_map,hlen]
      refine⟨.slice (some ⟨b,(if m=p.toNat then base+off else base+off+p.toNat*1),none⟩) (q.toNat-p.toNat) (m-p.toNat),?_,Zz ?_⟩
      · show((do pure (Next.value (←Instr.sliceAt t (a.eval x) (lo.map a.eval) (hi.map a.eval) none)):Sem Next)).run c.P w=_
        rw [hx,Sem.run_bind]
        have e:(Instr.sliceAt t (.pointer (some ⟨b,base+off,none⟩)) (lo.map a.eval) (hi.map a.eval) none).run c.P w= .ok (.slice (some ⟨b,(if m=p.toNat then base+off else base+off+p.toNat*1),none⟩) (q.toNat-p.toNat) (m-p.toNat)) w:=by
          unfold Instr.sliceAt
          rw [Sem.run_bind,run_underlying hu]
          simp only [Result.andThen_ok]
          rw [Sem.run_bind]
          have:(Instr.sureAddr (.pointer (some ⟨b,base+off,none⟩))).run c.P w= .ok ⟨b,base+off,none⟩ w:=rfl
          rw [this]
          simp only [Result.andThen_ok]
          rw [Sem.run_bind,hbd]
          simp only [Result.andThen_ok]
          rw [Sem.run_bind,hs]
          simp only [Result.andThen_ok]
          split
          · rfl
          · rw [Zby];rfl
        rw [e]
        rfl
      · by_cases hpq:q.toNat-p.toNat=0
        · have:(v.toList.take q.toNat).drop p.toNat= []:=List.eq_nil_of_length_eq_zero (by omega)
          rw [this,hpq]
          exact .sl0 _ _ _
        · rw [if_neg (by omega)]
          have hat:=ha.1
          have hal:=ha.2
          have hcell: ∀ i,i<q.toNat-p.toNat→off+(p.toNat+i)<cells.length∧cellAt (((v.toList.take q.toNat).drop p.toNat).map fun u=> [f u]) i 0=cells.getD (off+(p.toNat+i)) .any:=fun i hi=>by
            refine⟨by omega,?_⟩
            have hv:p.toNat+i<m:=by omega
            have e1:cells.getD (off+(p.toNat+i)) .any=(v.toList.map f).getD (p.toNat+i) .any:=by
              rw [←hat];simp only [List.getD_eq_getElem?_getD,List.getElem?_take,List.getElem?_drop];rw [if_pos hv]
            rw [e1]
            have:((v.toList.take q.toNat).drop p.toNat)[i]?=v.toList[p.toNat+i]?:=by rw [List.getElem?_drop,List.getElem?_take,if_pos (by omega)]
            unfold cellAt
            simp only [List.getD_eq_getElem?_getD,List.getElem?_map,this]
            simp [hv]
          have:=RelD.sl (P:=c.P) (w:=w) (M:=Mut c.A φ st.hp) e (((v.toList.take q.toNat).drop p.toNat).map fun u=> [f u]) b (base+off+p.toNat*1) (m-p.toNat) (fun i _=>us (off+(p.toNat+i))) g0 g1
            (by rw [hL];omega) (by rw [hL];omega) (fun row hr=>by obtain⟨z',_,rfl⟩:=List.mem_map.1 hr;rw [he];rfl)
            (fun i j hi hj=>by
              rw [hL] at hi
              rw [he] at hj
              obtain rfl:j=0:=by omega
              rw [←g2 _ (hcell i hi).1]
              congr 2
              rw [he];omega)
            (fun i j hi hj=>by
              rw [hL] at hi
              rw [he] at hj
              obtain rfl:j=0:=by omega
              rw [(hcell i hi).2]
              exact g3 _ (hcell i hi).1)
          rw [hL] at this
          exact this
    · cases hz
end
end Go.Vx
namespace Go.Vx
theorem Zly{α:Type}{n:Nat}{v:Vector α n}{f:α→AV}(h: ∀ x,Flat (f x)):Flat (.agg (v.toList.map f)):= .agg fun x hx=>by
  obtain⟨y,_,rfl⟩:=List.mem_map.1 hx
  exact h y
end Go.Vx

namespace Go.Vx
open Go Go.RowKit
section draw
variable {cw:Md} {c:Ctx} {ops:Array Oper} {st:St} {m:Nat} {K:Exit→St→Prop}
def ZoA(ops:Array Oper)(m:Nat)(l:List Nat):Bool:=(match l with |i::_=>readyAt ops m i&&Nat.blt i ops.size | []=>false)&&(List.range ops.size).all fun k=>l.contains k || !readyAt ops m k
inductive Br (cw:Md) (c:Ctx) (ops:Array Oper) (K:Exit→St→Prop) (m:Nat) (st:St):List Nat→Prop
  |nil:Br cw c ops K m st []
  |w {i:Nat} {o:Oper} {v:AV} {hp':List (Option Own)} {l:List Nat}:ops[i]?=some o→dstLt o.dst c.nt=true→noWrite cw.cw o.op=false→(extOp o.op=true→Ext st.hp hp')→(cw.fr=true→ExtW cw.wl cw.base hp')→
      WVal c ops ⟨restr st.tm (o.looksAt ops),st.hp⟩ o v hp'→Dv cw c ops (KE c K) (setBit m i) (St.puto ⟨st.tm,hp'⟩ o.dst v)→Br cw c ops K m st l→Br cw c ops K m st (i::l)
  |q {i:Nat} {o:Oper} {v:AV} {l:List Nat}:ops[i]?=some o→dstLt o.dst c.nt=true→noWrite cw.cw o.op=true→
      SVal c ops ⟨restr st.tm (o.looksAt ops),st.hp⟩ o v→Dv cw c ops (KE c K) (setBit m i) (st.puto o.dst v)→Br cw c ops K m st l→Br cw c ops K m st (i::l)
theorem Br.get{l:List Nat}(h:Br cw c ops K m st l): ∀ i,l.contains i=true→ ∃ st',SStep cw c ops i st st'∧Dv cw c ops (KE c K) (setBit m i) st':=by
  induction h with
  |nil=>intro i hi;cases hi
  | @w j o v hp' l ho hd hn hx hy hw k _ ih=>
    intro i hi
    by_cases e:i=j
    · subst e;exact⟨_,.w ho ⟨hd,hn,hx,hy,hw⟩,k⟩
    · exact ih i (by simpa [List.contains_cons,e] using hi)
  | @q j o v l ho hd hn hw k _ ih=>
    intro i hi
    by_cases e:i=j
    · subst e;exact⟨_,.q0 ho ⟨hd,hn,hw⟩,k⟩
    · exact ih i (by simpa [List.contains_cons,e] using hi)
theorem Ze0(l:List Nat)(hl:ZoA ops m l=true)(h:Br cw c ops K m st l):Dv cw c ops (KE c K) m st:=by
  unfold ZoA at hl
  rw [Bool.and_eq_true] at hl
  obtain⟨h1,h2⟩:=hl
  have only: ∀ k,k<ops.size→readyAt ops m k=true→l.contains k=true:=fun k hk hr=>by
    have:=List.all_eq_true.1 h2 k (List.mem_range.2 hk)
    rw [hr] at this
    simpa using this
  have key: ∀ k,∃ st',k<ops.size→readyAt ops m k=true→SStep cw c ops k st st'∧Dv cw c ops (KE c K) (setBit m k) st':=fun k=>by
    by_cases hk:k<ops.size∧readyAt ops m k=true
    · obtain⟨st',h⟩:=h.get k (only k hk.1 hk.2)
      exact⟨st',fun _ _=>h⟩
    · exact⟨st,fun a b=>absurd ⟨a,b⟩ hk⟩
  cases l with
  |nil=>cases h1
  |cons i l=>
    simp only [Bool.and_eq_true] at h1
    refine .branch (fun k=>(key k).choose) ⟨i,by simpa using h1.2,h1.1⟩ (fun q hq hr=>((key q).choose_spec hq hr).1) (fun q hq hr=>((key q).choose_spec hq hr).2)
end draw
end Go.Vx

namespace Go.Vx
open Go Go.RowKit
theorem Ent.focusM0{c:Ctx}{tm:List (Nat×AV)}{hp:List (Option Own)}{r k t:Nat}{ky:AV}{e:TypeId}{m l:List (List AV)}(ho:nth hp r=some ⟨t,[[.mcon m]]⟩)(hcs:c.P.cellsOf t=1)(hk:m[k]?=some [ky,.osub e l])(hlen: ∀ x∈l,x.length=c.P.cellsOf e):
    Ent c ⟨tm,hp⟩ ⟨tm,Q7 hp r (some ⟨t,[[.mcon (m.set k [ky,.own hp.length l.length])]]⟩)++ [some ⟨e,l⟩]⟩:=by
  intro φ a w hc
  have hok:=hc.hok
  have hO:=hok.obj r _ ho
  have hrl:r<hp.length:=Xp ho
  have hki:k<m.length:=(List.getElem?_eq_some_iff.1 hk).1
  have hca:cellAt m k 1= .osub e l:=by unfold cellAt;rw [getD_of_get? hk];rfl
  cases hb:(φ r).blk with
  |none=>have:=(hO.none hb).1;cases this
  |some b=>
    obtain⟨cs,h1,h2,T0,t01,t02,h3⟩:=hO.some b hb
    have hT0:=h3 0 0 (by simp) (by simp [hcs])
    have hcell0:cellAt [[AV.mcon m]] 0 0= .mcon m:=rfl
    simp only [hcell0] at hT0
    obtain⟨ks,vs,es,T,hes,m1,m2,m3,m4,m5,m6⟩: ∃ (ks vs:Nat→Value) (es:Array Value) (T:Nat→Nat→Prop),cs.getD (0*c.P.cellsOf t+0) undef= .tuple es∧es.size=m.length∧(∀ i,i<m.length→es[i]?=some (.tuple #[ks i,vs i]))∧
      (∀ i x,T i x→T0 0 0 x)∧(∀ i i' x,T i x→T i' x→i=i')∧(∀ i,i<m.length→RelF c.P w (Mut c.A φ hp) hp.length φ (cellAt m i 0) (ks i))∧(∀ i,i<m.length→TRel c.P w (Mut c.A φ hp) hp.length φ (T i) (cellAt m i 1) (vs i)):=by
      generalize cs.getD (0*c.P.cellsOf t+0) undef=v at hT0
      cases hT0 with
      |leaf h=>have:=Zda h;cases this
      |mcon _ ks vs es T g1 g2 g3 g4 g5 g6=>exact⟨ks,vs,es,T,rfl,g1,g2,g3,g4,g5,g6⟩
    have t1: ∀ x,T k x→(φ r).sub x:=fun x hx=>t01 0 0 x (m3 k x hx)
    have hT:=m6 k hki
    rw [hca] at hT
    have key: ∃ (L:Loc),L.n=l.length∧L.sz=c.P.cellsOf e∧L.mp=false∧l.length≤L.cap∧L.cap<2^63∧(L.blk=none→l= []∧L.cap=0)∧(∀ x,L.has x→T k x)∧(∀ x,L.blk=some x→ ¬L.sub x)∧
        vs k= .slice (L.blk.map fun b=>⟨b,0,none⟩) l.length L.cap∧
        ∀ b',L.blk=some b'→ ∃ cs',w.heap[b']?=some (.cells cs' e (0,0))∧cs'.size=L.cap*c.P.cellsOf e∧Cells c.P w (Mut c.A φ hp) hp.length φ L.sub l cs' (c.P.cellsOf e):=by
      generalize vs k=v at hT
      cases hT with
      |leaf h=>have:=Zda h;cases this
      |nil=>exact⟨⟨none,0,0,c.P.cellsOf e,false,fun _=>False⟩,rfl,rfl,rfl,Nat.le_refl _,(by show(0:Nat)<2^63;decide),(fun _=>⟨rfl,rfl⟩),(by
        rintro x (h |h)
        · cases h
        · exact h.elim),(by rintro x h;cases h),rfl,(by rintro b' h;cases h)⟩
      |osub _ _ b' cap cs' T' g1 g2 g3 g4 g5 g6 g7 g8 g9=>
        refine⟨⟨some b',cap,l.length,c.P.cellsOf e,false,fun x=>T k x∧x≠b'⟩,rfl,rfl,rfl,g2,g3,(fun h=>by cases h),?_,?_,rfl,?_⟩
        · rintro x (h |h)
          · cases h;exact g1
          · exact h.1
        · rintro x h;cases h;exact fun h=>h.2 rfl
        · rintro b2 h;cases h
          exact⟨cs',g4,g5,T',fun i j x hx=>g7 i j x hx,g8,g9⟩
    obtain⟨L,l1,l2,l3,l4,l5,l6,l7,l8,l9,l10⟩:=key
    let φ':Phi:=fun x=>if x=hp.length then L else if x=r then {φ r with sub:=fun y=>(φ r).sub y∧ ¬T k y} else φ x
    have hne:r≠hp.length:=by omega
    have f1:φ' hp.length=L:=by simp only [φ',if_true]
    have f2:φ' r={φ r with sub:=fun y=>(φ r).sub y∧ ¬T k y}:=by simp only [φ',if_neg hne,if_true]
    have f3: ∀ x,x≠hp.length→x≠r→φ' x=φ x:=fun x h h'=>by simp only [φ',if_neg h,if_neg h']
    have same: ∀ x,x≠hp.length→(φ' x).same (φ x):=fun x h=>by
      by_cases h':x=r
      · subst h';rw [f2];exact⟨rfl,rfl,rfl,rfl,rfl⟩
      · rw [f3 x h h'];exact .refl _
    generalize hhp:Q7 hp r (some (⟨t,[[.mcon (m.set k [ky,.own hp.length l.length])]]⟩:Own))++ [some ⟨e,l⟩]=hp'
    have hlen':hp'.length=hp.length+1:=by rw [←hhp];simp [Za4]
    have hnth: ∀ x,nth hp' x=if x=hp.length then some ⟨e,l⟩ else if x=r then some ⟨t,[[.mcon (m.set k [ky,.own hp.length l.length])]]⟩ else nth hp x:=fun x=>by
      rw [←hhp,XS,Za4,Zbu ho]
    have hhas: ∀ x q y,nth hp' x=some q→(φ' x).has y→ ∃ x' q',nth hp x'=some q'∧(φ x').has y∧(x≠hp.length→x'=x)∧(x=hp.length→x'=r∧T k y):=by
      intro x q y hx hy
      by_cases e1:x=hp.length
      · subst e1
        rw [f1] at hy
        exact⟨r,_,ho,.inr (t1 y (l7 y hy)),fun h=>absurd rfl h,fun _=>⟨rfl,l7 y hy⟩⟩
      · by_cases e2:x=r
        · subst e2
          rw [f2] at hy
          exact⟨x,_,ho,hy.imp id fun h=>h.1,fun _=>rfl,fun h=>absurd h e1⟩
        · rw [hnth,if_neg e1,if_neg e2] at hx
          rw [f3 x e1 e2] at hy
          exact⟨x,q,hx,hy,fun _=>rfl,fun h=>absurd h e1⟩
    have hmut: ∀ y,Mut c.A φ' hp' y→Mut c.A φ hp y:=by
      rintro y (ha | ⟨x,q,hx,hy⟩)
      · exact .inl ha
      · obtain⟨x',q',h,h',_⟩:=hhas x q y hx hy
        exact .inr ⟨x',q',h,h'⟩
    have htr: ∀ av x,RelF c.P w (Mut c.A φ hp) hp.length φ av x→RelF c.P w (Mut c.A φ' hp') hp'.length φ' av x:=by
      intro av x hx ψ hψ
      have h0:=hx (fun s=>if s<hp.length then φ s else ψ s) fun s hs=>by simp only [if_pos hs]
      refine(h0.mono (Nat.le_refl _) (fun _ _ _=>rfl) (fun y _ hm hm'=>hm (hmut y hm'))).loc fun s=> ?_
      by_cases hs:s<hp.length
      · rw [if_pos hs,hψ s (by omega)];exact .inl (same s (by omega))
      · rw [if_neg hs];exact .inl (.refl _)
    refine⟨φ',hc.size,hc.defers,⟨hok.os,hok.tape,hok.output,hok.heap,hok.frame,?_,?_,?_,hok.amb,hok.glob,by rw [hlen'];exact Nat.le_succ_of_le hok.len,fun s hs=> ?_⟩,fun t av ht=>htr _ _ (hc.tm t av ht)⟩
    · intro x q y hx hy
      obtain⟨x',q',h,h',_⟩:=hhas x q y hx hy
      exact hok.owned x' q' y h h'
    · intro x1 x2 q1 q2 y hx1 hx2 hy1 hy2
      obtain⟨z1,p1,a1,a2,a3,a4⟩:=hhas x1 q1 y hx1 hy1
      obtain⟨z2,p2,b1,b2,b3,b4⟩:=hhas x2 q2 y hx2 hy2
      have hz:=hok.apart z1 z2 p1 p2 y a1 b1 a2 b2
      have notboth: ∀ x,x=r→(φ' x).has y→T k y→False:=by
        rintro x rfl hy hT
        rw [f2] at hy
        rcases hy with h |h
        · have h:(φ x).blk=some y:=h
          exact hO.subn y h (t1 y hT)
        · exact h.2 hT
      by_cases e1:x1=hp.length
      · by_cases e2:x2=hp.length
        · rw [e1,e2]
        · obtain⟨c1,c2⟩:=a4 e1
          have c3:=b3 e2
          exact(notboth x2 (by rw [←c3,←hz,c1]) hy2 c2).elim
      · by_cases e2:x2=hp.length
        · obtain⟨c1,c2⟩:=b4 e2
          have c3:=a3 e1
          exact(notboth x1 (by rw [←c3,hz,c1]) hy1 c2).elim
        · rw [←a3 e1,←b3 e2,hz]
    · intro x q hx
      rw [hnth] at hx
      by_cases e1:x=hp.length
      · subst e1
        rw [if_pos rfl] at hx
        cases hx
        rw [hlen']
        refine⟨by rw [f1];exact l1,by rw [f1];exact l2,hlen,by rw [f1];exact l4,by rw [f1];exact l5,by rw [f1];exact l6,by rw [f1];exact fun y hy=>hO.subl y (t1 y (l7 y (.inr hy))),by rw [f1];exact l8,fun b' hb'=> ?_⟩
        rw [f1] at hb' ⊢
        obtain⟨cs',g1,g2,g3⟩:=l10 b' hb'
        exact⟨cs',by rw [l3];exact g1,g2,g3.tr (fun _ _=>rfl) (by rw [←hlen'];exact htr)⟩
      · rw [if_neg e1] at hx
        by_cases e2:x=r
        · subst e2
          rw [if_pos rfl] at hx
          cases hx
          refine⟨by rw [f2];simpa using hO.len,by rw [f2];exact hO.sz,(by simp [hcs]),by rw [f2];simpa using hO.room,by rw [f2];exact hO.cap,(by rw [f2];exact fun h=>by rw [hb] at h;cases h),by rw [f2];exact fun y hy=>hO.subl y hy.1,by rw [f2];exact fun y hy hs=>hO.subn y hy hs.1,fun b' hb'=> ?_⟩
          rw [f2] at hb' ⊢
          simp only at hb'
          rw [hb] at hb';cases hb'
          refine⟨cs,h1,h2,fun i' j' y=>T0 0 0 y∧ ¬T k y∧i'=0∧j'=0,fun i' j' y hy=>⟨t01 0 0 y hy.1,hy.2.1⟩,fun i1 j1 i2 j2 y hy1 hy2=>⟨hy1.2.2.1.trans hy2.2.2.1.symm,hy1.2.2.2.trans hy2.2.2.2.symm⟩,fun i' j' hi' hj'=> ?_⟩
          simp only [List.length_singleton] at hi'
          simp only [hcs] at hj'
          obtain rfl:i'=0:=by omega
          obtain rfl:j'=0:=by omega
          have hcell1:cellAt [[AV.mcon (m.set k [ky,.own hp.length l.length])]] 0 0= .mcon (m.set k [ky,.own hp.length l.length]):=rfl
          simp only [hcell1]
          rw [hes]
          have cset: ∀ i' j',cellAt (m.set k [ky,.own hp.length l.length]) i' j'=if i'=k∧j'=1 then .own hp.length l.length else cellAt m i' j':=fun i' j'=>by
            have:=Zi5 (es:=m) (i:=k) (j:=1) (i':=i') (j':=j') (row:= [ky,.osub e l]) (v:= .own hp.length l.length) hk (by simp)
            simpa using this
          refine .mcon _ ks vs es (fun i y=>T i y∧i≠k) (by simpa using m1) (fun i hi=>m2 i (by simpa using hi)) (fun i y hy=>⟨m3 i y hy.1,fun h=>hy.2 (m4 i k y hy.1 h),by trivial,by trivial⟩) (fun i i' y h h'=>m4 i i' y h.1 h'.1) (fun i hi=> ?_) (fun i hi=> ?_)
          · rw [cset,if_neg (by simp)]
            exact htr _ _ (m5 i (by simpa using hi))
          · rw [cset]
            by_cases e3:i=k
            · subst e3
              rw [if_pos ⟨rfl,rfl⟩,l9]
              refine .leaf fun ψ hψ=> ?_
              have e4:ψ hp.length=L:=by rw [hψ _ (by omega),f1]
              exact .own _ _ _ rfl (by rw [e4,l1];exact Nat.le_refl _) fun _=>by rw [e4];exact⟨l3,rfl⟩
            · rw [if_neg (by simp [e3])]
              exact((m6 i (by simpa using hi)).tr (fun _ _=>rfl) htr).sub fun y hy=>⟨hy,e3⟩
        · rw [if_neg e2] at hx
          have hQ:=hok.obj x q hx
          rw [show φ'=φ' from rfl]
          refine⟨by rw [f3 x e1 e2];exact hQ.len,by rw [f3 x e1 e2];exact hQ.sz,hQ.rows,by rw [f3 x e1 e2];exact hQ.room,by rw [f3 x e1 e2];exact hQ.cap,by rw [f3 x e1 e2];exact hQ.none,by rw [f3 x e1 e2];exact hQ.subl,by rw [f3 x e1 e2];exact hQ.subn,fun b' hb'=> ?_⟩
          rw [f3 x e1 e2] at hb' ⊢
          obtain⟨cs',g1,g2,g3⟩:=hQ.some b' hb'
          exact⟨cs',g1,g2,g3.tr (fun _ _=>rfl) htr⟩
    · have hh:c.n0≤hp.length:=hok.len
      rcases hok.mono s hs with h |h
      · exact .inl ((same s (by omega)).trans h)
      · exact .inr (by rw [(same s (by omega)).2.2.1];exact h)
theorem Ent.absorbM0{c:Ctx}{tm:List (Nat×AV)}{hp:List (Option Own)}{r k q n t:Nat}{ky:AV}{m:List (List AV)}{oq:Own}(ho:nth hp r=some ⟨t,[[.mcon m]]⟩)(hcs:c.P.cellsOf t=1)(hk:m[k]?=some [ky,.own q n])(hoq:nth hp q=some oq)(hn:oq.es.length=n)(hqr:Nat.beq q r=false):
    Ent c ⟨tm,hp⟩ ⟨tm,Q7 (Q7 hp r (some ⟨t,[[.mcon (m.set k [ky,.osub oq.elem oq.es])]]⟩)) q none⟩:=by
  intro φ a w hc
  have hqr:q≠r:=Nat.ne_of_beq_eq_false hqr
  have hok:=hc.hok
  have hO:=hok.obj r _ ho
  have hQ:=hok.obj q oq hoq
  have hrl:r<hp.length:=Xp ho
  have hki:k<m.length:=(List.getElem?_eq_some_iff.1 hk).1
  have hca:cellAt m k 1= .own q n:=by unfold cellAt;rw [getD_of_get? hk];rfl
  let φ':Phi:=fun x=>if x=r then {φ r with sub:=fun y=>(φ r).sub y∨(φ q).has y} else φ x
  have f2:φ' r={φ r with sub:=fun y=>(φ r).sub y∨(φ q).has y}:=by simp only [φ',if_true]
  have f3: ∀ x,x≠r→φ' x=φ x:=fun x h'=>by simp only [φ',if_neg h']
  have same: ∀ x,(φ' x).same (φ x):=fun x=>by
    by_cases h':x=r
    · subst h';rw [f2];exact⟨rfl,rfl,rfl,rfl,rfl⟩
    · rw [f3 x h'];exact .refl _
  have hq1:nth (Q7 hp r (some (⟨t,[[.mcon (m.set k [ky,.osub oq.elem oq.es])]]⟩:Own))) q=some oq:=by rw [Zbu ho,if_neg hqr];exact hoq
  generalize hhp:Q7 (Q7 hp r (some (⟨t,[[.mcon (m.set k [ky,.osub oq.elem oq.es])]]⟩:Own))) q none=hp'
  have hlen':hp'.length=hp.length:=by rw [←hhp];simp [Za4]
  have hnth: ∀ x,nth hp' x=if x=q then none else if x=r then some ⟨t,[[.mcon (m.set k [ky,.osub oq.elem oq.es])]]⟩ else nth hp x:=fun x=>by
    rw [←hhp,Zbu hq1,Zbu ho]
  have hhas: ∀ x z y,nth hp' x=some z→(φ' x).has y→x≠q∧ ∃ x' z',nth hp x'=some z'∧(φ x').has y∧(x'=x∨(x'=q∧x=r)):=by
    intro x z y hx hy
    rw [hnth] at hx
    by_cases e1:x=q
    · rw [if_pos e1] at hx;cases hx
    · refine⟨e1,?_⟩
      rw [if_neg e1] at hx
      by_cases e2:x=r
      · subst e2
        rw [f2] at hy
        rcases hy with h |h |h
        · exact⟨x,_,ho,.inl h,.inl rfl⟩
        · exact⟨x,_,ho,.inr h,.inl rfl⟩
        · exact⟨q,oq,hoq,h,.inr ⟨rfl,rfl⟩⟩
      · rw [if_neg e2] at hx
        rw [f3 x e2] at hy
        exact⟨x,z,hx,hy,.inl rfl⟩
  have hmut: ∀ y,Mut c.A φ' hp' y→Mut c.A φ hp y:=by
    rintro y (ha | ⟨x,z,hx,hy⟩)
    · exact .inl ha
    · obtain⟨_,x',z',h,h',_⟩:=hhas x z y hx hy
      exact .inr ⟨x',z',h,h'⟩
  have htr: ∀ av x,RelF c.P w (Mut c.A φ hp) hp.length φ av x→RelF c.P w (Mut c.A φ' hp') hp'.length φ' av x:=by
    intro av x hx ψ hψ
    have h0:=hx (fun s=>if s<hp.length then φ s else ψ s) fun s hs=>by simp only [if_pos hs]
    refine(h0.mono (Nat.le_refl _) (fun _ _ _=>rfl) (fun y _ hm hm'=>hm (hmut y hm'))).loc fun s=> ?_
    by_cases hs:s<hp.length
    · rw [if_pos hs,hψ s (by omega)];exact .inl (same s)
    · rw [if_neg hs];exact .inl (.refl _)
  refine⟨φ',hc.size,hc.defers,⟨hok.os,hok.tape,hok.output,hok.heap,hok.frame,?_,?_,?_,hok.amb,hok.glob,by rw [hlen'];exact hok.len,fun s hs=> ?_⟩,fun t av ht=>htr _ _ (hc.tm t av ht)⟩
  · intro x z y hx hy
    obtain⟨_,x',z',h,h',_⟩:=hhas x z y hx hy
    exact hok.owned x' z' y h h'
  · intro x1 x2 z1 z2 y hx1 hx2 hy1 hy2
    obtain⟨n1,u1,p1,a1,a2,a3⟩:=hhas x1 z1 y hx1 hy1
    obtain⟨n2,u2,p2,b1,b2,b3⟩:=hhas x2 z2 y hx2 hy2
    have hz:=hok.apart u1 u2 p1 p2 y a1 b1 a2 b2
    rcases a3 with rfl | ⟨rfl,rfl⟩
    · rcases b3 with rfl | ⟨rfl,rfl⟩
      · exact hz
      · exact absurd hz n1
    · rcases b3 with rfl | ⟨rfl,rfl⟩
      · exact absurd hz.symm n2
      · rfl
  · intro x z hx
    rw [hnth] at hx
    by_cases e1:x=q
    · rw [if_pos e1] at hx;cases hx
    · rw [if_neg e1] at hx
      by_cases e2:x=r
      · subst e2
        rw [if_pos rfl] at hx
        cases hx
        refine⟨by rw [f2];simpa using hO.len,by rw [f2];exact hO.sz,(by simp [hcs]),by rw [f2];simpa using hO.room,by rw [f2];exact hO.cap,?_,by rw [f2];exact fun y hy=>hy.elim (hO.subl y) (fun h=>hQ.has_lt h),?_,fun b' hb'=> ?_⟩
        · rw [f2]
          intro h
          have:=(hO.none h).1
          cases this
        · rw [f2]
          rintro y hy (h |h)
          · exact hO.subn y hy h
          · exact hqr (hok.apart q x oq _ y hoq ho h (.inl hy))
        · rw [f2] at hb' ⊢
          simp only at hb'
          obtain⟨cs,h1,h2,T0,t01,t02,h3⟩:=hO.some b' hb'
          have hT0:=h3 0 0 (by simp) (by simp [hcs])
          have hcell0:cellAt [[AV.mcon m]] 0 0= .mcon m:=rfl
          simp only [hcell0] at hT0
          obtain⟨ks,vs,es,T,hes,m1,m2,m3,m4,m5,m6⟩: ∃ (ks vs:Nat→Value) (es:Array Value) (T:Nat→Nat→Prop),cs.getD (0*c.P.cellsOf t+0) undef= .tuple es∧es.size=m.length∧(∀ i,i<m.length→es[i]?=some (.tuple #[ks i,vs i]))∧
            (∀ i x,T i x→T0 0 0 x)∧(∀ i i' x,T i x→T i' x→i=i')∧(∀ i,i<m.length→RelF c.P w (Mut c.A φ hp) hp.length φ (cellAt m i 0) (ks i))∧(∀ i,i<m.length→TRel c.P w (Mut c.A φ hp) hp.length φ (T i) (cellAt m i 1) (vs i)):=by
            generalize cs.getD (0*c.P.cellsOf t+0) undef=v at hT0
            cases hT0 with
            |leaf h=>have:=Zda h;cases this
            |mcon _ ks vs es T g1 g2 g3 g4 g5 g6=>exact⟨ks,vs,es,T,rfl,g1,g2,g3,g4,g5,g6⟩
          refine⟨cs,h1,h2,fun i' j' y=>((φ x).sub y∨(φ q).has y)∧i'=0∧j'=0,fun i' j' y hy=>hy.1,fun i1 j1 i2 j2 y hy1 hy2=>⟨hy1.2.1.trans hy2.2.1.symm,hy1.2.2.trans hy2.2.2.symm⟩,fun i' j' hi' hj'=> ?_⟩
          simp only [List.length_singleton] at hi'
          simp only [hcs] at hj'
          obtain rfl:i'=0:=by omega
          obtain rfl:j'=0:=by omega
          have hcell1:cellAt [[AV.mcon (m.set k [ky,.osub oq.elem oq.es])]] 0 0= .mcon (m.set k [ky,.osub oq.elem oq.es]):=rfl
          simp only [hcell1]
          rw [hes]
          have cset: ∀ i' j',cellAt (m.set k [ky,.osub oq.elem oq.es]) i' j'=if i'=k∧j'=1 then .osub oq.elem oq.es else cellAt m i' j':=fun i' j'=>by
            have:=Zi5 (es:=m) (i:=k) (j:=1) (i':=i') (j':=j') (row:= [ky,.own q n]) (v:= .osub oq.elem oq.es) hk (by simp)
            simpa using this
          have no: ∀ i y,T i y→(φ q).has y→False:=fun i y hT hh=>hqr (hok.apart q x oq _ y hoq ho hh (.inr (t01 0 0 y (m3 i y hT))))
          refine .mcon _ ks vs es (fun i y=>(i≠k∧T i y)∨(i=k∧(φ q).has y)) (by simpa using m1) (fun i hi=>m2 i (by simpa using hi)) (fun i y hy=> ?_) (fun i i' y h h'=> ?_) (fun i hi=> ?_) (fun i hi=> ?_)
          · rcases hy with hy |hy
            · exact⟨.inl (t01 0 0 y (m3 i y hy.2)),by trivial,by trivial⟩
            · exact⟨.inr hy.2,by trivial,by trivial⟩
          · rcases h with h |h<;>rcases h' with h' |h'
            · exact m4 i i' y h.2 h'.2
            · exact(no _ _ h.2 h'.2).elim
            · exact(no _ _ h'.2 h.2).elim
            · rw [h.1,h'.1]
          · rw [cset,if_neg (by simp)]
            exact htr _ _ (m5 i (by simpa using hi))
          · rw [cset]
            by_cases e3:i=k
            · subst e3
              rw [if_pos ⟨rfl,rfl⟩]
              have hv:=(m6 i hki).plain (by rw [hca];rfl)
              rw [hca] at hv
              have hx:=Za7 hv (by rw [hQ.len,hn])
              have hmp:=ZaW hv (by rw [hQ.len,hn])
              rw [hx]
              refine TRel.sub (S:=(φ q).has) ?_ fun y hy=> .inr ⟨rfl,hy⟩
              cases hb:(φ q).blk with
              |none=>
                obtain⟨g1,g2⟩:=hQ.none hb
                rw [g1] at hn
                simp at hn
                rw [g1,g2,←hn]
                exact .nil _
              |some bq=>
                obtain⟨csq,g1,g2,T',s1,s2,g3⟩:=hQ.some bq hb
                rw [←hn]
                exact .osub _ _ bq _ csq T' (.inl hb) hQ.room hQ.cap (g1.cells hmp) g2 hQ.rows (fun i j y hy=>⟨.inr (s1 i j y hy),fun e=>hQ.subn bq hb (e▸s1 i j y hy)⟩) s2 fun i j hi hj=>(g3 i j hi hj).tr (fun _ _=>rfl) htr
            · rw [if_neg (by simp [e3])]
              exact((m6 i (by simpa using hi)).tr (fun _ _=>rfl) htr).sub fun y hy=> .inl ⟨e3,hy⟩
      · rw [if_neg e2] at hx
        have hX:=hok.obj x z hx
        refine⟨by rw [f3 x e2];exact hX.len,by rw [f3 x e2];exact hX.sz,hX.rows,by rw [f3 x e2];exact hX.room,by rw [f3 x e2];exact hX.cap,by rw [f3 x e2];exact hX.none,by rw [f3 x e2];exact hX.subl,by rw [f3 x e2];exact hX.subn,fun b' hb'=> ?_⟩
        rw [f3 x e2] at hb' ⊢
        obtain⟨cs',g1,g2,g3⟩:=hX.some b' hb'
        exact⟨cs',g1,g2,g3.tr (fun _ _=>rfl) htr⟩
  · rcases hok.mono s hs with h |h
    · exact .inl ((same s).trans h)
    · exact .inr (by rw [(same s).2.2.1];exact h)
end Go.Vx

namespace Go.Vx
open Go Go.RowKit
theorem JY{V:Type}{m:List (Int×V)}{c k:Int}{v:V}:Zb8 kqI ((c,v)::m) k=if k=c then some v else Zb8 kqI m k:=by
  by_cases h:k=c
  · simp [Zb8,kqI,h]
  · simp [Zb8,kqI,h]
theorem Zaj{V:Type}{m:List (Int×V)}{c k:Int}{v a:V}:Qc kqI ((c,v)::m) k a=if k=c then(k,a)::m else(c,v)::Qc kqI m k a:=by
  unfold Qc
  rw [List.findIdx?_cons]
  by_cases h:k=c
  · simp [kqI,h]
  · simp only [kqI,h,decide_false,Bool.false_eq_true,if_false]
    cases List.findIdx? (fun p:Int×V=>decide (k=p.1)) m<;>simp
theorem Zf0{V:Type}{k:Int}{a:V}:Qc kqI ([]:List (Int×V)) k a= [(k,a)]:=rfl
theorem ZhP{V:Type}{k:Int}{a:V}: ∀ {m:List (Int×V)},Zb8 kqI (Qc kqI m k a) k=some a
  | []=>by rw [Zf0,JY,if_pos rfl]
  | (c,v)::m=>by
    rw [Zaj]
    by_cases h:k=c
    · rw [if_pos h,JY,if_pos rfl]
    · rw [if_neg h,JY,if_neg h];exact ZhP
theorem ZhD{V:Type}{k:Int}{a b:V}: ∀ {m:List (Int×V)},Qc kqI (Qc kqI m k a) k b=Qc kqI m k b
  | []=>by rw [Zf0,Zaj,if_pos rfl,Zf0]
  | (c,v)::m=>by
    rw [Zaj,Zaj]
    by_cases h:k=c
    · rw [if_pos h,if_pos h,Zaj,if_pos rfl]
    · rw [if_neg h,if_neg h,Zaj,if_neg h,ZhD]
theorem Zj4{V U:Type}{k:Int}{a:V}{f:V→U}: ∀ {m:List (Int×V)},Qc kqI (m.map fun p=>(p.1,f p.2)) k (f a)=(Qc kqI m k a).map fun p=>(p.1,f p.2)
  | []=>rfl
  | (c,v)::m=>by
    rw [List.map_cons,Zaj,Zaj]
    by_cases h:k=c
    · rw [if_pos h,if_pos h,List.map_cons]
    · rw [if_neg h,if_neg h,List.map_cons,Zj4]
theorem ZhR{V U:Type}{k:Int}{f:V→U}: ∀ {m:List (Int×V)},Zb8 kqI (m.map fun p=>(p.1,f p.2)) k=(Zb8 kqI m k).map f
  | []=>rfl
  | (c,v)::m=>by
    rw [List.map_cons,JY,JY]
    by_cases h:k=c
    · rw [if_pos h,if_pos h];rfl
    · rw [if_neg h,if_neg h,ZhR]
theorem Zjw{V:Type}{m:List (Int×V)}{k:Int}{a:V}(h:Zb8 kqI m k=some a): ∃ i,(m.findIdx? fun p=>kqI k p.1)=some i∧m[i]?=some (k,a):=by
  rw [ZiW] at h
  cases hq:m.findIdx? fun p=>kqI k p.1 with
  |none=>rw [hq] at h;cases h
  |some i=>
    have hfi:=List.findIdx?_eq_some_iff_getElem.1 hq
    obtain⟨hi,hk,_⟩:=hfi
    rw [hq,Option.bind_some,List.getElem?_eq_getElem hi,Option.map_some] at h
    refine⟨i,rfl,?_⟩
    rw [List.getElem?_eq_getElem hi]
    cases h
    have:k=m[i].1:=of_decide_eq_true hk
    rw [this]
theorem ZiN{V:Type}{m:List (Int×V)}{k:Int}{b:V}{i:Nat}(h:(m.findIdx? fun p=>kqI k p.1)=some i):Qc kqI m k b=m.set i (k,b):=by
  unfold Qc;rw [h]
def mOf{α:Type}(e:TypeId)(R:α→List AV)(m:List (Int×List α)):List (Int×AV):=m.map fun p=>(p.1,osF e R p.2)
theorem Zg3{α:Type}{e:TypeId}{R:α→List AV}{m:List (Int×List α)}{fk:Int→AV}:(mOf e R m).map (Q8 fk id)=m.map (Q8 fk (osF e R)):=by
  simp [mOf,Q8,Function.comp_def]
section
variable {α:Type} {e:TypeId} {R:α→List AV} {m:List (Int×List α)} {k:Int} {xs ys:List α} {fk:Int→AV}
theorem Ent.focusMk{c:Ctx}{tm:List (Nat×AV)}{hp:List (Option Own)}{r t:Nat}(ho:nth hp r=some ⟨t,[[.mcon (m.map (Q8 fk (osF e R)))]]⟩)(ht:c.P.cellsOf t=1)(hg:Zb8 kqI m k=some xs)(hR: ∀ x,(R x).length=c.P.cellsOf e∧(R x).all datB=true):
    Ent c ⟨tm,hp⟩ ⟨tm,Q7 hp r (some ⟨t,[[.mcon ((Qc kqI (mOf e R m) k (.own hp.length xs.length)).map (Q8 fk id))]]⟩)++ [some ⟨e,xs.map R⟩]⟩:=by
  have hg':Zb8 kqI (mOf e R m) k=some (osF e R xs):=by unfold mOf;rw [ZhR,hg];rfl
  obtain⟨i,h1,h2⟩:=Zjw hg'
  have h3:(m.map (Q8 fk (osF e R)))[i]?=some [fk k,.osub e (xs.map R)]:=by
    rw [←Zg3,List.getElem?_map,h2];rfl
  have:=Ent.focusM0 (c:=c) (tm:=tm) ho ht h3 (fun x hx=>by obtain⟨y,_,rfl⟩:=List.mem_map.1 hx;exact(hR y).1)
  rw [ZiN h1,List.map_set,Zg3]
  simpa [Q8] using this
theorem Ent.absorbMk{c:Ctx}{tm:List (Nat×AV)}{hp:List (Option Own)}{r t q n:Nat}(ho:nth hp r=some ⟨t,[[.mcon ((Qc kqI (mOf e R m) k (.own q n)).map (Q8 fk id))]]⟩)(ht:c.P.cellsOf t=1)(hq:nth hp q=some ⟨e,ys.map R⟩)(hn:ys.length=n)(hqr:Nat.beq q r=false):
    Ent c ⟨tm,hp⟩ ⟨tm,Q7 (Q7 hp r (some ⟨t,[[.mcon ((Qc kqI m k ys).map (Q8 fk (osF e R)))]]⟩)) q none⟩:=by
  obtain⟨i,h1,h2⟩:=Zjw (ZhP (m:=mOf e R m) (k:=k) (a:= .own q n))
  have h3:((Qc kqI (mOf e R m) k (.own q n)).map (Q8 fk id))[i]?=some [fk k,.own q n]:=by
    rw [List.getElem?_map,h2];rfl
  have:=Ent.absorbM0 (c:=c) (tm:=tm) ho ht h3 hq (by simpa using hn) hqr
  have e1:((Qc kqI (mOf e R m) k (.own q n)).map (Q8 fk id)).set i [fk k,.osub e (ys.map R)]=(Qc kqI m k ys).map (Q8 fk (osF e R)):=by
    rw [←Zg3]
    have:mOf e R (Qc kqI m k ys)=(Qc kqI (mOf e R m) k (.own q n)).set i (k,osF e R ys):=by
      rw [←ZiN h1,ZhD];unfold mOf;rw [Zj4]
    rw [this,List.map_set];rfl
  rw [e1] at this
  exact this
theorem Ent.absorbMs{c:Ctx}{tm:List (Nat×AV)}{hp:List (Option Own)}{r t q n:Nat}(hg:Zb8 kqI m k=some ys)(ho:nth hp r=some ⟨t,[[.mcon ((Qc kqI (mOf e R m) k (.own q n)).map (Q8 fk id))]]⟩)(ht:c.P.cellsOf t=1)(hq:nth hp q=some ⟨e,ys.map R⟩)(hn:ys.length=n)(hqr:Nat.beq q r=false):
    Ent c ⟨tm,hp⟩ ⟨tm,Q7 (Q7 hp r (some ⟨t,[[.mcon (m.map (Q8 fk (osF e R)))]]⟩)) q none⟩:=by
  have:=Ent.absorbMk (c:=c) (tm:=tm) ho ht hq hn hqr
  have e1:Qc kqI m k ys=m:=by
    obtain⟨i,h1,h2⟩:=Zjw hg
    rw [ZiN h1]
    obtain⟨hi,hv⟩:=List.getElem?_eq_some_iff.1 h2
    rw [←hv]
    exact List.set_getElem_self ..
  rw [e1] at this
  exact this
end
section ops
variable {c:Ctx} {ops:Array Oper} {st:St} {dst:Option Tmp} {ty:TypeId} {pos:String} {after:Array Edge}
theorem Zkp{K V:Type}{fk:K→AV}{fv:V→AV}{eq:K→K→Bool}{m:List (K×V)}{k:K}{z0:V}{x y:Operand}{t kt e r:Nat}(h:Opv c st x (.mref r 1))(hy:Opv c st y (fk k))(ht:tMap c.P t kt e=true)(KO:KeyOK c.P kt fk eq)
    (ho:nth st.hp r=some ⟨t,[[.mcon (m.map (Q8 fk fv))]]⟩) (hd: ∀ k,Dat c st (fk k) (fk k)) (hz:Zht c.P e (fv z0)) (hns: ∀ v,Zb8 eq m k=some v→noSub (fv v)=true) {φ:Phi} {a:Act} {w:World} (hc:Conc c φ st a w) (ok:Bool):
    ∃ u,(Instr.lookup t (a.eval x) (a.eval y) ok).run c.P w= .ok (if ok then .tuple #[u,.bool (Zb8 eq m k).isSome] else u) w∧RelF c.P w (Mut c.A φ st.hp) st.hp.length φ (fv ((Zb8 eq m k).getD z0)) u:=by
  obtain⟨hu,hcs⟩:=tMap.spec ht
  have hO:=hc.hok.obj r _ ho
  obtain⟨hmp,b,hb,hx⟩:=ZfY (h φ a w hc) hO.len
  obtain⟨es,clock,T,e1,e2,e3,e4,e5,e6,e7⟩:=Zhe hc ho hcs hb hmp
  have hf:=ZhE hc KO hd hy e4 e7
  have hck:=KO.chk w (Mut c.A φ st.hp) k (a.eval y) es.isEmpty (hd k φ a w hc _ (hy φ a w hc))
  obtain⟨z,hz1,hz2⟩:=hz
  have hg:=MapKept.run_getObj_map (P:=c.P) e1
  rw [ZiW] at hns ⊢
  cases hq:m.findIdx? fun p=>eq k p.1 with
  |none=>
    rw [hq] at hf
    refine⟨z,?_,Zz (hz2 _ _)⟩
    unfold Instr.lookup
    simp [run_underlying hu,hx,hg,hck,hf,hz1]
  |some i=>
    have hi:i<m.length:=by
      have:=List.findIdx?_eq_some_iff_getElem.1 hq
      exact this.1
    have hie:i<es.size:=by omega
    rw [hq] at hf hns
    have hes:es[i]?=some es[i]:=by simp [hie]
    have hm:m[i]?=some m[i]:=by simp [hi]
    rw [Option.bind_some,hes] at hf
    refine⟨es[i].val,?_,?_⟩
    · unfold Instr.lookup
      simp [run_underlying hu,hx,hg,hck,hf,hi]
    · rw [Option.bind_some,hm] at hns ⊢
      exact(e7 i _ _ hm hes).2.plain (hns _ rfl)
theorem Zre{fk:Int→AV}{m:List (Int×AV)}{k:Int}{z0 v:AV}{x y:Operand}{t kt e r:Nat}(h:Opv c st x (.mref r 1))(hy:Opv c st y (fk k))(ht:tMap c.P t kt e=true)(KO:KeyOK c.P kt fk kqI)
    (ho:nth st.hp r=some ⟨t,[[.mcon (m.map (Q8 fk id))]]⟩) (hd: ∀ k,Dat c st (fk k) (fk k)) (hz:Zht c.P e z0) (hv:(Zb8 kqI m k).getD z0=v) (hn:noSub v=true):
    SVal c ops st ⟨dst,.lookup t x y false,ty,pos,after,none⟩ v:=
  .pure rfl fun φ a w hc=>by
    subst hv
    obtain⟨u,h1,h2⟩:=Zkp (fv:=id) h hy ht KO ho hd hz (fun v hv=>by rw [hv] at hn;exact hn) hc false
    refine⟨u,?_,h2⟩
    show((do pure (Next.value (←Instr.lookup t (a.eval x) (a.eval y) false)):Sem Next)).run c.P w=_
    rw [Sem.run_bind,h1];rfl
theorem Zkg{α:Type}{e1:TypeId}{R:α→List AV}{fk:Int→AV}{m:List (Int×List α)}{k:Int}{x y:Operand}{t kt e r q n:Nat}(h:Opv c st x (.mref r 1))(hy:Opv c st y (fk k))(ht:tMap c.P t kt e=true)(KO:KeyOK c.P kt fk kqI)
    (ho:nth st.hp r=some ⟨t,[[.mcon ((Qc kqI (mOf e1 R m) k (.own q n)).map (Q8 fk id))]]⟩) (hd: ∀ k,Dat c st (fk k) (fk k)) (hz:Zht c.P e .nils):
    SVal c ops st ⟨dst,.lookup t x y false,ty,pos,after,none⟩ (.own q n):=Zre h hy ht KO ho hd hz (by rw [ZhP];rfl) rfl
theorem ZjX{α:Type}{e1:TypeId}{R:α→List AV}{fk:Int→AV}{m:List (Int×List α)}{k:Int}{x y:Operand}{t kt e r:Nat}(hg:Zb8 kqI m k=none)(h:Opv c st x (.mref r 1))(hy:Opv c st y (fk k))(ht:tMap c.P t kt e=true)(KO:KeyOK c.P kt fk kqI)
    (ho:nth st.hp r=some ⟨t,[[.mcon (m.map (Q8 fk (osF e1 R)))]]⟩) (hd: ∀ k,Dat c st (fk k) (fk k)) (hz:Zht c.P e .nils):
    SVal c ops st ⟨dst,.lookup t x y false,ty,pos,after,none⟩ .nils:=by
  rw [←Zg3] at ho
  exact Zre h hy ht KO ho hd hz (by unfold mOf;rw [ZhR,hg];rfl) rfl
theorem ZhI{α:Type}{e1:TypeId}{R:α→List AV}{fk:Int→AV}{m:List (Int×List α)}{k:Int}{x y z:Operand}{t kt e r q n:Nat}(h:Opv c st x (.mref r 1))(hy:Opv c st y (fk k))(hz:Opv c st z (.own q n))(ht:tMap c.P t kt e=true)(KO:KeyOK c.P kt fk kqI)
    (ho:nth st.hp r=some ⟨t,[[.mcon (m.map (Q8 fk (osF e1 R)))]]⟩) (hd: ∀ k,Dat c st (fk k) (fk k)):
    WVal c ops st ⟨none,.mapUpdate t x y z,ty,pos,after,none⟩ .any (Q7 st.hp r (some ⟨t,[[.mcon ((Qc kqI (mOf e1 R m) k (.own q n)).map (Q8 fk id))]]⟩)):=by
  rw [←Zg3] at ho
  exact ZlQ h hy hz ht KO ho hd
theorem ZhH{α:Type}{e1:TypeId}{R:α→List AV}{fk:Int→AV}{m:List (Int×List α)}{k:Int}{x y z:Operand}{t kt e r q n q0 n0:Nat}(h:Opv c st x (.mref r 1))(hy:Opv c st y (fk k))(hz:Opv c st z (.own q n))(ht:tMap c.P t kt e=true)(KO:KeyOK c.P kt fk kqI)
    (ho:nth st.hp r=some ⟨t,[[.mcon ((Qc kqI (mOf e1 R m) k (.own q0 n0)).map (Q8 fk id))]]⟩) (hd: ∀ k,Dat c st (fk k) (fk k)):
    WVal c ops st ⟨none,.mapUpdate t x y z,ty,pos,after,none⟩ .any (Q7 st.hp r (some ⟨t,[[.mcon ((Qc kqI (mOf e1 R m) k (.own q n)).map (Q8 fk id))]]⟩)):=by
  have:=ZlQ (ops:=ops) (ty:=ty) (pos:=pos) (after:=after) h hy (fv:=id) (v:= .own q n) hz ht KO ho hd
  rw [ZhD] at this
  exact this
end ops
end Go.Vx
