/- A text of the proof: a verified executor of the program form, or the contracts of the functions that the law reaches. -/
import Derived.Test.YtgohgnaapbpggaaGreatDoorVG
import Derived.OpenShut
import Derived.Test.YtgohgnaapbpggaaGreatDoorVN
set_option linter.all false
namespace Go.Vx
open Go Go.RowKit Go.ChangeShapes Go.WideShapes
section
variable {H:Type} {enc:TypeId×Value→H} {P:Program} {w:World} {base:Nat} {spare:Nat→Bool} {held:Bool}
end
def wfV{α:Type}{n:Nat}(p:α→Prop)(v:Vector α n):Prop:= ∀ x∈v.toList,p x
theorem ZqP{α:Type}{n:Nat}{s:Sh}{f:α→AV}{p:α→Prop}(H: ∀ av,Fits s av→ ∃ x,p x∧av=f x){l:List AV}(h:ZcJ (List.replicate n s) l): ∃ v:Vector α n,wfV p v∧l=v.toList.map f:=by
  obtain⟨h1,h2⟩:=h
  rw [List.length_replicate] at h1 h2
  have key: ∀ i,i<n→ ∃ x,p x∧l.getD i .any=f x:=fun i hi=>by
    have:=h2 i hi
    have e:(List.replicate n s).getD i .bool=s:=by simp [gQ,List.getElem?_replicate,hi]
    rw [e] at this
    exact H _ this
  have: ∀ (l:List AV),(∀ i,i<l.length→ ∃ x,p x∧l.getD i .any=f x)→ ∃ xs:List α,(∀ x∈xs,p x)∧l=xs.map f:=by
    intro l
    induction l with
    |nil=>exact fun _=>⟨[],(fun _ h=>by cases h),rfl⟩
    |cons a l ih=>
      intro h
      obtain⟨x,hp,hx⟩:=h 0 (by simp)
      obtain⟨xs,hps,hxs⟩:=ih (fun i hi=>by simpa using h (i+1) (by simpa using hi))
      refine⟨x::xs,fun y hy=> ?_,by simp at hx;simp [hx,hxs]⟩
      rcases List.mem_cons.1 hy with rfl |hy
      · exact hp
      · exact hps y hy
  obtain⟨xs,hp,hx⟩:=this l (fun i hi=>key i (by omega))
  have hn:xs.length=n:=by rw [hx] at h1;simpa using h1
  refine⟨⟨xs.toArray,by simpa using hn⟩,fun x hx=>hp x (by simpa using hx),by simpa using hx⟩
end Go.Vx

namespace Go.Vx
open Go Go.RowKit
end Go.Vx

namespace Go.Vx
open Go Go.RowKit
def Zg1(P:Program)(t:TypeId):Bool:=match P.underlying t with |some (.struct _)=>true |some (.array _ _)=>true |_=>false
def szT(P:Program)(t n:Nat):Bool:=match P.info? t with |some i=>Nat.beq i.size n |none=>false
def ZqV(P:Program)(g:TypeId→Option (List Kd)):Nat→List Field→Option (List Kd)
  |_,[]=>some []
  |off,f::fs=>match g f.type with
    |none=>none
    |some ks=>match (f.name != "_")&&Nat.beq f.offset off&&szT P f.type ks.length,ZqV P g (off+ks.length) fs with
      |true,some r=>some (ks++r)
      |_,_=>none
def ZkZ(P:Program):Nat→TypeId→Option (List Kd)
  |0,_=>none
  |d+1,t=>match P.underlying t with
    |some (.int k)=>some [.i k]
    |some .bool=>some [.b]
    |some .string=>some [.s]
    |some (.struct fs)=>if P.stoodInHeld t then none else ZqV P (ZkZ P d) 0 fs.toList
    |some (.array n e)=>match ZkZ P d e with
      |some ks=>if szT P e ks.length&&Nat.beq (P.cellsOf e) ks.length then some (List.replicate n ks).flatten else none
      |none=>none
    |_=>none
theorem szT.spec{P:Program}{t n:Nat}(h:szT P t n=true): ∃ i,P.info? t=some i∧i.size=n:=by
  unfold szT at h
  split at h
  · rename_i i hi;exact⟨i,hi,Nat.eq_of_beq_eq_true h⟩
  · cases h
theorem ZoR{P:Program}{w:World}{t:TypeId}{d:TypeDesc}(h:P.underlying t=some d):(isAgg t).run P w= .ok (Zg1 P t) w:=by
  unfold isAgg Zg1
  rw [Sem.run_bind,run_underlying h w,h]
  cases d<;>rfl
def VR(P:Program)(w:World)(M:Nat→Prop)(t:TypeId)(v:Value)(l:List AV):Prop:=match Zg1 P t with
  |true=> ∃ xs,v= .agg xs∧l.length=xs.size∧ ∀ i,i<l.length→RelD P w M (l.getD i .any) (xs.getD i undef)
  |false=> ∃ a,l= [a]∧RelD P w M a v
theorem ZiJ: ∀ {ks ks':List Kd} {l:List AV},Xc (ks++ks') l=true→Xc ks (l.take ks.length)=true∧Xc ks' (l.drop ks.length)=true
  | [],ks',l,h=>⟨by simp [Xc],by simpa using h⟩
  |k::ks,ks',[],h=>by simp [Xc] at h
  |k::ks,ks',a::l,h=>by
    simp only [List.cons_append,Xc,Bool.and_eq_true] at h
    have ih:=ZiJ h.2
    exact⟨by simp [Xc,h.1,ih.1],by simpa using ih.2⟩
theorem Zj8{ks:List Kd}{l:List AV}(h:Xc ks l=true):l.length=ks.length:=(ZlJ h).symm
theorem ZiI: ∀ {l l' m m':List AV},l.length=m.length→Zck (l++l') (m++m')=(Zck l m&&Zck l' m')
  | [],l',[],m',_=>by simp [Zck]
  | [],_,_::_,_,h=>by simp at h
  |_::_,_,[],_,h=>by simp at h
  |a::l,l',b::m,m',h=>by
    simp only [List.cons_append,Zck]
    rw [ZiI (by simpa using h),Bool.and_assoc]
theorem Zqz{P:Program}{w:World}{M:Nat→Prop}{l:List AV}{xs:Array Value}{off n:Nat}(hl:l.length=xs.size)(h: ∀ i,i<l.length→RelD P w M (l.getD i .any) (xs.getD i undef))(hb:off+n≤l.length):
    ((l.drop off).take n).length=(xs.extract off (off+n)).size∧ ∀ i,i<((l.drop off).take n).length→RelD P w M (((l.drop off).take n).getD i .any) ((xs.extract off (off+n)).getD i undef):=by
  refine⟨by simp;omega,fun i hi=> ?_⟩
  have hi':i<n:=by simp at hi;omega
  have:=h (off+i) (by omega)
  have e1:((l.drop off).take n).getD i .any=l.getD (off+i) .any:=by
    simp only [gQ,List.getElem?_take,List.getElem?_drop];rw [pG hi']
  have e2:(xs.extract off (off+n)).getD i undef=xs.getD (off+i) undef:=by
    simp only [Array.getD_eq_getD_getElem?,Array.getElem?_extract];rw [pG (by omega)]
  rw [e1,e2];exact this
theorem Zj9{P:Program}{w:World}{M:Nat→Prop}{t:TypeId}{d:TypeDesc}(hu:P.underlying t=some d){n off:Nat}(hs:szT P t n=true)(h1:Zg1 P t=false→n=1){l:List AV}{xs:Array Value}(hl:l.length=xs.size)
    (h: ∀ i,i<l.length→RelD P w M (l.getD i .any) (xs.getD i undef)) (hb:off+n≤l.length): ∃ v,(part t xs off).run P w= .ok v w∧VR P w M t v ((l.drop off).take n):=by
  obtain⟨i,hi,hin⟩:=szT.spec hs
  unfold part
  rw [Sem.run_bind,ZoR hu]
  unfold VR
  cases ha:Zg1 P t with
  |true=>
    refine⟨.agg (xs.extract off (off+n)),by simp [sizeOf,typeInfo,hi,hin],_,rfl,Zqz hl h hb⟩
  |false=>
    have hn:=h1 ha
    subst hn
    have hx:xs[off]?=some (xs.getD off undef):=by rw [Array.getElem?_eq_getElem (by omega)];simp [show off<xs.size by omega]
    refine⟨xs.getD off undef,?_,l.getD off .any,?_,h off (by omega)⟩
    · simp only [Result.andThen_ok,Bool.false_eq_true,if_false]
      generalize xs.getD off undef=v at hx
      rw [hx];rfl
    · have hlt:off<l.length:=by omega
      rw [List.drop_eq_getElem_cons hlt,List.take_succ_cons,List.take_zero]
      simp [hlt]
theorem Zol{P:Program}{d:Nat}{t:TypeId}{ks:List Kd}(h:ZkZ P d t=some ks):(∃ de,P.underlying t=some de)∧(Zg1 P t=false→ks.length=1):=by
  cases d with
  |zero=>cases h
  |succ d=>
    simp only [ZkZ] at h
    unfold Zg1
    split at h
    · rename_i hu;cases h;exact⟨⟨_,hu⟩,fun _=>rfl⟩
    · rename_i hu;cases h;exact⟨⟨_,hu⟩,fun _=>rfl⟩
    · rename_i hu;cases h;exact⟨⟨_,hu⟩,fun _=>rfl⟩
    · rename_i hu;exact⟨⟨_,hu⟩,fun ha=>by simp [hu] at ha⟩
    · rename_i hu;exact⟨⟨_,hu⟩,fun ha=>by simp [hu] at ha⟩
    · cases h
theorem Zlz{P:Program}{w:World}{M:Nat→Prop}{d D:Nat}(ih: ∀ t ks,ZkZ P d t=some ks→ ∀ vx vy l m,VR P w M t vx l→VR P w M t vy m→Xc ks l=true→Xc ks m=true→(Op.equalIn D t vx vy).run P w= .ok (Zck l m) w)
    {xs ys:Array Value} {lx ly:List AV} (hlx:lx.length=xs.size) (hx: ∀ i,i<lx.length→RelD P w M (lx.getD i .any) (xs.getD i undef)) (hly:ly.length=ys.size) (hy: ∀ i,i<ly.length→RelD P w M (ly.getD i .any) (ys.getD i undef)):
    ∀ (fs:List Field) (off:Nat) (ks:List Kd),ZqV P (ZkZ P d) off fs=some ks→off+ks.length≤lx.length→off+ks.length≤ly.length→Xc ks ((lx.drop off).take ks.length)=true→Xc ks ((ly.drop off).take ks.length)=true→
      (Op.eqFields D xs ys fs).run P w= .ok (Zck ((lx.drop off).take ks.length) ((ly.drop off).take ks.length)) w
  | [],off,ks,h,_,_,_,_=>by cases h;simp [Op.eqFields,Zck]
  |f::fs,off,ks,h,b1,b2,f1,f2=>by
    simp only [ZqV] at h
    split at h
    · cases h
    · rename_i k1 hk1
      split at h
      · rename_i r hc hr
        cases h
        simp only [Bool.and_eq_true,bne_iff_ne] at hc
        obtain⟨⟨c1,c2⟩,c3⟩:=hc
        have c2:=Nat.eq_of_beq_eq_true c2
        obtain⟨⟨de,hu⟩,hone⟩:=Zol hk1
        rw [List.length_append] at b1 b2 f1 f2
        have t1: ∀ (z:List AV),((z.drop off).take (k1.length+r.length)).take k1.length=(z.drop off).take k1.length:=fun z=>by rw [List.take_take,Nat.min_eq_left (by omega)]
        have t2: ∀ (z:List AV),((z.drop off).take (k1.length+r.length)).drop k1.length=(z.drop (off+k1.length)).take r.length:=fun z=>by rw [List.drop_take,List.drop_drop];congr 1;omega
        have g1:=ZiJ f1
        have g2:=ZiJ f2
        rw [t1,t2] at g1 g2
        obtain⟨vx,px,rx⟩:=Zj9 (off:=off) hu c3 hone hlx hx (by omega)
        obtain⟨vy,py,ry⟩:=Zj9 (off:=off) hu c3 hone hly hy (by omega)
        have he:=ih _ _ hk1 vx vy _ _ rx ry g1.1 g2.1
        have hrec:=Zlz ih hlx hx hly hy fs (off+k1.length) r hr (by omega) (by omega) g1.2 g2.2
        simp only [Op.eqFields,pG c1]
        rw [c2,Sem.run_bind,px]
        simp only [Result.andThen_ok]
        rw [Sem.run_bind,py]
        simp only [Result.andThen_ok]
        rw [Sem.run_bind,he]
        simp only [Result.andThen_ok]
        have e:Zck ((lx.drop off).take (k1++r).length) ((ly.drop off).take (k1++r).length)=(Zck ((lx.drop off).take k1.length) ((ly.drop off).take k1.length)&&Zck ((lx.drop (off+k1.length)).take r.length) ((ly.drop (off+k1.length)).take r.length)):=by
          rw [List.length_append,List.take_add,List.take_add,List.drop_drop,List.drop_drop,ZiI (by simp;omega)]
        rw [e]
        cases hb:Zck ((lx.drop off).take k1.length) ((ly.drop off).take k1.length)
        · simp
        · simp [hrec]
      · cases h
theorem Zm3{P:Program}{w:World}{M:Nat→Prop}{d D:Nat}{e:TypeId}{ks:List Kd}(ih: ∀ vx vy l m,VR P w M e vx l→VR P w M e vy m→Xc ks l=true→Xc ks m=true→(Op.equalIn D e vx vy).run P w= .ok (Zck l m) w)
    (hk:ZkZ P d e=some ks) (hs:szT P e ks.length=true) {xs ys:Array Value} {lx ly:List AV} (hlx:lx.length=xs.size) (hx: ∀ i,i<lx.length→RelD P w M (lx.getD i .any) (xs.getD i undef)) (hly:ly.length=ys.size) (hy: ∀ i,i<ly.length→RelD P w M (ly.getD i .any) (ys.getD i undef)):
    ∀ (n i:Nat),(i+n)*ks.length≤lx.length→(i+n)*ks.length≤ly.length→Xc (List.replicate n ks).flatten ((lx.drop (i*ks.length)).take (n*ks.length))=true→Xc (List.replicate n ks).flatten ((ly.drop (i*ks.length)).take (n*ks.length))=true→
      (Op.eqItems D e ks.length xs ys (List.range' i n)).run P w= .ok (Zck ((lx.drop (i*ks.length)).take (n*ks.length)) ((ly.drop (i*ks.length)).take (n*ks.length))) w
  |0,i,_,_,_,_=>by simp [Op.eqItems,Zck]
  |n+1,i,b1,b2,f1,f2=>by
    obtain⟨⟨de,hu⟩,hone⟩:=Zol hk
    have em:(n+1)*ks.length=ks.length+n*ks.length:=by rw [Nat.succ_mul];omega
    have eb:(i+(n+1))*ks.length=i*ks.length+(ks.length+n*ks.length):=by rw [Nat.add_mul,em]
    have eb2:(i+1+n)*ks.length=i*ks.length+(ks.length+n*ks.length):=by rw [←eb];congr 1;omega
    rw [em] at f1 f2 ⊢
    rw [eb] at b1 b2
    have t1: ∀ (z:List AV),((z.drop (i*ks.length)).take (ks.length+n*ks.length)).take ks.length=(z.drop (i*ks.length)).take ks.length:=fun z=>by rw [List.take_take,Nat.min_eq_left (by omega)]
    have t2: ∀ (z:List AV),((z.drop (i*ks.length)).take (ks.length+n*ks.length)).drop ks.length=(z.drop ((i+1)*ks.length)).take (n*ks.length):=fun z=>by rw [List.drop_take,List.drop_drop,Nat.succ_mul];congr 1;omega
    rw [List.replicate_succ,List.flatten_cons] at f1 f2
    have g1:=ZiJ f1
    have g2:=ZiJ f2
    rw [t1,t2] at g1 g2
    obtain⟨vx,px,rx⟩:=Zj9 (off:=i*ks.length) hu hs hone hlx hx (by omega)
    obtain⟨vy,py,ry⟩:=Zj9 (off:=i*ks.length) hu hs hone hly hy (by omega)
    have he:=ih vx vy _ _ rx ry g1.1 g2.1
    have hrec:=Zm3 ih hk hs hlx hx hly hy n (i+1) (by rw [eb2];omega) (by rw [eb2];omega) g1.2 g2.2
    rw [List.range'_succ]
    unfold Op.eqItems
    rw [Sem.run_bind,px]
    simp only [Result.andThen_ok]
    rw [Sem.run_bind,py]
    simp only [Result.andThen_ok]
    rw [Sem.run_bind,he]
    simp only [Result.andThen_ok]
    have e:Zck ((lx.drop (i*ks.length)).take (ks.length+n*ks.length)) ((ly.drop (i*ks.length)).take (ks.length+n*ks.length))=(Zck ((lx.drop (i*ks.length)).take ks.length) ((ly.drop (i*ks.length)).take ks.length)&&Zck ((lx.drop ((i+1)*ks.length)).take (n*ks.length)) ((ly.drop ((i+1)*ks.length)).take (n*ks.length))):=by
      rw [List.take_add,List.take_add,List.drop_drop,List.drop_drop,ZiI (by simp;omega),Nat.succ_mul]
    rw [e]
    cases hb:Zck ((lx.drop (i*ks.length)).take ks.length) ((ly.drop (i*ks.length)).take ks.length)
    · simp
    · simp [hrec]
theorem ZpE{P:Program}{w:World}{M:Nat→Prop}: ∀ (d:Nat) (t:TypeId) (ks:List Kd),ZkZ P d t=some ks→ ∀ D,d≤D→ ∀ vx vy l m,VR P w M t vx l→VR P w M t vy m→Xc ks l=true→Xc ks m=true→
    (Op.equalIn D t vx vy).run P w= .ok (Zck l m) w
  |0,_,_,h,_,_,_,_,_,_,_,_,_,_=>by cases h
  |d+1,t,ks,h,D,hD,vx,vy,l,m,rx,ry,fx,fy=>by
    obtain⟨D,rfl⟩: ∃ D',D=D'+1:=⟨D-1,by omega⟩
    simp only [ZkZ] at h
    unfold VR at rx ry
    have ih: ∀ t ks,ZkZ P d t=some ks→ ∀ vx vy l m,VR P w M t vx l→VR P w M t vy m→Xc ks l=true→Xc ks m=true→(Op.equalIn D t vx vy).run P w= .ok (Zck l m) w:=fun t ks h vx vy l m=>ZpE d t ks h D (by omega) vx vy l m
    split at h
    · rename_i k hu
      cases h
      have ha:Zg1 P t=false:=by unfold Zg1;rw [hu]
      rw [ha] at rx ry
      obtain⟨a,rfl,rx⟩:=rx
      obtain⟨b,rfl,ry⟩:=ry
      cases a<;>simp [Xc,Zi7] at fx
      cases b<;>simp [Xc,Zi7] at fy
      cases rx;cases ry
      subst fx;subst fy
      rw [run_equalIn_int w D t _ _ _ _ hu]
      simp [Zck,Zpo]
      first |rfl | (rename_i x y;by_cases hh:x=y<;>simp [hh])
    · rename_i hu
      cases h
      have ha:Zg1 P t=false:=by unfold Zg1;rw [hu]
      rw [ha] at rx ry
      obtain⟨a,rfl,rx⟩:=rx
      obtain⟨b,rfl,ry⟩:=ry
      cases a<;>simp [Xc,Zi7] at fx
      cases b<;>simp [Xc,Zi7] at fy
      cases rx;cases ry
      rw [run_equalIn_bool' w D t _ _ hu]
      simp [Zck,Zpo]
    · rename_i hu
      cases h
      have ha:Zg1 P t=false:=by unfold Zg1;rw [hu]
      rw [ha] at rx ry
      obtain⟨a,rfl,rx⟩:=rx
      obtain⟨b,rfl,ry⟩:=ry
      cases a<;>simp [Xc,Zi7] at fx
      cases b<;>simp [Xc,Zi7] at fy
      cases rx;cases ry
      rw [run_equalIn_string w D t _ _ hu]
      simp only [Zck,Zpo,ByteArray.toList_eq,Bool.and_true]
      congr 1
      rw [Bool.eq_iff_iff];simp
    · rename_i fs hu
      split at h
      · cases h
      · rename_i hst
        have ha:Zg1 P t=true:=by unfold Zg1;rw [hu]
        rw [ha] at rx ry
        obtain⟨xs,rfl,x1,x2⟩:=rx
        obtain⟨ys,rfl,y1,y2⟩:=ry
        have hfs:P.fieldsOf t=fs:=by simp [Program.fieldsOf,hu]
        have l1:=Zj8 fx
        have l2:=Zj8 fy
        have key:=Zlz (D:=D) ih x1 x2 y1 y2 fs.toList 0 ks h (by omega) (by omega) (by rw [List.drop_zero,List.take_of_length_le (by omega)];exact fx) (by rw [List.drop_zero,List.take_of_length_le (by omega)];exact fy)
        rw [List.drop_zero,List.drop_zero,List.take_of_length_le (by omega),List.take_of_length_le (by omega)] at key
        rw [run_equalIn_struct w D t xs ys (by rw [hfs];exact hu) (by simpa using hst),hfs]
        exact key
    · rename_i n e hu
      split at h
      · rename_i k1 hk1
        split at h
        · rename_i hc
          cases h
          simp only [Bool.and_eq_true] at hc
          have hc2:=Nat.eq_of_beq_eq_true hc.2
          obtain⟨i,hi,_⟩:=szT.spec hc.1
          have ha:Zg1 P t=true:=by unfold Zg1;rw [hu]
          rw [ha] at rx ry
          obtain⟨xs,rfl,x1,x2⟩:=rx
          obtain⟨ys,rfl,y1,y2⟩:=ry
          have l1:=Zj8 fx
          have l2:=Zj8 fy
          have hfl:(List.replicate n k1).flatten.length=n*k1.length:=by simp
          rw [hfl] at l1 l2
          have key:=Zm3 (D:=D) (ih _ _ hk1) hk1 hc.1 x1 x2 y1 y2 n 0 (by rw [Nat.zero_add];omega) (by rw [Nat.zero_add];omega) (by rw [Nat.zero_mul,List.drop_zero,List.take_of_length_le (by omega)];exact fx) (by rw [Nat.zero_mul,List.drop_zero,List.take_of_length_le (by omega)];exact fy)
          rw [Nat.zero_mul,List.drop_zero,List.drop_zero,List.take_of_length_le (by omega),List.take_of_length_le (by omega)] at key
          rw [run_equalIn_array w D xs ys hu hi,hc2,List.range_eq_range']
          exact key
        · cases h
      · cases h
    · cases h
def Zr5(P:Program)(t:TypeId)(ks:List Kd):Prop:=ZkZ P 9 t=some ks∧Zg1 P t=true∧P.eqGuardType P.depth t=false
section ops
variable {c:Ctx} {ops:Array Oper} {st:St} {dst:Option Tmp} {ty:TypeId} {pos:String} {after:Array Edge}
theorem Zrv{x y:Operand}{t:Nat}{ks:List Kd}{l m:List AV}{e:Bool}(ht:Zr5 c.P t ks)(hx:Opv c st x (.agg l))(hy:Opv c st y (.agg m))(dx:Dat c st (.agg l) (.agg l))(dy:Dat c st (.agg m) (.agg m))
    (hl:Xc ks l=true) (hm:Xc ks m=true) (he:Zck l m=e) {φ:Phi} {a:Act} {w:World} (hc:Conc c φ st a w):(Op.equal t (a.eval x) (a.eval y)).run c.P w= .ok e w:=by
  obtain⟨h1,h2,h3⟩:=ht
  have hvx:=dx φ a w hc _ (hx φ a w hc)
  have hvy:=dy φ a w hc _ (hy φ a w hc)
  have r: ∀ {v:Value} {l:List AV},RelD c.P w (Mut c.A φ st.hp) (.agg l) v→VR c.P w (Mut c.A φ st.hp) t v l:=by
    intro v l h
    unfold VR
    rw [h2]
    cases h with
    |agg _ xs a1 a2=>exact⟨xs,rfl,a1,a2⟩
  unfold Op.equal Op.maxDepth
  rw [←he]
  exact ZpE 9 t ks h1 _ (by decide) _ _ l m (r hvx) (r hvy) hl hm
theorem Zrp{x y:Operand}{t u:Nat}{ks:List Kd}{l m:List AV}{e:Bool}(ht:Zr5 c.P t ks)(hx:Opv c st x (.agg l))(hy:Opv c st y (.agg m))(dx:Dat c st (.agg l) (.agg l))(dy:Dat c st (.agg m) (.agg m))
    (hl:Xc ks l=true) (hm:Xc ks m=true) (he:Zck l m=e):SVal c ops st ⟨dst,.binOp .eql t x y u,ty,pos,after,none⟩ (.bool e):=
  .pure rfl fun φ a w hc=>by
    have key:=Zrv ht hx hy dx dy hl hm he hc
    refine⟨.bool e,?_,Zt (.bool _)⟩
    show((do pure (Next.value (←(do eqGuard .eql t x y (a.eval x) (a.eval y);binOp .eql t (a.eval x) (a.eval y):Sem Value))):Sem Next)).run c.P w=_
    obtain⟨xs,ex,_⟩:=Zcg (hx φ a w hc)
    obtain⟨ys,ey,_⟩:=Zcg (hy φ a w hc)
    rw [ex,ey] at key ⊢
    have hb:(do eqGuard .eql t x y (.agg xs) (.agg ys);binOp .eql t (.agg xs) (.agg ys):Sem Value).run c.P w= .ok (.bool e) w:=by
      rw [Sem.run_bind,show(eqGuard .eql t x y (.agg xs) (.agg ys)).run c.P w= .ok () w by simp [eqGuard,ht.2.2]]
      simp only [Result.andThen_ok]
      simp [binOp,key]
    rw [Sem.run_bind,hb]
    rfl
end ops
theorem fkN:Xc [] []=true:=rfl
theorem fkC{k:Kd}{ks:List Kd}{x:AV}{l:List AV}(h:Zi7 k x=true)(g:Xc ks l=true):Xc (k::ks) (x::l)=true:=by simp [Xc,h,g]
theorem fkA: ∀ {ks ks':List Kd} {A l:List AV},Xc ks A=true→Xc ks' l=true→Xc (ks++ks') (A++l)=true
  | [],ks',[],l,_,h=>h
  | [],_,_::_,_,h,_=>by simp [Xc] at h
  |_::_,_,[],_,h,_=>by simp [Xc] at h
  |k::ks,ks',a::A,l,h,g=>by
    simp only [Xc,Bool.and_eq_true,List.cons_append] at h ⊢
    exact⟨h.1,fkA h.2 g⟩
theorem Ztu{α:Type}{n:Nat}{v:Vector α n}{R:α→List AV}{ks:List Kd}(h: ∀ x,Xc ks (R x)=true):Xc (List.replicate n ks).flatten (v.toList.flatMap R)=true:=by
  have key: ∀ (l:List α),Xc (List.replicate l.length ks).flatten (l.flatMap R)=true:=by
    intro l
    induction l with
    |nil=>rfl
    |cons x l ih=>rw [List.length_cons,List.replicate_succ,List.flatten_cons,List.flatMap_cons];exact fkA (h x) ih
  have:=key v.toList
  simpa using this
theorem Zg7{α:Type}(f:α→AV)(l:List α):l.flatMap (fun x=> [f x])=l.map f:=by
  induction l with
  |nil=>rfl
  |cons x xs ih=>simp only [List.flatMap_cons,List.map_cons,ih];rfl
theorem fkV{α:Type}{n:Nat}{v:Vector α n}{f:α→AV}{k:Kd}(h: ∀ x,Zi7 k (f x)=true):Xc (List.replicate n [k]).flatten (v.toList.map f)=true:=by
  rw [←Zg7];exact Ztu fun x=>fkC (h x) fkN
def ZrM{α:Type}{n:Nat}(eq:α→α→Bool)(v u:Vector α n):Bool:=(v.toList.zip u.toList).all fun p=>eq p.1 p.2
theorem Ztw{α:Type}{n k:Nat}{v u:Vector α n}{R:α→List AV}{eq:α→α→Bool}(hR: ∀ x,(R x).length=k)(h: ∀ x y,Zck (R x) (R y)=eq x y):Zck (v.toList.flatMap R) (u.toList.flatMap R)=ZrM eq v u:=by
  have key: ∀ (l m:List α),l.length=m.length→Zck (l.flatMap R) (m.flatMap R)=(l.zip m).all fun p=>eq p.1 p.2:=by
    intro l
    induction l with
    |nil=>intro m hm;cases m with |nil=>rfl |cons=>simp at hm
    |cons x l ih=>
      intro m hm
      cases m with
      |nil=>simp at hm
      |cons y m=>
        rw [List.flatMap_cons,List.flatMap_cons,ZiI (by rw [hR,hR]),h,ih m (by simpa using hm)]
        rfl
  exact key _ _ (by simp)
theorem ZqJ{α:Type}[DecidableEq α]{n:Nat}(v u:Vector α n):ZrM (fun x y=>decide (x=y)) v u=decide (v=u):=by
  unfold ZrM
  rw [Bool.eq_iff_iff,List.all_eq_true,decide_eq_true_iff]
  constructor
  · intro h
    apply Vector.ext
    intro i hi
    have:=h (v[i],u[i]) (by
      rw [List.mem_iff_getElem]
      exact⟨i,by simpa using hi,by simp⟩)
    simpa using this
  · rintro rfl p hp
    obtain⟨i,hi,rfl⟩:=List.mem_iff_getElem.1 hp
    simp
theorem eqV{α:Type}[DecidableEq α]{n:Nat}{v u:Vector α n}{f:α→AV}(h: ∀ x y,Zpo (f x) (f y)=decide (x=y)):Zck (v.toList.map f) (u.toList.map f)=decide (v=u):=by
  rw [←Zg7,←Zg7,←ZqJ]
  exact Ztw (k:=1) (fun _=>rfl) fun x y=>by simp [Zck,h]
end Go.Vx

namespace Go.Vx
open Go Go.RowKit
section
variable {c:Ctx} {ops:Array Oper} {st:St} {dst:Option Tmp} {ty:TypeId} {pos:String} {after:Array Edge}
theorem og{g n:Nat}{v:Vector Int n}{f:Int→AV}{k:IntKind}(hm:(g,(v.toList.map fun z=>Value.int k z).toArray)∈c.gl.tabs)(hf: ∀ z,f z= .int k z):Opv c st (.global g) (.rp (v.toList.map f) 0):=fun φ a w hc=>by
  have hg:=(ZeZ hc).tab _ hm
  obtain⟨h1,⟨e,fr,h2⟩,h3⟩:=hg
  simp only at h1 h2 h3
  have hlt:g<w.heap.size:=(Array.getElem?_eq_some_iff.1 h2).1
  show RelF _ _ _ _ _ _ (.pointer (some ⟨g,0+0,none⟩))
  refine Zt (.rp _ g 0 0 (fun j=>(v.toList.map fun z=>Value.int k z).getD j undef) hlt h3 (fun j hj=> ?_) fun j hj=> ?_)
  · rw [Z0 h2]
    have hj':j<n:=by simpa using hj
    simp [hj']
  · have hj':j<n:=by simpa using hj
    have e1:(v.toList.map f).getD j .any= .int k (v.toList.getD j 0):=by simp [gQ,hj',hf]
    have e2:(v.toList.map fun z=>Value.int k z).getD j undef= .int k (v.toList.getD j 0):=by simp [gQ,hj']
    rw [e1,e2]
    exact .int _ _
theorem Zoc{α:Type}{m:Nat}{v:Vector α m}{f:α→AV}{ys:List α}{x:Operand}{t e off:Nat}{cells:List AV}{lo hi:Option Operand}{p q:Int}(h:Opv c st x (.rp cells off))(ht:tArr c.P t m e 1=true)(he:c.P.cellsOf e=1)
    (ha:At cells off m (v.toList.map f)) (hm:Nat.ble m 65536=true) (hl:Zj5 c st 0 lo p) (hh:Zj5 c st (m:Int) hi q) (hz:slc v.toList p q=some ys):
    SVal c ops st ⟨dst,.slice t x lo hi none,ty,pos,after,none⟩ (.sl e (ys.map fun u=> [f u])):=
  .pure rfl fun φ a w hc=>by
    unfold slc at hz
    split at hz
    · rename_i hb
      cases hz
      obtain⟨h0,h1,h2⟩:=hb
      simp only [Vector.length_toList] at h2
      have hm:=Nat.le_of_ble_eq_true hm
      have hr:=ZhE (h φ a w hc)
      generalize hx:a.eval x=ax at hr
      cases hr with
      |rp _ b base _ us g0 g1 g2 g3=>
      have hbd:=Zgs hc (isS:=false) hl hh h0 h1 (by omega) (Nat.le_refl _)
      have hu:c.P.underlying t=some (.array m e):=(tArr.spec ht).1
      have hs:(sizeOf e).run c.P w= .ok 1 w:=by
        obtain⟨_,i,hi,hin⟩:=tArr.spec ht
        simp [sizeOf,typeInfo,hi,hin]
      have hlen:((v.toList.take q.toNat).drop p.toNat).length=q.toNat-p.toNat:=by simp;omega
      have hL:(((v.toList.take q.toNat).drop p.toNat).map fun u=> [f u]).length=q.toNat-p.toNat:=by rw [lM,hlen]
      refine⟨.slice (some ⟨b,(if m=p.toNat then base+off else base+off+p.toNat*1),none⟩) (q.toNat-p.toNat) (m-p.toNat),?_,Zt ?_⟩
      · show((do pure (Next.value (←Instr.sliceAt t (a.eval x) (lo.map a.eval) (hi.map a.eval) none)):Sem Next)).run c.P w=_
        rw [hx,Sem.run_bind]
        have e:(Instr.sliceAt t (.pointer (some ⟨b,base+off,none⟩)) (lo.map a.eval) (hi.map a.eval) none).run c.P w= .ok (.slice (some ⟨b,(if m=p.toNat then base+off else base+off+p.toNat*1),none⟩) (q.toNat-p.toNat) (m-p.toNat)) w:=by
          unfold Instr.sliceAt
          rw [Sem.run_bind,run_underlying hu]
          simp only [Result.andThen_ok]
          rw [Sem.run_bind]
          have:(Instr.sureAddr (.pointer (some ⟨b,base+off,none⟩))).run c.P w= .ok ⟨b,base+off,none⟩ w:=rfl
          rw [this]
          simp only [Result.andThen_ok]
          rw [Sem.run_bind,hbd]
          simp only [Result.andThen_ok]
          rw [Sem.run_bind,hs]
          simp only [Result.andThen_ok]
          split
          · rfl
          · rw [Zao];rfl
        rw [e]
        rfl
      · by_cases hpq:q.toNat-p.toNat=0
        · have:(v.toList.take q.toNat).drop p.toNat= []:=List.eq_nil_of_length_eq_zero (by omega)
          rw [this,hpq]
          exact .sl0 _ _ _
        · rw [nG (by omega)]
          have hat:=ha.1
          have hal:=ha.2
          have hcell: ∀ i,i<q.toNat-p.toNat→off+(p.toNat+i)<cells.length∧cellAt (((v.toList.take q.toNat).drop p.toNat).map fun u=> [f u]) i 0=cells.getD (off+(p.toNat+i)) .any:=fun i hi=>by
            refine⟨by omega,?_⟩
            have hv:p.toNat+i<m:=by omega
            have e1:cells.getD (off+(p.toNat+i)) .any=(v.toList.map f).getD (p.toNat+i) .any:=by
              rw [←hat];simp only [gQ,List.getElem?_take,List.getElem?_drop];rw [pG hv]
            rw [e1]
            have:((v.toList.take q.toNat).drop p.toNat)[i]?=v.toList[p.toNat+i]?:=by rw [List.getElem?_drop,List.getElem?_take,pG (by omega)]
            unfold cellAt
            simp only [gQ,List.getElem?_map,this]
            simp [hv]
          have:=RelD.sl (P:=c.P) (w:=w) (M:=Mut c.A φ st.hp) e (((v.toList.take q.toNat).drop p.toNat).map fun u=> [f u]) b (base+off+p.toNat*1) (m-p.toNat) (fun i _=>us (off+(p.toNat+i))) g0 g1
            (by rw [hL];omega) (by rw [hL];omega) (fun row hr=>by obtain⟨z',_,rfl⟩:=List.mem_map.1 hr;rw [he];rfl)
            (fun i j hi hj=>by
              rw [hL] at hi
              rw [he] at hj
              obtain rfl:j=0:=by omega
              rw [←g2 _ (hcell i hi).1]
              congr 2
              rw [he];omega)
            (fun i j hi hj=>by
              rw [hL] at hi
              rw [he] at hj
              obtain rfl:j=0:=by omega
              rw [(hcell i hi).2]
              exact g3 _ (hcell i hi).1)
          rw [hL] at this
          exact this
    · cases hz
end
end Go.Vx
namespace Go.Vx
theorem Zm7{α:Type}{n:Nat}{v:Vector α n}{f:α→AV}(h: ∀ x,Flat (f x)):Flat (.agg (v.toList.map f)):= .agg fun x hx=>by
  obtain⟨y,_,rfl⟩:=List.mem_map.1 hx
  exact h y
end Go.Vx

namespace Go.Vx
open Go Go.RowKit
section draw
variable {cw:Md} {c:Ctx} {ops:Array Oper} {st:St} {m:Nat} {K:Exit→St→Prop}
def ZoX(ops:Array Oper)(m:Nat)(l:List Nat):Bool:=(match l with |i::_=>readyAt ops m i&&Nat.blt i ops.size | []=>false)&&(List.range ops.size).all fun k=>l.contains k || !readyAt ops m k
inductive Br (cw:Md) (c:Ctx) (ops:Array Oper) (K:Exit→St→Prop) (m:Nat) (st:St):List Nat→Prop
  |nil:Br cw c ops K m st []
  |w {i:Nat} {o:Oper} {v:AV} {hp':List (Option Own)} {l:List Nat}:ops[i]?=some o→dstLt o.dst c.nt=true→noWrite cw.cw o.op=false→(extOp o.op=true→Ext st.hp hp')→(cw.fr=true→ExtW cw.wl cw.base hp')→
      WVal c ops ⟨restr st.tm (o.looksAt ops),st.hp⟩ o v hp'→Dv cw c ops (KE c K) (setBit m i) (St.puto ⟨st.tm,hp'⟩ o.dst v)→Br cw c ops K m st l→Br cw c ops K m st (i::l)
  |q {i:Nat} {o:Oper} {v:AV} {l:List Nat}:ops[i]?=some o→dstLt o.dst c.nt=true→noWrite cw.cw o.op=true→
      SVal c ops ⟨restr st.tm (o.looksAt ops),st.hp⟩ o v→Dv cw c ops (KE c K) (setBit m i) (st.puto o.dst v)→Br cw c ops K m st l→Br cw c ops K m st (i::l)
theorem Br.get{l:List Nat}(h:Br cw c ops K m st l): ∀ i,l.contains i=true→ ∃ st',SStep cw c ops i st st'∧Dv cw c ops (KE c K) (setBit m i) st':=by
  induction h with
  |nil=>intro i hi;cases hi
  | @w j o v hp' l ho hd hn hx hy hw k _ ih=>
    intro i hi
    by_cases e:i=j
    · subst e;exact⟨_,.w ho ⟨hd,hn,hx,hy,hw⟩,k⟩
    · exact ih i (by simpa [List.contains_cons,e] using hi)
  | @q j o v l ho hd hn hw k _ ih=>
    intro i hi
    by_cases e:i=j
    · subst e;exact⟨_,.q0 ho ⟨hd,hn,hw⟩,k⟩
    · exact ih i (by simpa [List.contains_cons,e] using hi)
theorem ZnG(l:List Nat)(hl:ZoX ops m l=true)(h:Br cw c ops K m st l):Dv cw c ops (KE c K) m st:=by
  unfold ZoX at hl
  rw [Bool.and_eq_true] at hl
  obtain⟨h1,h2⟩:=hl
  have only: ∀ k,k<ops.size→readyAt ops m k=true→l.contains k=true:=fun k hk hr=>by
    have:=List.all_eq_true.1 h2 k (List.mem_range.2 hk)
    rw [hr] at this
    simpa using this
  have key: ∀ k,∃ st',k<ops.size→readyAt ops m k=true→SStep cw c ops k st st'∧Dv cw c ops (KE c K) (setBit m k) st':=fun k=>by
    by_cases hk:k<ops.size∧readyAt ops m k=true
    · obtain⟨st',h⟩:=h.get k (only k hk.1 hk.2)
      exact⟨st',fun _ _=>h⟩
    · exact⟨st,fun a b=>absurd ⟨a,b⟩ hk⟩
  cases l with
  |nil=>cases h1
  |cons i l=>
    simp only [Bool.and_eq_true] at h1
    refine .branch (fun k=>(key k).choose) ⟨i,by simpa using h1.2,h1.1⟩ (fun q hq hr=>((key q).choose_spec hq hr).1) (fun q hq hr=>((key q).choose_spec hq hr).2)
end draw
end Go.Vx

namespace Go.Vx
open Go Go.RowKit
end Go.Vx

namespace Go.Vx
open Go Go.RowKit
section
variable {α:Type} {e:TypeId} {R:α→List AV} {m:List (Int×List α)} {k:Int} {xs ys:List α} {fk:Int→AV}
end
section ops
variable {c:Ctx} {ops:Array Oper} {st:St} {dst:Option Tmp} {ty:TypeId} {pos:String} {after:Array Edge}
end ops
end Go.Vx
