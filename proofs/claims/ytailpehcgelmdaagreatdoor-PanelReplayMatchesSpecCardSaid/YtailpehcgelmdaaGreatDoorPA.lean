/- A text of the proof: a verified executor of the program form, or the contracts of the functions that the law reaches. -/
import Derived.Test.YtailpehcgelmdaaGreatDoorShLib
import Derived.Test.YtailpehcgelmdaaGreatDoorShT
import Derived.Test.YtailpehcgelmdaaGreatDoorVG
import Derived.Test.YtailpehcgelmdaaGreatDoorVO
set_option linter.all false
namespace Go.Vx
open Go Go.RowKit
theorem ZE{z:Int}(h1: -9223372036854775808≤z)(h2:z≤9223372036854775807):IntKind.i64.wrap z=z:=w64 h1 h2
theorem Zqc{z:Int}(h1:0≤z)(h2:z<18446744073709551616):IntKind.u64.wrap z=z:=Zq4 h1 h2
@[simp] theorem ZoB {α:Type} {d:α} {o:Option α}:gd true d o=o:=rfl
@[simp] theorem Zrm {α:Type} {d:α} {o:Option α}:gd false d o=some d:=rfl
@[simp] theorem Zlc {α:Type} {d:α} {o:Option α}:gd (true==true) d o=o:=rfl
theorem ZS{α:Type}{xs:List α}{k:Nat}{x:α}(h:xs[k]?=some x):idx xs (k:Int)=some x:=by simp [idx,h]
theorem Xm{α:Type}{xs:List α}{k:Nat}{x:α}(h:xs[k]?=some x):(k:Int)<(xs.length:Int):=by
  have:=(List.getElem?_eq_some_iff.1 h).1;omega
theorem Xg{α:Type}{xs:List α}{k:Nat}(h:k<xs.length): ∃ x,xs[k]?=some x:=⟨xs[k],List.getElem?_eq_getElem h⟩
theorem ZiO{α:Type}{xs:List α}{k:Nat}{x:α}(h:xs[k]?=some x):xs.drop k=x::xs.drop (k+1):=by
  obtain⟨hk,rfl⟩:=List.getElem?_eq_some_iff.1 h
  exact List.drop_eq_getElem_cons hk
theorem ZcF{α:Type}{xs ys:List α}(h:xs.length+ys.length≤4294967296):app xs ys=some (xs++ys):=by unfold app apz;rw [if_pos (by omega)]
section loops
variable {σ ρ:Type}
theorem ZcB{body:σ→Option (σ ⊕ ρ)}(I:σ→Prop)(μ:σ→Nat)(F:σ→ρ)(step: ∀ s,I s→(∃ s',body s=some (.inl s')∧I s'∧μ s'<μ s∧F s=F s')∨body s=some (.inr (F s))):
    ∀ s,I s→loop body s=some (F s):=by
  intro s hs
  obtain⟨r,h1,h2⟩:=ZnM (body:=body) (fun s'=>I s'∧F s=F s') μ (fun r=>r=F s) (fun s' ⟨h1,h2⟩=>by
    rcases step s' h1 with ⟨s2,e1,e2,e3,e4⟩ |e
    · exact .inl ⟨s2,e1,⟨e2,h2.trans e4⟩,e3⟩
    · exact .inr ⟨_,e,h2.symm⟩) s ⟨hs,rfl⟩
  rw [h1,h2]
variable {α:Type} {xs:List α}
theorem ZeP{body:Int→Option (Int ⊕ ρ)}(F:Nat→ρ)
    (hstep: ∀ (k:Nat) x,xs[k]?=some x→(body k=some (.inl ((k:Int)+1))∧F k=F (k+1))∨body k=some (.inr (F k)))
    (hend:body xs.length=some (.inr (F xs.length))):loop (t1 body) 0=some (F 0):=by
  refine ZcB (body:=t1 body) (fun i=> ∃ k:Nat,i=k∧k≤xs.length) (fun i=>xs.length-i.toNat) (fun i=>F i.toNat) ?_ 0 ⟨0,rfl,Nat.zero_le _⟩
  rintro i ⟨k,rfl,hk⟩
  simp only [Int.toNat_natCast,ZeZ]
  rcases Nat.lt_or_ge k xs.length with h |h
  · obtain⟨x,hx⟩:=Xg h
    rcases hstep k x hx with ⟨h1,h2⟩ |h1
    · exact .inl ⟨_,h1,⟨k+1,by push_cast;rfl,h⟩,by omega,by rw [h2];rfl⟩
    · exact .inr h1
  · have:k=xs.length:=by omega
    subst this
    exact .inr hend
theorem ZaZ{body:σ→Int→Option ((σ×Int) ⊕ ρ)}(I:σ→Nat→Prop)(F:σ→Nat→ρ)
    (hstep: ∀ a (k:Nat) x,I a k→xs[k]?=some x→(∃ a',body a k=some (.inl (a',(k:Int)+1))∧I a' (k+1)∧F a k=F a' (k+1))∨body a k=some (.inr (F a k)))
    (hend: ∀ a,I a xs.length→body a xs.length=some (.inr (F a xs.length))) {a0:σ} (h0:I a0 0):loop (t2 body) (a0,0)=some (F a0 0):=by
  refine ZcB (body:=t2 body) (fun p=> ∃ k:Nat,p.2=k∧k≤xs.length∧I p.1 k) (fun p=>xs.length-p.2.toNat) (fun p=>F p.1 p.2.toNat) ?_ (a0,0) ⟨0,rfl,Nat.zero_le _,h0⟩
  rintro⟨a,i⟩ ⟨k,hi,hk,hI⟩
  simp only at hi hI
  subst hi
  simp only [Int.toNat_natCast,Zhq]
  rcases Nat.lt_or_ge k xs.length with h |h
  · obtain⟨x,hx⟩:=Xg h
    rcases hstep a k x hI hx with ⟨a',h1,h2,h3⟩ |h1
    · exact .inl ⟨_,h1,⟨k+1,by push_cast;rfl,h,h2⟩,by simp only;omega,by rw [h3];rfl⟩
    · exact .inr h1
  · have:k=xs.length:=by omega
    subst this
    exact .inr (hend a hI)
end loops
end Go.Vx

namespace Go.Vx
open Go Go.RowKit
abbrev Smp:=api_Sample
def wi(n lo hi:Int):Bool:=decide (lo≤n)&&decide (n≤hi)
theorem Zma(n a b:Int):Jf n a b=some (wi n a b):=rfl
theorem Zel(n a b:Int):Jc n a b=some (!wi n a b):=by
  simp only [Jc,wi,Option.some.injEq]
  rw [Bool.eq_iff_iff];simp [Int.not_le]
theorem Zab{n a b:Int}:wi n a b=true↔a≤n∧n≤b:=by simp [wi]
def ZcK(x:Smp):Option Int:=if !(wi x.At 0 1099511627776&&wi x.N (-1125899906842624) 1125899906842624&&wi x.Mark 0 4) then some 9 else if !decide (x.N=0)&&decide (x.Mark≤1) then some 2 else none
def Zmi(xs:List Smp)(k:Nat):Option Smp:=if k=0 then none else xs[k-1]?
def Zgz(p:Option Smp)(x:Smp):Bool:=match p with |none=>false |some q=>decide (x.At≤q.At)
def ZhJ:Option Smp→Nat→List Smp→Int×Int
  |_,_,[]=>(-1,0)
  |p,k,x::tl=>match ZcK x with |some e=>((k:Int),e) |none=>if Zgz p x then((k:Int),10) else ZhJ (some x) (k+1) tl
def chk(s:api_Series):Int×Int:=if wi s.Den 1 1000000 then(if(s.Samples.length:Int)≤20000 then ZhJ none 0 s.Samples else(-1,3)) else(-1,9)
theorem ZkW{xs:List Smp}{k:Nat}{x:Smp}(h:xs[k]?=some x):Zmi xs (k+1)=some x:=by simp [Zmi,h]
theorem ZlY{xs:List Smp}{k:Nat}(hk:0<k)(h:k≤xs.length): ∃ y,xs[k-1]?=some y∧Zmi xs k=some y∧idx xs ((k:Int)-1)=some y:=by
  obtain⟨y,hy⟩:=Xg (xs:=xs) (k:=k-1) (by omega)
  refine⟨y,hy,by simp [Zmi,hy];omega,?_⟩
  have:((k:Int)-1)=((k-1:Nat):Int):=by omega
  rw [this,ZS hy]
theorem Zmr(s:api_Series)(h:(s.Samples.length:Int)≤20000):
    loop (t1 (JA s)) 0=some ((fun r:Int×Int=>if r.2=0 then Sum.inr () else Sum.inl r) (ZhJ none 0 s.Samples)):=by
  refine ZeP (xs:=s.Samples) (fun k=>(fun r:Int×Int=>if r.2=0 then Sum.inr () else Sum.inl r) (ZhJ (Zmi s.Samples k) k (s.Samples.drop k))) (fun k x hx=> ?_) ?_
  · have hlt:=Xm hx
    rw [ZiO hx,ZhJ]
    simp only [JA,ZS hx,hlt,decide_true,if_true,Option.bind_some,Zma]
    by_cases hb:(wi x.At 0 1099511627776&&wi x.N (-1125899906842624) 1125899906842624&&wi x.Mark 0 4)=true
    · simp only [Bool.and_eq_true] at hb
      obtain⟨⟨h1,h2⟩,h3⟩:=hb
      by_cases hh:(!decide (x.N=0)&&decide (x.Mark≤1))=true
      · right
        simp [ZcK,h1,h2,h3,hh]
      · have hs:ZcK x=none:=by simp only [ZcK,h1,h2,h3];simp [hh]
        rw [hs]
        rcases Nat.eq_zero_or_pos k with rfl |hk
        · left
          simp [h1,h2,h3,hh,ZE,Zmi,Zgz,hx]
        · obtain⟨y,hy,hp,hi⟩:=ZlY (xs:=s.Samples) hk (by omega)
          have hk':(0:Int)<k:=by omega
          rw [hp]
          have hw:IntKind.i64.wrap ((k:Int)-1)=(k:Int)-1:=ZE (by omega) (by omega)
          have hw2:IntKind.i64.wrap ((k:Int)+1)=(k:Int)+1:=ZE (by omega) (by omega)
          by_cases ho:x.At≤y.At
          · right;simp [h1,h2,h3,hh,hw,hi,hk,Zgz,ho]
          · left;simp [h1,h2,h3,hh,hw,hw2,hi,hk,Zgz,ho,ZkW hx]
    · right
      have hs:ZcK x=some 9:=by
        simp only [ZcK]
        rw [if_pos (by cases h1:wi x.At 0 1099511627776<;>cases h2:wi x.N (-1125899906842624) 1125899906842624<;>cases h3:wi x.Mark 0 4<;>simp_all)]
      rw [hs]
      simp only [Bool.and_eq_true,not_and,Bool.not_eq_true] at hb
      cases h1:wi x.At 0 1099511627776<;>cases h2:wi x.N (-1125899906842624) 1125899906842624<;>cases h3:wi x.Mark 0 4<;>simp_all
  · simp [JA,List.drop_length,ZhJ]
theorem ZhS: ∀ (p:Option Smp) (k:Nat) (xs:List Smp),ZhJ p k xs=(-1,0)∨(ZhJ p k xs).2≠0
  |_,_,[]=> .inl rfl
  |p,k,x::tl=>by
    rw [ZhJ]
    split
    · rename_i e he;right;unfold ZcK at he;split at he
      · cases he;simp
      · split at he<;>cases he;simp
    · split
      · right;simp
      · exact ZhS _ _ tl
theorem Zpb(s:api_Series):Zba s=some (chk s):=by
  simp only [Zba,Zma,Option.bind_some,chk]
  cases hd:wi s.Den 1 1000000 with
  |false=>simp
  |true=>
    by_cases hl:(s.Samples.length:Int)≤20000
    · rw [Zmr s hl]
      simp only [show ¬20000<(s.Samples.length:Int) by omega,hl,decide_false,if_true,if_false,Bool.not_true,Option.bind_some,Bool.false_eq_true]
      rcases ZhS none 0 s.Samples with h |h
      · simp [h]
      · simp [h]
    · simp [hl,show 20000<(s.Samples.length:Int) by omega]
theorem Zmp(x:Smp):ZaK x=some ((ZcK x).getD 0):=by
  simp only [ZaK,Zel,Option.bind_some,ZdI,ZcK]
  cases h1:wi x.At 0 1099511627776<;>cases h2:wi x.N (-1125899906842624) 1125899906842624<;>cases h3:wi x.Mark 0 4<;>simp
  by_cases h4:x.N=0<;>by_cases h5:x.Mark≤1<;>simp [h4,h5]<;>omega
theorem ZjQ{x:Smp}{e:Int}(h:ZcK x=some e):e=9∨e=2:=by
  unfold ZcK at h;split at h
  · cases h;simp
  · split at h<;>cases h;simp
theorem ZmA(s:api_Series)(h:(s.Samples.length:Int)≤20000):
    loop (t1 (Zcv s)) 0=some ((fun r:Int×Int=>if r.2=0 then Sum.inr () else Sum.inl r) (ZhJ none 0 s.Samples)):=by
  refine ZeP (xs:=s.Samples) (fun k=>(fun r:Int×Int=>if r.2=0 then Sum.inr () else Sum.inl r) (ZhJ (Zmi s.Samples k) k (s.Samples.drop k))) (fun k x hx=> ?_) ?_
  · have hlt:=Xm hx
    rw [ZiO hx,ZhJ]
    simp only [Zcv,ZS hx,hlt,decide_true,if_true,Option.bind_some,Zmp]
    cases hs:ZcK x with
    |some e=>
      right
      rcases ZjQ hs with rfl |rfl<;>simp
    |none=>
      rcases Nat.eq_zero_or_pos k with rfl |hk
      · left
        simp [ZE,Zmi,Zgz,hx]
      · obtain⟨y,hy,hp,hi⟩:=ZlY (xs:=s.Samples) hk (by omega)
        rw [hp]
        have hw:IntKind.i64.wrap ((k:Int)-1)=(k:Int)-1:=ZE (by omega) (by omega)
        have hw2:IntKind.i64.wrap ((k:Int)+1)=(k:Int)+1:=ZE (by omega) (by omega)
        by_cases ho:x.At≤y.At
        · right;simp [hw,hi,hk,Zgz,ho]
        · left;simp [hw,hw2,hi,hk,Zgz,ho,ZkW hx]
  · simp [Zcv,List.drop_length,ZhJ]
theorem ZoK(s:api_Series):Zey s=some (chk s):=by
  simp only [Zey,Zel,Option.bind_some,chk]
  cases hd:wi s.Den 1 1000000 with
  |false=>simp
  |true=>
    by_cases hl:(s.Samples.length:Int)≤20000
    · rw [ZmA s hl]
      simp only [show ¬20000<(s.Samples.length:Int) by omega,hl,decide_false,if_true,if_false,Bool.not_true,Option.bind_some,Bool.false_eq_true]
      rcases ZhS none 0 s.Samples with h |h
      · simp [h]
      · simp [h]
    · simp [hl,show 20000<(s.Samples.length:Int) by omega]
theorem Zpf(s:api_Series):Zbf s=some (chk s).2:=by simp [Zbf,Zpb]
theorem Zl7(s:api_Series):Zdz s=some (chk s).2:=by simp [Zdz,ZoK]
structure SerOK (s:api_Series):Prop where
  den:1≤s.Den∧s.Den≤1000000
  len:(s.Samples.length:Int)≤20000
  at': ∀ (k:Nat) x,s.Samples[k]?=some x→(0≤x.At∧x.At≤1099511627776)∧(-1125899906842624≤x.N∧x.N≤1125899906842624)∧(0≤x.Mark∧x.Mark≤4)∧(x.N≠0→2≤x.Mark)
  rise: ∀ (i j:Nat) x y,i<j→s.Samples[i]?=some x→s.Samples[j]?=some y→x.At<y.At
theorem Zk6: ∀ (p:Option Smp) (k:Nat) (xs:List Smp),(ZhJ p k xs).2=0→
    (∀ (j:Nat) x,xs[j]?=some x→ZcK x=none∧ ∀ q,p=some q→q.At<x.At)∧(∀ (i j:Nat) x y,i<j→xs[i]?=some x→xs[j]?=some y→x.At<y.At)
  |_,_,[],_=>⟨fun j x h=>by simp at h,fun i j x y _ h=>by simp at h⟩
  |p,k,x::tl,h=>by
    rw [ZhJ] at h
    cases hs:ZcK x with
    |some e=>rw [hs] at h;rcases ZjQ hs with rfl |rfl<;>simp at h
    |none=>
      rw [hs] at h
      simp only at h
      split at h
      · simp at h
      · rename_i ho
        obtain⟨h1,h2⟩:=Zk6 _ _ tl h
        have hpx: ∀ q,p=some q→q.At<x.At:=fun q hq=>by subst hq;simpa [Zgz] using ho
        refine⟨fun j y hy=> ?_,fun i j u v hij hu hv=> ?_⟩
        · cases j with
          |zero=>simp at hy;subst hy;exact⟨hs,hpx⟩
          |succ j=>
            have hy':tl[j]?=some y:=by simpa using hy
            obtain⟨g1,g2⟩:=h1 j y hy'
            exact⟨g1,fun q hq=>Int.lt_trans (hpx q hq) (g2 x rfl)⟩
        · cases j with
          |zero=>omega
          |succ j=>
            have hv':tl[j]?=some v:=by simpa using hv
            cases i with
            |zero=>simp at hu;subst hu;exact(h1 j v hv').2 x rfl
            |succ i=>exact h2 i j u v (by omega) (by simpa using hu) hv'
theorem Zkz{s:api_Series}(h:(chk s).2=0):SerOK s:=by
  unfold chk at h
  split at h
  · rename_i hd
    split at h
    · rename_i hl
      obtain⟨h1,h2⟩:=Zk6 none 0 s.Samples h
      refine⟨Zab.1 hd,hl,fun k x hx=> ?_,h2⟩
      have:=(h1 k x hx).1
      unfold ZcK at this
      split at this
      · cases this
      · rename_i hb
        split at this
        · cases this
        · rename_i hh
          simp only [Bool.not_eq_true',Bool.not_eq_false,Bool.and_eq_true,Zab] at hb
          simp only [Bool.and_eq_true,Bool.not_eq_true',decide_eq_false_iff_not,decide_eq_true_eq] at hh
          exact⟨hb.1.1,hb.1.2,hb.2,fun h0=>by omega⟩
    · simp at h
  · simp at h
end Go.Vx

namespace Go.Vx
open Go Go.RowKit
def QH(xs:List Smp)(t:Int):Nat:=xs.countP fun x=>decide (x.At≤t)
theorem ZfB: ∀ (xs:List Smp) (t:Int),(∀ (i j:Nat) x y,i<j→xs[i]?=some x→xs[j]?=some y→x.At<y.At)→
    (∀ (k:Nat) x,k<QH xs t→xs[k]?=some x→x.At≤t)∧(∀ (k:Nat) x,QH xs t≤k→xs[k]?=some x→t<x.At)
  | [],_,_=>⟨fun k x h=>by simp [QH] at h,fun k x _ h=>by simp at h⟩
  |x::tl,t,hr=>by
    obtain⟨h1,h2⟩:=ZfB tl t fun i j u v hij hu hv=>hr (i+1) (j+1) u v (by omega) (by simpa using hu) (by simpa using hv)
    have hx: ∀ (j:Nat) y,tl[j]?=some y→x.At<y.At:=fun j y hy=>hr 0 (j+1) x y (by omega) rfl (by simpa using hy)
    by_cases hc:x.At≤t
    · have e:QH (x::tl) t=QH tl t+1:=by simp [QH,hc]
      rw [e]
      refine⟨fun k y hk hy=> ?_,fun k y hk hy=> ?_⟩
      · cases k with
        |zero=>simp at hy;subst hy;exact hc
        |succ k=>exact h1 k y (by omega) (by simpa using hy)
      · cases k with
        |zero=>omega
        |succ k=>exact h2 k y (by omega) (by simpa using hy)
    · have e0:QH tl t=0:=by
        unfold QH
        rw [List.countP_eq_zero]
        intro y hy
        obtain⟨j,hj⟩:=List.mem_iff_getElem?.1 hy
        have:=hx j y hj
        simp;omega
      have e:QH (x::tl) t=0:=by
        have:QH (x::tl) t=QH tl t:=by simp [QH,hc]
        rw [this,e0]
      rw [e]
      refine⟨fun k y hk _=>by omega,fun k y _ hy=> ?_⟩
      cases k with
      |zero=>simp at hy;subst hy;omega
      |succ k=>have:=hx k y (by simpa using hy);omega
theorem ZjV(xs:List Smp)(t:Int):QH xs t≤xs.length:=List.countP_le_length
def ZiA(xs:List Smp)(t:Int):Option Smp:=if QH xs t=0 then none else xs[QH xs t-1]?
def Zc2(xs:List Smp)(t long:Int):Option Smp:=(ZiA xs t).bind fun x=>if 3≤x.Mark∧t-x.At≤long then some x else none
def z0:Smp:=api_Sample.mk 0 0 0
def Zhj(o:Option Smp):Smp×Bool:=match o with |some x=>(x,true) |none=>(z0,false)
theorem Zfd{ρ:Type}{body:Int→Int→Option ((Int×Int) ⊕ ρ)}(n c:Nat)(F:Nat→ρ)(hc:c≤n)(hn:n≤4611686018427387904)
    (hstep: ∀ (i j m:Nat),i<j→j≤n→m=(i+j)/2→(m<c→body i j=some (.inl ((m:Int)+1,j)))∧(c≤m→body i j=some (.inl (i,(m:Int)))))
    (hend: ∀ i:Nat,body i i=some (.inr (F i))):loop (t2 body) (0,(n:Int))=some (F c):=by
  refine ZcB (body:=t2 body) (fun p=> ∃ i j:Nat,p=((i:Int),(j:Int))∧i≤c∧c≤j∧j≤n) (fun p=>(p.2-p.1).toNat) (fun _=>F c) ?_ _ ⟨0,n,rfl,Nat.zero_le _,hc,Nat.le_refl _⟩
  rintro _ ⟨i,j,rfl,h1,h2,h3⟩
  simp only [Zhq]
  rcases Nat.lt_or_ge i j with h |h
  · obtain⟨g1,g2⟩:=hstep i j ((i+j)/2) h h3 rfl
    rcases Nat.lt_or_ge ((i+j)/2) c with h4 |h4
    · exact .inl ⟨_,g1 h4,⟨(i+j)/2+1,j,by push_cast;rfl,h4,h2,h3⟩,by simp only;omega,by trivial⟩
    · exact .inl ⟨_,g2 h4,⟨i,(i+j)/2,rfl,h1,h4,by omega⟩,by simp only;omega,by trivial⟩
  · have e1:i=c:=by omega
    have e2:j=c:=by omega
    subst e1;subst e2
    exact .inr (hend _)
theorem ZoO{s:api_Series}(hs:SerOK s)(t long:Int)(ht:0≤t∧t≤1099511627776):ZfF s t long=some (Zhj (Zc2 s.Samples t long)):=by
  have hlen:=hs.len
  obtain⟨hc1,hc2⟩:=ZfB s.Samples t hs.rise
  have hcl:=ZjV s.Samples t
  have hl:loop (t2 (Zdg s t)) (0,(s.Samples.length:Int))=some ((QH s.Samples t:Nat):Int):=by
    refine Zfd s.Samples.length (QH s.Samples t) (fun k=>(k:Int)) hcl (by omega) (fun i j m hij hj hm=> ?_) (fun i=> ?_)
    · obtain⟨x,hx⟩:=Xg (xs:=s.Samples) (k:=m) (by omega)
      have hq:quo .i64 (i64 ((i:Int)+j)) 2=some (m:Int):=by
        rw [i64,ZE (by omega) (by omega),quo,if_neg (by decide),Int.tdiv_eq_ediv_of_nonneg (by omega),ZE (by omega) (by omega)]
        congr 1;omega
      have h2:(i:Int)<j:=by omega
      simp only [Zdg,h2,decide_true,if_true,hq,Option.bind_some,ZS hx]
      refine⟨fun h=> ?_,fun h=> ?_⟩
      · have:=hc1 m x h hx
        simp [this,ZE (show-9223372036854775808≤(m:Int)+1 by omega) (by omega)]
      · have:=hc2 m x h hx
        simp [show ¬x.At≤t by omega]
    · simp [Zdg]
  simp only [ZfF,hl,Option.bind_some,t1]
  by_cases h0:QH s.Samples t=0
  · simp [h0,Zc2,ZiA,Zhj,z0]
  · obtain⟨x,hx⟩:=Xg (xs:=s.Samples) (k:=QH s.Samples t-1) (by omega)
    have hi:idx s.Samples (IntKind.i64.wrap ((QH s.Samples t:Int)-1))=some x:=by
      rw [ZE (by omega) (by omega),show((QH s.Samples t:Int)-1)=((QH s.Samples t-1:Nat):Int) by omega,ZS hx]
    obtain⟨hx1,_,_,_⟩:=hs.at' _ _ hx
    have hw:IntKind.i64.wrap (t-x.At)=t-x.At:=ZE (by omega) (by omega)
    simp only [h0,hi,ZfZ,Zc2,ZiA,hx,hw,Option.bind_some,i64,decide_false,if_false,Int.natCast_eq_zero,Bool.false_eq_true]
    by_cases h3:3≤x.Mark
    · by_cases h4:long<t-x.At
      · simp [h3,h4,Zhj,z0,show ¬t-x.At≤long by omega]
      · simp [h3,h4,Zhj,show t-x.At≤long by omega]
    · simp [h3,Zhj,z0]
end Go.Vx

namespace Go.Vx
open Go Go.RowKit
theorem ZlM{xs:List Smp}{t:Int}{c:Nat}(hr: ∀ (i j:Nat) x y,i<j→xs[i]?=some x→xs[j]?=some y→x.At<y.At)(hc:c≤xs.length)
    (h1: ∀ (k:Nat) x,k<c→xs[k]?=some x→x.At≤t) (h2: ∀ (k:Nat) x,c≤k→xs[k]?=some x→t<x.At):QH xs t=c:=by
  obtain⟨g1,g2⟩:=ZfB xs t hr
  have hl:=ZjV xs t
  rcases Nat.lt_trichotomy (QH xs t) c with h |h |h
  · obtain⟨x,hx⟩:=Xg (xs:=xs) (k:=QH xs t) (by omega)
    have:=h1 _ x h hx;have:=g2 _ x (Nat.le_refl _) hx;omega
  · exact h
  · obtain⟨x,hx⟩:=Xg (xs:=xs) (k:=c) (by omega)
    have:=g1 _ x h hx;have:=h2 _ x (Nat.le_refl _) hx;omega
theorem Zpy{i j:Nat}(h:i+j<4611686018427387904):shr .u64 (u64 (i64 ((i:Int)+j))) 1=some (((i+j)/2:Nat):Int):=by
  rw [i64,u64,ZE (by omega) (by omega),Zqc (by omega) (by omega),shr,if_neg (by decide)]
  have:min (1:Int).toNat IntKind.u64.bits=1:=by decide
  rw [this]
  congr 1
  rw [Int.fdiv_eq_ediv_of_nonneg _ (by decide)]
  omega
theorem Zq5{xs:List Smp}{t:Int}(hlen:(xs.length:Int)≤20000)(hat: ∀ (k:Nat) x,xs[k]?=some x→0≤x.At∧x.At≤1099511627776)
    (hr: ∀ (i j:Nat) x y,i<j→xs[i]?=some x→xs[j]?=some y→x.At<y.At) (ht:0≤t∧t≤1099511627776):
    ZC xs t (fun z0 z1=>Xh z0 z1)=some ((QH xs (t-1):Int),decide (∃ x,xs[QH xs (t-1)]?=some x∧x.At=t)):=by
  obtain⟨hc1,hc2⟩:=ZfB xs (t-1) hr
  have hcl:=ZjV xs (t-1)
  have hcmp: ∀ (k:Nat) x,xs[k]?=some x→Xh x t=some (x.At-t):=fun k x hx=>by
    have:=hat k x hx
    simp only [Xh,i64]
    rw [ZE (by omega) (by omega)]
  have hl:loop (t2 (Zy xs t (fun z0 z1=>Xh z0 z1))) (0,(xs.length:Int))=some ((QH xs (t-1):Nat):Int):=by
    refine Zfd xs.length (QH xs (t-1)) (fun k=>(k:Int)) hcl (by omega) (fun i j m hij hj hm=> ?_) (fun i=> ?_)
    · obtain⟨x,hx⟩:=Xg (xs:=xs) (k:=m) (by omega)
      have h2:(i:Int)<j:=by omega
      have hm':shr .u64 (u64 (i64 ((i:Int)+j))) 1=some (m:Int):=by rw [Zpy (by omega),hm]
      have hmi:i64 (m:Int)=m:=ZE (by omega) (by omega)
      simp only [Zy,h2,decide_true,if_true,hm',Option.bind_some,hmi,ZS hx,hcmp m x hx]
      refine⟨fun h=> ?_,fun h=> ?_⟩
      · have:=hc1 m x h hx
        simp [show x.At-t<0 by omega,ZE (show-9223372036854775808≤(m:Int)+1 by omega) (by omega)]
      · have:=hc2 m x h hx
        simp [show ¬x.At-t<0 by omega]
    · simp [Zy]
  simp only [ZC,hl,Option.bind_some,t1]
  rcases Nat.lt_or_ge (QH xs (t-1)) xs.length with h |h
  · obtain⟨x,hx⟩:=Xg h
    have h':((QH xs (t-1):Nat):Int)<xs.length:=by omega
    simp only [h',decide_true,ZS hx,Zlc,Option.bind_some,hcmp _ x hx,hx,Bool.true_and,Option.some.injEq,exists_eq_left',Prod.mk.injEq,true_and]
    simp only [decide_eq_decide];omega
  · have h': ¬((QH xs (t-1):Nat):Int)<xs.length:=by omega
    simp [gd,h,List.getElem?_eq_none h,show ¬QH xs (t-1)<xs.length by omega]
theorem Zof{s:api_Series}(hs:SerOK s){t:Int}(ht:0≤t∧t≤1099511627776):ZaB s t=some ((QH s.Samples t:Int)-1):=by
  have hlen:=hs.len
  obtain⟨hc1,hc2⟩:=ZfB s.Samples (t-1) hs.rise
  have hcl:=ZjV s.Samples (t-1)
  simp only [ZaB,Zq5 hlen (fun k x hx=>(hs.at' k x hx).1) hs.rise ht,Option.bind_some]
  by_cases hf: ∃ x,s.Samples[QH s.Samples (t-1)]?=some x∧x.At=t
  · obtain⟨x,hx,hxt⟩:=hf
    have hlt:=(List.getElem?_eq_some_iff.1 hx).1
    have:QH s.Samples t=QH s.Samples (t-1)+1:=ZlM hs.rise (by omega) (fun k y hk hy=>by
        rcases Nat.lt_or_ge k (QH s.Samples (t-1)) with h |h
        · have:=hc1 k y h hy;omega
        · have:k=QH s.Samples (t-1):=by omega
          subst this;rw [hx] at hy;cases hy;omega) (fun k y hk hy=>by
        have:=hs.rise _ _ _ _ (show QH s.Samples (t-1)<k by omega) hx hy;omega)
    have hd:(∃ x,s.Samples[QH s.Samples (t-1)]?=some x∧x.At=t):=⟨x,hx,hxt⟩
    simp only [hd,decide_true,if_true,this]
    congr 1;omega
  · have:QH s.Samples t=QH s.Samples (t-1):=ZlM hs.rise hcl (fun k y hk hy=>by have:=hc1 k y hk hy;omega) (fun k y hk hy=>by
        have h1:=hc2 k y hk hy
        rcases Nat.lt_or_ge (QH s.Samples (t-1)) k with h |h
        · obtain⟨x,hx⟩:=Xg (xs:=s.Samples) (k:=QH s.Samples (t-1)) (by have:=(List.getElem?_eq_some_iff.1 hy).1;omega)
          have:=hs.rise _ _ _ _ h hx hy
          have:=hc2 _ x (Nat.le_refl _) hx;omega
        · have:k=QH s.Samples (t-1):=by omega
          subst this
          have: ¬y.At=t:=fun e=>hf ⟨y,hy,e⟩
          omega)
    simp only [hf,decide_false,this,i64,Bool.false_eq_true,if_false]
    rw [ZE (by omega) (by omega)]
theorem Zp9{s:api_Series}(hs:SerOK s)(t long:Int)(ht:0≤t∧t≤1099511627776):Zcc s t long=some (Zhj (Zc2 s.Samples t long)):=by
  have hlen:=hs.len
  have hcl:=ZjV s.Samples t
  simp only [Zcc,Zof hs ht,Option.bind_some]
  by_cases h0:QH s.Samples t=0
  · simp [h0,Zc2,ZiA,Zhj,z0,gd]
  · obtain⟨x,hx⟩:=Xg (xs:=s.Samples) (k:=QH s.Samples t-1) (by omega)
    have hi:idx s.Samples ((QH s.Samples t:Int)-1)=some x:=by
      rw [show((QH s.Samples t:Int)-1)=((QH s.Samples t-1:Nat):Int) by omega,ZS hx]
    obtain⟨hx1,_,_,_⟩:=hs.at' _ _ hx
    have hw:IntKind.i64.wrap (t-x.At)=t-x.At:=ZE (by omega) (by omega)
    have hn: ¬((QH s.Samples t:Int)-1<0):=by omega
    simp only [h0,hi,hn,Zci,Zc2,ZiA,hx,hw,Option.bind_some,i64,decide_false,if_false,Bool.false_eq_true]
    by_cases h3:3≤x.Mark
    · by_cases h4:long<t-x.At
      · simp [h3,h4,Zhj,z0,show ¬t-x.At≤long by omega,hw]
      · simp [h3,h4,Zhj,show t-x.At≤long by omega,hw]
    · simp [h3,Zhj,z0]
def ZlF(s:api_Series)(t long:Int):Smp×Bool×Int:=
  if(chk s).2≠0 then(z0,false,(chk s).2) else if wi t 0 1099511627776&&wi long 0 1099511627776 then((Zhj (Zc2 s.Samples t long)).1,(Zhj (Zc2 s.Samples t long)).2,0) else(z0,false,9)
theorem ZoY(s:api_Series)(t long:Int):ZfP s t long=some (ZlF s t long):=by
  simp only [ZfP,Zl7,Zel,Option.bind_some,ZlF]
  by_cases h0:(chk s).2=0
  · cases h1:wi t 0 1099511627776 with
    |false=>simp [h0,z0]
    |true=>cases h2:wi long 0 1099511627776 with
      |false=>simp [h0,z0]
      |true=>simp [h0,ZoO (Zkz h0) t long (Zab.1 h1)]
  · simp [h0,z0]
end Go.Vx

namespace Go.Vx
open Go Go.RowKit
section err
variable {α ε:Type}
def J2{ρ:Type}(A:ε→ρ)(Z:ρ):Option ε→ρ
  |some e=>A e
  |none=>Z
@[simp] theorem Zqo {ρ:Type} (A:ε→ρ) (Z:ρ) (e:ε):J2 A Z (some e)=A e:=rfl
@[simp] theorem ZhP {ρ:Type} (A:ε→ρ) (Z:ρ):J2 A Z none=Z:=rfl
end err
end Go.Vx

namespace Go.Vx
open Go Go.RowKit
def Zat{σ ρ:Type}(b:σ→Option (σ ⊕ ρ))(s:σ):Option ρ:=
  Nat.rec (motive:=fun _=>σ→Option ρ) (fun _=>none) (fun _ ih s=>match b s with |none=>none |some (.inl s')=>ih s' |some (.inr r)=>some r) 1000000 s
def Le{α:Type}(a b:Option α):Prop:= ∀ r,a=some r→b=some r
theorem Le.refl{α:Type}(a:Option α):Le a a:=fun _ h=>h
section
variable {α β γ δ ε ζ η θ ι κ σ ρ:Type}
theorem Le.bind{a b:Option α}{f g:α→Option β}(h:Le a b)(hf: ∀ x,Le (f x) (g x)):Le (a.bind f) (b.bind g):=by
  intro r hr
  cases ha:a with
  |none=>rw [ha] at hr;cases hr
  |some x=>rw [ha] at hr;rw [h x ha];exact hf x r hr
theorem Le.ite{c:Prop}[Decidable c]{a b a' b':Option α}(h1:Le a a')(h2:Le b b'):Le (if c then a else b) (if c then a' else b'):=by
  split
  · exact h1
  · exact h2
theorem Le.gd{g:Bool}{d:α}{a b:Option α}(h:Le a b):Le (gd g d a) (gd g d b):=by
  cases g
  · exact fun r hr=>hr
  · exact h
theorem Le.loop{b b':σ→Option (σ ⊕ ρ)}{s:σ}(h: ∀ s,Le (b s) (b' s)):Le (Zat b s) (loop b' s):=by
  have key: ∀ n s r,Nat.rec (motive:=fun _=>σ→Option ρ) (fun _=>none) (fun _ ih s=>match b s with |none=>none |some (.inl s')=>ih s' |some (.inr r)=>some r) n s=some r→Zdq b' n s=some r:=by
    intro n
    induction n with
    |zero=>intro s r hr;cases hr
    |succ n ih=>
      intro s r hr
      simp only at hr
      cases hb:b s with
      |none=>rw [hb] at hr;cases hr
      |some o=>
        rw [hb] at hr
        simp only [Zdq,h s o hb,Option.bind_some]
        cases o with
        |inl s'=>exact ih s' r hr
        |inr r'=>exact hr
  intro r hr
  exact ZjJ (key 1000000 s r hr)
theorem Le.t0{f g:Option κ}{p:Unit}(h:Le f g):Le (t0 f p) (t0 g p):=h
theorem Le.t1{f g:α→Option κ}{p:α}(h: ∀ a,Le (f a) (g a)):Le (t1 f p) (t1 g p):=h _
theorem Le.t2{f g:α→β→Option κ}{p:α×β}(h: ∀ a b,Le (f a b) (g a b)):Le (t2 f p) (t2 g p):=h _ _
theorem Le.t3{f g:α→β→γ→Option κ}{p:α×β×γ}(h: ∀ a b c,Le (f a b c) (g a b c)):Le (t3 f p) (t3 g p):=h _ _ _
theorem Le.t4{f g:α→β→γ→δ→Option κ}{p:α×β×γ×δ}(h: ∀ a b c d,Le (f a b c d) (g a b c d)):Le (t4 f p) (t4 g p):=h _ _ _ _
theorem Le.t5{f g:α→β→γ→δ→ε→Option κ}{p:α×β×γ×δ×ε}(h: ∀ a b c d e,Le (f a b c d e) (g a b c d e)):Le (t5 f p) (t5 g p):=h _ _ _ _ _
theorem Le.t6{f g:α→β→γ→δ→ε→ζ→Option κ}{p:α×β×γ×δ×ε×ζ}(h: ∀ a b c d e x,Le (f a b c d e x) (g a b c d e x)):Le (t6 f p) (t6 g p):=h _ _ _ _ _ _
theorem Le.t7{f g:α→β→γ→δ→ε→ζ→η→Option κ}{p:α×β×γ×δ×ε×ζ×η}(h: ∀ a b c d e x y,Le (f a b c d e x y) (g a b c d e x y)):Le (t7 f p) (t7 g p):=h _ _ _ _ _ _ _
theorem Le.t8{f g:α→β→γ→δ→ε→ζ→η→θ→Option κ}{p:α×β×γ×δ×ε×ζ×η×θ}(h: ∀ a b c d e x y z,Le (f a b c d e x y z) (g a b c d e x y z)):Le (t8 f p) (t8 g p):=h _ _ _ _ _ _ _ _
theorem Le.t9{ι:Type}{f g:α→β→γ→δ→ε→ζ→η→θ→ι→Option κ}{p:α×β×γ×δ×ε×ζ×η×θ×ι}(h: ∀ a b c d e x y z w,Le (f a b c d e x y z w) (g a b c d e x y z w)):Le (t9 f p) (t9 g p):=h _ _ _ _ _ _ _ _ _
theorem Le.elim{f f':α→Option κ}{g g':β→Option κ}{s:α ⊕ β}(h1: ∀ a,Le (f a) (f' a))(h2: ∀ b,Le (g b) (g' b)):Le (Sum.elim f g s) (Sum.elim f' g' s):=by
  cases s with
  |inl a=>exact h1 a
  |inr b=>exact h2 b
end
end Go.Vx

namespace Go.Vx
open Go Go.RowKit
set_option linter.unusedVariables false
noncomputable def QI(n:Int)(low:Int)(high:Int):Option Bool:=
  some ((decide (low≤n))&&(decide (n≤high)))
theorem Zae(n:Int)(low:Int)(high:Int):Le (QI n low high) (ZM n low high):=by
  unfold QI ZM
  with_reducible repeat' (first |exact Le.refl _ |apply Le.bind |intro _)
noncomputable def JU(c_:Int)(s3:Str):Option ((Str) ⊕ (Str)):=
  (gd ((decide (0<(s3.length:Int)))==true) 0 (Zaz s3 (i64 ((s3.length:Int)-1)))).bind fun b=>
  if((decide (0<(s3.length:Int)))&&(decide (b=c_)))=true then
  (slc s3 0 (i64 ((s3.length:Int)-1))).bind fun s4=>
  some (.inl s4)
  else
  some (.inr s3)
theorem Zeh(c_:Int)(s3:Str):Le (JU c_ s3) (Ja c_ s3):=by
  unfold JU Ja
  with_reducible repeat' (first |exact Le.refl _ |apply Le.bind |apply Le.ite |apply Le.gd |intro _)
noncomputable def ZaN(s:Str)(c_:Int):Option Str:=
  ((Zat (t1 (JU c_)) s):Option ((Str))).bind (t1 fun(s2:Str)=>
  some s2)
theorem Zff(s:Str)(c_:Int):Le (ZaN s c_) (X3 s c_):=by
  unfold ZaN X3
  with_reducible repeat' (first |exact Le.refl _ |apply Le.bind |apply Le.loop |apply Le.t1 |apply Zeh |intro _)
noncomputable def J8(c_:Int)(s3:Str):Option ((Str) ⊕ (Str)):=
  (gd ((decide (0<(s3.length:Int)))==true) 0 (Zaz s3 0)).bind fun b=>
  if((decide (0<(s3.length:Int)))&&(decide (b=c_)))=true then
  (slc s3 1 (s3.length:Int)).bind fun s4=>
  some (.inl s4)
  else
  some (.inr s3)
theorem ZeL(c_:Int)(s3:Str):Le (J8 c_ s3) (Jx c_ s3):=by
  unfold J8 Jx
  with_reducible repeat' (first |exact Le.refl _ |apply Le.bind |apply Le.ite |apply Le.gd |intro _)
noncomputable def Za7(s:Str)(c_:Int):Option Str:=
  ((Zat (t1 (J8 c_)) s):Option ((Str))).bind (t1 fun(s2:Str)=>
  some s2)
theorem Zfx(s:Str)(c_:Int):Le (Za7 s c_) (Jm s c_):=by
  unfold Za7 Jm
  with_reducible repeat' (first |exact Le.refl _ |apply Le.bind |apply Le.loop |apply Le.t1 |apply ZeL |intro _)
noncomputable def J4(chars:Str)(as_2:Vector Bool 256)(i:Int):Option (((Vector Bool 256)×Int) ⊕ ((Vector Bool 256)×Bool) ⊕ ((Vector Bool 256))):=
  if(decide (i<(chars.length:Int)))=true then
  (Zaz chars i).bind fun b=>
  if(decide (128≤b))=true then
  some (.inr (.inl (as_2,false)))
  else
  (ZiP as_2 b).bind fun x=>
  some (.inl ((Zox as_2 b true),(i64 (i+1))))
  else
  some (.inr (.inr as_2))
theorem ZeS(chars:Str)(as_2:Vector Bool 256)(i:Int):Le (J4 chars as_2 i) (Ju chars as_2 i):=by
  unfold J4 Ju
  with_reducible repeat' (first |exact Le.refl _ |apply Le.bind |apply Le.ite |intro _)
noncomputable def XJ(chars:Str):Option ((Vector Bool 256)×Bool):=
  ((Zat (t2 (J4 chars)) ((Vector.replicate 256 false),0)):Option (((Vector Bool 256)×Bool) ⊕ ((Vector Bool 256)))).bind (Sum.elim (fun q'=>some q') (t1 fun(as_:Vector Bool 256)=>
  some (as_,true)))
theorem ZcS(chars:Str):Le (XJ chars) (Xp chars):=by
  unfold XJ Xp
  with_reducible repeat' (first |exact Le.refl _ |apply Le.bind |apply Le.loop |apply Le.t1 |apply Le.t2 |apply Le.elim |apply ZeS |intro _)
noncomputable def Xx(as_:Vector Bool 256)(c_:Int):Option Bool:=
  (ZiP as_ c_).bind fun x=>
  some x
theorem ZbC(as_:Vector Bool 256)(c_:Int):Le (Xx as_ c_) (Z8 as_ c_):=by
  unfold Xx Z8
  with_reducible repeat' (first |exact Le.refl _ |apply Le.bind |intro _)
noncomputable def JH(as_:Vector Bool 256)(s3:Str):Option ((Str) ⊕ (Str)):=
  if(decide (0<(s3.length:Int)))=true then
  (Zaz s3 (i64 ((s3.length:Int)-1))).bind fun b=>
  (Xx as_ b).bind fun y=>
  if(!y)=true then
  some (.inr s3)
  else
  (slc s3 0 (i64 ((s3.length:Int)-1))).bind fun s4=>
  some (.inl s4)
  else
  some (.inr s3)
theorem Zea(as_:Vector Bool 256)(s3:Str):Le (JH as_ s3) (Z9 as_ s3):=by
  unfold JH Z9
  with_reducible repeat' (first |exact Le.refl _ |apply Le.bind |apply Le.ite |apply ZbC |intro _)
noncomputable def Zay(s:Str)(as_:Vector Bool 256):Option Str:=
  ((Zat (t1 (JH as_)) s):Option ((Str))).bind (t1 fun(s2:Str)=>
  some s2)
theorem ZeX(s:Str)(as_:Vector Bool 256):Le (Zay s as_) (QE s as_):=by
  unfold Zay QE
  with_reducible repeat' (first |exact Le.refl _ |apply Le.bind |apply Le.loop |apply Le.t1 |apply Zea |intro _)
noncomputable def JV(as_:Vector Bool 256)(s3:Str):Option ((Str) ⊕ (Str)):=
  if(decide (0<(s3.length:Int)))=true then
  (Zaz s3 0).bind fun b=>
  (Xx as_ b).bind fun y=>
  if(!y)=true then
  some (.inr s3)
  else
  (slc s3 1 (s3.length:Int)).bind fun s4=>
  some (.inl s4)
  else
  some (.inr s3)
theorem Zeb(as_:Vector Bool 256)(s3:Str):Le (JV as_ s3) (Qe as_ s3):=by
  unfold JV Qe
  with_reducible repeat' (first |exact Le.refl _ |apply Le.bind |apply Le.ite |apply ZbC |intro _)
noncomputable def ZaV(s:Str)(as_:Vector Bool 256):Option Str:=
  ((Zat (t1 (JV as_)) s):Option ((Str))).bind (t1 fun(s2:Str)=>
  some s2)
theorem Zfs(s:Str)(as_:Vector Bool 256):Le (ZaV s as_) (QP s as_):=by
  unfold ZaV QP
  with_reducible repeat' (first |exact Le.refl _ |apply Le.bind |apply Le.loop |apply Le.t1 |apply Zeb |intro _)
noncomputable def Zdr(b:Int):Option Bool:=
  some (!decide ((ZoJ .u8 b 192)=128))
theorem Zip(b:Int):Le (Zdr b) (Zce b):=by
  unfold Zdr Zce
  with_reducible repeat' (first |exact Le.refl _ |apply Le.bind |intro _)
noncomputable def XN(s:Str)(start2:Int):Option ((Int) ⊕ (Int)):=
  if(decide ((max (i64 ((s.length:Int)-4)) 0)≤start2))=true then
  (Zaz s start2).bind fun b2=>
  (Zdr b2).bind fun y=>
  if y=true then
  some (.inr start2)
  else
  some (.inl (i64 (start2-1)))
  else
  some (.inr start2)
theorem ZcX(s:Str)(start2:Int):Le (XN s start2) (Q7 s start2):=by
  unfold XN Q7
  with_reducible repeat' (first |exact Le.refl _ |apply Le.bind |apply Le.ite |apply Zip |intro _)
noncomputable def Jj(s:Str):Option (Int×Int):=
  if(decide ((s.length:Int)<1))=true then
  some (65533,0)
  else
  (Zaz s 0).bind fun b=>
  none
theorem Zdp(s:Str):Le (Jj s) (QT s):=by
  unfold Jj QT
  with_reducible repeat' (first |exact Le.refl _ |apply Le.bind |apply Le.ite |intro _)
noncomputable def XZ(s:Str):Option (Int×Int):=
  (gd ((!decide (s= []))==true) 0 (Zaz s 0)).bind fun b=>
  if((!decide (s= []))&&(decide (b<128)))=true then
  (Zaz s 0).bind fun b2=>
  some ((i32 b2),1)
  else
  (Jj s).bind fun y=>
  some (y.1,y.2)
theorem Zca(s:Str):Le (XZ s) (Q0 s):=by
  unfold XZ Q0
  with_reducible repeat' (first |exact Le.refl _ |apply Le.bind |apply Le.ite |apply Le.gd |apply Zdp |intro _)
noncomputable def Jo(s:Str):Option (Int×Int):=
  if(decide ((s.length:Int)=0))=true then
  some (65533,0)
  else
  (Zaz s (i64 ((s.length:Int)-1))).bind fun b=>
  if(decide ((i32 b)<128))=true then
  some ((i32 b),1)
  else
  ((Zat (t1 (XN s)) (i64 ((i64 ((s.length:Int)-1))-1))):Option ((Int))).bind (t1 fun(start:Int)=>
  ((if(decide (start<0))=true then
  some 0
  else
  some start):Option ((Int))).bind (t1 fun(start3:Int)=>
  (slc s start3 (s.length:Int)).bind fun s2=>
  (XZ s2).bind fun y2=>
  if(!decide ((i64 (start3+y2.2))=(s.length:Int)))=true then
  some (65533,1)
  else
  some (y2.1,y2.2)))
theorem ZdD(s:Str):Le (Jo s) (QQ s):=by
  unfold Jo QQ
  with_reducible repeat' (first |exact Le.refl _ |apply Le.bind |apply Le.ite |apply Le.loop |apply Le.t1 |apply ZcX |apply Zca |intro _)
noncomputable def JL(s:Str)(r_:Int):Option Bool:=
  none
theorem ZcQ(s:Str)(r_:Int):Le (JL s r_) (Xq s r_):=by
  unfold JL Xq
  with_reducible repeat' (first |exact Le.refl _ |apply Le.bind |intro _)
noncomputable def Jh(cutset:Str)(s3:Str):Option ((Str) ⊕ (Str)):=
  if(decide (0<(s3.length:Int)))=true then
  (Zaz s3 (i64 ((s3.length:Int)-1))).bind fun b=>
  ((if(decide (128≤(i32 b)))=true then
  (Jo s3).bind fun y=>
  some (y.1,y.2)
  else
  some ((i32 b),1)):Option ((Int×Int))).bind (t2 fun(r_:Int) (n:Int)=>
  (JL cutset r_).bind fun y2=>
  if(!y2)=true then
  some (.inr s3)
  else
  (slc s3 0 (i64 ((s3.length:Int)-n))).bind fun s4=>
  some (.inl s4))
  else
  some (.inr s3)
theorem ZdA(cutset:Str)(s3:Str):Le (Jh cutset s3) (Xz cutset s3):=by
  unfold Jh Xz
  with_reducible repeat' (first |exact Le.refl _ |apply Le.bind |apply Le.ite |apply Le.t2 |apply ZdD |apply ZcQ |intro _)
noncomputable def JT(s:Str)(cutset:Str):Option Str:=
  ((Zat (t1 (Jh cutset)) s):Option ((Str))).bind (t1 fun(s2:Str)=>
  some s2)
theorem Zed(s:Str)(cutset:Str):Le (JT s cutset) (Xe s cutset):=by
  unfold JT Xe
  with_reducible repeat' (first |exact Le.refl _ |apply Le.bind |apply Le.loop |apply Le.t1 |apply ZdA |intro _)
noncomputable def Jz(cutset:Str)(s3:Str):Option ((Str) ⊕ (Str)):=
  if(decide (0<(s3.length:Int)))=true then
  (XZ s3).bind fun y=>
  (JL cutset y.1).bind fun y2=>
  if(!y2)=true then
  some (.inr s3)
  else
  (slc s3 y.2 (s3.length:Int)).bind fun s4=>
  some (.inl s4)
  else
  some (.inr s3)
theorem ZdL(cutset:Str)(s3:Str):Le (Jz cutset s3) (XI cutset s3):=by
  unfold Jz XI
  with_reducible repeat' (first |exact Le.refl _ |apply Le.bind |apply Le.ite |apply Zca |apply ZcQ |intro _)
noncomputable def J7(s:Str)(cutset:Str):Option Str:=
  ((Zat (t1 (Jz cutset)) s):Option ((Str))).bind (t1 fun(s2:Str)=>
  some s2)
theorem Zep(s:Str)(cutset:Str):Le (J7 s cutset) (Xw s cutset):=by
  unfold J7 Xw
  with_reducible repeat' (first |exact Le.refl _ |apply Le.bind |apply Le.loop |apply Le.t1 |apply ZdL |intro _)
noncomputable def Zev(s:Str)(cutset:Str):Option Str:=
  if((decide (s= [])) || (decide (cutset= [])))=true then
  some s
  else
  (gd ((decide ((cutset.length:Int)=1))==true) 0 (Zaz cutset 0)).bind fun b=>
  if((decide ((cutset.length:Int)=1))&&(decide (b<128)))=true then
  (Zaz cutset 0).bind fun b2=>
  (ZaN s b2).bind fun y=>
  (Zaz cutset 0).bind fun b3=>
  (Za7 y b3).bind fun y2=>
  some y2
  else
  (XJ cutset).bind fun y3=>
  if y3.2=true then
  (Zay s y3.1).bind fun y4=>
  (ZaV y4 y3.1).bind fun y5=>
  some y5
  else
  (JT s cutset).bind fun y6=>
  (J7 y6 cutset).bind fun y7=>
  some y7
theorem Zjr(s:Str)(cutset:Str):Le (Zev s cutset) (Zau s cutset):=by
  unfold Zev Zau
  with_reducible repeat' (first |exact Le.refl _ |apply Le.bind |apply Le.ite |apply Le.gd |apply Zff |apply Zfx |apply ZcS |apply ZeX |apply Zfs |apply Zed |apply Zep |intro _)
noncomputable def Zc1(s:Str):Option Bool:=
  (QI (s.length:Int) 1 30).bind fun y=>
  (gd (y==true) [] (Zev s [97,98,99,100,101,102,103,104,105,106,107,108,109,110,111,112,113,114,115,116,117,118,119,120,121,122,48,49,50,51,52,53,54,55,56,57,45])).bind fun y2=>
  some (y&&(decide (y2= [])))
theorem Zge(s:Str):Le (Zc1 s) (Zah s):=by
  unfold Zc1 Zah
  with_reducible repeat' (first |exact Le.refl _ |apply Le.bind |apply Le.gd |apply Zae |apply Zjr |intro _)
noncomputable def J9(s:List Int)(v:Int)(i:Int):Option ((Int) ⊕ (Int) ⊕ (Unit)):=
  if(decide (i<(s.length:Int)))=true then
  (idx s i).bind fun x=>
  if(decide (v=x))=true then
  some (.inr (.inl i))
  else
  some (.inl (i64 (i+1)))
  else
  some (.inr (.inr ()))
theorem ZeD(s:List Int)(v:Int)(i:Int):Le (J9 s v i) (Qh s v i):=by
  unfold J9 Qh
  with_reducible repeat' (first |exact Le.refl _ |apply Le.bind |apply Le.ite |intro _)
noncomputable def Zbl(s:List Int)(v:Int):Option Int:=
  ((Zat (t1 (J9 s v)) 0):Option ((Int) ⊕ (Unit))).bind (Sum.elim (fun q'=>some q') (t0 (some (-1))))
theorem ZfL(s:List Int)(v:Int):Le (Zbl s v) (Xs s v):=by
  unfold Zbl Xs
  with_reducible repeat' (first |exact Le.refl _ |apply Le.bind |apply Le.loop |apply Le.t0 |apply Le.t1 |apply Le.elim |apply ZeD |intro _)
noncomputable def Zaa(s:List Int)(v:Int):Option Bool:=
  (Zbl s v).bind fun y=>
  some (decide (0≤y))
theorem ZeG(s:List Int)(v:Int):Le (Zaa s v) (Qw s v):=by
  unfold Zaa Qw
  with_reducible repeat' (first |exact Le.refl _ |apply Le.bind |apply ZfL |intro _)
noncomputable def X7(l:List Int)(c0:api_Instrument):Option Bool:=
  (Zaa l c0.Kind).bind fun y=>
  some y
theorem Ziv(l:List Int)(c0:api_Instrument):Le (X7 l c0) (ZY l c0):=by
  unfold X7 ZY
  with_reducible repeat' (first |exact Le.refl _ |apply Le.bind |apply ZeG |intro _)
noncomputable def ZeT(i:api_Instrument):Option Bool:=
  (gd ((!decide (i.Places=0))==true) false (X7 ([1,4,6]:List Int) i)).bind fun y=>
  (gd ((((!decide (i.Places=0))&&(!y))==false)&&(((((!decide (i.Low=0)) || (!decide (i.High=0))) || (!decide (i.Steps=0))) || (decide (0<(i.Zones.length:Int))))==true)) false (X7 ([2]:List Int) i)).bind fun y2=>
  (gd (((((!decide (i.Places=0))&&(!y)) || (((((!decide (i.Low=0)) || (!decide (i.High=0))) || (!decide (i.Steps=0))) || (decide (0<(i.Zones.length:Int))))&&(!y2)))==false)&&(((!decide (i.Op=0)) || (!decide (i.N=0)))==true)) false (X7 ([3,5]:List Int) i)).bind fun y3=>
  (gd ((((((!decide (i.Places=0))&&(!y)) || (((((!decide (i.Low=0)) || (!decide (i.High=0))) || (!decide (i.Steps=0))) || (decide (0<(i.Zones.length:Int))))&&(!y2))) || (((!decide (i.Op=0)) || (!decide (i.N=0)))&&(!y3)))==false)&&(i.Latch==true)) false (X7 ([3]:List Int) i)).bind fun y4=>
  (gd (((((((!decide (i.Places=0))&&(!y)) || (((((!decide (i.Low=0)) || (!decide (i.High=0))) || (!decide (i.Steps=0))) || (decide (0<(i.Zones.length:Int))))&&(!y2))) || (((!decide (i.Op=0)) || (!decide (i.N=0)))&&(!y3))) || (i.Latch&&(!y4)))==false)&&((!decide (i.Size=0))==true)) false (X7 ([6]:List Int) i)).bind fun y5=>
  some ((((((!decide (i.Places=0))&&(!y)) || (((((!decide (i.Low=0)) || (!decide (i.High=0))) || (!decide (i.Steps=0))) || (decide (0<(i.Zones.length:Int))))&&(!y2))) || (((!decide (i.Op=0)) || (!decide (i.N=0)))&&(!y3))) || (i.Latch&&(!y4))) || ((!decide (i.Size=0))&&(!y5)))
theorem Zjy(i:api_Instrument):Le (ZeT i) (Za8 i):=by
  unfold ZeT Za8
  with_reducible repeat' (first |exact Le.refl _ |apply Le.bind |apply Le.gd |apply Ziv |intro _)
noncomputable def Zb6(n:Int):Option Bool:=
  (QI n (-1125899906842624) 1125899906842624).bind fun y=>
  some y
theorem Zgk(n:Int):Le (Zb6 n) (Je n):=by
  unfold Zb6 Je
  with_reducible repeat' (first |exact Le.refl _ |apply Le.bind |apply Zae |intro _)
noncomputable def Zcb(i:api_Instrument)(i2:Int):Option ((Int) ⊕ (Int) ⊕ (Unit)):=
  if(decide (i2<(i.Zones.length:Int)))=true then
  (idx i.Zones i2).bind fun x=>
  (Zc1 x.Name).bind fun y4=>
  if(!y4)=true then
  some (.inr (.inl 8))
  else
  if(decide (x.To<x.From))=true then
  some (.inr (.inl 9))
  else
  (gd ((decide (0<i2))==true) (api_Zone.mk 0 0 []) (idx i.Zones (i64 (i2-1)))).bind fun x2=>
  if((decide (0<i2))&&(decide (x.From≤x2.To)))=true then
  some (.inr (.inl 10))
  else
  some (.inl (i64 (i2+1)))
  else
  some (.inr (.inr ()))
theorem Zgp(i:api_Instrument)(i2:Int):Le (Zcb i i2) (Q1 i i2):=by
  unfold Zcb Q1
  with_reducible repeat' (first |exact Le.refl _ |apply Le.bind |apply Le.ite |apply Le.gd |apply Zge |intro _)
noncomputable def Zdd(i:api_Instrument):Option Int:=
  (gd ((decide (i.High≤i.Low))==false) false (Zb6 i.Low)).bind fun y=>
  (gd (((decide (i.High≤i.Low)) || (!y))==false) false (Zb6 i.High)).bind fun y2=>
  (gd ((((decide (i.High≤i.Low)) || (!y)) || (!y2))==false) false (QI i.Steps 1 1000)).bind fun y3=>
  if((((decide (i.High≤i.Low)) || (!y)) || (!y2)) || (!y3))=true then
  some 9
  else
  if(decide (10<(i.Zones.length:Int)))=true then
  some 3
  else
  ((Zat (t1 (Zcb i)) 0):Option ((Int) ⊕ (Unit))).bind (Sum.elim (fun q'=>some q') (t0 (some 0)))
theorem ZhC(i:api_Instrument):Le (Zdd i) (JB i):=by
  unfold Zdd JB
  with_reducible repeat' (first |exact Le.refl _ |apply Le.bind |apply Le.ite |apply Le.gd |apply Le.loop |apply Le.t0 |apply Le.t1 |apply Le.elim |apply Zgk |apply Zae |apply Zgp |intro _)
noncomputable def ZaW(i:api_Instrument):Option Int:=
  (QI i.Kind 1 6).bind fun y=>
  if(!y)=true then
  some 7
  else
  (Zc1 i.Name).bind fun y2=>
  (gd ((!y2)==false) false (QI (i.Track.length:Int) 1 30)).bind fun y3=>
  if((!y2) || (!y3))=true then
  some 8
  else
  (ZeT i).bind fun y4=>
  if y4=true then
  some 2
  else
  (QI i.Places 0 6).bind fun y5=>
  if(!y5)=true then
  some 9
  else
  if(decide (i.Kind=2))=true then
  (Zdd i).bind fun y6=>
  some y6
  else
  ((if(decide (i.Kind=3))=true then
  some (decide (i.Kind=3))
  else
  some (decide (i.Kind=5))):Option ((Bool))).bind (t1 fun(v:Bool)=>
  if v=true then
  (QI i.Op 1 6).bind fun y7=>
  if(!y7)=true then
  some 7
  else
  (Zb6 i.N).bind fun y8=>
  if(!y8)=true then
  some 9
  else
  some 0
  else
  if(decide (i.Kind=6))=true then
  (QI i.Size 1 50).bind fun y9=>
  if(!y9)=true then
  some 9
  else
  some 0
  else
  some 0)
theorem Zfo(i:api_Instrument):Le (ZaW i) (QO i):=by
  unfold ZaW QO
  with_reducible repeat' (first |exact Le.refl _ |apply Le.bind |apply Le.ite |apply Le.gd |apply Le.t1 |apply Zae |apply Zge |apply Zjy |apply ZhC |apply Zgk |intro _)
noncomputable def Qf(s:List api_Instrument)(f:api_Instrument→Option Bool)(i:Int):Option ((Int) ⊕ (Int) ⊕ (Unit)):=
  if(decide (i<(s.length:Int)))=true then
  (idx s i).bind fun x=>
  (f x).bind fun y=>
  if y=true then
  some (.inr (.inl i))
  else
  some (.inl (i64 (i+1)))
  else
  some (.inr (.inr ()))
theorem JJ(s:List api_Instrument)(f:api_Instrument→Option Bool)(i:Int)(f':api_Instrument→Option Bool)(h_f: ∀ z0,Le (f z0) (f' z0)):Le (Qf s f i) (Zx s f' i):=by
  unfold Qf Zx
  with_reducible repeat' (first |exact Le.refl _ |apply Le.bind |apply Le.ite |apply h_f |intro _)
noncomputable def Qj(s:List api_Instrument)(f:api_Instrument→Option Bool):Option Int:=
  ((Zat (t1 (Qf s f)) 0):Option ((Int) ⊕ (Unit))).bind (Sum.elim (fun q'=>some q') (t0 (some (-1))))
theorem JY(s:List api_Instrument)(f:api_Instrument→Option Bool)(f':api_Instrument→Option Bool)(h_f: ∀ z0,Le (f z0) (f' z0)):Le (Qj s f) (ZH s f'):=by
  unfold Qj ZH
  with_reducible repeat' (first |exact Le.refl _ |apply Le.bind |apply Le.loop |apply Le.t0 |apply Le.t1 |apply Le.elim |apply JJ |apply h_f |intro _)
noncomputable def ZX(s:List api_Instrument)(f:api_Instrument→Option Bool):Option Bool:=
  (Qj s f).bind fun y=>
  some (decide (0≤y))
theorem QS(s:List api_Instrument)(f:api_Instrument→Option Bool)(f':api_Instrument→Option Bool)(h_f: ∀ z0,Le (f z0) (f' z0)):Le (ZX s f) (Zs s f'):=by
  unfold ZX Zs
  with_reducible repeat' (first |exact Le.refl _ |apply Le.bind |apply JY |apply h_f |intro _)
noncomputable def ZdU(x:api_Instrument)(c0:api_Instrument):Option Bool:=
  some (decide (x.Name=c0.Name))
theorem ZiB(x:api_Instrument)(c0:api_Instrument):Le (ZdU x c0) (ZbH x c0):=by
  unfold ZdU ZbH
  with_reducible repeat' (first |exact Le.refl _ |apply Le.bind |intro _)
noncomputable def Zdu(p:api_Panel)(i:Int):Option ((Int) ⊕ (Int) ⊕ (Unit)):=
  if(decide (i<(p.Instruments.length:Int)))=true then
  (idx p.Instruments i).bind fun x=>
  (ZaW x).bind fun y=>
  if(!decide (y=0))=true then
  some (.inr (.inl y))
  else
  (slc p.Instruments 0 i).bind fun l=>
  (ZX l (fun z0=>ZdU z0 x)).bind fun y2=>
  if y2=true then
  some (.inr (.inl 5))
  else
  some (.inl (i64 (i+1)))
  else
  some (.inr (.inr ()))
theorem Zh9(p:api_Panel)(i:Int):Le (Zdu p i) (Jq p i):=by
  unfold Zdu Jq
  with_reducible repeat' (first |exact Le.refl _ |apply Le.bind |apply Le.ite |apply Zfo |apply QS |apply ZiB |intro _)
noncomputable def Zfe(p:api_Panel):Option Int:=
  if(decide (100<(p.Instruments.length:Int)))=true then
  some 3
  else
  ((Zat (t1 (Zdu p)) 0):Option ((Int) ⊕ (Unit))).bind (Sum.elim (fun q'=>some q') (t0 (some 0)))
theorem ZjU(p:api_Panel):Le (Zfe p) (Zb3 p):=by
  unfold Zfe Zb3
  with_reducible repeat' (first |exact Le.refl _ |apply Le.bind |apply Le.ite |apply Le.loop |apply Le.t0 |apply Le.t1 |apply Le.elim |apply Zh9 |intro _)
noncomputable def Zc7(n:Int)(low:Int)(high:Int):Option Bool:=
  some ((decide (low≤n))&&(decide (n≤high)))
theorem Zgd(n:Int)(low:Int)(high:Int):Le (Zc7 n low high) (Zao n low high):=by
  unfold Zc7 Zao
  with_reducible repeat' (first |exact Le.refl _ |apply Le.bind |intro _)
noncomputable def ZeQ(s:Str):Option Bool:=
  ((if(decide (s= [112,104,97,115,101]))=true then
  some (decide (s= [112,104,97,115,101]))
  else
  if(decide (s= [109,111,118,101]))=true then
  some (decide (s= [109,111,118,101]))
  else
  if(decide (s= [114,117,108,101]))=true then
  some (decide (s= [114,117,108,101]))
  else
  if(decide (s= [105,102]))=true then
  some (decide (s= [105,102]))
  else
  if(decide (s= [111,114]))=true then
  some (decide (s= [111,114]))
  else
  if(decide (s= [97,110,100]))=true then
  some (decide (s= [97,110,100]))
  else
  if(decide (s= [116,114,117,101]))=true then
  some (decide (s= [116,114,117,101]))
  else
  if(decide (s= [102,97,108,115,101]))=true then
  some (decide (s= [102,97,108,115,101]))
  else
  if(decide (s= [115,116,101,97,100,121]))=true then
  some (decide (s= [115,116,101,97,100,121]))
  else
  if(decide (s= [110,111,116]))=true then
  some (decide (s= [110,111,116]))
  else
  if(decide (s= [102,111,114]))=true then
  some (decide (s= [102,111,114]))
  else
  if(decide (s= [119,105,116,104,105,110]))=true then
  some (decide (s= [119,105,116,104,105,110]))
  else
  if(decide (s= [99,111,117,110,116]))=true then
  some (decide (s= [99,111,117,110,116]))
  else
  if(decide (s= [111,102]))=true then
  some (decide (s= [111,102]))
  else
  if(decide (s= [114,105,115,101,115]))=true then
  some (decide (s= [114,105,115,101,115]))
  else
  some (decide (s= [115,105,110,99,101]))):Option ((Bool))).bind (t1 fun(v:Bool)=>
  if v=true then
  some true
  else
  some false)
theorem Zjo(s:Str):Le (ZeQ s) (Zbr s):=by
  unfold ZeQ Zbr
  with_reducible repeat' (first |exact Le.refl _ |apply Le.bind |apply Le.ite |apply Le.t1 |intro _)
noncomputable def Zdt(c_:Int):Option Bool:=
  some ((((decide (97≤c_))&&(decide (c_≤122))) || ((decide (48≤c_))&&(decide (c_≤57)))) || (decide (c_=45)))
theorem Zh7(c_:Int):Le (Zdt c_) (Za0 c_):=by
  unfold Zdt Za0
  with_reducible repeat' (first |exact Le.refl _ |apply Le.bind |intro _)
noncomputable def Zda(s:Str)(i:Int):Option ((Int) ⊕ (Bool) ⊕ (Unit)):=
  if(decide (i<(s.length:Int)))=true then
  (Zaz s i).bind fun b3=>
  (Zdt b3).bind fun y3=>
  if(!y3)=true then
  some (.inr (.inl false))
  else
  some (.inl (i64 (i+1)))
  else
  some (.inr (.inr ()))
theorem Zhv(s:Str)(i:Int):Le (Zda s i) (XU s i):=by
  unfold Zda XU
  with_reducible repeat' (first |exact Le.refl _ |apply Le.bind |apply Le.ite |apply Zh7 |intro _)
noncomputable def Zes(s:Str):Option Bool:=
  (Zc7 (s.length:Int) 1 30).bind fun y=>
  (gd ((!y)==false) 0 (Zaz s 0)).bind fun b=>
  (gd (((!y) || (decide (b<97)))==false) 0 (Zaz s 0)).bind fun b2=>
  (gd ((((!y) || (decide (b<97))) || (decide (122<b2)))==false) false (ZeQ s)).bind fun y2=>
  if((((!y) || (decide (b<97))) || (decide (122<b2))) || y2)=true then
  some false
  else
  ((Zat (t1 (Zda s)) 0):Option ((Bool) ⊕ (Unit))).bind (Sum.elim (fun q'=>some q') (t0 (some true)))
theorem Zjf(s:Str):Le (Zes s) (Zbh s):=by
  unfold Zes Zbh
  with_reducible repeat' (first |exact Le.refl _ |apply Le.bind |apply Le.ite |apply Le.gd |apply Le.loop |apply Le.t0 |apply Le.t1 |apply Le.elim |apply Zgd |apply Zjo |apply Zhv |intro _)
noncomputable def QJ(s:List api_Track)(f:api_Track→Option Bool)(i:Int):Option ((Int) ⊕ (Int) ⊕ (Unit)):=
  if(decide (i<(s.length:Int)))=true then
  (idx s i).bind fun x=>
  (f x).bind fun y=>
  if y=true then
  some (.inr (.inl i))
  else
  some (.inl (i64 (i+1)))
  else
  some (.inr (.inr ()))
theorem Zbn(s:List api_Track)(f:api_Track→Option Bool)(i:Int)(f':api_Track→Option Bool)(h_f: ∀ z0,Le (f z0) (f' z0)):Le (QJ s f i) (Zt s f' i):=by
  unfold QJ Zt
  with_reducible repeat' (first |exact Le.refl _ |apply Le.bind |apply Le.ite |apply h_f |intro _)
noncomputable def Ql(s:List api_Track)(f:api_Track→Option Bool):Option Int:=
  ((Zat (t1 (QJ s f)) 0):Option ((Int) ⊕ (Unit))).bind (Sum.elim (fun q'=>some q') (t0 (some (-1))))
theorem X8(s:List api_Track)(f:api_Track→Option Bool)(f':api_Track→Option Bool)(h_f: ∀ z0,Le (f z0) (f' z0)):Le (Ql s f) (ZJ s f'):=by
  unfold Ql ZJ
  with_reducible repeat' (first |exact Le.refl _ |apply Le.bind |apply Le.loop |apply Le.t0 |apply Le.t1 |apply Le.elim |apply Zbn |apply h_f |intro _)
noncomputable def QL(s:List api_Track)(f:api_Track→Option Bool):Option Bool:=
  (Ql s f).bind fun y=>
  some (decide (0≤y))
theorem Zbg(s:List api_Track)(f:api_Track→Option Bool)(f':api_Track→Option Bool)(h_f: ∀ z0,Le (f z0) (f' z0)):Le (QL s f) (ZF s f'):=by
  unfold QL ZF
  with_reducible repeat' (first |exact Le.refl _ |apply Le.bind |apply X8 |apply h_f |intro _)
noncomputable def ZbL(x:api_Track)(c0:api_Track):Option Bool:=
  some (decide (x.Name=c0.Name))
theorem Zgb(x:api_Track)(c0:api_Track):Le (ZbL x c0) (XQ x c0):=by
  unfold ZbL XQ
  with_reducible repeat' (first |exact Le.refl _ |apply Le.bind |intro _)
noncomputable def Zac(n:Int)(low:Int)(high:Int):Option Bool:=
  some ((decide (low≤n))&&(decide (n≤high)))
theorem ZfG(n:Int)(low:Int)(high:Int):Le (Zac n low high) (Jf n low high):=by
  unfold Zac Jf
  with_reducible repeat' (first |exact Le.refl _ |apply Le.bind |intro _)
noncomputable def Zc3(s:api_Series)(i:Int):Option ((Int) ⊕ (Int×Int) ⊕ (Unit)):=
  if(decide (i<(s.Samples.length:Int)))=true then
  (idx s.Samples i).bind fun x=>
  (Zac x.At 0 1099511627776).bind fun y2=>
  (gd ((!y2)==false) false (Zac x.N (-1125899906842624) 1125899906842624)).bind fun y3=>
  (gd (((!y2) || (!y3))==false) false (Zac x.Mark 0 4)).bind fun y4=>
  if(((!y2) || (!y3)) || (!y4))=true then
  some (.inr (.inl (i,9)))
  else
  if((!decide (x.N=0))&&(decide (x.Mark≤1)))=true then
  some (.inr (.inl (i,2)))
  else
  (gd ((decide (0<i))==true) (api_Sample.mk 0 0 0) (idx s.Samples (i64 (i-1)))).bind fun x2=>
  if((decide (0<i))&&(decide (x.At≤x2.At)))=true then
  some (.inr (.inl (i,10)))
  else
  some (.inl (i64 (i+1)))
  else
  some (.inr (.inr ()))
theorem ZhG(s:api_Series)(i:Int):Le (Zc3 s i) (JA s i):=by
  unfold Zc3 JA
  with_reducible repeat' (first |exact Le.refl _ |apply Le.bind |apply Le.ite |apply Le.gd |apply ZfG |intro _)
noncomputable def ZeO(s:api_Series):Option (Int×Int):=
  (Zac s.Den 1 1000000).bind fun y=>
  if(!y)=true then
  some ((-1),9)
  else
  if(decide (20000<(s.Samples.length:Int)))=true then
  some ((-1),3)
  else
  ((Zat (t1 (Zc3 s)) 0):Option ((Int×Int) ⊕ (Unit))).bind (Sum.elim (fun q'=>some q') (t0 (some ((-1),0))))
theorem Zjg(s:api_Series):Le (ZeO s) (Zba s):=by
  unfold ZeO Zba
  with_reducible repeat' (first |exact Le.refl _ |apply Le.bind |apply Le.ite |apply Le.loop |apply Le.t0 |apply Le.t1 |apply Le.elim |apply ZfG |apply ZhG |intro _)
noncomputable def ZeR(s:api_Series):Option Int:=
  (ZeO s).bind fun y=>
  some y.2
theorem Zjp(s:api_Series):Le (ZeR s) (Zbf s):=by
  unfold ZeR Zbf
  with_reducible repeat' (first |exact Le.refl _ |apply Le.bind |apply Zjg |intro _)
noncomputable def Zbt(l:List api_Track)(i:Int):Option ((Int) ⊕ (Int) ⊕ (Unit)):=
  if(decide (i<(l.length:Int)))=true then
  (idx l i).bind fun x=>
  (Zes x.Name).bind fun y=>
  if(!y)=true then
  some (.inr (.inl 8))
  else
  (slc l 0 i).bind fun l2=>
  (QL l2 (fun z0=>ZbL z0 x)).bind fun y2=>
  if y2=true then
  some (.inr (.inl 5))
  else
  (ZeR x.Series).bind fun y3=>
  if(!decide (y3=0))=true then
  some (.inr (.inl y3))
  else
  (Zc7 x.Long 0 1099511627776).bind fun y4=>
  if(!y4)=true then
  some (.inr (.inl 9))
  else
  some (.inl (i64 (i+1)))
  else
  some (.inr (.inr ()))
theorem ZfR(l:List api_Track)(i:Int):Le (Zbt l i) (QD l i):=by
  unfold Zbt QD
  with_reducible repeat' (first |exact Le.refl _ |apply Le.bind |apply Le.ite |apply Zjf |apply Zbg |apply Zgb |apply Zjp |apply Zgd |intro _)
noncomputable def Zcn(l:List api_Track):Option Int:=
  if(decide (50<(l.length:Int)))=true then
  some 3
  else
  ((Zat (t1 (Zbt l)) 0):Option ((Int) ⊕ (Unit))).bind (Sum.elim (fun q'=>some q') (t0 (some 0)))
theorem Zgv(l:List api_Track):Le (Zcn l) (XK l):=by
  unfold Zcn XK
  with_reducible repeat' (first |exact Le.refl _ |apply Le.bind |apply Le.ite |apply Le.loop |apply Le.t0 |apply Le.t1 |apply Le.elim |apply ZfR |intro _)
noncomputable def Zc5(t:api_Track)(c0:api_Instrument):Option Bool:=
  some (decide (t.Name=c0.Track))
theorem ZhX(t:api_Track)(c0:api_Instrument):Le (Zc5 t c0) (JC t c0):=by
  unfold Zc5 JC
  with_reducible repeat' (first |exact Le.refl _ |apply Le.bind |intro _)
noncomputable def Zbz(l:List api_Track)(i:api_Instrument):Option Int:=
  (Ql l (fun z0=>Zc5 z0 i)).bind fun y=>
  some y
theorem Zdl(l:List api_Track)(i:api_Instrument):Le (Zbz l i) (Q4 l i):=by
  unfold Zbz Q4
  with_reducible repeat' (first |exact Le.refl _ |apply Le.bind |apply X8 |apply ZhX |intro _)
noncomputable def Zco(i:api_Instrument)(c0:List api_Track):Option Bool:=
  (Zbz c0 i).bind fun y=>
  some (decide (y<0))
theorem ZgS(i:api_Instrument)(c0:List api_Track):Le (Zco i c0) (XL i c0):=by
  unfold Zco XL
  with_reducible repeat' (first |exact Le.refl _ |apply Le.bind |apply Zdl |intro _)
noncomputable def Zdf(p:api_Panel)(l:List api_Track):Option Int:=
  (Zfe p).bind fun y=>
  if(!decide (y=0))=true then
  some y
  else
  (Zcn l).bind fun y2=>
  if(!decide (y2=0))=true then
  some y2
  else
  (ZX p.Instruments (fun z0=>Zco z0 l)).bind fun y3=>
  if y3=true then
  some 4
  else
  some 0
theorem Zh0(p:api_Panel)(l:List api_Track):Le (Zdf p l) (Jy p l):=by
  unfold Zdf Jy
  with_reducible repeat' (first |exact Le.refl _ |apply Le.bind |apply Le.ite |apply ZjU |apply Zgv |apply QS |apply ZgS |intro _)
noncomputable def ZbX(y:List api_Instrument)(Instruments2:List api_Instrument)(i:Int):Option (((List api_Instrument)×Int) ⊕ ((List api_Instrument))):=
  if(decide (i<(y.length:Int)))=true then
  (idx Instruments2 i).bind fun x=>
  (ZaX x.Zones).bind fun y2=>
  (idx Instruments2 i).bind fun x2=>
  some (.inl ((Instruments2.set i.toNat (api_Instrument.mk x2.Kind x2.Name x2.Track x2.Places x2.Low x2.High x2.Steps y2 x2.Op x2.N x2.Latch x2.Size)),(i64 (i+1))))
  else
  some (.inr Instruments2)
theorem Zgq(y:List api_Instrument)(Instruments2:List api_Instrument)(i:Int):Le (ZbX y Instruments2 i) (Q3 y Instruments2 i):=by
  unfold ZbX Q3
  with_reducible repeat' (first |exact Le.refl _ |apply Le.bind |apply Le.ite |intro _)
noncomputable def Zc8(p:api_Panel):Option api_Panel:=
  (ZaX p.Instruments).bind fun y=>
  ((Zat (t2 (ZbX y)) (y,0)):Option (((List api_Instrument)))).bind (t1 fun(Instruments:List api_Instrument)=>
  some (api_Panel.mk Instruments))
theorem ZhN(p:api_Panel):Le (Zc8 p) (XT p):=by
  unfold Zc8 XT
  with_reducible repeat' (first |exact Le.refl _ |apply Le.bind |apply Le.loop |apply Le.t1 |apply Le.t2 |apply Zgq |intro _)
noncomputable def ZbO(y:List api_Track)(out2:List api_Track)(i:Int):Option (((List api_Track)×Int) ⊕ ((List api_Track))):=
  if(decide (i<(y.length:Int)))=true then
  (idx out2 i).bind fun x=>
  (ZaX x.Series.Samples).bind fun y2=>
  (idx out2 i).bind fun x2=>
  some (.inl ((out2.set i.toNat (api_Track.mk x2.Name (api_Series.mk x2.Series.Den y2) x2.Long)),(i64 (i+1))))
  else
  some (.inr out2)
theorem Zf9(y:List api_Track)(out2:List api_Track)(i:Int):Le (ZbO y out2 i) (QN y out2 i):=by
  unfold ZbO QN
  with_reducible repeat' (first |exact Le.refl _ |apply Le.bind |apply Le.ite |intro _)
noncomputable def ZcE(l:List api_Track):Option (List api_Track):=
  (ZaX l).bind fun y=>
  ((Zat (t2 (ZbO y)) (y,0)):Option (((List api_Track)))).bind (t1 fun(out:List api_Track)=>
  some out)
theorem Zhf(l:List api_Track):Le (ZcE l) (Xn l):=by
  unfold ZcE Xn
  with_reducible repeat' (first |exact Le.refl _ |apply Le.bind |apply Le.loop |apply Le.t1 |apply Le.t2 |apply Zf9 |intro _)
noncomputable def Zfm(p:api_Panel):Option api_PanelState:=
  (mks (p.Instruments.length:Int) (api_Memo.mk false false 0 0 [])).bind fun l=>
  some (api_PanelState.mk (-1) l)
theorem Zj5(p:api_Panel):Le (Zfm p) (XS p):=by
  unfold Zfm XS
  with_reducible repeat' (first |exact Le.refl _ |apply Le.bind |intro _)
noncomputable def Zgt(p:api_Panel)(l:List api_Track)(keep:Int):Option ((Int) ⊕ (panel_Replay×Int)):=
  (Zdf p l).bind fun y=>
  if(!decide (y=0))=true then
  some (Sum.inl y)
  else
  (QI keep 1 1000).bind fun y2=>
  if(!y2)=true then
  some (Sum.inl 9)
  else
  (Zc8 p).bind fun y3=>
  (ZcE l).bind fun y4=>
  (Zfm p).bind fun y5=>
  some (Sum.inr ((panel_Replay.mk y3 y4 keep y5 [] []),0))
theorem ZlA(p:api_Panel)(l:List api_Track)(keep:Int):Le (Zgt p l keep) (Zad p l keep):=by
  unfold Zgt Zad
  with_reducible repeat' (first |exact Le.refl _ |apply Le.bind |apply Le.ite |apply Le.elim |apply Zh0 |apply Zae |apply ZhN |apply Zhf |apply Zj5 |intro _)
noncomputable def Z7(x:List api_Sample)(target:Int)(cmp:api_Sample→Int→Option Int)(i2:Int)(j:Int):Option ((Int×Int) ⊕ (Int)):=
  if(decide (i2<j))=true then
  (shr .u64 (u64 (i64 (i2+j))) 1).bind fun q=>
  (idx x (i64 q)).bind fun x2=>
  (cmp x2 target).bind fun y=>
  if(decide (y<0))=true then
  some (.inl ((i64 ((i64 q)+1)),j))
  else
  some (.inl (i2,(i64 q)))
  else
  some (.inr i2)
theorem Js(x:List api_Sample)(target:Int)(cmp:api_Sample→Int→Option Int)(i2:Int)(j:Int)(cmp':api_Sample→Int→Option Int)(h_cmp: ∀ z0 z1,Le (cmp z0 z1) (cmp' z0 z1)):Le (Z7 x target cmp i2 j) (Zy x target cmp' i2 j):=by
  unfold Z7 Zy
  with_reducible repeat' (first |exact Le.refl _ |apply Le.bind |apply Le.ite |apply h_cmp |intro _)
noncomputable def Qg(x:List api_Sample)(target:Int)(cmp:api_Sample→Int→Option Int):Option (Int×Bool):=
  ((Zat (t2 (Z7 x target cmp)) (0,(x.length:Int))):Option ((Int))).bind (t1 fun(i:Int)=>
  (gd ((decide (i<(x.length:Int)))==true) (api_Sample.mk 0 0 0) (idx x i)).bind fun x3=>
  (gd ((decide (i<(x.length:Int)))==true) 0 (cmp x3 target)).bind fun y2=>
  some (i,((decide (i<(x.length:Int)))&&(decide (y2=0)))))
theorem JI(x:List api_Sample)(target:Int)(cmp:api_Sample→Int→Option Int)(cmp':api_Sample→Int→Option Int)(h_cmp: ∀ z0 z1,Le (cmp z0 z1) (cmp' z0 z1)):Le (Qg x target cmp) (ZC x target cmp'):=by
  unfold Qg ZC
  with_reducible repeat' (first |exact Le.refl _ |apply Le.bind |apply Le.gd |apply Le.loop |apply Le.t1 |apply Le.t2 |apply Js |apply h_cmp |intro _)
noncomputable def Zc6(x:api_Sample)(at_:Int):Option Int:=
  some (i64 (x.At-at_))
theorem ZhM(x:api_Sample)(at_:Int):Le (Zc6 x at_) (Xh x at_):=by
  unfold Zc6 Xh
  with_reducible repeat' (first |exact Le.refl _ |apply Le.bind |intro _)
noncomputable def Zd5(s:api_Series)(at_:Int):Option Int:=
  (Qg s.Samples at_ (fun z0 z1=>Zc6 z0 z1)).bind fun y=>
  if y.2=true then
  some y.1
  else
  some (i64 (y.1-1))
theorem ZiC(s:api_Series)(at_:Int):Le (Zd5 s at_) (ZaB s at_):=by
  unfold Zd5 ZaB
  with_reducible repeat' (first |exact Le.refl _ |apply Le.bind |apply Le.ite |apply JI |apply ZhM |intro _)
noncomputable def Zeu(x:api_Sample):Option Bool:=
  some (decide (3≤x.Mark))
theorem Zju(x:api_Sample):Le (Zeu x) (Zci x):=by
  unfold Zeu Zci
  with_reducible repeat' (first |exact Le.refl _ |apply Le.bind |intro _)
noncomputable def Zfq(s:api_Series)(at_:Int)(long:Int):Option (api_Sample×Bool):=
  (Zd5 s at_).bind fun y=>
  (gd ((decide (y<0))==false) (api_Sample.mk 0 0 0) (idx s.Samples y)).bind fun x=>
  (gd ((decide (y<0))==false) false (Zeu x)).bind fun y2=>
  (gd (((decide (y<0)) || (!y2))==false) (api_Sample.mk 0 0 0) (idx s.Samples y)).bind fun x2=>
  if(((decide (y<0)) || (!y2)) || (decide (long<(i64 (at_-x2.At)))))=true then
  some ((api_Sample.mk 0 0 0),false)
  else
  (idx s.Samples y).bind fun x3=>
  some (x3,true)
theorem Zj3(s:api_Series)(at_:Int)(long:Int):Le (Zfq s at_ long) (Zcc s at_ long):=by
  unfold Zfq Zcc
  with_reducible repeat' (first |exact Le.refl _ |apply Le.bind |apply Le.ite |apply Le.gd |apply ZiC |apply Zju |intro _)
noncomputable def Zfg(s:api_Series)(at_:Int)(long:Int):Option (api_Sample×Bool):=
  (Zfq s at_ long).bind fun y=>
  some (y.1,y.2)
theorem ZjR(s:api_Series)(at_:Int)(long:Int):Le (Zfg s at_ long) (ZcR s at_ long):=by
  unfold Zfg ZcR
  with_reducible repeat' (first |exact Le.refl _ |apply Le.bind |apply Zj3 |intro _)
noncomputable def ZdF(t:api_Track)(frame:Int):Option (api_Sample×Bool):=
  (Zfg t.Series (i64 ((i64 ((i64 (64*frame))+64))-1)) t.Long).bind fun y=>
  some (y.1,y.2)
theorem ZgQ(t:api_Track)(frame:Int):Le (ZdF t frame) (Zak t frame):=by
  unfold ZdF Zak
  with_reducible repeat' (first |exact Le.refl _ |apply Le.bind |apply ZjR |intro _)
noncomputable def Zfi(op:Int)(a:Int)(b:Int):Option Bool:=
  if(decide (op=1))=true then
  some (decide (a<b))
  else
  if(decide (op=2))=true then
  some (decide (a≤b))
  else
  if(decide (op=3))=true then
  some (decide (a=b))
  else
  if(decide (op=4))=true then
  some (!decide (a=b))
  else
  if(decide (op=5))=true then
  some (decide (b≤a))
  else
  some (decide (b<a))
theorem Zke(op:Int)(a:Int)(b:Int):Le (Zfi op a b) (Za3 op a b):=by
  unfold Zfi Za3
  with_reducible repeat' (first |exact Le.refl _ |apply Le.bind |apply Le.ite |intro _)
noncomputable def ZcG(out2:List Int)(i:Int):Option (((List Int)×Int) ⊕ ((List Int))):=
  if(decide ((i64 (i+2))≤(out2.length:Int)))=true then
  (slp out2 i (i64 (i+2))).bind fun u=>
  (ck (decide (2≤Int.toNat ((i64 (i+2))-i)))).bind fun u2=>
  (ck (decide ((0:Int)≤1)&&decide (1<(2:Int)))).bind fun u3=>
  (idx out2 (i+1)).bind fun x=>
  (ck (decide ((0:Int)≤0)&&decide (0<(2:Int)))).bind fun u4=>
  (idx out2 (i+0)).bind fun x2=>
  some (.inl ((out2.set (i+0).toNat x),(i64 (i+1))))
  else
  some (.inr out2)
theorem Zhh(out2:List Int)(i:Int):Le (ZcG out2 i) (Xl out2 i):=by
  unfold ZcG Xl
  with_reducible repeat' (first |exact Le.refl _ |apply Le.bind |apply Le.ite |intro _)
noncomputable def ZdW(tape:List Int)(size:Int)(n:Int):Option (List Int):=
  (ZaX tape).bind fun y=>
  (app y ([n]:List Int)).bind fun l=>
  if(decide ((l.length:Int)≤size))=true then
  some l
  else
  ((Zat (t2 (ZcG)) (l,0)):Option (((List Int)))).bind (t1 fun(out:List Int)=>
  (slc out 0 (i64 ((out.length:Int)-1))).bind fun l2=>
  some l2)
theorem ZiZ(tape:List Int)(size:Int)(n:Int):Le (ZdW tape size n) (ZaA tape size n):=by
  unfold ZdW ZaA
  with_reducible repeat' (first |exact Le.refl _ |apply Le.bind |apply Le.ite |apply Le.loop |apply Le.t1 |apply Le.t2 |apply Zhh |intro _)
noncomputable def ZbY(i:api_Instrument)(m:api_Memo)(n:Int)(known:Bool):Option api_Memo:=
  (gd ((known&&((decide (i.Kind=3)) || (decide (i.Kind=5))))==true) false (Zfi i.Op n i.N)).bind fun y=>
  ((if(decide (i.Kind=3))=true then
  some (api_Memo.mk (((known&&((decide (i.Kind=3)) || (decide (i.Kind=5))))&&y) || (i.Latch&&m.Lit)) m.Some m.N m.Count m.Tape)
  else
  if(decide (i.Kind=5))=true then
  if(((known&&((decide (i.Kind=3)) || (decide (i.Kind=5))))&&y)&&(!m.Lit))=true then
  some (api_Memo.mk ((known&&((decide (i.Kind=3)) || (decide (i.Kind=5))))&&y) m.Some m.N (i64 (m.Count+1)) m.Tape)
  else
  some (api_Memo.mk ((known&&((decide (i.Kind=3)) || (decide (i.Kind=5))))&&y) m.Some m.N m.Count m.Tape)
  else
  if((decide (i.Kind=4))&&known)=true then
  ((if m.Some=true then
  some (max n m.N)
  else
  some n):Option ((Int))).bind (t1 fun(n2:Int)=>
  some (api_Memo.mk m.Lit true n2 m.Count m.Tape))
  else
  if((decide (i.Kind=6))&&known)=true then
  (ZdW m.Tape i.Size n).bind fun y2=>
  some (api_Memo.mk m.Lit m.Some m.N m.Count y2)
  else
  some m):Option ((api_Memo))).bind (t1 fun(m2:api_Memo)=>
  some m2)
theorem Zgr(i:api_Instrument)(m:api_Memo)(n:Int)(known:Bool):Le (ZbY i m n known) (Xj i m n known):=by
  unfold ZbY Xj
  with_reducible repeat' (first |exact Le.refl _ |apply Le.bind |apply Le.ite |apply Le.gd |apply Le.t1 |apply Zke |apply ZiZ |intro _)
noncomputable def ZcH(p:api_Panel)(l:List api_Track)(s:api_PanelState)(Memos2:List api_Memo)(i:Int):Option (((List api_Memo)×Int) ⊕ ((List api_Memo))):=
  if(decide (i<(p.Instruments.length:Int)))=true then
  (idx p.Instruments i).bind fun x=>
  (Zbz l x).bind fun y=>
  (idx l y).bind fun x2=>
  (ZdF x2 (i64 (s.Frame+1))).bind fun y2=>
  (idx s.Memos i).bind fun x3=>
  (ZaX x3.Tape).bind fun y3=>
  (ZbY x (api_Memo.mk x3.Lit x3.Some x3.N x3.Count y3) y2.1.N y2.2).bind fun y4=>
  (app Memos2 ([y4]:List api_Memo)).bind fun l2=>
  some (.inl (l2,(i64 (i+1))))
  else
  some (.inr Memos2)
theorem Zhb(p:api_Panel)(l:List api_Track)(s:api_PanelState)(Memos2:List api_Memo)(i:Int):Le (ZcH p l s Memos2 i) (Xr p l s Memos2 i):=by
  unfold ZcH Xr
  with_reducible repeat' (first |exact Le.refl _ |apply Le.bind |apply Le.ite |apply Zdl |apply ZgQ |apply Zgr |intro _)
noncomputable def Zd1(p:api_Panel)(l:List api_Track)(s:api_PanelState):Option api_PanelState:=
  ((Zat (t2 (ZcH p l s)) ([],0)):Option (((List api_Memo)))).bind (t1 fun(Memos:List api_Memo)=>
  some (api_PanelState.mk (i64 (s.Frame+1)) Memos))
theorem ZiK(p:api_Panel)(l:List api_Track)(s:api_PanelState):Le (Zd1 p l s) (Jb p l s):=by
  unfold Zd1 Jb
  with_reducible repeat' (first |exact Le.refl _ |apply Le.bind |apply Le.loop |apply Le.t1 |apply Le.t2 |apply Zhb |intro _)
noncomputable def ZZ(x:List api_PanelState)(target:Int)(cmp:api_PanelState→Int→Option Int)(i2:Int)(j:Int):Option ((Int×Int) ⊕ (Int)):=
  if(decide (i2<j))=true then
  (shr .u64 (u64 (i64 (i2+j))) 1).bind fun q=>
  (idx x (i64 q)).bind fun x2=>
  (cmp x2 target).bind fun y=>
  if(decide (y<0))=true then
  some (.inl ((i64 ((i64 q)+1)),j))
  else
  some (.inl (i2,(i64 q)))
  else
  some (.inr i2)
theorem XD(x:List api_PanelState)(target:Int)(cmp:api_PanelState→Int→Option Int)(i2:Int)(j:Int)(cmp':api_PanelState→Int→Option Int)(h_cmp: ∀ z0 z1,Le (cmp z0 z1) (cmp' z0 z1)):Le (ZZ x target cmp i2 j) (Zv x target cmp' i2 j):=by
  unfold ZZ Zv
  with_reducible repeat' (first |exact Le.refl _ |apply Le.bind |apply Le.ite |apply h_cmp |intro _)
noncomputable def Z2(x:List api_PanelState)(target:Int)(cmp:api_PanelState→Int→Option Int):Option (Int×Bool):=
  ((Zat (t2 (ZZ x target cmp)) (0,(x.length:Int))):Option ((Int))).bind (t1 fun(i:Int)=>
  (gd ((decide (i<(x.length:Int)))==true) (api_PanelState.mk 0 []) (idx x i)).bind fun x3=>
  (gd ((decide (i<(x.length:Int)))==true) 0 (cmp x3 target)).bind fun y2=>
  some (i,((decide (i<(x.length:Int)))&&(decide (y2=0)))))
theorem XX(x:List api_PanelState)(target:Int)(cmp:api_PanelState→Int→Option Int)(cmp':api_PanelState→Int→Option Int)(h_cmp: ∀ z0 z1,Le (cmp z0 z1) (cmp' z0 z1)):Le (Z2 x target cmp) (ZA x target cmp'):=by
  unfold Z2 ZA
  with_reducible repeat' (first |exact Le.refl _ |apply Le.bind |apply Le.gd |apply Le.loop |apply Le.t1 |apply Le.t2 |apply XD |apply h_cmp |intro _)
noncomputable def ZaR(s:api_PanelState)(frame:Int):Option Int:=
  some (i64 (s.Frame-frame))
theorem Zfb(s:api_PanelState)(frame:Int):Le (ZaR s frame) (Qs s frame):=by
  unfold ZaR Qs
  with_reducible repeat' (first |exact Le.refl _ |apply Le.bind |intro _)
noncomputable def ZbN(r_:panel_Replay)(frame:Int):Option (Int×Bool):=
  (Z2 r_.kept frame (fun z0 z1=>ZaR z0 z1)).bind fun y=>
  some (y.1,y.2)
theorem Zf4(r_:panel_Replay)(frame:Int):Le (ZbN r_ frame) (Qb r_ frame):=by
  unfold ZbN Qb
  with_reducible repeat' (first |exact Le.refl _ |apply Le.bind |apply XX |apply Zfb |intro _)
noncomputable def Zb9(y:List api_Memo)(Memos2:List api_Memo)(i:Int):Option (((List api_Memo)×Int) ⊕ ((List api_Memo))):=
  if(decide (i<(y.length:Int)))=true then
  (idx Memos2 i).bind fun x=>
  (ZaX x.Tape).bind fun y2=>
  (idx Memos2 i).bind fun x2=>
  some (.inl ((Memos2.set i.toNat (api_Memo.mk x2.Lit x2.Some x2.N x2.Count y2)),(i64 (i+1))))
  else
  some (.inr Memos2)
theorem Zgs(y:List api_Memo)(Memos2:List api_Memo)(i:Int):Le (Zb9 y Memos2 i) (QF y Memos2 i):=by
  unfold Zb9 QF
  with_reducible repeat' (first |exact Le.refl _ |apply Le.bind |apply Le.ite |intro _)
noncomputable def Zdh(s:api_PanelState):Option api_PanelState:=
  (ZaX s.Memos).bind fun y=>
  ((Zat (t2 (Zb9 y)) (y,0)):Option (((List api_Memo)))).bind (t1 fun(Memos:List api_Memo)=>
  some (api_PanelState.mk s.Frame Memos))
theorem Zhx(s:api_PanelState):Le (Zdh s) (Qk s):=by
  unfold Zdh Qk
  with_reducible repeat' (first |exact Le.refl _ |apply Le.bind |apply Le.loop |apply Le.t1 |apply Le.t2 |apply Zgs |intro _)
noncomputable def JD(r_:panel_Replay)(n:Int)(state:api_PanelState)(kept:List api_PanelState)(i:Int):Option ((api_PanelState×(List api_PanelState)×Int) ⊕ (panel_Replay)):=
  if(decide (i<n))=true then
  (((Zd1 r_.p r_.l state).bind fun y=>
  (rem y.Frame r_.keep).bind fun q=>
  if(!decide (q=(i64 (r_.keep-1))))=true then
  some (y.Frame,y.Memos,kept)
  else
  (ZbN (panel_Replay.mk r_.p r_.l r_.keep y kept r_.marks) y.Frame).bind fun y2=>
  if(!y2.2)=true then
  (Zdh y).bind fun y3=>
  (ins kept y2.1 ([y3]:List api_PanelState)).bind fun l=>
  some (y.Frame,y.Memos,l)
  else
  some (y.Frame,y.Memos,kept)):Option ((Int×(List api_Memo)×(List api_PanelState)))).bind (t3 fun(Frame:Int) (Memos:List api_Memo) (kept2:List api_PanelState)=>
  some (.inl ((api_PanelState.mk Frame Memos),kept2,(i64 (i+1)))))
  else
  some (.inr (panel_Replay.mk r_.p r_.l r_.keep state kept r_.marks))
theorem ZdN(r_:panel_Replay)(n:Int)(state:api_PanelState)(kept:List api_PanelState)(i:Int):Le (JD r_ n state kept i) (XG r_ n state kept i):=by
  unfold JD XG
  with_reducible repeat' (first |exact Le.refl _ |apply Le.bind |apply Le.ite |apply Le.t3 |apply ZiK |apply Zf4 |apply Zhx |intro _)
noncomputable def J5(r_:panel_Replay)(n:Int):Option panel_Replay:=
  Zat (t3 (JD r_ n)) (r_.state,r_.kept,0)
theorem Zet(r_:panel_Replay)(n:Int):Le (J5 r_ n) (Xu r_ n):=by
  unfold J5 Xu
  with_reducible repeat' (first |exact Le.refl _ |apply Le.bind |apply Le.loop |apply Le.t3 |apply ZdN |intro _)
noncomputable def Zbi(r_:panel_Replay)(n:Int):Option (Int×panel_Replay):=
  if((decide (n<0)) || (decide ((i64 (19999-r_.state.Frame))<n)))=true then
  some (9,r_)
  else
  (J5 r_ n).bind fun y=>
  some (0,y)
theorem ZfS(r_:panel_Replay)(n:Int):Le (Zbi r_ n) (Qc r_ n):=by
  unfold Zbi Qc
  with_reducible repeat' (first |exact Le.refl _ |apply Le.bind |apply Le.ite |apply Zet |intro _)
noncomputable def ZcZ(places:Int)(scale2:Int)(i:Int):Option ((Int×Int) ⊕ (Int)):=
  if(decide (i<places))=true then
  some (.inl ((i64 (scale2*10)),(i64 (i+1))))
  else
  some (.inr scale2)
theorem ZhU(places:Int)(scale2:Int)(i:Int):Le (ZcZ places scale2 i) (Zbx places scale2 i):=by
  unfold ZcZ Zbx
  with_reducible repeat' (first |exact Le.refl _ |apply Le.bind |apply Le.ite |intro _)
noncomputable def Zcd(n:Int)(den:Int)(places:Int):Option Str:=
  (quo .i64 (max n (i64 (-n))) den).bind fun q=>
  ((Zat (t2 (ZcZ places)) (1,0)):Option ((Int))).bind (t1 fun(scale:Int)=>
  (rem (max n (i64 (-n))) den).bind fun q2=>
  (quo .i64 (i64 ((i64 ((i64 (q2*scale))*2))+den)) (i64 (2*den))).bind fun q3=>
  ((if(decide (q3=scale))=true then
  some ((i64 (q+1)),0)
  else
  some (q,q3)):Option ((Int×Int))).bind (t2 fun(whole:Int) (part:Int)=>
  (itoa whole).bind fun y=>
  ((if(decide (0<places))=true then
  (itoa (i64 (scale+part))).bind fun y2=>
  (slc y2 1 (y2.length:Int)).bind fun s=>
  (cat [46] s).bind fun s2=>
  (cat y s2).bind fun s3=>
  some s3
  else
  some y):Option ((Str))).bind (t1 fun(out:Str)=>
  if((decide (n<0))&&((decide (0<whole)) || (decide (0<part))))=true then
  (cat [45] out).bind fun s4=>
  some s4
  else
  some out)))
theorem Zgj(n:Int)(den:Int)(places:Int):Le (Zcd n den places) (XM n den places):=by
  unfold Zcd XM
  with_reducible repeat' (first |exact Le.refl _ |apply Le.bind |apply Le.ite |apply Le.loop |apply Le.t1 |apply Le.t2 |apply ZhU |intro _)
noncomputable def Zex(i:api_Instrument)(n:Int):Option Int:=
  if(decide (n≤i.Low))=true then
  some 0
  else
  if(decide (i.High≤n))=true then
  some i.Steps
  else
  (quo .i64 (i64 ((i64 (n-i.Low))*i.Steps)) (i64 (i.High-i.Low))).bind fun q=>
  some q
theorem ZjC(i:api_Instrument)(n:Int):Le (Zex i n) (Zbb i n):=by
  unfold Zex Zbb
  with_reducible repeat' (first |exact Le.refl _ |apply Le.bind |apply Le.ite |intro _)
noncomputable def Zc4(i:api_Instrument)(n:Int)(i2:Int):Option ((Int) ⊕ (Str) ⊕ (Unit)):=
  if(decide (i2<(i.Zones.length:Int)))=true then
  (idx i.Zones i2).bind fun x=>
  (QI n x.From x.To).bind fun y=>
  if y=true then
  some (.inr (.inl x.Name))
  else
  some (.inl (i64 (i2+1)))
  else
  some (.inr (.inr ()))
theorem Zhz(i:api_Instrument)(n:Int)(i2:Int):Le (Zc4 i n i2) (XV i n i2):=by
  unfold Zc4 XV
  with_reducible repeat' (first |exact Le.refl _ |apply Le.bind |apply Le.ite |apply Zae |intro _)
noncomputable def ZeA(i:api_Instrument)(n:Int):Option Str:=
  ((Zat (t1 (Zc4 i n)) 0):Option ((Str) ⊕ (Unit))).bind (Sum.elim (fun q'=>some q') (t0 (some [])))
theorem Zjq(i:api_Instrument)(n:Int):Le (ZeA i n) (Zal i n):=by
  unfold ZeA Zal
  with_reducible repeat' (first |exact Le.refl _ |apply Le.bind |apply Le.loop |apply Le.t0 |apply Le.t1 |apply Le.elim |apply Zhz |intro _)
noncomputable def ZdZ(i:api_Instrument)(m:api_Memo)(den:Int)(l2:List Str)(i2:Int):Option (((List Str)×Int) ⊕ ((List Str))):=
  if(decide (i2<(m.Tape.length:Int)))=true then
  (idx m.Tape i2).bind fun x2=>
  (Zcd x2 den i.Places).bind fun y6=>
  (app l2 ([y6]:List Str)).bind fun l3=>
  some (.inl (l3,(i64 (i2+1))))
  else
  some (.inr l2)
theorem Ziy(i:api_Instrument)(m:api_Memo)(den:Int)(l2:List Str)(i2:Int):Le (ZdZ i m den l2 i2) (JQ i m den l2 i2):=by
  unfold ZdZ JQ
  with_reducible repeat' (first |exact Le.refl _ |apply Le.bind |apply Le.ite |apply Zgj |intro _)
noncomputable def ZfX(i:api_Instrument)(m:api_Memo)(den:Int)(x:api_Sample)(known:Bool):Option api_Face:=
  ((if(decide (i.Kind=1))=true then
  if known=true then
  (Zcd x.N den i.Places).bind fun y=>
  some (api_Face.mk y 0 m.Lit x.Mark)
  else
  some (api_Face.mk [45,45,45] 0 m.Lit x.Mark)
  else
  if(decide (i.Kind=2))=true then
  if known=true then
  (Zex i x.N).bind fun y2=>
  (ZeA i x.N).bind fun y3=>
  some (api_Face.mk y3 y2 m.Lit x.Mark)
  else
  some (api_Face.mk [45,45,45] 0 m.Lit x.Mark)
  else
  if(decide (i.Kind=3))=true then
  if m.Lit=true then
  some (api_Face.mk [111,110] 0 m.Lit x.Mark)
  else
  if known=true then
  some (api_Face.mk [111,102,102] 0 m.Lit x.Mark)
  else
  some (api_Face.mk [45,45,45] 0 m.Lit x.Mark)
  else
  if(decide (i.Kind=4))=true then
  if m.Some=true then
  (Zcd m.N den i.Places).bind fun y4=>
  some (api_Face.mk y4 0 m.Lit x.Mark)
  else
  some (api_Face.mk [45,45,45] 0 m.Lit x.Mark)
  else
  if(decide (i.Kind=5))=true then
  (itoa m.Count).bind fun y5=>
  some (api_Face.mk y5 0 m.Lit x.Mark)
  else
  if(decide (i.Kind=6))=true then
  ((Zat (t2 (ZdZ i m den)) ([],0)):Option (((List Str)))).bind (t1 fun(l:List Str)=>
  if(decide (0<(l.length:Int)))=true then
  (Zkg l [32]).bind fun y7=>
  some (api_Face.mk y7 0 m.Lit x.Mark)
  else
  some (api_Face.mk [45,45,45] 0 m.Lit x.Mark))
  else
  some (api_Face.mk [45,45,45] 0 m.Lit x.Mark)):Option ((api_Face))).bind (t1 fun(out:api_Face)=>
  some out)
theorem ZkN(i:api_Instrument)(m:api_Memo)(den:Int)(x:api_Sample)(known:Bool):Le (ZfX i m den x known) (Zbq i m den x known):=by
  unfold ZfX Zbq
  with_reducible repeat' (first |exact Le.refl _ |apply Le.bind |apply Le.ite |apply Le.loop |apply Le.t1 |apply Le.t2 |apply Zgj |apply ZjC |apply Zjq |apply Ziy |intro _)
noncomputable def Zdy(p:api_Panel)(l:List api_Track)(s:api_PanelState)(out2:List api_Face)(i:Int):Option (((List api_Face)×Int) ⊕ ((List api_Face))):=
  if(decide (i<(p.Instruments.length:Int)))=true then
  (idx p.Instruments i).bind fun x=>
  (Zbz l x).bind fun y=>
  (idx l y).bind fun x2=>
  ((if(decide (0≤s.Frame))=true then
  (ZdF x2 s.Frame).bind fun y2=>
  some (y2.1,y2.2)
  else
  some ((api_Sample.mk 0 0 0),false)):Option ((api_Sample×Bool))).bind (t2 fun(x3:api_Sample) (known:Bool)=>
  (idx s.Memos i).bind fun x4=>
  (ZfX x x4 x2.Series.Den x3 known).bind fun y3=>
  (app out2 ([y3]:List api_Face)).bind fun l2=>
  some (.inl (l2,(i64 (i+1)))))
  else
  some (.inr out2)
theorem Ziq(p:api_Panel)(l:List api_Track)(s:api_PanelState)(out2:List api_Face)(i:Int):Le (Zdy p l s out2 i) (Jl p l s out2 i):=by
  unfold Zdy Jl
  with_reducible repeat' (first |exact Le.refl _ |apply Le.bind |apply Le.ite |apply Le.t2 |apply Zdl |apply ZgQ |apply ZkN |intro _)
noncomputable def Zfr(p:api_Panel)(l:List api_Track)(s:api_PanelState):Option (List api_Face):=
  ((Zat (t2 (Zdy p l s)) ([],0)):Option (((List api_Face)))).bind (t1 fun(out:List api_Face)=>
  some out)
theorem Zkl(p:api_Panel)(l:List api_Track)(s:api_PanelState):Le (Zfr p l s) (Zb2 p l s):=by
  unfold Zfr Zb2
  with_reducible repeat' (first |exact Le.refl _ |apply Le.bind |apply Le.loop |apply Le.t1 |apply Le.t2 |apply Ziq |intro _)
noncomputable def ZbW(r_:panel_Replay):Option (List api_Face):=
  (Zfr r_.p r_.l r_.state).bind fun y=>
  some y
theorem Zgm(r_:panel_Replay):Le (ZbW r_) (Xk r_):=by
  unfold ZbW Xk
  with_reducible repeat' (first |exact Le.refl _ |apply Le.bind |apply Zkl |intro _)
noncomputable def Zga:Option Bool:=
  (Zgt (api_Panel.mk ([(api_Instrument.mk 1 [97] [116] 1 0 0 0 [] 0 0 false 0)]:List api_Instrument)) ([(api_Track.mk [116] (api_Series.mk 2 ([(api_Sample.mk 70 (-3) 4)]:List api_Sample)) 100)]:List api_Track) 1).bind (Sum.elim (fun y=>
  (gd ((!decide (y=0))==false) () (none:Option Unit)).bind fun u=>
  if((!decide (y=0)) || (!decide (0=0)))=true then
  some false
  else
  none) (fun y=>
  ((if((!decide (y.2=0))==false)=true then
  (Zbi y.1 2).bind fun y2=>
  if(false || (!decide (y2.1=0)))=true then
  some (.inl false)
  else
  some (.inr (y2.2.p,y2.2.l,y2.2.keep,y2.2.state,y2.2.kept,y2.2.marks))
  else
  (gd (true==false) () (none:Option Unit)).bind fun u2=>
  if(true || false)=true then
  some (.inl false)
  else
  some (.inr (y.1.p,y.1.l,y.1.keep,y.1.state,y.1.kept,y.1.marks))):Option ((Bool) ⊕ (api_Panel×(List api_Track)×Int×api_PanelState×(List api_PanelState)×(List api_Bookmark)))).bind (Sum.elim (fun q'=>some q') (t6 fun(p:api_Panel) (l:List api_Track) (keep:Int) (state:api_PanelState) (kept:List api_PanelState) (marks:List api_Bookmark)=>
  (ZbW (panel_Replay.mk p l keep state kept marks)).bind fun y3=>
  (gd ((decide ((y3.length:Int)=1))==true) (api_Face.mk [] 0 false 0) (idx y3 0)).bind fun x=>
  some ((decide ((y3.length:Int)=1))&&(decide (x.Text= [45,49,46,53])&&(decide (x.Needle=0)&&((x.Lit==false)&&(decide (x.Mark=4)&&true)))))))))
theorem ZkL:Le (Zga) (X5):=by
  unfold Zga X5
  with_reducible repeat' (first |exact Le.refl _ |apply Le.bind |apply Le.ite |apply Le.gd |apply Le.t6 |apply Le.elim |apply ZlA |apply ZfS |apply Zgm |intro _)
end Go.Vx

namespace Go.Vx
open Go Go.RowKit
theorem ZoT:Zga=some true:=by decide+kernel
theorem ZlE:X5=some true:=ZkL true ZoT
end Go.Vx

namespace Go.Vx
open Go Go.RowKit
section
variable {α ε:Type}
def Qa(g:Nat→α→Option ε):Nat→List α→Option ε
  |_,[]=>none
  |k,x::tl=>match g k x with |some e=>some e |none=>Qa g (k+1) tl
theorem Qx{ρ:Type}{xs:List α}(g:Nat→α→Option ε)(A:ε→ρ)(Z:ρ){body:Int→Option (Int ⊕ ρ)}
    (h: ∀ (k:Nat) x,xs[k]?=some x→body k=J2 (fun e=>some (.inr (A e))) (some (.inl ((k:Int)+1))) (g k x))
    (hend:body xs.length=some (.inr Z)):loop (t1 body) 0=some (J2 A Z (Qa g 0 xs)):=by
  refine ZeP (xs:=xs) (fun k=>J2 A Z (Qa g k (xs.drop k))) (fun k x hx=> ?_) ?_
  · rw [h k x hx,ZiO hx]
    simp only [Qa]
    cases hg:g k x with
    |some e=>right;rfl
    |none=>left;exact⟨rfl,rfl⟩
  · rw [hend];simp [Qa]
theorem Zi6{g g':Nat→α→Option ε}: ∀ (k:Nat) (xs:List α),(∀ (j:Nat) x,xs[j]?=some x→g (k+j) x=g' (k+j) x)→Qa g k xs=Qa g' k xs
  |_,[],_=>rfl
  |k,x::tl,h=>by
    have h0:=h 0 x rfl
    rw [Nat.add_zero] at h0
    have ih:=Zi6 (g:=g) (g':=g') (k+1) tl fun j y hy=>by
      have:=h (j+1) y (by simpa using hy)
      rwa [show k+(j+1)=k+1+j by omega] at this
    simp only [Qa,h0]
    rw [ih]
theorem ZfV{g:Nat→α→Option ε}: ∀ (k:Nat) (xs:List α),Qa g k xs=none→ ∀ (j:Nat) x,xs[j]?=some x→g (k+j) x=none
  |_,[],_,j,x,hx=>by simp at hx
  |k,y::tl,h,j,x,hx=>by
    simp only [Qa] at h
    cases hy:g k y with
    |some e=>rw [hy] at h;cases h
    |none=>
      rw [hy] at h
      cases j with
      |zero=>simp at hx;subst hx;simpa using hy
      |succ j=>
        have:=ZfV (k+1) tl h j x (by simpa using hx)
        rwa [show k+1+j=k+(j+1) by omega] at this
theorem Zg8{p:α→Bool}: ∀ (k:Nat) (xs:List α),Qa (fun _ x=>if p x then none else some ()) k xs=if xs.all p then none else some ()
  |_,[]=>rfl
  |k,x::tl=>by
    have ih:=Zg8 (p:=p) (k+1) tl
    simp only [Qa,List.all_cons]
    by_cases hp:p x=true
    · simp only [hp,if_true,Bool.true_and];exact ih
    · have hp':p x=false:=by simpa using hp
      simp [hp']
end
theorem Zgn{k:Nat}{n:Nat}(h:k<n)(hn:n≤9223372036854775807):i64 ((k:Int)+1)=(k:Int)+1:=ZE (by omega) (by omega)
theorem Zg6{s:Str}{k:Nat}{b:UInt8}(h:s[k]?=some b):Zaz s (k:Int)=some ((b.toNat:Nat):Int):=by simp [Zaz,h]
def lcI(z:Int):Bool:=decide (97≤z)&&decide (z≤122)
def nbI(z:Int):Bool:=(lcI z || (decide (48≤z)&&decide (z≤57))) || decide (z=45)
def lcB(b:UInt8):Bool:=lcI (b.toNat:Int)
def nbB(b:UInt8):Bool:=nbI (b.toNat:Int)
theorem ZpF{z:Int}(h:lcI z=true):nbI z=true:=by simp [nbI,h]
def resW:List Str:= [[112,104,97,115,101],[109,111,118,101],[114,117,108,101],[105,102],[111,114],[97,110,100],[116,114,117,101],[102,97,108,115,101],[115,116,101,97,100,121],[110,111,116],[102,111,114],[119,105,116,104,105,110],[99,111,117,110,116],[111,102],[114,105,115,101,115],[115,105,110,99,101]]
theorem ZoU:Zf3=some resW:=rfl
theorem Zmo{s:Str}: ∀ (k:Nat) (l:List Str),Qa (fun _ x=>if decide (x=s)=true then some true else none) k l=if s∈l then some true else none
  |_,[]=>rfl
  |k,x::tl=>by
    have ih:=Zmo (s:=s) (k+1) tl
    simp only [Qa]
    by_cases h:x=s
    · subst h;simp
    · have h': ¬s=x:=fun e=>h e.symm
      rw [if_neg (by simpa using h)]
      simp only [ih,List.mem_cons,h',false_or]
theorem Zmu(s:Str):Zcs s=some (decide (s∈resW)):=by
  unfold Zcs
  rw [ZoU,Option.bind_some]
  rw [Qx (xs:=resW) (body:=ZaH s resW) (fun _ x=>if decide (x=s)=true then some true else none) Sum.inl (Sum.inr ()) (fun k x hx=> ?_) (by simp [ZaH]),Zmo]
  · by_cases h:s∈resW<;>simp [h]
  · have hlt:=Xm hx
    have e1:i64 ((k:Int)+1)=(k:Int)+1:=Zgn (n:=16) (by have:=hlt;have e:resW.length=16:=rfl;omega) (by omega)
    simp only [ZaH,hlt,decide_true,if_true,ZS hx,Option.bind_some,e1]
    by_cases h:x=s<;>simp [h]
theorem orW{a b:Prop}[Decidable a][Decidable b]{o:Option Bool}(h:o=some (decide b)):(if decide a=true then some (decide a) else o)=some (decide (a∨b)):=by
  by_cases h1:a
  · simp [h1]
  · simp [h1,h]
theorem ZnV(s:Str):Zbr s=some (decide (s∈resW)):=by
  have key: ∀ {o:Option Bool} {t:Bool},o=some t→(o.bind (t1 fun(v:Bool)=>if v=true then some true else some false))=some t:=by
    intro o t h;subst h;cases t<;>rfl
  unfold Zbr
  refine key ?_
  simp only [resW,List.mem_cons,List.not_mem_nil,or_false]
  repeat (first |exact rfl |refine orW ?_)
def nmE:Str→Bool
  | []=>false
  |c::tl=>(lcB c&&tl.all nbB)&&(decide ((c::tl).length≤30)&& !decide ((c::tl)∈resW))
theorem Zop(s:Str):Zbh s=some (nmE s):=by
  unfold Zbh Zao
  rw [Option.bind_some]
  cases s with
  |nil=>simp [nmE,gd]
  |cons c tl=>
    by_cases hl:(c::tl).length≤30
    · have hw:(decide (1≤(((c::tl).length:Nat):Int))&&decide ((((c::tl).length:Nat):Int)≤30))=true:=by
        simp only [Bool.and_eq_true,decide_eq_true_iff];simp only [List.length_cons] at hl ⊢;omega
      have h0:Zaz (c::tl) 0=some ((c.toNat:Nat):Int):=Zg6 (k:=0) rfl
      have hloop:loop (t1 (XU (c::tl))) 0=some (J2 (fun _=>Sum.inl false) (Sum.inr ()) (if(c::tl).all nbB then none else some ())):=by
        rw [←Zg8 0]
        refine Qx (xs:=c::tl) (body:=XU (c::tl)) _ _ _ (fun k x hx=> ?_) (by simp [XU])
        have hlt:=Xm hx
        have e1:i64 ((k:Int)+1)=(k:Int)+1:=Zgn (n:=(c::tl).length) (by omega) (by omega)
        simp only [XU,hlt,decide_true,if_true,Zg6 hx,Option.bind_some,e1,Za0]
        have e2:nbB x=((((decide (97≤((x.toNat:Nat):Int)))&&(decide (((x.toNat:Nat):Int)≤122))) || ((decide (48≤((x.toNat:Nat):Int)))&&(decide (((x.toNat:Nat):Int)≤57)))) || (decide (((x.toNat:Nat):Int)=45))):=rfl
        rw [←e2]
        cases nbB x<;>simp
      rw [hw,h0,ZnV,hloop]
      simp only [nmE,hl,decide_true,Bool.true_and,List.all_cons]
      by_cases hlc:lcB c=true
      · have hnb:nbB c=true:=ZpF hlc
        simp only [lcB,lcI,Bool.and_eq_true,decide_eq_true_iff] at hlc
        have h1: ¬((c.toNat:Nat):Int)<97:=by omega
        have h2: ¬122<((c.toNat:Nat):Int):=by omega
        have h3:lcB c=true:=by simp only [lcB,lcI,Bool.and_eq_true,decide_eq_true_iff];exact hlc
        simp only [Bool.not_true,beq_self_eq_true,ZoB,Option.bind_some,h1,h2,decide_false,Bool.or_self,Bool.false_or,h3,hnb,Bool.true_and]
        by_cases hr:(c::tl)∈resW
        · simp [hr]
        · cases ha:tl.all nbB<;>simp [hr]
      · have h3:lcB c=false:=by simpa using hlc
        simp only [h3,Bool.false_and,Bool.not_true,beq_self_eq_true,ZoB,Option.bind_some,Bool.false_or]
        simp only [lcB,lcI,Bool.and_eq_false_iff,decide_eq_false_iff_not] at h3
        by_cases h1:((c.toNat:Nat):Int)<97
        · simp [h1,gd]
        · have h2:122<((c.toNat:Nat):Int):=by omega
          have h2': ¬((c.toNat:Nat):Int)≤122:=by omega
          simp [h1,h2,h2',gd]
    · have hw:(decide (1≤(((c::tl).length:Nat):Int))&&decide ((((c::tl).length:Nat):Int)≤30))=false:=by
        simp only [Bool.and_eq_false_iff,decide_eq_false_iff_not];right;omega
      rw [hw]
      simp only [nmE,hl,decide_false,Bool.false_and,Bool.and_false]
      simp [gd]
theorem ZnT(s:Str)(hs:s.length≤9223372036854775807):ZdT s=some (nmE s):=by
  unfold ZdT
  have hloop:loop (t1 (ZaQ s)) 0=some (J2 (fun _=>Sum.inl false) (Sum.inr ()) (Qa (fun k b=>if(lcB b || (decide (0<k)&&nbB b))=true then none else some ()) 0 s)):=by
    refine Qx (xs:=s) (body:=ZaQ s) _ _ _ (fun k x hx=> ?_) (by simp [ZaQ])
    have hlt:=Xm hx
    have e1:i64 ((k:Int)+1)=(k:Int)+1:=Zgn (n:=s.length) (by omega) hs
    simp only [ZaQ,hlt,decide_true,if_true,Zg6 hx,Option.bind_some,e1]
    have e2:(((decide (97≤((x.toNat:Nat):Int)))&&(decide (((x.toNat:Nat):Int)≤122))) || ((decide (0<(k:Int)))&&(((decide (48≤((x.toNat:Nat):Int)))&&(decide (((x.toNat:Nat):Int)≤57))) || (decide (((x.toNat:Nat):Int)=45)))))=(lcB x || (decide (0<k)&&nbB x)):=by
      show(lcB x || (_&&_))=_
      have ek:decide (0<(k:Int))=decide (0<k):=by rw [decide_eq_decide];omega
      rw [ek]
      unfold nbB nbI
      show _=(lcB x || (_&&((lcB x || _) || _)))
      cases lcB x<;>simp
    rw [e2]
    cases (lcB x || (decide (0<k)&&nbB x))<;>simp
  rw [hloop]
  cases s with
  |nil=>simp [nmE,Qa,gd]
  |cons c tl=>
    have htl:Qa (fun k b=>if(lcB b || (decide (0<k)&&nbB b))=true then none else some ()) 1 tl=if tl.all nbB then none else some ():=by
      rw [←Zg8 1]
      refine Zi6 1 tl fun j x _=> ?_
      have:decide (0<1+j)=true:=decide_eq_true (by omega)
      rw [this,Bool.true_and]
      cases h:lcB x with
      |false=>simp
      |true=>have:nbB x=true:=ZpF h;simp [this]
    simp only [Qa,htl,nmE]
    cases hc:lcB c with
    |false=>simp
    |true=>
      cases ha:tl.all nbB with
      |false=>simp
      |true=>
        by_cases hl:(c::tl).length≤30
        · have hl':(((c::tl).length:Nat):Int)≤30:=by omega
          have hg:((!decide (c::tl= []))&&decide ((((c::tl).length:Nat):Int)≤30))=true:=by simp [hl'];simpa using hl'
          simp only [Bool.true_or,if_true,ZhP,Option.bind_some,Sum.elim_inr,ZnR,hg,beq_self_eq_true,ZoB,Zmu,hl,decide_true,Bool.true_and]
        · have hl': ¬(((c::tl).length:Nat):Int)≤30:=by omega
          simp only [Bool.true_or,if_true,ZhP,Option.bind_some,Sum.elim_inr,ZnR,hl',hl,decide_false,Bool.and_false,Bool.false_and,Bool.true_and]
          simp [gd]
end Go.Vx

namespace Go.Vx
open Go Go.RowKit
def ZgU(x:api_Zone):Prop:=(wfI .i64) x.From∧(wfI .i64) x.To∧wfS x.Name∧True
def Zdc(x:api_Instrument):Prop:=(wfI .i64) x.Kind∧wfS x.Name∧wfS x.Track∧(wfI .i64) x.Places∧(wfI .i64) x.Low∧(wfI .i64) x.High∧(wfI .i64) x.Steps∧(wfL ZgU) x.Zones∧(wfI .i64) x.Op∧(wfI .i64) x.N∧wfT x.Latch∧(wfI .i64) x.Size∧True
def Zim(x:api_Panel):Prop:=(wfL Zdc) x.Instruments∧True
def Zfa(x:api_Sample):Prop:=(wfI .i64) x.At∧(wfI .i64) x.N∧(wfI .i64) x.Mark∧True
def ZkE(x:api_Series):Prop:=(wfI .i64) x.Den∧(wfL Zfa) x.Samples∧True
def Zf6(x:api_Track):Prop:=wfS x.Name∧ZkE x.Series∧(wfI .i64) x.Long∧True
def Zgc(x:law8_Deed):Prop:=(wfI .i64) x.Op∧(wfI .i64) x.N∧wfS x.Text∧True
end Go.Vx

namespace Go.Vx
open Go Go.RowKit
section
variable {α ε:Type}
theorem ZfC{p:α→Bool}{e:ε}: ∀ (k:Nat) (xs:List α),Qa (fun _ x=>if p x=true then some e else none) k xs=if xs.any p=true then some e else none
  |_,[]=>rfl
  |k,x::tl=>by
    have ih:=ZfC (p:=p) (e:=e) (k+1) tl
    simp only [Qa,List.any_cons]
    by_cases hp:p x=true
    · simp [hp]
    · have hp':p x=false:=by simpa using hp
      simp only [hp',Bool.false_eq_true,if_false,Bool.false_or];exact ih
theorem Zg3{p:α→Bool}: ∀ (k:Nat) (xs:List α),(Qa (fun j x=>if p x=true then some (j:Int) else none) k xs=none∧xs.any p=false)∨(∃ m:Nat,Qa (fun j x=>if p x=true then some (j:Int) else none) k xs=some (m:Int)∧xs.any p=true)
  |_,[]=> .inl ⟨rfl,rfl⟩
  |k,x::tl=>by
    have ih:=Zg3 (p:=p) (k+1) tl
    simp only [Qa,List.any_cons]
    by_cases hp:p x=true
    · exact .inr ⟨k,by simp [hp],by simp [hp]⟩
    · have hp':p x=false:=by simpa using hp
      simp only [hp',Bool.false_eq_true,if_false,Bool.false_or];exact ih
end
theorem ZqR{l:List api_Track}(hl:l.length≤9223372036854775807){f:api_Track→Option Bool}{p:api_Track→Bool}(hf: ∀ x,f x=some (p x)):ZF l f=some (l.any p):=by
  have h:loop (t1 (Zt l f)) 0=some (J2 Sum.inl (Sum.inr ()) (Qa (fun k x=>if p x=true then some (k:Int) else none) 0 l)):=by
    refine Qx (xs:=l) (body:=Zt l f) _ _ _ (fun k x hx=> ?_) (by simp [Zt])
    have hlt:=Xm hx
    have e1:i64 ((k:Int)+1)=(k:Int)+1:=Zgn (n:=l.length) (by omega) hl
    simp only [Zt,hlt,decide_true,if_true,ZS hx,Option.bind_some,e1,hf]
    cases p x<;>rfl
  unfold ZF ZJ
  rw [h]
  rcases Zg3 (p:=p) 0 l with ⟨h1,h2⟩ | ⟨m,h1,h2⟩
  · rw [h1,h2];simp
  · rw [h1,h2];simp
def Zji(l:List api_Track)(k:Nat)(x:api_Track):Option Int:=
  if nmE x.Name=false then some 8 else if(l.take k).any (fun z=>decide (z.Name=x.Name))=true then some 5 else if(chk x.Series).2≠0 then some (chk x.Series).2 else if wi x.Long 0 1099511627776=false then some 9 else none
def ckT(l:List api_Track):Int:=if 50<(l.length:Int) then 3 else J2 id 0 (Qa (Zji l) 0 l)
theorem ZoG{α:Type}{l:List α}{k:Nat}(h:k≤l.length):slc l 0 (k:Int)=some (l.take k):=by
  unfold slc
  rw [if_pos ⟨by omega,by omega,by omega⟩]
  simp
theorem ZmH(l:List api_Track):XK l=some (ckT l):=by
  unfold XK ckT
  by_cases h50:50<(l.length:Int)
  · simp [h50]
  · have h:loop (t1 (QD l)) 0=some (J2 Sum.inl (Sum.inr ()) (Qa (Zji l) 0 l)):=by
      refine Qx (xs:=l) (body:=QD l) _ _ _ (fun k x hx=> ?_) (by simp [QD])
      have hlt:=Xm hx
      have e1:i64 ((k:Int)+1)=(k:Int)+1:=Zgn (n:=l.length) (by omega) (by omega)
      have hc:ZF (l.take k) (fun z0=>XQ z0 x)=some ((l.take k).any fun z=>decide (z.Name=x.Name)):=
        ZqR (by rw [List.length_take];omega) (fun _=>rfl)
      have hw:Zao x.Long 0 1099511627776=some (wi x.Long 0 1099511627776):=rfl
      simp only [QD,hlt,decide_true,if_true,ZS hx,Option.bind_some,e1,Zop,ZoG (show k≤l.length by omega),hc,Zpf,hw,Zji]
      cases nmE x.Name with
      |false=>simp
      |true=>cases (l.take k).any (fun z=>decide (z.Name=x.Name)) with
        |true=>simp
        |false=>
          by_cases h0:(chk x.Series).2=0
          · cases wi x.Long 0 1099511627776<;>simp [h0]
          · simp [h0]
    rw [if_neg (by simpa using h50),if_neg h50,h]
    cases Qa (Zji l) 0 l<;>simp
theorem Zrg{l:List api_Track}{i:Nat}{x:api_Track}(hx:l[i]?=some x)(hl:l.length≤50):loop (t1 (Xc l i)) 0=some (if(l.take i).any (fun z=>decide (z.Name=x.Name))=true then .inl 5 else .inr ()):=by
  have hlt:=Xm hx
  have hlen:(l.take i).length=i:=by rw [List.length_take];omega
  have h:loop (t1 (Xc l i)) 0=some (J2 (fun _=>Sum.inl 5) (Sum.inr ()) (Qa (fun _ z=>if decide (z.Name=x.Name)=true then some () else none) 0 (l.take i))):=by
    refine Qx (xs:=l.take i) (body:=Xc l i) _ _ _ (fun k z hz=> ?_) (by rw [hlen];simp [Xc])
    have hk:(k:Int)<(i:Int):=by have:=Xm hz;rw [hlen] at this;exact this
    have hz':l[k]?=some z:=by rw [List.getElem?_take_of_lt (by omega)] at hz;exact hz
    have e1:i64 ((k:Int)+1)=(k:Int)+1:=ZE (by omega) (by omega)
    simp only [Xc,hk,decide_true,if_true,ZS hz',ZS hx,Option.bind_some,e1]
    by_cases hn:z.Name=x.Name<;>simp [hn]
  rw [h,ZfC]
  cases (l.take i).any (fun z=>decide (z.Name=x.Name))<;>rfl
theorem Zmx(l:List api_Track)(hs: ∀ x∈l,x.Name.length≤9223372036854775807):ZaS l=some (ckT l):=by
  unfold ZaS ckT
  by_cases h50:50<(l.length:Int)
  · simp [h50]
  · have h:loop (t1 (XR l)) 0=some (J2 Sum.inl (Sum.inr ()) (Qa (Zji l) 0 l)):=by
      refine Qx (xs:=l) (body:=XR l) _ _ _ (fun k x hx=> ?_) (by simp [XR])
      have hlt:=Xm hx
      have e1:i64 ((k:Int)+1)=(k:Int)+1:=Zgn (n:=l.length) (by omega) (by omega)
      have hw:Zek x.Long 0 1099511627776=some (!wi x.Long 0 1099511627776):=Zel _ _ _
      simp only [XR,hlt,decide_true,if_true,ZS hx,Option.bind_some,e1,ZnT x.Name (hs x (List.mem_of_getElem? hx)),Zrg hx (by omega),Zl7,hw,Zji]
      cases nmE x.Name with
      |false=>simp
      |true=>cases (l.take k).any (fun z=>decide (z.Name=x.Name)) with
        |true=>simp
        |false=>
          by_cases h0:(chk x.Series).2=0
          · cases wi x.Long 0 1099511627776<;>simp [h0]
          · simp [h0]
    rw [if_neg (by simpa using h50),if_neg h50,h]
    cases Qa (Zji l) 0 l<;>simp
theorem Zkk{t:api_Track}{l:List api_Track}(h:ckT l=0)(ht:t∈l):(chk t.Series).2=0∧wi t.Long 0 1099511627776=true:=by
  unfold ckT at h
  split at h
  · cases h
  · obtain⟨j,hj⟩:=List.mem_iff_getElem?.1 ht
    cases hf:Qa (Zji l) 0 l with
    |none=>
      have:=ZfV 0 l hf j t hj
      unfold Zji at this
      split at this
      · cases this
      · split at this
        · cases this
        · split at this
          · cases this
          · rename_i h0
            split at this
            · cases this
            · rename_i h1
              exact⟨by simpa using h0,by simpa using h1⟩
    |some e=>
      rw [hf] at h
      have he:e=0:=h
      subst he
      exfalso
      have key: ∀ (k:Nat) (xs:List api_Track),Qa (Zji l) k xs≠some 0:=by
        intro k xs
        induction xs generalizing k with
        |nil=>intro e;cases e
        |cons x tl ih=>
          intro e
          simp only [Qa] at e
          cases hg:Zji l k x with
          |none=>rw [hg] at e;exact ih _ e
          |some v=>
            rw [hg] at e
            cases e
            unfold Zji at hg
            repeat' split at hg
            all_goals first | (cases hg;done) |simp_all
      exact key 0 l hf
end Go.Vx

namespace Go.Vx
open Go Go.RowKit
theorem Zj2: ∀ (k u:Nat),u<10^(k+1)→Go.Lib.nDigits u≤k+1
  |0,u,h=>by rw [Go.Lib.nDigits_small (by simpa using h)];exact Nat.le_refl _
  |k+1,u,h=>by
    by_cases h1:u<10
    · rw [Go.Lib.nDigits_small h1];omega
    · rw [Go.Lib.nDigits_big h1]
      have:=Zj2 k (u/10) (by rw [Nat.pow_succ] at h;omega)
      omega
theorem ZmE{z:Int}(h0:0≤z)(h1:z<1000000000000000000): ∃ d,itoa z=some d∧1≤d.length∧d.length≤18:=by
  obtain⟨u,rfl⟩:=Int.eq_ofNat_of_zero_le h0
  refine⟨Go.Lib.decDigits u,?_,?_,?_⟩
  · unfold itoa
    rw [if_pos ⟨by omega,by omega⟩]
    unfold Go.Lib.itoa
    rw [if_neg (by omega)];simp
  · rw [Go.Lib.decDigits_length];exact Go.Lib.nDigits_pos u
  · rw [Go.Lib.decDigits_length]
    have e:(10:Nat)^(17+1)=1000000000000000000:=by decide
    exact Zj2 17 u (by rw [e];omega)
theorem Zpx{k:Nat}(h:k≤6):(1:Int)≤10^k∧(10:Int)^k≤1000000:=by
  obtain rfl |rfl |rfl |rfl |rfl |rfl |rfl:k=0∨k=1∨k=2∨k=3∨k=4∨k=5∨k=6:=by omega
  all_goals decide
theorem ZlU{m:Nat}(hm:m≤6)(body:Int→Int→Option ((Int×Int) ⊕ Int))
    (hb: ∀ s i:Int,body s i=if decide (i<(m:Int))=true then some (.inl (i64 (s*10),i64 (i+1))) else some (.inr s)):loop (t2 body) (1,0)=some ((10:Int)^m):=by
  refine ZcB (body:=t2 body) (fun p=> ∃ k:Nat,p=((10:Int)^k,(k:Int))∧k≤m) (fun p=>m-p.2.toNat) (fun _=>(10:Int)^m) ?_ (1,0) ⟨0,rfl,Nat.zero_le _⟩
  rintro⟨s,i⟩ ⟨k,he,hk⟩
  obtain⟨rfl,rfl⟩:=Prod.mk.inj he
  simp only [Zhq,hb]
  by_cases h:k<m
  · have h':(k:Int)<m:=by omega
    have hp:=Zpx (k:=k) (by omega)
    rw [if_pos (decide_eq_true h')]
    refine .inl ⟨_,rfl,⟨k+1,?_,h⟩,?_,trivial⟩
    · rw [show i64 ((10:Int)^k*10)=10^k*10 from ZE (by omega) (by omega),show i64 ((k:Int)+1)=k+1 from ZE (by omega) (by omega)]
      rw [Int.pow_succ];rfl
    · rw [show i64 ((k:Int)+1)=k+1 from ZE (by omega) (by omega)]
      simp only;omega
  · obtain rfl:k=m:=by omega
    rw [if_neg (by simp)]
    exact .inr rfl
theorem ZiU{s t:Str}(h:s.length+t.length≤9223372036854775807):cat s t=some (s++t):=by simp [cat,h]
theorem Zp5{s:Str}(h:1≤s.length):slc s 1 (s.length:Int)=some (s.drop 1):=by
  unfold slc
  rw [if_pos ⟨by omega,by omega,Int.le_refl _⟩]
  simp
theorem Zoi{n den places:Int}(hn1: -1125899906842624≤n)(hn2:n≤1125899906842624)(hd1:1≤den)(hd2:den≤1000000)(hp1:0≤places)(hp2:places≤6):
    ∃ s,XM n den places=some s∧Zas n den places=some s∧s.length≤41:=by
  obtain⟨m,rfl⟩:=Int.eq_ofNat_of_zero_le hp1
  have hm:m≤6:=by omega
  obtain⟨hS1,hS2⟩:=Zpx hm
  have hl1:=ZlU hm (Zbx (m:Int)) (fun _ _=>rfl)
  have hl2:=ZlU hm (ZeV (m:Int)) (fun _ _=>rfl)
  generalize hS:(10:Int)^m=S at hS1 hS2 hl1 hl2
  have ea:max n (i64 (-n))=if n<0 then-n else n:=by
    rw [show i64 (-n)= -n from ZE (by omega) (by omega)]
    split<;>omega
  have en:i64 (-n)= -n:=ZE (by omega) (by omega)
  generalize hA:(if n<0 then-n else n)=A at ea
  have hA1:0≤A:=by rw [←hA];split<;>omega
  have hA2:A≤1125899906842624:=by rw [←hA];split<;>omega
  have hd0:den≠0:=by omega
  have hq1:0≤A/den:=Int.ediv_nonneg hA1 (by omega)
  have hq2:A/den≤A:=Int.ediv_le_self _ hA1
  have hr1:0≤A % den:=Int.emod_nonneg _ hd0
  have hr2:A % den<den:=Int.emod_lt_of_pos _ (by omega)
  have eq1:quo .i64 A den=some (A/den):=by
    unfold quo
    rw [if_neg hd0,Int.tdiv_eq_ediv_of_nonneg hA1,ZE (by omega) (by omega)]
  have eq2:Go.Vx.rem A den=some (A % den):=by
    unfold Go.Vx.rem
    rw [if_neg hd0,Int.tmod_eq_emod_of_nonneg hA1]
  generalize A/den=q at*
  generalize A % den=r at*
  have hrS0:0≤r*S:=Int.mul_nonneg hr1 (by omega)
  have hrS:r*S≤(den-1)*S:=Int.mul_le_mul_of_nonneg_right (by omega) (by omega)
  have hrS2:r*S≤1000000*1000000:=Int.mul_le_mul (by omega) hS2 (by omega) (by omega)
  have hdS:(den-1)*S=den*S-S:=by rw [Int.sub_mul,Int.one_mul]
  have e1:i64 (r*S)=r*S:=ZE (by omega) (by omega)
  have e2:i64 (r*S*2)=r*S*2:=ZE (by omega) (by omega)
  have e3:i64 (r*S*2+den)=r*S*2+den:=ZE (by omega) (by omega)
  have e4:i64 (2*den)=2*den:=ZE (by omega) (by omega)
  have e5:i64 (2*S)=2*S:=ZE (by omega) (by omega)
  have e6:2*S*r=r*S*2:=by rw [Int.mul_assoc,Int.mul_comm 2,Int.mul_comm S]
  have hN:0≤r*S*2+den:=by omega
  have hq3:0≤(r*S*2+den)/(2*den):=Int.ediv_nonneg hN (by omega)
  have hq4:(r*S*2+den)/(2*den)≤S:=by
    have:(r*S*2+den)/(2*den)<S+1:=by
      refine Int.ediv_lt_of_lt_mul (by omega) ?_
      have:(S+1)*(2*den)=2*(den*S)+2*den:=by
        rw [Int.add_mul,Int.one_mul,Int.mul_left_comm S 2 den,Int.mul_comm S den]
      omega
    omega
  have eq3:quo .i64 (r*S*2+den) (2*den)=some ((r*S*2+den)/(2*den)):=by
    unfold quo
    rw [if_neg (by omega),Int.tdiv_eq_ediv_of_nonneg hN,ZE (by omega) (by omega)]
  generalize (r*S*2+den)/(2*den)=w at*
  have e7:i64 (q+1)=q+1:=ZE (by omega) (by omega)
  obtain⟨W,Q,hWQ,hW1,hW2,hQ1,hQ2⟩: ∃ W Q:Int,(if decide (w=S)=true then some (q+1,(0:Int)) else some (q,w))=some (W,Q)∧0≤W∧W≤1125899906842625∧0≤Q∧Q≤S:=by
    by_cases h:w=S
    · exact⟨q+1,0,by rw [if_pos (decide_eq_true h)],by omega,by omega,by omega,by omega⟩
    · exact⟨q,w,by rw [if_neg (by simpa using h)],by omega,by omega,by omega,by omega⟩
  obtain⟨d,hd,hdl1,hdl2⟩:=ZmE (z:=W) hW1 (by omega)
  obtain⟨f,hf,hfl1,hfl2⟩:=ZmE (z:=S+Q) (by omega) (by omega)
  have e8:i64 (S+Q)=S+Q:=ZE (by omega) (by omega)
  obtain⟨o,ho,hol⟩: ∃ o:Str,(if decide (0<(m:Int))=true then some (d++([46]++f.drop 1)) else some d)=some o∧o.length≤40:=by
    by_cases h:0<(m:Int)
    · exact⟨_,if_pos (decide_eq_true h),by simp;omega⟩
    · exact⟨_,if_neg (by simpa using h),by omega⟩
  have hc1:cat [46] (f.drop 1)=some ([46]++f.drop 1):=ZiU (by simp;omega)
  have hc2:cat d ([46]++f.drop 1)=some (d++([46]++f.drop 1)):=ZiU (by simp;omega)
  have hc3:cat [45] o=some ([45]++o):=ZiU (by simp;omega)
  have hc4:cat [] o=some ([]++o):=ZiU (by simp;omega)
  refine⟨if n<0∧(0<W∨0<Q) then [45]++o else o,?_,?_,?_⟩
  · unfold XM
    rw [ea,eq1,eq2,hl1]
    simp only [Option.bind_some,ZeZ,e1,e2,e3,e4,e7,eq3,hWQ,Zhq,hd,e8,hf,Zp5 hfl1,hc1,hc2,ho]
    by_cases h:n<0∧(0<W∨0<Q)
    · have h':(decide (n<0)&&(decide (0<W) || decide (0<Q)))=true:=by simpa using h
      rw [if_pos h',if_pos h,hc3];rfl
    · have h':(decide (n<0)&&(decide (0<W) || decide (0<Q)))=false:=by
        rw [Bool.eq_false_iff];intro e;exact h (by simpa using e)
      rw [if_neg (by rw [h'];simp),if_neg h]
  · have hsz:(if decide (n<0)=true then some (i64 (-n),([45]:Str)) else some (n,[]))=some (A,if n<0 then [45] else []):=by
      rw [en,←hA]
      by_cases h:n<0<;>simp [h]
    unfold Zas
    rw [hsz]
    simp only [Option.bind_some,Zhq,hl2,ZeZ,eq1,eq2,e5,e6,e2,e3,e4,eq3,e7,hWQ,hd,e8,hf,Zp5 hfl1,hc1,hc2,ho]
    by_cases h0:W=0∧Q=0
    · have h':(decide (W=0)&&decide (Q=0))=true:=by simpa using h0
      rw [if_pos h']
      simp only [Option.bind_some,ZeZ,hc4]
      rw [if_neg (by omega)];rfl
    · have h':(decide (W=0)&&decide (Q=0))=false:=by
        rw [Bool.eq_false_iff];intro e;exact h0 (by simpa using e)
      rw [h']
      by_cases hn:n<0
      · have:n<0∧(0<W∨0<Q):=⟨hn,by omega⟩
        simp only [hn,if_true,Bool.false_eq_true,if_false,Option.bind_some,ZeZ,hc3]
        rw [if_pos ⟨trivial,this.2⟩]
      · simp only [hn,if_false,Bool.false_eq_true,Option.bind_some,ZeZ,hc4]
        simp
  · split
    · simp;omega
    · omega
end Go.Vx

namespace Go.Vx
open Go Go.RowKit
def cutN:Str:= [97,98,99,100,101,102,103,104,105,106,107,108,109,110,111,112,113,114,115,116,117,118,119,120,121,122,48,49,50,51,52,53,54,55,56,57,45]
def setN:List Bool:=(List.range 256).map fun(i:Nat)=>nbI (i:Int)
theorem ZqD:(XJ cutN).map (fun r=>(r.1.toList,r.2))=some (setN,true):=by decide+kernel
theorem mkA: ∃ v,Xp cutN=some (v,true)∧v.toList=setN:=by
  have h:=ZqD
  cases hc:XJ cutN with
  |none=>rw [hc] at h;cases h
  |some r=>
    rw [hc] at h
    simp only [Option.map_some,Option.some.injEq,Prod.mk.injEq] at h
    refine⟨r.1,?_,h.1⟩
    rw [ZcS cutN r hc,←h.2]
theorem inA{v:Vector Bool 256}(hv:v.toList=setN)(b:UInt8):Z8 v ((b.toNat:Nat):Int)=some (nbB b):=by
  have hb:b.toNat<256:=b.toNat_lt
  have:ZiP v ((b.toNat:Nat):Int)=some (nbB b):=by
    unfold ZiP
    rw [if_pos (by omega),hv]
    simp only [setN,Int.toNat_natCast,List.getElem?_map,List.getElem?_range hb,Option.map_some]
    rfl
  unfold Z8
  rw [this];rfl
theorem ZqY{v:Vector Bool 256}(hv:v.toList=setN)(s:Str)(hs:s.length≤30):QE s v=some (s.reverse.dropWhile nbB).reverse:=by
  have h:loop (t1 (Z9 v)) s=some (s.reverse.dropWhile nbB).reverse:=by
    refine ZcB (body:=t1 (Z9 v)) (fun s=>s.length≤30) (fun s=>s.length) (fun s=>(s.reverse.dropWhile nbB).reverse) ?_ s hs
    intro s hs
    rcases List.eq_nil_or_concat s with rfl | ⟨t,c,rfl⟩
    · right;simp [Z9]
    · simp only [List.concat_eq_append] at hs ⊢
      have hl:(t++ [c]).length=t.length+1:=by simp
      have e1:i64 (((t++ [c]).length:Int)-1)=(t.length:Int):=by
        rw [hl];rw [show(((t.length+1:Nat):Int)-1)=(t.length:Int) by omega];exact ZE (by omega) (by omega)
      have e2:Zaz (t++ [c]) (t.length:Int)=some ((c.toNat:Nat):Int):=Zg6 (by simp)
      have e3:slc (t++ [c]) 0 (t.length:Int)=some t:=by rw [ZoG (by omega)];simp
      have e0:decide ((0:Int)<((t++ [c]).length:Int))=true:=decide_eq_true (by omega)
      simp only [ZeZ,Z9,e0,if_true,e1,e2,e3,inA hv,Option.bind_some]
      cases hc:nbB c with
      |true=>left;exact⟨t,by simp,by omega,by omega,by simp [hc]⟩
      |false=>right;simp [hc]
  unfold QE
  rw [h];rfl
theorem ZqI{v:Vector Bool 256}(hv:v.toList=setN)(s:Str)(hs:s.length≤30):QP s v=some (s.dropWhile nbB):=by
  have h:loop (t1 (Qe v)) s=some (s.dropWhile nbB):=by
    refine ZcB (body:=t1 (Qe v)) (fun s=>s.length≤30) (fun s=>s.length) (fun s=>s.dropWhile nbB) ?_ s hs
    intro s hs
    cases s with
    |nil=>right;simp [Qe]
    |cons c t=>
      have e2:Zaz (c::t) 0=some ((c.toNat:Nat):Int):=Zg6 (k:=0) rfl
      have e3:slc (c::t) 1 ((c::t).length:Int)=some t:=by rw [Zp5 (by simp)];simp
      have e0:decide ((0:Int)<((c::t).length:Int))=true:=decide_eq_true (by simp only [List.length_cons];omega)
      simp only [ZeZ,Qe,e0,if_true,e2,e3,inA hv,Option.bind_some]
      cases hc:nbB c with
      |true=>left;exact⟨t,by simp,by simp at hs;omega,by simp,by simp [hc]⟩
      |false=>right;simp [hc]
  unfold QP
  rw [h];rfl
theorem ZkX{α:Type}{p:α→Bool}: ∀ {l:List α},l.dropWhile p= []↔ ∀ x∈l,p x=true
  | []=>by simp
  |a::l=>by
    cases h:p a with
    |true=>rw [List.dropWhile_cons_of_pos h,ZkX];simp [h]
    |false=>rw [List.dropWhile_cons_of_neg (by simp [h])];simp [h]
theorem Zoy(s:Str):((s.reverse.dropWhile nbB).reverse.dropWhile nbB= [])↔s.all nbB=true:=by
  rw [ZkX]
  constructor
  · intro h
    rw [List.all_eq_true]
    intro x hx
    have hx':x∈s.reverse:=List.mem_reverse.2 hx
    rw [←List.takeWhile_append_dropWhile (p:=nbB) (l:=s.reverse)] at hx'
    rcases List.mem_append.1 hx' with h1 |h1
    · exact List.all_eq_true.1 (List.all_takeWhile (p:=nbB) (l:=s.reverse)) x h1
    · exact h x (List.mem_reverse.2 h1)
  · intro h x hx
    have h1:=List.mem_reverse.1 hx
    exact List.all_eq_true.1 h x (List.mem_reverse.1 ((List.dropWhile_sublist nbB).subset h1))
theorem ZpM(s:Str)(h0:s≠ [])(hs:s.length≤30): ∃ r,Zau s cutN=some r∧(r= []↔s.all nbB=true):=by
  obtain⟨v,hv1,hv2⟩:=mkA
  have hr:(s.reverse.dropWhile nbB).reverse.length≤30:=by
    rw [List.length_reverse]
    have:=(List.dropWhile_sublist nbB (l:=s.reverse)).length_le
    rw [List.length_reverse] at this;omega
  refine⟨_,?_,Zoy s⟩
  unfold Zau
  have e1:(decide (s= []) || decide (cutN= []))=false:=by simp [h0,cutN]
  have e2:decide ((cutN.length:Int)=1)=false:=by decide
  rw [if_neg (by rw [e1];simp),e2,hv1]
  simp [gd,ZqY hv2 s hs,ZqI hv2 _ hr]
def pn(s:Str):Bool:=wi (s.length:Int) 1 30&&s.all nbB
theorem Zm2(s:Str):Zah s=some (pn s):=by
  unfold Zah
  have hw:ZM (s.length:Int) 1 30=some (wi (s.length:Int) 1 30):=rfl
  rw [hw]
  cases h:wi (s.length:Int) 1 30 with
  |false=>simp [pn,h,gd]
  |true=>
    obtain⟨h1,h2⟩:=Zab.1 h
    obtain⟨r,hr1,hr2⟩:=ZpM s (by rintro rfl;simp at h1) (by omega)
    have hr1':Zau s [97,98,99,100,101,102,103,104,105,106,107,108,109,110,111,112,113,114,115,116,117,118,119,120,121,122,48,49,50,51,52,53,54,55,56,57,45]=some r:=hr1
    rw [Option.bind_some,hr1']
    simp only [beq_self_eq_true,ZoB,Option.bind_some,Bool.true_and,pn,h]
    congr 1
    rw [Bool.eq_iff_iff,decide_eq_true_iff]
    exact hr2
theorem Zmn(s:Str)(hs:s.length≤9223372036854775807):ZcM s=some (pn s):=by
  unfold ZcM
  have hloop:loop (t1 (ZaM s)) 0=some (J2 (fun _=>Sum.inl false) (Sum.inr ()) (if s.all nbB then none else some ())):=by
    rw [←Zg8 0]
    refine Qx (xs:=s) (body:=ZaM s) _ _ _ (fun k x hx=> ?_) (by simp [ZaM])
    have hlt:=Xm hx
    have e1:i64 ((k:Int)+1)=(k:Int)+1:=Zgn (n:=s.length) (by omega) hs
    simp only [ZaM,hlt,decide_true,if_true,Zg6 hx,Option.bind_some,e1]
    have e2:nbB x=((((decide (97≤((x.toNat:Nat):Int)))&&(decide (((x.toNat:Nat):Int)≤122))) || ((decide (48≤((x.toNat:Nat):Int)))&&(decide (((x.toNat:Nat):Int)≤57)))) || (decide (((x.toNat:Nat):Int)=45))):=rfl
    rw [←e2]
    cases nbB x<;>simp
  rw [hloop]
  cases ha:s.all nbB with
  |false=>simp [pn,ha]
  |true=>
    simp only [if_true,ZhP,Option.bind_some,Sum.elim_inr,ZnR,pn,ha,Bool.and_true]
    rfl
end Go.Vx

namespace Go.Vx
open Go Go.RowKit
theorem Znq{g v:Bool}:gd g false (some v)=some (g&&v):=by cases g<;>rfl
theorem Zmd{l:List Int}(hl:l.length≤9)(v:Int):Qw l v=some (l.any fun x=>decide (v=x)):=by
  have h:loop (t1 (Qh l v)) 0=some (J2 Sum.inl (Sum.inr ()) (Qa (fun k x=>if decide (v=x)=true then some (k:Int) else none) 0 l)):=by
    refine Qx (xs:=l) (body:=Qh l v) _ _ _ (fun k x hx=> ?_) (by simp [Qh])
    have hlt:=Xm hx
    have e1:i64 ((k:Int)+1)=(k:Int)+1:=Zgn (n:=l.length) (by omega) (by omega)
    simp only [Qh,hlt,decide_true,if_true,ZS hx,Option.bind_some,e1]
    cases decide (v=x)<;>rfl
  unfold Qw Xs
  rw [h]
  rcases Zg3 (p:=fun x=>decide (v=x)) 0 l with ⟨h1,h2⟩ | ⟨m,h1,h2⟩
  · rw [h1,h2];simp
  · rw [h1,h2];simp
theorem ZpG{l:List Int}(hl:l.length≤9)(v:Int):Zfw v l=some (l.any fun x=>decide (v=x)):=by
  have h:loop (t1 (ZcL v l)) 0=some (J2 Sum.inl (Sum.inr ()) (Qa (fun _ x=>if decide (v=x)=true then some true else none) 0 l)):=by
    refine Qx (xs:=l) (body:=ZcL v l) _ _ _ (fun k x hx=> ?_) (by simp [ZcL])
    have hlt:=Xm hx
    have e1:i64 ((k:Int)+1)=(k:Int)+1:=Zgn (n:=l.length) (by omega) (by omega)
    have e2:decide (x=v)=decide (v=x):=by rw [decide_eq_decide];exact eq_comm
    simp only [ZcL,hlt,decide_true,if_true,ZS hx,Option.bind_some,e1,e2]
    cases decide (v=x)<;>rfl
  unfold Zfw
  rw [h,ZfC]
  cases l.any (fun x=>decide (v=x))<;>rfl
def unV(i:api_Instrument):Bool:=
  (!decide (i.Places=0)&& !(decide (i.Kind=1) || decide (i.Kind=4) || decide (i.Kind=6))) ||
  ((!decide (i.Low=0) || !decide (i.High=0) || !decide (i.Steps=0) || decide (0<(i.Zones.length:Int)))&& !decide (i.Kind=2)) ||
  ((!decide (i.Op=0) || !decide (i.N=0))&& !(decide (i.Kind=3) || decide (i.Kind=5))) ||
  (i.Latch&& !decide (i.Kind=3)) || (!decide (i.Size=0)&& !decide (i.Kind=6))
theorem ZoR: ∀ p k1 q k2 r k3 l k4 z k5:Bool,
    ((p && !(p && k1)) || (q && !(!(p && !(p && k1)) && q && k2)) || (r && !(!((p && !(p && k1)) || (q && !(!(p && !(p && k1)) && q && k2))) && r && k3)) ||
      (l&& !(!((p&& !(p&&k1)) || (q&& !(!(p&& !(p&&k1))&&q&&k2)) || (r&& !(!((p&& !(p&&k1)) || (q&& !(!(p&& !(p&&k1))&&q&&k2)))&&r&&k3)))&&l&&k4)) ||
      (z&& !(!((p&& !(p&&k1)) || (q&& !(!(p&& !(p&&k1))&&q&&k2)) || (r&& !(!((p&& !(p&&k1)) || (q&& !(!(p&& !(p&&k1))&&q&&k2)))&&r&&k3)) ||
      (l&& !(!((p&& !(p&&k1)) || (q&& !(!(p&& !(p&&k1))&&q&&k2)) || (r&& !(!((p&& !(p&&k1)) || (q&& !(!(p&& !(p&&k1))&&q&&k2)))&&r&&k3)))&&l&&k4)))&&z&&k5)))=
    ((p&& !k1) || (q&& !k2) || (r&& !k3) || (l&& !k4) || (z&& !k5)):=by decide+kernel
theorem Znz(i:api_Instrument):Za8 i=some (unV i):=by
  have h1:ZY [1,4,6] i=some (decide (i.Kind=1) || decide (i.Kind=4) || decide (i.Kind=6)):=by
    unfold ZY;rw [Zmd (by decide)];simp [Bool.or_assoc]
  have h2:ZY [2] i=some (decide (i.Kind=2)):=by unfold ZY;rw [Zmd (by decide)];simp
  have h3:ZY [3,5] i=some (decide (i.Kind=3) || decide (i.Kind=5)):=by unfold ZY;rw [Zmd (by decide)];simp
  have h4:ZY [3] i=some (decide (i.Kind=3)):=by unfold ZY;rw [Zmd (by decide)];simp
  have h5:ZY [6] i=some (decide (i.Kind=6)):=by unfold ZY;rw [Zmd (by decide)];simp
  unfold Za8
  rw [h1,h2,h3,h4,h5]
  simp only [Znq,Option.bind_some,unV]
  congr 1
  generalize (decide (i.Kind=1) || decide (i.Kind=4) || decide (i.Kind=6))=k1
  generalize (!decide (i.Low=0) || !decide (i.High=0) || !decide (i.Steps=0) || decide (0<(i.Zones.length:Int)))=q
  generalize (decide (i.Kind=3) || decide (i.Kind=5))=k3
  generalize (!decide (i.Op=0) || !decide (i.N=0))=r
  generalize (!decide (i.Places=0))=p
  generalize (!decide (i.Size=0))=z
  generalize decide (i.Kind=2)=k2
  generalize decide (i.Kind=3)=k4
  generalize decide (i.Kind=6)=k5
  generalize i.Latch=l
  have:=ZoR p k1 q k2 r k3 l k4 z k5
  rw [←this]
  revert p k1 q k2 r k3 l k4 z k5
  decide+kernel
theorem Znw(i:api_Instrument):ZdR i=some (unV i):=by
  unfold ZdR
  rw [ZpG (by decide),ZpG (by decide)]
  have e1:([1,4,6].any fun x=>decide (i.Kind=x))=(decide (i.Kind=1) || decide (i.Kind=4) || decide (i.Kind=6)):=by simp [Bool.or_assoc]
  have e2:([3,5].any fun x=>decide (i.Kind=x))=(decide (i.Kind=3) || decide (i.Kind=5)):=by simp
  simp only [e1,e2,Znq,Option.bind_some,unV]
  generalize (decide (i.Kind=1) || decide (i.Kind=4) || decide (i.Kind=6))=k1
  generalize (!decide (i.Low=0) || !decide (i.High=0) || !decide (i.Steps=0) || decide (0<(i.Zones.length:Int)))=q
  generalize (decide (i.Kind=3) || decide (i.Kind=5))=k3
  generalize (!decide (i.Op=0) || !decide (i.N=0))=r
  generalize (!decide (i.Places=0))=p
  generalize (!decide (i.Size=0))=z
  generalize decide (i.Kind=2)=k2
  generalize decide (i.Kind=3)=k4
  generalize decide (i.Kind=6)=k5
  generalize i.Latch=l
  cases p<;>cases k1<;>cases q<;>cases k2<;>simp<;>cases r<;>cases k3<;>simp<;>cases l<;>cases k4<;>simp
end Go.Vx
