/- A text of the proof: a verified executor of the program form, or the contracts of the functions that the law reaches. -/
import Derived.Test.YtailpehcgelmdaaGreatDoorShLib
import Derived.Test.YtailpehcgelmdaaGreatDoorShT
import Derived.Test.YtailpehcgelmdaaGreatDoorVG
import Derived.Test.YtailpehcgelmdaaGreatDoorVO
set_option linter.all false
namespace Go.Vx
open Go Go.RowKit
theorem ZA{z:Int}(h1: -9223372036854775808≤z)(h2:z≤9223372036854775807):IntKind.i64.wrap z=z:=w64 h1 h2
theorem Zmy{z:Int}(h1:0≤z)(h2:z<18446744073709551616):IntKind.u64.wrap z=z:=Znr h1 h2
@[simp] theorem Zmw {α:Type} {d:α} {o:Option α}:gd true d o=o:=rfl
@[simp] theorem ZnC {α:Type} {d:α} {o:Option α}:gd false d o=some d:=rfl
@[simp] theorem ZlQ {α:Type} {d:α} {o:Option α}:gd (true==true) d o=o:=rfl
theorem Z1{α:Type}{xs:List α}{k:Nat}{x:α}(h:xs[k]?=some x):idx xs (k:Int)=some x:=by simp [idx,h]
theorem Zaa{α:Type}{xs:List α}{k:Nat}{x:α}(h:xs[k]?=some x):(k:Int)<(xs.length:Int):=by
  have:=(List.getElem?_eq_some_iff.1 h).1;omega
theorem XN{α:Type}{xs:List α}{k:Nat}(h:k<xs.length): ∃ x,xs[k]?=some x:=⟨xs[k],List.getElem?_eq_getElem h⟩
theorem ZfQ{α:Type}{xs:List α}{k:Nat}{x:α}(h:xs[k]?=some x):xs.drop k=x::xs.drop (k+1):=by
  obtain⟨hk,rfl⟩:=List.getElem?_eq_some_iff.1 h
  exact List.drop_eq_getElem_cons hk
theorem ZfC{α:Type}{xs ys:List α}(h:xs.length+ys.length≤4294967296):app xs ys=some (xs++ys):=by unfold app apz;rw [if_pos (by omega)]
section loops
variable {σ ρ:Type}
theorem ZcK{body:σ→Option (σ ⊕ ρ)}(I:σ→Prop)(μ:σ→Nat)(F:σ→ρ)(step: ∀ s,I s→(∃ s',body s=some (.inl s')∧I s'∧μ s'<μ s∧F s=F s')∨body s=some (.inr (F s))):
    ∀ s,I s→loop body s=some (F s):=by
  intro s hs
  obtain⟨r,h1,h2⟩:=ZkZ (body:=body) (fun s'=>I s'∧F s=F s') μ (fun r=>r=F s) (fun s' ⟨h1,h2⟩=>by
    rcases step s' h1 with ⟨s2,e1,e2,e3,e4⟩ |e
    · exact .inl ⟨s2,e1,⟨e2,h2.trans e4⟩,e3⟩
    · exact .inr ⟨_,e,h2.symm⟩) s ⟨hs,rfl⟩
  rw [h1,h2]
variable {α:Type} {xs:List α}
theorem Zff{body:Int→Option (Int ⊕ ρ)}(F:Nat→ρ)
    (hstep: ∀ (k:Nat) x,xs[k]?=some x→(body k=some (.inl ((k:Int)+1))∧F k=F (k+1))∨body k=some (.inr (F k)))
    (hend:body xs.length=some (.inr (F xs.length))):loop (t1 body) 0=some (F 0):=by
  refine ZcK (body:=t1 body) (fun i=> ∃ k:Nat,i=k∧k≤xs.length) (fun i=>xs.length-i.toNat) (fun i=>F i.toNat) ?_ 0 ⟨0,rfl,Nat.zero_le _⟩
  rintro i ⟨k,rfl,hk⟩
  simp only [Int.toNat_natCast,ZdI]
  rcases Nat.lt_or_ge k xs.length with h |h
  · obtain⟨x,hx⟩:=XN h
    rcases hstep k x hx with ⟨h1,h2⟩ |h1
    · exact .inl ⟨_,h1,⟨k+1,by push_cast;rfl,h⟩,by omega,by rw [h2];rfl⟩
    · exact .inr h1
  · have:k=xs.length:=by omega
    subst this
    exact .inr hend
theorem ZaN{body:σ→Int→Option ((σ×Int) ⊕ ρ)}(I:σ→Nat→Prop)(F:σ→Nat→ρ)
    (hstep: ∀ a (k:Nat) x,I a k→xs[k]?=some x→(∃ a',body a k=some (.inl (a',(k:Int)+1))∧I a' (k+1)∧F a k=F a' (k+1))∨body a k=some (.inr (F a k)))
    (hend: ∀ a,I a xs.length→body a xs.length=some (.inr (F a xs.length))) {a0:σ} (h0:I a0 0):loop (t2 body) (a0,0)=some (F a0 0):=by
  refine ZcK (body:=t2 body) (fun p=> ∃ k:Nat,p.2=k∧k≤xs.length∧I p.1 k) (fun p=>xs.length-p.2.toNat) (fun p=>F p.1 p.2.toNat) ?_ (a0,0) ⟨0,rfl,Nat.zero_le _,h0⟩
  rintro⟨a,i⟩ ⟨k,hi,hk,hI⟩
  simp only at hi hI
  subst hi
  simp only [Int.toNat_natCast,Zfe]
  rcases Nat.lt_or_ge k xs.length with h |h
  · obtain⟨x,hx⟩:=XN h
    rcases hstep a k x hI hx with ⟨a',h1,h2,h3⟩ |h1
    · exact .inl ⟨_,h1,⟨k+1,by push_cast;rfl,h,h2⟩,by simp only;omega,by rw [h3];rfl⟩
    · exact .inr h1
  · have:k=xs.length:=by omega
    subst this
    exact .inr (hend a hI)
end loops
end Go.Vx

namespace Go.Vx
open Go Go.RowKit
abbrev Smp:=api_Sample
def wi(n lo hi:Int):Bool:=decide (lo≤n)&&decide (n≤hi)
theorem ZiM(n a b:Int):Xl n a b=some (wi n a b):=rfl
theorem Zen(n a b:Int):Jk n a b=some (!wi n a b):=by
  simp only [Jk,wi,Option.some.injEq]
  rw [Bool.eq_iff_iff];simp [Int.not_le]
theorem Xx{n a b:Int}:wi n a b=true↔a≤n∧n≤b:=by simp [wi]
def ZaR(x:Smp):Option Int:=if !(wi x.At 0 1099511627776&&wi x.N (-1125899906842624) 1125899906842624&&wi x.Mark 0 4) then some 9 else if !decide (x.N=0)&&decide (x.Mark≤1) then some 2 else none
def ZiE(xs:List Smp)(k:Nat):Option Smp:=if k=0 then none else xs[k-1]?
def ZdU(p:Option Smp)(x:Smp):Bool:=match p with |none=>false |some q=>decide (x.At≤q.At)
def Ze7:Option Smp→Nat→List Smp→Int×Int
  |_,_,[]=>(-1,0)
  |p,k,x::tl=>match ZaR x with |some e=>((k:Int),e) |none=>if ZdU p x then((k:Int),10) else Ze7 (some x) (k+1) tl
def chk(s:api_Series):Int×Int:=if wi s.Den 1 1000000 then(if(s.Samples.length:Int)≤20000 then Ze7 none 0 s.Samples else(-1,3)) else(-1,9)
theorem ZhM{xs:List Smp}{k:Nat}{x:Smp}(h:xs[k]?=some x):ZiE xs (k+1)=some x:=by simp [ZiE,h]
theorem ZiN{xs:List Smp}{k:Nat}(hk:0<k)(h:k≤xs.length): ∃ y,xs[k-1]?=some y∧ZiE xs k=some y∧idx xs ((k:Int)-1)=some y:=by
  obtain⟨y,hy⟩:=XN (xs:=xs) (k:=k-1) (by omega)
  refine⟨y,hy,by simp [ZiE,hy];omega,?_⟩
  have:((k:Int)-1)=((k-1:Nat):Int):=by omega
  rw [this,Z1 hy]
theorem Zjh(s:api_Series)(h:(s.Samples.length:Int)≤20000):
    loop (t1 (XE s)) 0=some ((fun r:Int×Int=>if r.2=0 then Sum.inr () else Sum.inl r) (Ze7 none 0 s.Samples)):=by
  refine Zff (xs:=s.Samples) (fun k=>(fun r:Int×Int=>if r.2=0 then Sum.inr () else Sum.inl r) (Ze7 (ZiE s.Samples k) k (s.Samples.drop k))) (fun k x hx=> ?_) ?_
  · have hlt:=Zaa hx
    rw [ZfQ hx,Ze7]
    simp only [XE,Z1 hx,hlt,decide_true,if_true,Option.bind_some,ZiM]
    by_cases hb:(wi x.At 0 1099511627776&&wi x.N (-1125899906842624) 1125899906842624&&wi x.Mark 0 4)=true
    · simp only [Bool.and_eq_true] at hb
      obtain⟨⟨h1,h2⟩,h3⟩:=hb
      by_cases hh:(!decide (x.N=0)&&decide (x.Mark≤1))=true
      · right
        simp [ZaR,h1,h2,h3,hh]
      · have hs:ZaR x=none:=by simp only [ZaR,h1,h2,h3];simp [hh]
        rw [hs]
        rcases Nat.eq_zero_or_pos k with rfl |hk
        · left
          simp [h1,h2,h3,hh,ZA,ZiE,ZdU,hx]
        · obtain⟨y,hy,hp,hi⟩:=ZiN (xs:=s.Samples) hk (by omega)
          have hk':(0:Int)<k:=by omega
          rw [hp]
          have hw:IntKind.i64.wrap ((k:Int)-1)=(k:Int)-1:=ZA (by omega) (by omega)
          have hw2:IntKind.i64.wrap ((k:Int)+1)=(k:Int)+1:=ZA (by omega) (by omega)
          by_cases ho:x.At≤y.At
          · right;simp [h1,h2,h3,hh,hw,hi,hk,ZdU,ho]
          · left;simp [h1,h2,h3,hh,hw,hw2,hi,hk,ZdU,ho,ZhM hx]
    · right
      have hs:ZaR x=some 9:=by
        simp only [ZaR]
        rw [if_pos (by cases h1:wi x.At 0 1099511627776<;>cases h2:wi x.N (-1125899906842624) 1125899906842624<;>cases h3:wi x.Mark 0 4<;>simp_all)]
      rw [hs]
      simp only [Bool.and_eq_true,not_and,Bool.not_eq_true] at hb
      cases h1:wi x.At 0 1099511627776<;>cases h2:wi x.N (-1125899906842624) 1125899906842624<;>cases h3:wi x.Mark 0 4<;>simp_all
  · simp [XE,List.drop_length,Ze7]
theorem Ze1: ∀ (p:Option Smp) (k:Nat) (xs:List Smp),Ze7 p k xs=(-1,0)∨(Ze7 p k xs).2≠0
  |_,_,[]=> .inl rfl
  |p,k,x::tl=>by
    rw [Ze7]
    split
    · rename_i e he;right;unfold ZaR at he;split at he
      · cases he;simp
      · split at he<;>cases he;simp
    · split
      · right;simp
      · exact Ze1 _ _ tl
theorem Zln(s:api_Series):JL s=some (chk s):=by
  simp only [JL,ZiM,Option.bind_some,chk]
  cases hd:wi s.Den 1 1000000 with
  |false=>simp
  |true=>
    by_cases hl:(s.Samples.length:Int)≤20000
    · rw [Zjh s hl]
      simp only [show ¬20000<(s.Samples.length:Int) by omega,hl,decide_false,if_true,if_false,Bool.not_true,Option.bind_some,Bool.false_eq_true]
      rcases Ze1 none 0 s.Samples with h |h
      · simp [h]
      · simp [h]
    · simp [hl,show 20000<(s.Samples.length:Int) by omega]
theorem Zi7(x:Smp):Zbs x=some ((ZaR x).getD 0):=by
  simp only [Zbs,Zen,Option.bind_some,Zew,ZaR]
  cases h1:wi x.At 0 1099511627776<;>cases h2:wi x.N (-1125899906842624) 1125899906842624<;>cases h3:wi x.Mark 0 4<;>simp
  by_cases h4:x.N=0<;>by_cases h5:x.Mark≤1<;>simp [h4,h5]<;>omega
theorem Zg1{x:Smp}{e:Int}(h:ZaR x=some e):e=9∨e=2:=by
  unfold ZaR at h;split at h
  · cases h;simp
  · split at h<;>cases h;simp
theorem Zjl(s:api_Series)(h:(s.Samples.length:Int)≤20000):
    loop (t1 (ZbJ s)) 0=some ((fun r:Int×Int=>if r.2=0 then Sum.inr () else Sum.inl r) (Ze7 none 0 s.Samples)):=by
  refine Zff (xs:=s.Samples) (fun k=>(fun r:Int×Int=>if r.2=0 then Sum.inr () else Sum.inl r) (Ze7 (ZiE s.Samples k) k (s.Samples.drop k))) (fun k x hx=> ?_) ?_
  · have hlt:=Zaa hx
    rw [ZfQ hx,Ze7]
    simp only [ZbJ,Z1 hx,hlt,decide_true,if_true,Option.bind_some,Zi7]
    cases hs:ZaR x with
    |some e=>
      right
      rcases Zg1 hs with rfl |rfl<;>simp
    |none=>
      rcases Nat.eq_zero_or_pos k with rfl |hk
      · left
        simp [ZA,ZiE,ZdU,hx]
      · obtain⟨y,hy,hp,hi⟩:=ZiN (xs:=s.Samples) hk (by omega)
        rw [hp]
        have hw:IntKind.i64.wrap ((k:Int)-1)=(k:Int)-1:=ZA (by omega) (by omega)
        have hw2:IntKind.i64.wrap ((k:Int)+1)=(k:Int)+1:=ZA (by omega) (by omega)
        by_cases ho:x.At≤y.At
        · right;simp [hw,hi,hk,ZdU,ho]
        · left;simp [hw,hw2,hi,hk,ZdU,ho,ZhM hx]
  · simp [ZbJ,List.drop_length,Ze7]
theorem ZlB(s:api_Series):Ze4 s=some (chk s):=by
  simp only [Ze4,Zen,Option.bind_some,chk]
  cases hd:wi s.Den 1 1000000 with
  |false=>simp
  |true=>
    by_cases hl:(s.Samples.length:Int)≤20000
    · rw [Zjl s hl]
      simp only [show ¬20000<(s.Samples.length:Int) by omega,hl,decide_false,if_true,if_false,Bool.not_true,Option.bind_some,Bool.false_eq_true]
      rcases Ze1 none 0 s.Samples with h |h
      · simp [h]
      · simp [h]
    · simp [hl,show 20000<(s.Samples.length:Int) by omega]
theorem Zlh(s:api_Series):JO s=some (chk s).2:=by simp [JO,Zln]
theorem Zkf(s:api_Series):ZeI s=some (chk s).2:=by simp [ZeI,ZlB]
structure SerOK (s:api_Series):Prop where
  den:1≤s.Den∧s.Den≤1000000
  len:(s.Samples.length:Int)≤20000
  at': ∀ (k:Nat) x,s.Samples[k]?=some x→(0≤x.At∧x.At≤1099511627776)∧(-1125899906842624≤x.N∧x.N≤1125899906842624)∧(0≤x.Mark∧x.Mark≤4)∧(x.N≠0→2≤x.Mark)
  rise: ∀ (i j:Nat) x y,i<j→s.Samples[i]?=some x→s.Samples[j]?=some y→x.At<y.At
theorem ZhB: ∀ (p:Option Smp) (k:Nat) (xs:List Smp),(Ze7 p k xs).2=0→
    (∀ (j:Nat) x,xs[j]?=some x→ZaR x=none∧ ∀ q,p=some q→q.At<x.At)∧(∀ (i j:Nat) x y,i<j→xs[i]?=some x→xs[j]?=some y→x.At<y.At)
  |_,_,[],_=>⟨fun j x h=>by simp at h,fun i j x y _ h=>by simp at h⟩
  |p,k,x::tl,h=>by
    rw [Ze7] at h
    cases hs:ZaR x with
    |some e=>rw [hs] at h;rcases Zg1 hs with rfl |rfl<;>simp at h
    |none=>
      rw [hs] at h
      simp only at h
      split at h
      · simp at h
      · rename_i ho
        obtain⟨h1,h2⟩:=ZhB _ _ tl h
        have hpx: ∀ q,p=some q→q.At<x.At:=fun q hq=>by subst hq;simpa [ZdU] using ho
        refine⟨fun j y hy=> ?_,fun i j u v hij hu hv=> ?_⟩
        · cases j with
          |zero=>simp at hy;subst hy;exact⟨hs,hpx⟩
          |succ j=>
            have hy':tl[j]?=some y:=by simpa using hy
            obtain⟨g1,g2⟩:=h1 j y hy'
            exact⟨g1,fun q hq=>Int.lt_trans (hpx q hq) (g2 x rfl)⟩
        · cases j with
          |zero=>omega
          |succ j=>
            have hv':tl[j]?=some v:=by simpa using hv
            cases i with
            |zero=>simp at hu;subst hu;exact(h1 j v hv').2 x rfl
            |succ i=>exact h2 i j u v (by omega) (by simpa using hu) hv'
theorem Zea{s:api_Series}(h:(chk s).2=0):SerOK s:=by
  unfold chk at h
  split at h
  · rename_i hd
    split at h
    · rename_i hl
      obtain⟨h1,h2⟩:=ZhB none 0 s.Samples h
      refine⟨Xx.1 hd,hl,fun k x hx=> ?_,h2⟩
      have:=(h1 k x hx).1
      unfold ZaR at this
      split at this
      · cases this
      · rename_i hb
        split at this
        · cases this
        · rename_i hh
          simp only [Bool.not_eq_true',Bool.not_eq_false,Bool.and_eq_true,Xx] at hb
          simp only [Bool.and_eq_true,Bool.not_eq_true',decide_eq_false_iff_not,decide_eq_true_eq] at hh
          exact⟨hb.1.1,hb.1.2,hb.2,fun h0=>by omega⟩
    · simp at h
  · simp at h
end Go.Vx

namespace Go.Vx
open Go Go.RowKit
def Qe(xs:List Smp)(t:Int):Nat:=xs.countP fun x=>decide (x.At≤t)
theorem Zcb: ∀ (xs:List Smp) (t:Int),(∀ (i j:Nat) x y,i<j→xs[i]?=some x→xs[j]?=some y→x.At<y.At)→
    (∀ (k:Nat) x,k<Qe xs t→xs[k]?=some x→x.At≤t)∧(∀ (k:Nat) x,Qe xs t≤k→xs[k]?=some x→t<x.At)
  | [],_,_=>⟨fun k x h=>by simp [Qe] at h,fun k x _ h=>by simp at h⟩
  |x::tl,t,hr=>by
    obtain⟨h1,h2⟩:=Zcb tl t fun i j u v hij hu hv=>hr (i+1) (j+1) u v (by omega) (by simpa using hu) (by simpa using hv)
    have hx: ∀ (j:Nat) y,tl[j]?=some y→x.At<y.At:=fun j y hy=>hr 0 (j+1) x y (by omega) rfl (by simpa using hy)
    by_cases hc:x.At≤t
    · have e:Qe (x::tl) t=Qe tl t+1:=by simp [Qe,hc]
      rw [e]
      refine⟨fun k y hk hy=> ?_,fun k y hk hy=> ?_⟩
      · cases k with
        |zero=>simp at hy;subst hy;exact hc
        |succ k=>exact h1 k y (by omega) (by simpa using hy)
      · cases k with
        |zero=>omega
        |succ k=>exact h2 k y (by omega) (by simpa using hy)
    · have e0:Qe tl t=0:=by
        unfold Qe
        rw [List.countP_eq_zero]
        intro y hy
        obtain⟨j,hj⟩:=List.mem_iff_getElem?.1 hy
        have:=hx j y hj
        simp;omega
      have e:Qe (x::tl) t=0:=by
        have:Qe (x::tl) t=Qe tl t:=by simp [Qe,hc]
        rw [this,e0]
      rw [e]
      refine⟨fun k y hk _=>by omega,fun k y _ hy=> ?_⟩
      cases k with
      |zero=>simp at hy;subst hy;omega
      |succ k=>have:=hx k y (by simpa using hy);omega
theorem ZgJ(xs:List Smp)(t:Int):Qe xs t≤xs.length:=List.countP_le_length
def ZeA(xs:List Smp)(t:Int):Option Smp:=if Qe xs t=0 then none else xs[Qe xs t-1]?
def Zak(xs:List Smp)(t long:Int):Option Smp:=(ZeA xs t).bind fun x=>if 3≤x.Mark∧t-x.At≤long then some x else none
def z0:Smp:=api_Sample.mk 0 0 0
def Zep(o:Option Smp):Smp×Bool:=match o with |some x=>(x,true) |none=>(z0,false)
theorem Zc0{ρ:Type}{body:Int→Int→Option ((Int×Int) ⊕ ρ)}(n c:Nat)(F:Nat→ρ)(hc:c≤n)(hn:n≤4611686018427387904)
    (hstep: ∀ (i j m:Nat),i<j→j≤n→m=(i+j)/2→(m<c→body i j=some (.inl ((m:Int)+1,j)))∧(c≤m→body i j=some (.inl (i,(m:Int)))))
    (hend: ∀ i:Nat,body i i=some (.inr (F i))):loop (t2 body) (0,(n:Int))=some (F c):=by
  refine ZcK (body:=t2 body) (fun p=> ∃ i j:Nat,p=((i:Int),(j:Int))∧i≤c∧c≤j∧j≤n) (fun p=>(p.2-p.1).toNat) (fun _=>F c) ?_ _ ⟨0,n,rfl,Nat.zero_le _,hc,Nat.le_refl _⟩
  rintro _ ⟨i,j,rfl,h1,h2,h3⟩
  simp only [Zfe]
  rcases Nat.lt_or_ge i j with h |h
  · obtain⟨g1,g2⟩:=hstep i j ((i+j)/2) h h3 rfl
    rcases Nat.lt_or_ge ((i+j)/2) c with h4 |h4
    · exact .inl ⟨_,g1 h4,⟨(i+j)/2+1,j,by push_cast;rfl,h4,h2,h3⟩,by simp only;omega,by trivial⟩
    · exact .inl ⟨_,g2 h4,⟨i,(i+j)/2,rfl,h1,h4,by omega⟩,by simp only;omega,by trivial⟩
  · have e1:i=c:=by omega
    have e2:j=c:=by omega
    subst e1;subst e2
    exact .inr (hend _)
theorem ZlM{s:api_Series}(hs:SerOK s)(t long:Int)(ht:0≤t∧t≤1099511627776):Zf2 s t long=some (Zep (Zak s.Samples t long)):=by
  have hlen:=hs.len
  obtain⟨hc1,hc2⟩:=Zcb s.Samples t hs.rise
  have hcl:=ZgJ s.Samples t
  have hl:loop (t2 (Zb5 s t)) (0,(s.Samples.length:Int))=some ((Qe s.Samples t:Nat):Int):=by
    refine Zc0 s.Samples.length (Qe s.Samples t) (fun k=>(k:Int)) hcl (by omega) (fun i j m hij hj hm=> ?_) (fun i=> ?_)
    · obtain⟨x,hx⟩:=XN (xs:=s.Samples) (k:=m) (by omega)
      have hq:quo .i64 (i64 ((i:Int)+j)) 2=some (m:Int):=by
        rw [i64,ZA (by omega) (by omega),quo,if_neg (by decide),Int.tdiv_eq_ediv_of_nonneg (by omega),ZA (by omega) (by omega)]
        congr 1;omega
      have h2:(i:Int)<j:=by omega
      simp only [Zb5,h2,decide_true,if_true,hq,Option.bind_some,Z1 hx]
      refine⟨fun h=> ?_,fun h=> ?_⟩
      · have:=hc1 m x h hx
        simp [this,ZA (show-9223372036854775808≤(m:Int)+1 by omega) (by omega)]
      · have:=hc2 m x h hx
        simp [show ¬x.At≤t by omega]
    · simp [Zb5]
  simp only [Zf2,hl,Option.bind_some,t1]
  by_cases h0:Qe s.Samples t=0
  · simp [h0,Zak,ZeA,Zep,z0]
  · obtain⟨x,hx⟩:=XN (xs:=s.Samples) (k:=Qe s.Samples t-1) (by omega)
    have hi:idx s.Samples (IntKind.i64.wrap ((Qe s.Samples t:Int)-1))=some x:=by
      rw [ZA (by omega) (by omega),show((Qe s.Samples t:Int)-1)=((Qe s.Samples t-1:Nat):Int) by omega,Z1 hx]
    obtain⟨hx1,_,_,_⟩:=hs.at' _ _ hx
    have hw:IntKind.i64.wrap (t-x.At)=t-x.At:=ZA (by omega) (by omega)
    simp only [h0,hi,Zg3,Zak,ZeA,hx,hw,Option.bind_some,i64,decide_false,if_false,Int.natCast_eq_zero,Bool.false_eq_true]
    by_cases h3:3≤x.Mark
    · by_cases h4:long<t-x.At
      · simp [h3,h4,Zep,z0,show ¬t-x.At≤long by omega]
      · simp [h3,h4,Zep,show t-x.At≤long by omega]
    · simp [h3,Zep,z0]
end Go.Vx

namespace Go.Vx
open Go Go.RowKit
theorem Zir{xs:List Smp}{t:Int}{c:Nat}(hr: ∀ (i j:Nat) x y,i<j→xs[i]?=some x→xs[j]?=some y→x.At<y.At)(hc:c≤xs.length)
    (h1: ∀ (k:Nat) x,k<c→xs[k]?=some x→x.At≤t) (h2: ∀ (k:Nat) x,c≤k→xs[k]?=some x→t<x.At):Qe xs t=c:=by
  obtain⟨g1,g2⟩:=Zcb xs t hr
  have hl:=ZgJ xs t
  rcases Nat.lt_trichotomy (Qe xs t) c with h |h |h
  · obtain⟨x,hx⟩:=XN (xs:=xs) (k:=Qe xs t) (by omega)
    have:=h1 _ x h hx;have:=g2 _ x (Nat.le_refl _) hx;omega
  · exact h
  · obtain⟨x,hx⟩:=XN (xs:=xs) (k:=c) (by omega)
    have:=g1 _ x h hx;have:=h2 _ x (Nat.le_refl _) hx;omega
theorem ZlP{i j:Nat}(h:i+j<4611686018427387904):shr .u64 (u64 (i64 ((i:Int)+j))) 1=some (((i+j)/2:Nat):Int):=by
  rw [i64,u64,ZA (by omega) (by omega),Zmy (by omega) (by omega),shr,if_neg (by decide)]
  have:min (1:Int).toNat IntKind.u64.bits=1:=by decide
  rw [this]
  congr 1
  rw [Int.fdiv_eq_ediv_of_nonneg _ (by decide)]
  omega
theorem Zns{xs:List Smp}{t:Int}(hlen:(xs.length:Int)≤20000)(hat: ∀ (k:Nat) x,xs[k]?=some x→0≤x.At∧x.At≤1099511627776)
    (hr: ∀ (i j:Nat) x y,i<j→xs[i]?=some x→xs[j]?=some y→x.At<y.At) (ht:0≤t∧t≤1099511627776):
    Zu xs t (fun z0 z1=>QG z0 z1)=some ((Qe xs (t-1):Int),decide (∃ x,xs[Qe xs (t-1)]?=some x∧x.At=t)):=by
  obtain⟨hc1,hc2⟩:=Zcb xs (t-1) hr
  have hcl:=ZgJ xs (t-1)
  have hcmp: ∀ (k:Nat) x,xs[k]?=some x→QG x t=some (x.At-t):=fun k x hx=>by
    have:=hat k x hx
    simp only [QG,i64]
    rw [ZA (by omega) (by omega)]
  have hl:loop (t2 (Zp xs t (fun z0 z1=>QG z0 z1))) (0,(xs.length:Int))=some ((Qe xs (t-1):Nat):Int):=by
    refine Zc0 xs.length (Qe xs (t-1)) (fun k=>(k:Int)) hcl (by omega) (fun i j m hij hj hm=> ?_) (fun i=> ?_)
    · obtain⟨x,hx⟩:=XN (xs:=xs) (k:=m) (by omega)
      have h2:(i:Int)<j:=by omega
      have hm':shr .u64 (u64 (i64 ((i:Int)+j))) 1=some (m:Int):=by rw [ZlP (by omega),hm]
      have hmi:i64 (m:Int)=m:=ZA (by omega) (by omega)
      simp only [Zp,h2,decide_true,if_true,hm',Option.bind_some,hmi,Z1 hx,hcmp m x hx]
      refine⟨fun h=> ?_,fun h=> ?_⟩
      · have:=hc1 m x h hx
        simp [show x.At-t<0 by omega,ZA (show-9223372036854775808≤(m:Int)+1 by omega) (by omega)]
      · have:=hc2 m x h hx
        simp [show ¬x.At-t<0 by omega]
    · simp [Zp]
  simp only [Zu,hl,Option.bind_some,t1]
  rcases Nat.lt_or_ge (Qe xs (t-1)) xs.length with h |h
  · obtain⟨x,hx⟩:=XN h
    have h':((Qe xs (t-1):Nat):Int)<xs.length:=by omega
    simp only [h',decide_true,Z1 hx,ZlQ,Option.bind_some,hcmp _ x hx,hx,Bool.true_and,Option.some.injEq,exists_eq_left',Prod.mk.injEq,true_and]
    simp only [decide_eq_decide];omega
  · have h': ¬((Qe xs (t-1):Nat):Int)<xs.length:=by omega
    simp [gd,h,List.getElem?_eq_none h,show ¬Qe xs (t-1)<xs.length by omega]
theorem Zk2{s:api_Series}(hs:SerOK s){t:Int}(ht:0≤t∧t≤1099511627776):Jm s t=some ((Qe s.Samples t:Int)-1):=by
  have hlen:=hs.len
  obtain⟨hc1,hc2⟩:=Zcb s.Samples (t-1) hs.rise
  have hcl:=ZgJ s.Samples (t-1)
  simp only [Jm,Zns hlen (fun k x hx=>(hs.at' k x hx).1) hs.rise ht,Option.bind_some]
  by_cases hf: ∃ x,s.Samples[Qe s.Samples (t-1)]?=some x∧x.At=t
  · obtain⟨x,hx,hxt⟩:=hf
    have hlt:=(List.getElem?_eq_some_iff.1 hx).1
    have:Qe s.Samples t=Qe s.Samples (t-1)+1:=Zir hs.rise (by omega) (fun k y hk hy=>by
        rcases Nat.lt_or_ge k (Qe s.Samples (t-1)) with h |h
        · have:=hc1 k y h hy;omega
        · have:k=Qe s.Samples (t-1):=by omega
          subst this;rw [hx] at hy;cases hy;omega) (fun k y hk hy=>by
        have:=hs.rise _ _ _ _ (show Qe s.Samples (t-1)<k by omega) hx hy;omega)
    have hd:(∃ x,s.Samples[Qe s.Samples (t-1)]?=some x∧x.At=t):=⟨x,hx,hxt⟩
    simp only [hd,decide_true,if_true,this]
    congr 1;omega
  · have:Qe s.Samples t=Qe s.Samples (t-1):=Zir hs.rise hcl (fun k y hk hy=>by have:=hc1 k y hk hy;omega) (fun k y hk hy=>by
        have h1:=hc2 k y hk hy
        rcases Nat.lt_or_ge (Qe s.Samples (t-1)) k with h |h
        · obtain⟨x,hx⟩:=XN (xs:=s.Samples) (k:=Qe s.Samples (t-1)) (by have:=(List.getElem?_eq_some_iff.1 hy).1;omega)
          have:=hs.rise _ _ _ _ h hx hy
          have:=hc2 _ x (Nat.le_refl _) hx;omega
        · have:k=Qe s.Samples (t-1):=by omega
          subst this
          have: ¬y.At=t:=fun e=>hf ⟨y,hy,e⟩
          omega)
    simp only [hf,decide_false,this,i64,Bool.false_eq_true,if_false]
    rw [ZA (by omega) (by omega)]
theorem ZmD{s:api_Series}(hs:SerOK s)(t long:Int)(ht:0≤t∧t≤1099511627776):Zah s t long=some (Zep (Zak s.Samples t long)):=by
  have hlen:=hs.len
  have hcl:=ZgJ s.Samples t
  simp only [Zah,Zk2 hs ht,Option.bind_some]
  by_cases h0:Qe s.Samples t=0
  · simp [h0,Zak,ZeA,Zep,z0,gd]
  · obtain⟨x,hx⟩:=XN (xs:=s.Samples) (k:=Qe s.Samples t-1) (by omega)
    have hi:idx s.Samples ((Qe s.Samples t:Int)-1)=some x:=by
      rw [show((Qe s.Samples t:Int)-1)=((Qe s.Samples t-1:Nat):Int) by omega,Z1 hx]
    obtain⟨hx1,_,_,_⟩:=hs.at' _ _ hx
    have hw:IntKind.i64.wrap (t-x.At)=t-x.At:=ZA (by omega) (by omega)
    have hn: ¬((Qe s.Samples t:Int)-1<0):=by omega
    simp only [h0,hi,hn,Zaz,Zak,ZeA,hx,hw,Option.bind_some,i64,decide_false,if_false,Bool.false_eq_true]
    by_cases h3:3≤x.Mark
    · by_cases h4:long<t-x.At
      · simp [h3,h4,Zep,z0,show ¬t-x.At≤long by omega,hw]
      · simp [h3,h4,Zep,show t-x.At≤long by omega,hw]
    · simp [h3,Zep,z0]
def Zip(s:api_Series)(t long:Int):Smp×Bool×Int:=
  if(chk s).2≠0 then(z0,false,(chk s).2) else if wi t 0 1099511627776&&wi long 0 1099511627776 then((Zep (Zak s.Samples t long)).1,(Zep (Zak s.Samples t long)).2,0) else(z0,false,9)
theorem Zla(s:api_Series)(t long:Int):Zf1 s t long=some (Zip s t long):=by
  simp only [Zf1,Zkf,Zen,Option.bind_some,Zip]
  by_cases h0:(chk s).2=0
  · cases h1:wi t 0 1099511627776 with
    |false=>simp [h0,z0]
    |true=>cases h2:wi long 0 1099511627776 with
      |false=>simp [h0,z0]
      |true=>simp [h0,ZlM (Zea h0) t long (Xx.1 h1)]
  · simp [h0,z0]
end Go.Vx

namespace Go.Vx
open Go Go.RowKit
section err
variable {α ε:Type}
def ZaH{ρ:Type}(A:ε→ρ)(Z:ρ):Option ε→ρ
  |some e=>A e
  |none=>Z
@[simp] theorem ZmK {ρ:Type} (A:ε→ρ) (Z:ρ) (e:ε):ZaH A Z (some e)=A e:=rfl
@[simp] theorem Zmc {ρ:Type} (A:ε→ρ) (Z:ρ):ZaH A Z none=Z:=rfl
end err
end Go.Vx

namespace Go.Vx
open Go Go.RowKit
def Jj{σ ρ:Type}(b:σ→Option (σ ⊕ ρ))(s:σ):Option ρ:=
  Nat.rec (motive:=fun _=>σ→Option ρ) (fun _=>none) (fun _ ih s=>match b s with |none=>none |some (.inl s')=>ih s' |some (.inr r)=>some r) 1000000 s
def Le{α:Type}(a b:Option α):Prop:= ∀ r,a=some r→b=some r
theorem Le.refl{α:Type}(a:Option α):Le a a:=fun _ h=>h
section
variable {α β γ δ ε ζ η θ ι κ σ ρ:Type}
theorem Le.bind{a b:Option α}{f g:α→Option β}(h:Le a b)(hf: ∀ x,Le (f x) (g x)):Le (a.bind f) (b.bind g):=by
  intro r hr
  cases ha:a with
  |none=>rw [ha] at hr;cases hr
  |some x=>rw [ha] at hr;rw [h x ha];exact hf x r hr
theorem Le.ite{c:Prop}[Decidable c]{a b a' b':Option α}(h1:Le a a')(h2:Le b b'):Le (if c then a else b) (if c then a' else b'):=by
  split
  · exact h1
  · exact h2
theorem Le.gd{g:Bool}{d:α}{a b:Option α}(h:Le a b):Le (gd g d a) (gd g d b):=by
  cases g
  · exact fun r hr=>hr
  · exact h
theorem Le.loop{b b':σ→Option (σ ⊕ ρ)}{s:σ}(h: ∀ s,Le (b s) (b' s)):Le (Jj b s) (loop b' s):=by
  have key: ∀ n s r,Nat.rec (motive:=fun _=>σ→Option ρ) (fun _=>none) (fun _ ih s=>match b s with |none=>none |some (.inl s')=>ih s' |some (.inr r)=>some r) n s=some r→Zco b' n s=some r:=by
    intro n
    induction n with
    |zero=>intro s r hr;cases hr
    |succ n ih=>
      intro s r hr
      simp only at hr
      cases hb:b s with
      |none=>rw [hb] at hr;cases hr
      |some o=>
        rw [hb] at hr
        simp only [Zco,h s o hb,Option.bind_some]
        cases o with
        |inl s'=>exact ih s' r hr
        |inr r'=>exact hr
  intro r hr
  exact ZgD (key 1000000 s r hr)
theorem Le.t0{f g:Option κ}{p:Unit}(h:Le f g):Le (t0 f p) (t0 g p):=h
theorem Le.t1{f g:α→Option κ}{p:α}(h: ∀ a,Le (f a) (g a)):Le (t1 f p) (t1 g p):=h _
theorem Le.t2{f g:α→β→Option κ}{p:α×β}(h: ∀ a b,Le (f a b) (g a b)):Le (t2 f p) (t2 g p):=h _ _
theorem Le.t3{f g:α→β→γ→Option κ}{p:α×β×γ}(h: ∀ a b c,Le (f a b c) (g a b c)):Le (t3 f p) (t3 g p):=h _ _ _
theorem Le.t4{f g:α→β→γ→δ→Option κ}{p:α×β×γ×δ}(h: ∀ a b c d,Le (f a b c d) (g a b c d)):Le (t4 f p) (t4 g p):=h _ _ _ _
theorem Le.t5{f g:α→β→γ→δ→ε→Option κ}{p:α×β×γ×δ×ε}(h: ∀ a b c d e,Le (f a b c d e) (g a b c d e)):Le (t5 f p) (t5 g p):=h _ _ _ _ _
theorem Le.t6{f g:α→β→γ→δ→ε→ζ→Option κ}{p:α×β×γ×δ×ε×ζ}(h: ∀ a b c d e x,Le (f a b c d e x) (g a b c d e x)):Le (t6 f p) (t6 g p):=h _ _ _ _ _ _
theorem Le.t7{f g:α→β→γ→δ→ε→ζ→η→Option κ}{p:α×β×γ×δ×ε×ζ×η}(h: ∀ a b c d e x y,Le (f a b c d e x y) (g a b c d e x y)):Le (t7 f p) (t7 g p):=h _ _ _ _ _ _ _
theorem Le.t8{f g:α→β→γ→δ→ε→ζ→η→θ→Option κ}{p:α×β×γ×δ×ε×ζ×η×θ}(h: ∀ a b c d e x y z,Le (f a b c d e x y z) (g a b c d e x y z)):Le (t8 f p) (t8 g p):=h _ _ _ _ _ _ _ _
theorem Le.t9{ι:Type}{f g:α→β→γ→δ→ε→ζ→η→θ→ι→Option κ}{p:α×β×γ×δ×ε×ζ×η×θ×ι}(h: ∀ a b c d e x y z w,Le (f a b c d e x y z w) (g a b c d e x y z w)):Le (t9 f p) (t9 g p):=h _ _ _ _ _ _ _ _ _
theorem Le.elim{f f':α→Option κ}{g g':β→Option κ}{s:α ⊕ β}(h1: ∀ a,Le (f a) (f' a))(h2: ∀ b,Le (g b) (g' b)):Le (Sum.elim f g s) (Sum.elim f' g' s):=by
  cases s with
  |inl a=>exact h1 a
  |inr b=>exact h2 b
end
end Go.Vx

namespace Go.Vx
open Go Go.RowKit
set_option linter.unusedVariables false
noncomputable def Qh(n:Int)(low:Int)(high:Int):Option Bool:=
  some ((decide (low≤n))&&(decide (n≤high)))
theorem X8(n:Int)(low:Int)(high:Int):Le (Qh n low high) (ZF n low high):=by
  unfold Qh ZF
  with_reducible repeat' (first |exact Le.refl _ |apply Le.bind |intro _)
noncomputable def XU(c_:Int)(s3:Str):Option ((Str) ⊕ (Str)):=
  (gd ((decide (0<(s3.length:Int)))==true) 0 (Jv s3 (i64 ((s3.length:Int)-1)))).bind fun b=>
  if((decide (0<(s3.length:Int)))&&(decide (b=c_)))=true then
  (slc s3 0 (i64 ((s3.length:Int)-1))).bind fun s4=>
  some (.inl s4)
  else
  some (.inr s3)
theorem Zb9(c_:Int)(s3:Str):Le (XU c_ s3) (Xm c_ s3):=by
  unfold XU Xm
  with_reducible repeat' (first |exact Le.refl _ |apply Le.bind |apply Le.ite |apply Le.gd |intro _)
noncomputable def Jx(s:Str)(c_:Int):Option Str:=
  ((Jj (t1 (XU c_)) s):Option ((Str))).bind (t1 fun(s2:Str)=>
  some s2)
theorem ZcS(s:Str)(c_:Int):Le (Jx s c_) (Xe s c_):=by
  unfold Jx Xe
  with_reducible repeat' (first |exact Le.refl _ |apply Le.bind |apply Le.loop |apply Le.t1 |apply Zb9 |intro _)
noncomputable def X4(c_:Int)(s3:Str):Option ((Str) ⊕ (Str)):=
  (gd ((decide (0<(s3.length:Int)))==true) 0 (Jv s3 0)).bind fun b=>
  if((decide (0<(s3.length:Int)))&&(decide (b=c_)))=true then
  (slc s3 1 (s3.length:Int)).bind fun s4=>
  some (.inl s4)
  else
  some (.inr s3)
theorem Zck(c_:Int)(s3:Str):Le (X4 c_ s3) (XA c_ s3):=by
  unfold X4 XA
  with_reducible repeat' (first |exact Le.refl _ |apply Le.bind |apply Le.ite |apply Le.gd |intro _)
noncomputable def JF(s:Str)(c_:Int):Option Str:=
  ((Jj (t1 (X4 c_)) s):Option ((Str))).bind (t1 fun(s2:Str)=>
  some s2)
theorem Zdm(s:Str)(c_:Int):Le (JF s c_) (Xw s c_):=by
  unfold JF Xw
  with_reducible repeat' (first |exact Le.refl _ |apply Le.bind |apply Le.loop |apply Le.t1 |apply Zck |intro _)
noncomputable def X3(chars:Str)(as_2:Vector Bool 256)(i:Int):Option (((Vector Bool 256)×Int) ⊕ ((Vector Bool 256)×Bool) ⊕ ((Vector Bool 256))):=
  if(decide (i<(chars.length:Int)))=true then
  (Jv chars i).bind fun b=>
  if(decide (128≤b))=true then
  some (.inr (.inl (as_2,false)))
  else
  (ZfS as_2 b).bind fun x=>
  some (.inl ((ZkW as_2 b true),(i64 (i+1))))
  else
  some (.inr (.inr as_2))
theorem Zcd(chars:Str)(as_2:Vector Bool 256)(i:Int):Le (X3 chars as_2 i) (XB chars as_2 i):=by
  unfold X3 XB
  with_reducible repeat' (first |exact Le.refl _ |apply Le.bind |apply Le.ite |intro _)
noncomputable def Q1(chars:Str):Option ((Vector Bool 256)×Bool):=
  ((Jj (t2 (X3 chars)) ((Vector.replicate 256 false),0)):Option (((Vector Bool 256)×Bool) ⊕ ((Vector Bool 256)))).bind (Sum.elim (fun q'=>some q') (t1 fun(as_:Vector Bool 256)=>
  some (as_,true)))
theorem ZaW(chars:Str):Le (Q1 chars) (QJ chars):=by
  unfold Q1 QJ
  with_reducible repeat' (first |exact Le.refl _ |apply Le.bind |apply Le.loop |apply Le.t1 |apply Le.t2 |apply Le.elim |apply Zcd |intro _)
noncomputable def QW(as_:Vector Bool 256)(c_:Int):Option Bool:=
  (ZfS as_ c_).bind fun x=>
  some x
theorem JZ(as_:Vector Bool 256)(c_:Int):Le (QW as_ c_) (ZO as_ c_):=by
  unfold QW ZO
  with_reducible repeat' (first |exact Le.refl _ |apply Le.bind |intro _)
noncomputable def XL(as_:Vector Bool 256)(s3:Str):Option ((Str) ⊕ (Str)):=
  if(decide (0<(s3.length:Int)))=true then
  (Jv s3 (i64 ((s3.length:Int)-1))).bind fun b=>
  (QW as_ b).bind fun y=>
  if(!y)=true then
  some (.inr s3)
  else
  (slc s3 0 (i64 ((s3.length:Int)-1))).bind fun s4=>
  some (.inl s4)
  else
  some (.inr s3)
theorem ZbV(as_:Vector Bool 256)(s3:Str):Le (XL as_ s3) (ZN as_ s3):=by
  unfold XL ZN
  with_reducible repeat' (first |exact Le.refl _ |apply Le.bind |apply Le.ite |apply JZ |intro _)
noncomputable def Jn(s:Str)(as_:Vector Bool 256):Option Str:=
  ((Jj (t1 (XL as_)) s):Option ((Str))).bind (t1 fun(s2:Str)=>
  some s2)
theorem ZcF(s:Str)(as_:Vector Bool 256):Le (Jn s as_) (Qc s as_):=by
  unfold Jn Qc
  with_reducible repeat' (first |exact Le.refl _ |apply Le.bind |apply Le.loop |apply Le.t1 |apply ZbV |intro _)
noncomputable def XW(as_:Vector Bool 256)(s3:Str):Option ((Str) ⊕ (Str)):=
  if(decide (0<(s3.length:Int)))=true then
  (Jv s3 0).bind fun b=>
  (QW as_ b).bind fun y=>
  if(!y)=true then
  some (.inr s3)
  else
  (slc s3 1 (s3.length:Int)).bind fun s4=>
  some (.inl s4)
  else
  some (.inr s3)
theorem Zb7(as_:Vector Bool 256)(s3:Str):Le (XW as_ s3) (ZQ as_ s3):=by
  unfold XW ZQ
  with_reducible repeat' (first |exact Le.refl _ |apply Le.bind |apply Le.ite |apply JZ |intro _)
noncomputable def JB(s:Str)(as_:Vector Bool 256):Option Str:=
  ((Jj (t1 (XW as_)) s):Option ((Str))).bind (t1 fun(s2:Str)=>
  some s2)
theorem ZcX(s:Str)(as_:Vector Bool 256):Le (JB s as_) (Qm s as_):=by
  unfold JB Qm
  with_reducible repeat' (first |exact Le.refl _ |apply Le.bind |apply Le.loop |apply Le.t1 |apply Zb7 |intro _)
noncomputable def ZbF(b:Int):Option Bool:=
  some (!decide ((Zk8 .u8 b 192)=128))
theorem Zfd(b:Int):Le (ZbF b) (Zav b):=by
  unfold ZbF Zav
  with_reducible repeat' (first |exact Le.refl _ |apply Le.bind |intro _)
noncomputable def Q5(s:Str)(start2:Int):Option ((Int) ⊕ (Int)):=
  if(decide ((max (i64 ((s.length:Int)-4)) 0)≤start2))=true then
  (Jv s start2).bind fun b2=>
  (ZbF b2).bind fun y=>
  if y=true then
  some (.inr start2)
  else
  some (.inl (i64 (start2-1)))
  else
  some (.inr start2)
theorem Za1(s:Str)(start2:Int):Le (Q5 s start2) (QC s start2):=by
  unfold Q5 QC
  with_reducible repeat' (first |exact Le.refl _ |apply Le.bind |apply Le.ite |apply Zfd |intro _)
noncomputable def Xr(s:Str):Option (Int×Int):=
  if(decide ((s.length:Int)<1))=true then
  some (65533,0)
  else
  (Jv s 0).bind fun b=>
  none
theorem Zbw(s:Str):Le (Xr s) (Qr s):=by
  unfold Xr Qr
  with_reducible repeat' (first |exact Le.refl _ |apply Le.bind |apply Le.ite |intro _)
noncomputable def Xd(s:Str):Option (Int×Int):=
  (gd ((!decide (s= []))==true) 0 (Jv s 0)).bind fun b=>
  if((!decide (s= []))&&(decide (b<128)))=true then
  (Jv s 0).bind fun b2=>
  some ((i32 b2),1)
  else
  (Xr s).bind fun y=>
  some (y.1,y.2)
theorem Zan(s:Str):Le (Xd s) (Qu s):=by
  unfold Xd Qu
  with_reducible repeat' (first |exact Le.refl _ |apply Le.bind |apply Le.ite |apply Le.gd |apply Zbw |intro _)
noncomputable def Xn(s:Str):Option (Int×Int):=
  if(decide ((s.length:Int)=0))=true then
  some (65533,0)
  else
  (Jv s (i64 ((s.length:Int)-1))).bind fun b=>
  if(decide ((i32 b)<128))=true then
  some ((i32 b),1)
  else
  ((Jj (t1 (Q5 s)) (i64 ((i64 ((s.length:Int)-1))-1))):Option ((Int))).bind (t1 fun(start:Int)=>
  ((if(decide (start<0))=true then
  some 0
  else
  some start):Option ((Int))).bind (t1 fun(start3:Int)=>
  (slc s start3 (s.length:Int)).bind fun s2=>
  (Xd s2).bind fun y2=>
  if(!decide ((i64 (start3+y2.2))=(s.length:Int)))=true then
  some (65533,1)
  else
  some (y2.1,y2.2)))
theorem Zbv(s:Str):Le (Xn s) (Qs s):=by
  unfold Xn Qs
  with_reducible repeat' (first |exact Le.refl _ |apply Le.bind |apply Le.ite |apply Le.loop |apply Le.t1 |apply Za1 |apply Zan |intro _)
noncomputable def XM(s:Str)(r_:Int):Option Bool:=
  none
theorem ZaU(s:Str)(r_:Int):Le (XM s r_) (QT s r_):=by
  unfold XM QT
  with_reducible repeat' (first |exact Le.refl _ |apply Le.bind |intro _)
noncomputable def Xu(cutset:Str)(s3:Str):Option ((Str) ⊕ (Str)):=
  if(decide (0<(s3.length:Int)))=true then
  (Jv s3 (i64 ((s3.length:Int)-1))).bind fun b=>
  ((if(decide (128≤(i32 b)))=true then
  (Xn s3).bind fun y=>
  some (y.1,y.2)
  else
  some ((i32 b),1)):Option ((Int×Int))).bind (t2 fun(r_:Int) (n:Int)=>
  (XM cutset r_).bind fun y2=>
  if(!y2)=true then
  some (.inr s3)
  else
  (slc s3 0 (i64 ((s3.length:Int)-n))).bind fun s4=>
  some (.inl s4))
  else
  some (.inr s3)
theorem Zbt(cutset:Str)(s3:Str):Le (Xu cutset s3) (QV cutset s3):=by
  unfold Xu QV
  with_reducible repeat' (first |exact Le.refl _ |apply Le.bind |apply Le.ite |apply Le.t2 |apply Zbv |apply ZaU |intro _)
noncomputable def XX(s:Str)(cutset:Str):Option Str:=
  ((Jj (t1 (Xu cutset)) s):Option ((Str))).bind (t1 fun(s2:Str)=>
  some s2)
theorem Zb6(s:Str)(cutset:Str):Le (XX s cutset) (QF s cutset):=by
  unfold XX QF
  with_reducible repeat' (first |exact Le.refl _ |apply Le.bind |apply Le.loop |apply Le.t1 |apply Zbt |intro _)
noncomputable def XH(cutset:Str)(s3:Str):Option ((Str) ⊕ (Str)):=
  if(decide (0<(s3.length:Int)))=true then
  (Xd s3).bind fun y=>
  (XM cutset y.1).bind fun y2=>
  if(!y2)=true then
  some (.inr s3)
  else
  (slc s3 y.2 (s3.length:Int)).bind fun s4=>
  some (.inl s4)
  else
  some (.inr s3)
theorem ZbO(cutset:Str)(s3:Str):Le (XH cutset s3) (Q2 cutset s3):=by
  unfold XH Q2
  with_reducible repeat' (first |exact Le.refl _ |apply Le.bind |apply Le.ite |apply Zan |apply ZaU |intro _)
noncomputable def X6(s:Str)(cutset:Str):Option Str:=
  ((Jj (t1 (XH cutset)) s):Option ((Str))).bind (t1 fun(s2:Str)=>
  some s2)
theorem Zcr(s:Str)(cutset:Str):Le (X6 s cutset) (QQ s cutset):=by
  unfold X6 QQ
  with_reducible repeat' (first |exact Le.refl _ |apply Le.bind |apply Le.loop |apply Le.t1 |apply ZbO |intro _)
noncomputable def ZcC(s:Str)(cutset:Str):Option Str:=
  if((decide (s= [])) || (decide (cutset= [])))=true then
  some s
  else
  (gd ((decide ((cutset.length:Int)=1))==true) 0 (Jv cutset 0)).bind fun b=>
  if((decide ((cutset.length:Int)=1))&&(decide (b<128)))=true then
  (Jv cutset 0).bind fun b2=>
  (Jx s b2).bind fun y=>
  (Jv cutset 0).bind fun b3=>
  (JF y b3).bind fun y2=>
  some y2
  else
  (Q1 cutset).bind fun y3=>
  if y3.2=true then
  (Jn s y3.1).bind fun y4=>
  (JB y4 y3.1).bind fun y5=>
  some y5
  else
  (XX s cutset).bind fun y6=>
  (X6 y6 cutset).bind fun y7=>
  some y7
theorem Zgo(s:Str)(cutset:Str):Le (ZcC s cutset) (Ji s cutset):=by
  unfold ZcC Ji
  with_reducible repeat' (first |exact Le.refl _ |apply Le.bind |apply Le.ite |apply Le.gd |apply ZcS |apply Zdm |apply ZaW |apply ZcF |apply ZcX |apply Zb6 |apply Zcr |intro _)
noncomputable def Zbd(s:Str):Option Bool:=
  (Qh (s.length:Int) 1 30).bind fun y=>
  (gd (y==true) [] (ZcC s [97,98,99,100,101,102,103,104,105,106,107,108,109,110,111,112,113,114,115,116,117,118,119,120,121,122,48,49,50,51,52,53,54,55,56,57,45])).bind fun y2=>
  some (y&&(decide (y2= [])))
theorem ZdM(s:Str):Le (Zbd s) (Jc s):=by
  unfold Zbd Jc
  with_reducible repeat' (first |exact Le.refl _ |apply Le.bind |apply Le.gd |apply X8 |apply Zgo |intro _)
noncomputable def X7(s:List Int)(v:Int)(i:Int):Option ((Int) ⊕ (Int) ⊕ (Unit)):=
  if(decide (i<(s.length:Int)))=true then
  (idx s i).bind fun x=>
  if(decide (v=x))=true then
  some (.inr (.inl i))
  else
  some (.inl (i64 (i+1)))
  else
  some (.inr (.inr ()))
theorem Zcz(s:List Int)(v:Int)(i:Int):Le (X7 s v i) (ZY s v i):=by
  unfold X7 ZY
  with_reducible repeat' (first |exact Le.refl _ |apply Le.bind |apply Le.ite |intro _)
noncomputable def JI(s:List Int)(v:Int):Option Int:=
  ((Jj (t1 (X7 s v)) 0):Option ((Int) ⊕ (Unit))).bind (Sum.elim (fun q'=>some q') (t0 (some (-1))))
theorem Zdb(s:List Int)(v:Int):Le (JI s v) (QO s v):=by
  unfold JI QO
  with_reducible repeat' (first |exact Le.refl _ |apply Le.bind |apply Le.loop |apply Le.t0 |apply Le.t1 |apply Le.elim |apply Zcz |intro _)
noncomputable def X0(s:List Int)(v:Int):Option Bool:=
  (JI s v).bind fun y=>
  some (decide (0≤y))
theorem ZcB(s:List Int)(v:Int):Le (X0 s v) (Z6 s v):=by
  unfold X0 Z6
  with_reducible repeat' (first |exact Le.refl _ |apply Le.bind |apply Zdb |intro _)
noncomputable def Xf(l:List Int)(c0:api_Instrument):Option Bool:=
  (X0 l c0.Kind).bind fun y=>
  some y
theorem Zfg(l:List Int)(c0:api_Instrument):Le (Xf l c0) (ZJ l c0):=by
  unfold Xf ZJ
  with_reducible repeat' (first |exact Le.refl _ |apply Le.bind |apply ZcB |intro _)
noncomputable def Zcw(i:api_Instrument):Option Bool:=
  (gd ((!decide (i.Places=0))==true) false (Xf ([1,4,6]:List Int) i)).bind fun y=>
  (gd ((((!decide (i.Places=0))&&(!y))==false)&&(((((!decide (i.Low=0)) || (!decide (i.High=0))) || (!decide (i.Steps=0))) || (decide (0<(i.Zones.length:Int))))==true)) false (Xf ([2]:List Int) i)).bind fun y2=>
  (gd (((((!decide (i.Places=0))&&(!y)) || (((((!decide (i.Low=0)) || (!decide (i.High=0))) || (!decide (i.Steps=0))) || (decide (0<(i.Zones.length:Int))))&&(!y2)))==false)&&(((!decide (i.Op=0)) || (!decide (i.N=0)))==true)) false (Xf ([3,5]:List Int) i)).bind fun y3=>
  (gd ((((((!decide (i.Places=0))&&(!y)) || (((((!decide (i.Low=0)) || (!decide (i.High=0))) || (!decide (i.Steps=0))) || (decide (0<(i.Zones.length:Int))))&&(!y2))) || (((!decide (i.Op=0)) || (!decide (i.N=0)))&&(!y3)))==false)&&(i.Latch==true)) false (Xf ([3]:List Int) i)).bind fun y4=>
  (gd (((((((!decide (i.Places=0))&&(!y)) || (((((!decide (i.Low=0)) || (!decide (i.High=0))) || (!decide (i.Steps=0))) || (decide (0<(i.Zones.length:Int))))&&(!y2))) || (((!decide (i.Op=0)) || (!decide (i.N=0)))&&(!y3))) || (i.Latch&&(!y4)))==false)&&((!decide (i.Size=0))==true)) false (Xf ([6]:List Int) i)).bind fun y5=>
  some ((((((!decide (i.Places=0))&&(!y)) || (((((!decide (i.Low=0)) || (!decide (i.High=0))) || (!decide (i.Steps=0))) || (decide (0<(i.Zones.length:Int))))&&(!y2))) || (((!decide (i.Op=0)) || (!decide (i.N=0)))&&(!y3))) || (i.Latch&&(!y4))) || ((!decide (i.Size=0))&&(!y5)))
theorem Zgj(i:api_Instrument):Le (Zcw i) (JG i):=by
  unfold Zcw JG
  with_reducible repeat' (first |exact Le.refl _ |apply Le.bind |apply Le.gd |apply Zfg |intro _)
noncomputable def Zaj(n:Int):Option Bool:=
  (Qh n (-1125899906842624) 1125899906842624).bind fun y=>
  some y
theorem ZdE(n:Int):Le (Zaj n) (Xj n):=by
  unfold Zaj Xj
  with_reducible repeat' (first |exact Le.refl _ |apply Le.bind |apply X8 |intro _)
noncomputable def Zar(i:api_Instrument)(i2:Int):Option ((Int) ⊕ (Int) ⊕ (Unit)):=
  if(decide (i2<(i.Zones.length:Int)))=true then
  (idx i.Zones i2).bind fun x=>
  (Zbd x.Name).bind fun y4=>
  if(!y4)=true then
  some (.inr (.inl 8))
  else
  if(decide (x.To<x.From))=true then
  some (.inr (.inl 9))
  else
  (gd ((decide (0<i2))==true) (api_Zone.mk 0 0 []) (idx i.Zones (i64 (i2-1)))).bind fun x2=>
  if((decide (0<i2))&&(decide (x.From≤x2.To)))=true then
  some (.inr (.inl 10))
  else
  some (.inl (i64 (i2+1)))
  else
  some (.inr (.inr ()))
theorem ZdP(i:api_Instrument)(i2:Int):Le (Zar i i2) (Qz i i2):=by
  unfold Zar Qz
  with_reducible repeat' (first |exact Le.refl _ |apply Le.bind |apply Le.ite |apply Le.gd |apply ZdM |intro _)
noncomputable def Za4(i:api_Instrument):Option Int:=
  (gd ((decide (i.High≤i.Low))==false) false (Zaj i.Low)).bind fun y=>
  (gd (((decide (i.High≤i.Low)) || (!y))==false) false (Zaj i.High)).bind fun y2=>
  (gd ((((decide (i.High≤i.Low)) || (!y)) || (!y2))==false) false (Qh i.Steps 1 1000)).bind fun y3=>
  if((((decide (i.High≤i.Low)) || (!y)) || (!y2)) || (!y3))=true then
  some 9
  else
  if(decide (10<(i.Zones.length:Int)))=true then
  some 3
  else
  ((Jj (t1 (Zar i)) 0):Option ((Int) ⊕ (Unit))).bind (Sum.elim (fun q'=>some q') (t0 (some 0)))
theorem ZeE(i:api_Instrument):Le (Za4 i) (XG i):=by
  unfold Za4 XG
  with_reducible repeat' (first |exact Le.refl _ |apply Le.bind |apply Le.ite |apply Le.gd |apply Le.loop |apply Le.t0 |apply Le.t1 |apply Le.elim |apply ZdE |apply X8 |apply ZdP |intro _)
noncomputable def Jw(i:api_Instrument):Option Int:=
  (Qh i.Kind 1 6).bind fun y=>
  if(!y)=true then
  some 7
  else
  (Zbd i.Name).bind fun y2=>
  (gd ((!y2)==false) false (Qh (i.Track.length:Int) 1 30)).bind fun y3=>
  if((!y2) || (!y3))=true then
  some 8
  else
  (Zcw i).bind fun y4=>
  if y4=true then
  some 2
  else
  (Qh i.Places 0 6).bind fun y5=>
  if(!y5)=true then
  some 9
  else
  if(decide (i.Kind=2))=true then
  (Za4 i).bind fun y6=>
  some y6
  else
  ((if(decide (i.Kind=3))=true then
  some (decide (i.Kind=3))
  else
  some (decide (i.Kind=5))):Option ((Bool))).bind (t1 fun(v:Bool)=>
  if v=true then
  (Qh i.Op 1 6).bind fun y7=>
  if(!y7)=true then
  some 7
  else
  (Zaj i.N).bind fun y8=>
  if(!y8)=true then
  some 9
  else
  some 0
  else
  if(decide (i.Kind=6))=true then
  (Qh i.Size 1 50).bind fun y9=>
  if(!y9)=true then
  some 9
  else
  some 0
  else
  some 0)
theorem ZcV(i:api_Instrument):Le (Jw i) (Qo i):=by
  unfold Jw Qo
  with_reducible repeat' (first |exact Le.refl _ |apply Le.bind |apply Le.ite |apply Le.gd |apply Le.t1 |apply X8 |apply ZdM |apply Zgj |apply ZeE |apply ZdE |intro _)
noncomputable def ZS(s:List api_Instrument)(f:api_Instrument→Option Bool)(i:Int):Option ((Int) ⊕ (Int) ⊕ (Unit)):=
  if(decide (i<(s.length:Int)))=true then
  (idx s i).bind fun x=>
  (f x).bind fun y=>
  if y=true then
  some (.inr (.inl i))
  else
  some (.inl (i64 (i+1)))
  else
  some (.inr (.inr ()))
theorem XP(s:List api_Instrument)(f:api_Instrument→Option Bool)(i:Int)(f':api_Instrument→Option Bool)(h_f: ∀ z0,Le (f z0) (f' z0)):Le (ZS s f i) (Zn s f' i):=by
  unfold ZS Zn
  with_reducible repeat' (first |exact Le.refl _ |apply Le.bind |apply Le.ite |apply h_f |intro _)
noncomputable def ZZ(s:List api_Instrument)(f:api_Instrument→Option Bool):Option Int:=
  ((Jj (t1 (ZS s f)) 0):Option ((Int) ⊕ (Unit))).bind (Sum.elim (fun q'=>some q') (t0 (some (-1))))
theorem XY(s:List api_Instrument)(f:api_Instrument→Option Bool)(f':api_Instrument→Option Bool)(h_f: ∀ z0,Le (f z0) (f' z0)):Le (ZZ s f) (Zy s f'):=by
  unfold ZZ Zy
  with_reducible repeat' (first |exact Le.refl _ |apply Le.bind |apply Le.loop |apply Le.t0 |apply Le.t1 |apply Le.elim |apply XP |apply h_f |intro _)
noncomputable def ZG(s:List api_Instrument)(f:api_Instrument→Option Bool):Option Bool:=
  (ZZ s f).bind fun y=>
  some (decide (0≤y))
theorem Qq(s:List api_Instrument)(f:api_Instrument→Option Bool)(f':api_Instrument→Option Bool)(h_f: ∀ z0,Le (f z0) (f' z0)):Le (ZG s f) (Zh s f'):=by
  unfold ZG Zh
  with_reducible repeat' (first |exact Le.refl _ |apply Le.bind |apply XY |apply h_f |intro _)
noncomputable def Zb2(x:api_Instrument)(c0:api_Instrument):Option Bool:=
  some (decide (x.Name=c0.Name))
theorem ZfZ(x:api_Instrument)(c0:api_Instrument):Le (Zb2 x c0) (J3 x c0):=by
  unfold Zb2 J3
  with_reducible repeat' (first |exact Le.refl _ |apply Le.bind |intro _)
noncomputable def ZbG(p:api_Panel)(i:Int):Option ((Int) ⊕ (Int) ⊕ (Unit)):=
  if(decide (i<(p.Instruments.length:Int)))=true then
  (idx p.Instruments i).bind fun x=>
  (Jw x).bind fun y=>
  if(!decide (y=0))=true then
  some (.inr (.inl y))
  else
  (slc p.Instruments 0 i).bind fun l=>
  (ZG l (fun z0=>Zb2 z0 x)).bind fun y2=>
  if y2=true then
  some (.inr (.inl 5))
  else
  some (.inl (i64 (i+1)))
  else
  some (.inr (.inr ()))
theorem Zfn(p:api_Panel)(i:Int):Le (ZbG p i) (Xv p i):=by
  unfold ZbG Xv
  with_reducible repeat' (first |exact Le.refl _ |apply Le.bind |apply Le.ite |apply ZcV |apply Qq |apply ZfZ |intro _)
noncomputable def ZcY(p:api_Panel):Option Int:=
  if(decide (100<(p.Instruments.length:Int)))=true then
  some 3
  else
  ((Jj (t1 (ZbG p)) 0):Option ((Int) ⊕ (Unit))).bind (Sum.elim (fun q'=>some q') (t0 (some 0)))
theorem Zg5(p:api_Panel):Le (ZcY p) (Zac p):=by
  unfold ZcY Zac
  with_reducible repeat' (first |exact Le.refl _ |apply Le.bind |apply Le.ite |apply Le.loop |apply Le.t0 |apply Le.t1 |apply Le.elim |apply Zfn |intro _)
noncomputable def Zbj(n:Int)(low:Int)(high:Int):Option Bool:=
  some ((decide (low≤n))&&(decide (n≤high)))
theorem ZdG(n:Int)(low:Int)(high:Int):Le (Zbj n low high) (Jg n low high):=by
  unfold Zbj Jg
  with_reducible repeat' (first |exact Le.refl _ |apply Le.bind |intro _)
noncomputable def Zch(s:Str):Option Bool:=
  ((if(decide (s= [112,104,97,115,101]))=true then
  some (decide (s= [112,104,97,115,101]))
  else
  if(decide (s= [109,111,118,101]))=true then
  some (decide (s= [109,111,118,101]))
  else
  if(decide (s= [114,117,108,101]))=true then
  some (decide (s= [114,117,108,101]))
  else
  if(decide (s= [105,102]))=true then
  some (decide (s= [105,102]))
  else
  if(decide (s= [111,114]))=true then
  some (decide (s= [111,114]))
  else
  if(decide (s= [97,110,100]))=true then
  some (decide (s= [97,110,100]))
  else
  if(decide (s= [116,114,117,101]))=true then
  some (decide (s= [116,114,117,101]))
  else
  if(decide (s= [102,97,108,115,101]))=true then
  some (decide (s= [102,97,108,115,101]))
  else
  if(decide (s= [115,116,101,97,100,121]))=true then
  some (decide (s= [115,116,101,97,100,121]))
  else
  if(decide (s= [110,111,116]))=true then
  some (decide (s= [110,111,116]))
  else
  if(decide (s= [102,111,114]))=true then
  some (decide (s= [102,111,114]))
  else
  if(decide (s= [119,105,116,104,105,110]))=true then
  some (decide (s= [119,105,116,104,105,110]))
  else
  if(decide (s= [99,111,117,110,116]))=true then
  some (decide (s= [99,111,117,110,116]))
  else
  if(decide (s= [111,102]))=true then
  some (decide (s= [111,102]))
  else
  if(decide (s= [114,105,115,101,115]))=true then
  some (decide (s= [114,105,115,101,115]))
  else
  some (decide (s= [115,105,110,99,101]))):Option ((Bool))).bind (t1 fun(v:Bool)=>
  if v=true then
  some true
  else
  some false)
theorem Zge(s:Str):Le (Zch s) (JJ s):=by
  unfold Zch JJ
  with_reducible repeat' (first |exact Le.refl _ |apply Le.bind |apply Le.ite |apply Le.t1 |intro _)
noncomputable def Zbz(c_:Int):Option Bool:=
  some ((((decide (97≤c_))&&(decide (c_≤122))) || ((decide (48≤c_))&&(decide (c_≤57)))) || (decide (c_=45)))
theorem Zfz(c_:Int):Le (Zbz c_) (JA c_):=by
  unfold Zbz JA
  with_reducible repeat' (first |exact Le.refl _ |apply Le.bind |intro _)
noncomputable def Zbo(s:Str)(i:Int):Option ((Int) ⊕ (Bool) ⊕ (Unit)):=
  if(decide (i<(s.length:Int)))=true then
  (Jv s i).bind fun b3=>
  (Zbz b3).bind fun y3=>
  if(!y3)=true then
  some (.inr (.inl false))
  else
  some (.inl (i64 (i+1)))
  else
  some (.inr (.inr ()))
theorem ZeX(s:Str)(i:Int):Le (Zbo s i) (Xb s i):=by
  unfold Zbo Xb
  with_reducible repeat' (first |exact Le.refl _ |apply Le.bind |apply Le.ite |apply Zfz |intro _)
noncomputable def Zcf(s:Str):Option Bool:=
  (Zbj (s.length:Int) 1 30).bind fun y=>
  (gd ((!y)==false) 0 (Jv s 0)).bind fun b=>
  (gd (((!y) || (decide (b<97)))==false) 0 (Jv s 0)).bind fun b2=>
  (gd ((((!y) || (decide (b<97))) || (decide (122<b2)))==false) false (Zch s)).bind fun y2=>
  if((((!y) || (decide (b<97))) || (decide (122<b2))) || y2)=true then
  some false
  else
  ((Jj (t1 (Zbo s)) 0):Option ((Bool) ⊕ (Unit))).bind (Sum.elim (fun q'=>some q') (t0 (some true)))
theorem Zgm(s:Str):Le (Zcf s) (JR s):=by
  unfold Zcf JR
  with_reducible repeat' (first |exact Le.refl _ |apply Le.bind |apply Le.ite |apply Le.gd |apply Le.loop |apply Le.t0 |apply Le.t1 |apply Le.elim |apply ZdG |apply Zge |apply ZeX |intro _)
noncomputable def Qi(s:List api_Track)(f:api_Track→Option Bool)(i:Int):Option ((Int) ⊕ (Int) ⊕ (Unit)):=
  if(decide (i<(s.length:Int)))=true then
  (idx s i).bind fun x=>
  (f x).bind fun y=>
  if y=true then
  some (.inr (.inl i))
  else
  some (.inl (i64 (i+1)))
  else
  some (.inr (.inr ()))
theorem JH(s:List api_Track)(f:api_Track→Option Bool)(i:Int)(f':api_Track→Option Bool)(h_f: ∀ z0,Le (f z0) (f' z0)):Le (Qi s f i) (Zk s f' i):=by
  unfold Qi Zk
  with_reducible repeat' (first |exact Le.refl _ |apply Le.bind |apply Le.ite |apply h_f |intro _)
noncomputable def Z0(s:List api_Track)(f:api_Track→Option Bool):Option Int:=
  ((Jj (t1 (Qi s f)) 0):Option ((Int) ⊕ (Unit))).bind (Sum.elim (fun q'=>some q') (t0 (some (-1))))
theorem Xh(s:List api_Track)(f:api_Track→Option Bool)(f':api_Track→Option Bool)(h_f: ∀ z0,Le (f z0) (f' z0)):Le (Z0 s f) (Zz s f'):=by
  unfold Z0 Zz
  with_reducible repeat' (first |exact Le.refl _ |apply Le.bind |apply Le.loop |apply Le.t0 |apply Le.t1 |apply Le.elim |apply JH |apply h_f |intro _)
noncomputable def Qf(s:List api_Track)(f:api_Track→Option Bool):Option Bool:=
  (Z0 s f).bind fun y=>
  some (decide (0≤y))
theorem JN(s:List api_Track)(f:api_Track→Option Bool)(f':api_Track→Option Bool)(h_f: ∀ z0,Le (f z0) (f' z0)):Le (Qf s f) (Zw s f'):=by
  unfold Qf Zw
  with_reducible repeat' (first |exact Le.refl _ |apply Le.bind |apply Xh |apply h_f |intro _)
noncomputable def J7(x:api_Track)(c0:api_Track):Option Bool:=
  some (decide (x.Name=c0.Name))
theorem Zdo(x:api_Track)(c0:api_Track):Le (J7 x c0) (Q7 x c0):=by
  unfold J7 Q7
  with_reducible repeat' (first |exact Le.refl _ |apply Le.bind |intro _)
noncomputable def X9(n:Int)(low:Int)(high:Int):Option Bool:=
  some ((decide (low≤n))&&(decide (n≤high)))
theorem Zdl(n:Int)(low:Int)(high:Int):Le (X9 n low high) (Xl n low high):=by
  unfold X9 Xl
  with_reducible repeat' (first |exact Le.refl _ |apply Le.bind |intro _)
noncomputable def Zbf(s:api_Series)(i:Int):Option ((Int) ⊕ (Int×Int) ⊕ (Unit)):=
  if(decide (i<(s.Samples.length:Int)))=true then
  (idx s.Samples i).bind fun x=>
  (X9 x.At 0 1099511627776).bind fun y2=>
  (gd ((!y2)==false) false (X9 x.N (-1125899906842624) 1125899906842624)).bind fun y3=>
  (gd (((!y2) || (!y3))==false) false (X9 x.Mark 0 4)).bind fun y4=>
  if(((!y2) || (!y3)) || (!y4))=true then
  some (.inr (.inl (i,9)))
  else
  if((!decide (x.N=0))&&(decide (x.Mark≤1)))=true then
  some (.inr (.inl (i,2)))
  else
  (gd ((decide (0<i))==true) (api_Sample.mk 0 0 0) (idx s.Samples (i64 (i-1)))).bind fun x2=>
  if((decide (0<i))&&(decide (x.At≤x2.At)))=true then
  some (.inr (.inl (i,10)))
  else
  some (.inl (i64 (i+1)))
  else
  some (.inr (.inr ()))
theorem Ze3(s:api_Series)(i:Int):Le (Zbf s i) (XE s i):=by
  unfold Zbf XE
  with_reducible repeat' (first |exact Le.refl _ |apply Le.bind |apply Le.ite |apply Le.gd |apply Zdl |intro _)
noncomputable def Zcq(s:api_Series):Option (Int×Int):=
  (X9 s.Den 1 1000000).bind fun y=>
  if(!y)=true then
  some ((-1),9)
  else
  if(decide (20000<(s.Samples.length:Int)))=true then
  some ((-1),3)
  else
  ((Jj (t1 (Zbf s)) 0):Option ((Int×Int) ⊕ (Unit))).bind (Sum.elim (fun q'=>some q') (t0 (some ((-1),0))))
theorem Zgr(s:api_Series):Le (Zcq s) (JL s):=by
  unfold Zcq JL
  with_reducible repeat' (first |exact Le.refl _ |apply Le.bind |apply Le.ite |apply Le.loop |apply Le.t0 |apply Le.t1 |apply Le.elim |apply Zdl |apply Ze3 |intro _)
noncomputable def ZcA(s:api_Series):Option Int:=
  (Zcq s).bind fun y=>
  some y.2
theorem Zgg(s:api_Series):Le (ZcA s) (JO s):=by
  unfold ZcA JO
  with_reducible repeat' (first |exact Le.refl _ |apply Le.bind |apply Zgr |intro _)
noncomputable def JP(l:List api_Track)(i:Int):Option ((Int) ⊕ (Int) ⊕ (Unit)):=
  if(decide (i<(l.length:Int)))=true then
  (idx l i).bind fun x=>
  (Zcf x.Name).bind fun y=>
  if(!y)=true then
  some (.inr (.inl 8))
  else
  (slc l 0 i).bind fun l2=>
  (Qf l2 (fun z0=>J7 z0 x)).bind fun y2=>
  if y2=true then
  some (.inr (.inl 5))
  else
  (ZcA x.Series).bind fun y3=>
  if(!decide (y3=0))=true then
  some (.inr (.inl y3))
  else
  (Zbj x.Long 0 1099511627776).bind fun y4=>
  if(!y4)=true then
  some (.inr (.inl 9))
  else
  some (.inl (i64 (i+1)))
  else
  some (.inr (.inr ()))
theorem Zdd(l:List api_Track)(i:Int):Le (JP l i) (Qb l i):=by
  unfold JP Qb
  with_reducible repeat' (first |exact Le.refl _ |apply Le.bind |apply Le.ite |apply Zgm |apply JN |apply Zdo |apply Zgg |apply ZdG |intro _)
noncomputable def ZaG(l:List api_Track):Option Int:=
  if(decide (50<(l.length:Int)))=true then
  some 3
  else
  ((Jj (t1 (JP l)) 0):Option ((Int) ⊕ (Unit))).bind (Sum.elim (fun q'=>some q') (t0 (some 0)))
theorem Zd7(l:List api_Track):Le (ZaG l) (QZ l):=by
  unfold ZaG QZ
  with_reducible repeat' (first |exact Le.refl _ |apply Le.bind |apply Le.ite |apply Le.loop |apply Le.t0 |apply Le.t1 |apply Le.elim |apply Zdd |intro _)
noncomputable def Za8(t:api_Track)(c0:api_Instrument):Option Bool:=
  some (decide (t.Name=c0.Track))
theorem ZeV(t:api_Track)(c0:api_Instrument):Le (Za8 t c0) (XI t c0):=by
  unfold Za8 XI
  with_reducible repeat' (first |exact Le.refl _ |apply Le.bind |intro _)
noncomputable def JY(l:List api_Track)(i:api_Instrument):Option Int:=
  (Z0 l (fun z0=>Za8 z0 i)).bind fun y=>
  some y
theorem Zbp(l:List api_Track)(i:api_Instrument):Le (JY l i) (QA l i):=by
  unfold JY QA
  with_reducible repeat' (first |exact Le.refl _ |apply Le.bind |apply Xh |apply ZeV |intro _)
noncomputable def ZaF(i:api_Instrument)(c0:List api_Track):Option Bool:=
  (JY c0 i).bind fun y=>
  some (decide (y<0))
theorem Zd2(i:api_Instrument)(c0:List api_Track):Le (ZaF i c0) (Q4 i c0):=by
  unfold ZaF Q4
  with_reducible repeat' (first |exact Le.refl _ |apply Le.bind |apply Zbp |intro _)
noncomputable def Za6(p:api_Panel)(l:List api_Track):Option Int:=
  (ZcY p).bind fun y=>
  if(!decide (y=0))=true then
  some y
  else
  (ZaG l).bind fun y2=>
  if(!decide (y2=0))=true then
  some y2
  else
  (ZG p.Instruments (fun z0=>ZaF z0 l)).bind fun y3=>
  if y3=true then
  some 4
  else
  some 0
theorem Ze0(p:api_Panel)(l:List api_Track):Le (Za6 p l) (XC p l):=by
  unfold Za6 XC
  with_reducible repeat' (first |exact Le.refl _ |apply Le.bind |apply Le.ite |apply Zg5 |apply Zd7 |apply Qq |apply Zd2 |intro _)
noncomputable def Zas(y:List api_Instrument)(Instruments2:List api_Instrument)(i:Int):Option (((List api_Instrument)×Int) ⊕ ((List api_Instrument))):=
  if(decide (i<(y.length:Int)))=true then
  (idx Instruments2 i).bind fun x=>
  (JX x.Zones).bind fun y2=>
  (idx Instruments2 i).bind fun x2=>
  some (.inl ((Instruments2.set i.toNat (api_Instrument.mk x2.Kind x2.Name x2.Track x2.Places x2.Low x2.High x2.Steps y2 x2.Op x2.N x2.Latch x2.Size)),(i64 (i+1))))
  else
  some (.inr Instruments2)
theorem ZdN(y:List api_Instrument)(Instruments2:List api_Instrument)(i:Int):Le (Zas y Instruments2 i) (Qv y Instruments2 i):=by
  unfold Zas Qv
  with_reducible repeat' (first |exact Le.refl _ |apply Le.bind |apply Le.ite |intro _)
noncomputable def Zbb(p:api_Panel):Option api_Panel:=
  (JX p.Instruments).bind fun y=>
  ((Jj (t2 (Zas y)) (y,0)):Option (((List api_Instrument)))).bind (t1 fun(Instruments:List api_Instrument)=>
  some (api_Panel.mk Instruments))
theorem Ze2(p:api_Panel):Le (Zbb p) (Q9 p):=by
  unfold Zbb Q9
  with_reducible repeat' (first |exact Le.refl _ |apply Le.bind |apply Le.loop |apply Le.t1 |apply Le.t2 |apply ZdN |intro _)
noncomputable def J8(y:List api_Track)(out2:List api_Track)(i:Int):Option (((List api_Track)×Int) ⊕ ((List api_Track))):=
  if(decide (i<(y.length:Int)))=true then
  (idx out2 i).bind fun x=>
  (JX x.Series.Samples).bind fun y2=>
  (idx out2 i).bind fun x2=>
  some (.inl ((out2.set i.toNat (api_Track.mk x2.Name (api_Series.mk x2.Series.Den y2) x2.Long)),(i64 (i+1))))
  else
  some (.inr out2)
theorem Zdp(y:List api_Track)(out2:List api_Track)(i:Int):Le (J8 y out2 i) (Ql y out2 i):=by
  unfold J8 Ql
  with_reducible repeat' (first |exact Le.refl _ |apply Le.bind |apply Le.ite |intro _)
noncomputable def ZaQ(l:List api_Track):Option (List api_Track):=
  (JX l).bind fun y=>
  ((Jj (t2 (J8 y)) (y,0)):Option (((List api_Track)))).bind (t1 fun(out:List api_Track)=>
  some out)
theorem Zer(l:List api_Track):Le (ZaQ l) (QN l):=by
  unfold ZaQ QN
  with_reducible repeat' (first |exact Le.refl _ |apply Le.bind |apply Le.loop |apply Le.t1 |apply Le.t2 |apply Zdp |intro _)
noncomputable def ZcW(p:api_Panel):Option api_PanelState:=
  (mks (p.Instruments.length:Int) (api_Memo.mk false false 0 0 [])).bind fun l=>
  some (api_PanelState.mk (-1) l)
theorem ZgV(p:api_Panel):Le (ZcW p) (Xa p):=by
  unfold ZcW Xa
  with_reducible repeat' (first |exact Le.refl _ |apply Le.bind |intro _)
noncomputable def Zee(p:api_Panel)(l:List api_Track)(keep:Int):Option ((Int) ⊕ (panel_Replay×Int)):=
  (Za6 p l).bind fun y=>
  if(!decide (y=0))=true then
  some (Sum.inl y)
  else
  (Qh keep 1 1000).bind fun y2=>
  if(!y2)=true then
  some (Sum.inl 9)
  else
  (Zbb p).bind fun y3=>
  (ZaQ l).bind fun y4=>
  (ZcW p).bind fun y5=>
  some (Sum.inr ((panel_Replay.mk y3 y4 keep y5 [] []),0))
theorem Zif(p:api_Panel)(l:List api_Track)(keep:Int):Le (Zee p l keep) (J4 p l keep):=by
  unfold Zee J4
  with_reducible repeat' (first |exact Le.refl _ |apply Le.bind |apply Le.ite |apply Le.elim |apply Ze0 |apply X8 |apply Ze2 |apply Zer |apply ZgV |intro _)
noncomputable def ZM(x:List api_Sample)(target:Int)(cmp:api_Sample→Int→Option Int)(i2:Int)(j:Int):Option ((Int×Int) ⊕ (Int)):=
  if(decide (i2<j))=true then
  (shr .u64 (u64 (i64 (i2+j))) 1).bind fun q=>
  (idx x (i64 q)).bind fun x2=>
  (cmp x2 target).bind fun y=>
  if(decide (y<0))=true then
  some (.inl ((i64 ((i64 q)+1)),j))
  else
  some (.inl (i2,(i64 q)))
  else
  some (.inr i2)
theorem Xz(x:List api_Sample)(target:Int)(cmp:api_Sample→Int→Option Int)(i2:Int)(j:Int)(cmp':api_Sample→Int→Option Int)(h_cmp: ∀ z0 z1,Le (cmp z0 z1) (cmp' z0 z1)):Le (ZM x target cmp i2 j) (Zp x target cmp' i2 j):=by
  unfold ZM Zp
  with_reducible repeat' (first |exact Le.refl _ |apply Le.bind |apply Le.ite |apply h_cmp |intro _)
noncomputable def ZW(x:List api_Sample)(target:Int)(cmp:api_Sample→Int→Option Int):Option (Int×Bool):=
  ((Jj (t2 (ZM x target cmp)) (0,(x.length:Int))):Option ((Int))).bind (t1 fun(i:Int)=>
  (gd ((decide (i<(x.length:Int)))==true) (api_Sample.mk 0 0 0) (idx x i)).bind fun x3=>
  (gd ((decide (i<(x.length:Int)))==true) 0 (cmp x3 target)).bind fun y2=>
  some (i,((decide (i<(x.length:Int)))&&(decide (y2=0)))))
theorem XQ(x:List api_Sample)(target:Int)(cmp:api_Sample→Int→Option Int)(cmp':api_Sample→Int→Option Int)(h_cmp: ∀ z0 z1,Le (cmp z0 z1) (cmp' z0 z1)):Le (ZW x target cmp) (Zu x target cmp'):=by
  unfold ZW Zu
  with_reducible repeat' (first |exact Le.refl _ |apply Le.bind |apply Le.gd |apply Le.loop |apply Le.t1 |apply Le.t2 |apply Xz |apply h_cmp |intro _)
noncomputable def Zbh(x:api_Sample)(at_:Int):Option Int:=
  some (i64 (x.At-at_))
theorem ZeD(x:api_Sample)(at_:Int):Le (Zbh x at_) (QG x at_):=by
  unfold Zbh QG
  with_reducible repeat' (first |exact Le.refl _ |apply Le.bind |intro _)
noncomputable def Zb1(s:api_Series)(at_:Int):Option Int:=
  (ZW s.Samples at_ (fun z0 z1=>Zbh z0 z1)).bind fun y=>
  if y.2=true then
  some y.1
  else
  some (i64 (y.1-1))
theorem ZfX(s:api_Series)(at_:Int):Le (Zb1 s at_) (Jm s at_):=by
  unfold Zb1 Jm
  with_reducible repeat' (first |exact Le.refl _ |apply Le.bind |apply Le.ite |apply XQ |apply ZeD |intro _)
noncomputable def Zce(x:api_Sample):Option Bool:=
  some (decide (3≤x.Mark))
theorem Zgw(x:api_Sample):Le (Zce x) (Zaz x):=by
  unfold Zce Zaz
  with_reducible repeat' (first |exact Le.refl _ |apply Le.bind |intro _)
noncomputable def Zc4(s:api_Series)(at_:Int)(long:Int):Option (api_Sample×Bool):=
  (Zb1 s at_).bind fun y=>
  (gd ((decide (y<0))==false) (api_Sample.mk 0 0 0) (idx s.Samples y)).bind fun x=>
  (gd ((decide (y<0))==false) false (Zce x)).bind fun y2=>
  (gd (((decide (y<0)) || (!y2))==false) (api_Sample.mk 0 0 0) (idx s.Samples y)).bind fun x2=>
  if(((decide (y<0)) || (!y2)) || (decide (long<(i64 (at_-x2.At)))))=true then
  some ((api_Sample.mk 0 0 0),false)
  else
  (idx s.Samples y).bind fun x3=>
  some (x3,true)
theorem Zhj(s:api_Series)(at_:Int)(long:Int):Le (Zc4 s at_ long) (Zah s at_ long):=by
  unfold Zc4 Zah
  with_reducible repeat' (first |exact Le.refl _ |apply Le.bind |apply Le.ite |apply Le.gd |apply ZfX |apply Zgw |intro _)
noncomputable def ZcT(s:api_Series)(at_:Int)(long:Int):Option (api_Sample×Bool):=
  (Zc4 s at_ long).bind fun y=>
  some (y.1,y.2)
theorem ZgL(s:api_Series)(at_:Int)(long:Int):Le (ZcT s at_ long) (ZaY s at_ long):=by
  unfold ZcT ZaY
  with_reducible repeat' (first |exact Le.refl _ |apply Le.bind |apply Zhj |intro _)
noncomputable def ZbK(t:api_Track)(frame:Int):Option (api_Sample×Bool):=
  (ZcT t.Series (i64 ((i64 ((i64 (64*frame))+64))-1)) t.Long).bind fun y=>
  some (y.1,y.2)
theorem ZdY(t:api_Track)(frame:Int):Le (ZbK t frame) (Jd t frame):=by
  unfold ZbK Jd
  with_reducible repeat' (first |exact Le.refl _ |apply Le.bind |apply ZgL |intro _)
noncomputable def Zc5(op:Int)(a:Int)(b:Int):Option Bool:=
  if(decide (op=1))=true then
  some (decide (a<b))
  else
  if(decide (op=2))=true then
  some (decide (a≤b))
  else
  if(decide (op=3))=true then
  some (decide (a=b))
  else
  if(decide (op=4))=true then
  some (!decide (a=b))
  else
  if(decide (op=5))=true then
  some (decide (b≤a))
  else
  some (decide (b<a))
theorem ZgF(op:Int)(a:Int)(b:Int):Le (Zc5 op a b) (Zaq op a b):=by
  unfold Zc5 Zaq
  with_reducible repeat' (first |exact Le.refl _ |apply Le.bind |apply Le.ite |intro _)
noncomputable def ZaT(out2:List Int)(i:Int):Option (((List Int)×Int) ⊕ ((List Int))):=
  if(decide ((i64 (i+2))≤(out2.length:Int)))=true then
  (slp out2 i (i64 (i+2))).bind fun u=>
  (ck (decide (2≤Int.toNat ((i64 (i+2))-i)))).bind fun u2=>
  (ck (decide ((0:Int)≤1)&&decide (1<(2:Int)))).bind fun u3=>
  (idx out2 (i+1)).bind fun x=>
  (ck (decide ((0:Int)≤0)&&decide (0<(2:Int)))).bind fun u4=>
  (idx out2 (i+0)).bind fun x2=>
  some (.inl ((out2.set (i+0).toNat x),(i64 (i+1))))
  else
  some (.inr out2)
theorem Zet(out2:List Int)(i:Int):Le (ZaT out2 i) (QK out2 i):=by
  unfold ZaT QK
  with_reducible repeat' (first |exact Le.refl _ |apply Le.bind |apply Le.ite |intro _)
noncomputable def ZbW(tape:List Int)(size:Int)(n:Int):Option (List Int):=
  (JX tape).bind fun y=>
  (app y ([n]:List Int)).bind fun l=>
  if(decide ((l.length:Int)≤size))=true then
  some l
  else
  ((Jj (t2 (ZaT)) (l,0)):Option (((List Int)))).bind (t1 fun(out:List Int)=>
  (slc out 0 (i64 ((out.length:Int)-1))).bind fun l2=>
  some l2)
theorem ZfI(tape:List Int)(size:Int)(n:Int):Le (ZbW tape size n) (Jr tape size n):=by
  unfold ZbW Jr
  with_reducible repeat' (first |exact Le.refl _ |apply Le.bind |apply Le.ite |apply Le.loop |apply Le.t1 |apply Le.t2 |apply Zet |intro _)
noncomputable def Zam(i:api_Instrument)(m:api_Memo)(n:Int)(known:Bool):Option api_Memo:=
  (gd ((known&&((decide (i.Kind=3)) || (decide (i.Kind=5))))==true) false (Zc5 i.Op n i.N)).bind fun y=>
  ((if(decide (i.Kind=3))=true then
  some (api_Memo.mk (((known&&((decide (i.Kind=3)) || (decide (i.Kind=5))))&&y) || (i.Latch&&m.Lit)) m.Some m.N m.Count m.Tape)
  else
  if(decide (i.Kind=5))=true then
  if(((known&&((decide (i.Kind=3)) || (decide (i.Kind=5))))&&y)&&(!m.Lit))=true then
  some (api_Memo.mk ((known&&((decide (i.Kind=3)) || (decide (i.Kind=5))))&&y) m.Some m.N (i64 (m.Count+1)) m.Tape)
  else
  some (api_Memo.mk ((known&&((decide (i.Kind=3)) || (decide (i.Kind=5))))&&y) m.Some m.N m.Count m.Tape)
  else
  if((decide (i.Kind=4))&&known)=true then
  ((if m.Some=true then
  some (max n m.N)
  else
  some n):Option ((Int))).bind (t1 fun(n2:Int)=>
  some (api_Memo.mk m.Lit true n2 m.Count m.Tape))
  else
  if((decide (i.Kind=6))&&known)=true then
  (ZbW m.Tape i.Size n).bind fun y2=>
  some (api_Memo.mk m.Lit m.Some m.N m.Count y2)
  else
  some m):Option ((api_Memo))).bind (t1 fun(m2:api_Memo)=>
  some m2)
theorem ZdS(i:api_Instrument)(m:api_Memo)(n:Int)(known:Bool):Le (Zam i m n known) (QH i m n known):=by
  unfold Zam QH
  with_reducible repeat' (first |exact Le.refl _ |apply Le.bind |apply Le.ite |apply Le.gd |apply Le.t1 |apply ZgF |apply ZfI |intro _)
noncomputable def ZaS(p:api_Panel)(l:List api_Track)(s:api_PanelState)(Memos2:List api_Memo)(i:Int):Option (((List api_Memo)×Int) ⊕ ((List api_Memo))):=
  if(decide (i<(p.Instruments.length:Int)))=true then
  (idx p.Instruments i).bind fun x=>
  (JY l x).bind fun y=>
  (idx l y).bind fun x2=>
  (ZbK x2 (i64 (s.Frame+1))).bind fun y2=>
  (idx s.Memos i).bind fun x3=>
  (JX x3.Tape).bind fun y3=>
  (Zam x (api_Memo.mk x3.Lit x3.Some x3.N x3.Count y3) y2.1.N y2.2).bind fun y4=>
  (app Memos2 ([y4]:List api_Memo)).bind fun l2=>
  some (.inl (l2,(i64 (i+1))))
  else
  some (.inr Memos2)
theorem Zes(p:api_Panel)(l:List api_Track)(s:api_PanelState)(Memos2:List api_Memo)(i:Int):Le (ZaS p l s Memos2 i) (QS p l s Memos2 i):=by
  unfold ZaS QS
  with_reducible repeat' (first |exact Le.refl _ |apply Le.bind |apply Le.ite |apply Zbp |apply ZdY |apply ZdS |intro _)
noncomputable def ZbX(p:api_Panel)(l:List api_Track)(s:api_PanelState):Option api_PanelState:=
  ((Jj (t2 (ZaS p l s)) ([],0)):Option (((List api_Memo)))).bind (t1 fun(Memos:List api_Memo)=>
  some (api_PanelState.mk (i64 (s.Frame+1)) Memos))
theorem ZfV(p:api_Panel)(l:List api_Track)(s:api_PanelState):Le (ZbX p l s) (Xk p l s):=by
  unfold ZbX Xk
  with_reducible repeat' (first |exact Le.refl _ |apply Le.bind |apply Le.loop |apply Le.t1 |apply Le.t2 |apply Zes |intro _)
noncomputable def ZI(x:List api_PanelState)(target:Int)(cmp:api_PanelState→Int→Option Int)(i2:Int)(j:Int):Option ((Int×Int) ⊕ (Int)):=
  if(decide (i2<j))=true then
  (shr .u64 (u64 (i64 (i2+j))) 1).bind fun q=>
  (idx x (i64 q)).bind fun x2=>
  (cmp x2 target).bind fun y=>
  if(decide (y<0))=true then
  some (.inl ((i64 ((i64 q)+1)),j))
  else
  some (.inl (i2,(i64 q)))
  else
  some (.inr i2)
theorem QY(x:List api_PanelState)(target:Int)(cmp:api_PanelState→Int→Option Int)(i2:Int)(j:Int)(cmp':api_PanelState→Int→Option Int)(h_cmp: ∀ z0 z1,Le (cmp z0 z1) (cmp' z0 z1)):Le (ZI x target cmp i2 j) (Zl x target cmp' i2 j):=by
  unfold ZI Zl
  with_reducible repeat' (first |exact Le.refl _ |apply Le.bind |apply Le.ite |apply h_cmp |intro _)
noncomputable def ZK(x:List api_PanelState)(target:Int)(cmp:api_PanelState→Int→Option Int):Option (Int×Bool):=
  ((Jj (t2 (ZI x target cmp)) (0,(x.length:Int))):Option ((Int))).bind (t1 fun(i:Int)=>
  (gd ((decide (i<(x.length:Int)))==true) (api_PanelState.mk 0 []) (idx x i)).bind fun x3=>
  (gd ((decide (i<(x.length:Int)))==true) 0 (cmp x3 target)).bind fun y2=>
  some (i,((decide (i<(x.length:Int)))&&(decide (y2=0)))))
theorem Xc(x:List api_PanelState)(target:Int)(cmp:api_PanelState→Int→Option Int)(cmp':api_PanelState→Int→Option Int)(h_cmp: ∀ z0 z1,Le (cmp z0 z1) (cmp' z0 z1)):Le (ZK x target cmp) (Zs x target cmp'):=by
  unfold ZK Zs
  with_reducible repeat' (first |exact Le.refl _ |apply Le.bind |apply Le.gd |apply Le.loop |apply Le.t1 |apply Le.t2 |apply QY |apply h_cmp |intro _)
noncomputable def Ju(s:api_PanelState)(frame:Int):Option Int:=
  some (i64 (s.Frame-frame))
theorem Zc3(s:api_PanelState)(frame:Int):Le (Ju s frame) (Z4 s frame):=by
  unfold Ju Z4
  with_reducible repeat' (first |exact Le.refl _ |apply Le.bind |intro _)
noncomputable def J5(r_:panel_Replay)(frame:Int):Option (Int×Bool):=
  (ZK r_.kept frame (fun z0 z1=>Ju z0 z1)).bind fun y=>
  some (y.1,y.2)
theorem Zdn(r_:panel_Replay)(frame:Int):Le (J5 r_ frame) (ZP r_ frame):=by
  unfold J5 ZP
  with_reducible repeat' (first |exact Le.refl _ |apply Le.bind |apply Xc |apply Zc3 |intro _)
noncomputable def Zai(y:List api_Memo)(Memos2:List api_Memo)(i:Int):Option (((List api_Memo)×Int) ⊕ ((List api_Memo))):=
  if(decide (i<(y.length:Int)))=true then
  (idx Memos2 i).bind fun x=>
  (JX x.Tape).bind fun y2=>
  (idx Memos2 i).bind fun x2=>
  some (.inl ((Memos2.set i.toNat (api_Memo.mk x2.Lit x2.Some x2.N x2.Count y2)),(i64 (i+1))))
  else
  some (.inr Memos2)
theorem ZdR(y:List api_Memo)(Memos2:List api_Memo)(i:Int):Le (Zai y Memos2 i) (Qd y Memos2 i):=by
  unfold Zai Qd
  with_reducible repeat' (first |exact Le.refl _ |apply Le.bind |apply Le.ite |intro _)
noncomputable def Zbe(s:api_PanelState):Option api_PanelState:=
  (JX s.Memos).bind fun y=>
  ((Jj (t2 (Zai y)) (y,0)):Option (((List api_Memo)))).bind (t1 fun(Memos:List api_Memo)=>
  some (api_PanelState.mk s.Frame Memos))
theorem ZeG(s:api_PanelState):Le (Zbe s) (Z5 s):=by
  unfold Zbe Z5
  with_reducible repeat' (first |exact Le.refl _ |apply Le.bind |apply Le.loop |apply Le.t1 |apply Le.t2 |apply ZdR |intro _)
noncomputable def XF(r_:panel_Replay)(n:Int)(state:api_PanelState)(kept:List api_PanelState)(i:Int):Option ((api_PanelState×(List api_PanelState)×Int) ⊕ (panel_Replay)):=
  if(decide (i<n))=true then
  (((ZbX r_.p r_.l state).bind fun y=>
  (rem y.Frame r_.keep).bind fun q=>
  if(!decide (q=(i64 (r_.keep-1))))=true then
  some (y.Frame,y.Memos,kept)
  else
  (J5 (panel_Replay.mk r_.p r_.l r_.keep y kept r_.marks) y.Frame).bind fun y2=>
  if(!y2.2)=true then
  (Zbe y).bind fun y3=>
  (ins kept y2.1 ([y3]:List api_PanelState)).bind fun l=>
  some (y.Frame,y.Memos,l)
  else
  some (y.Frame,y.Memos,kept)):Option ((Int×(List api_Memo)×(List api_PanelState)))).bind (t3 fun(Frame:Int) (Memos:List api_Memo) (kept2:List api_PanelState)=>
  some (.inl ((api_PanelState.mk Frame Memos),kept2,(i64 (i+1)))))
  else
  some (.inr (panel_Replay.mk r_.p r_.l r_.keep state kept r_.marks))
theorem ZbS(r_:panel_Replay)(n:Int)(state:api_PanelState)(kept:List api_PanelState)(i:Int):Le (XF r_ n state kept i) (Q3 r_ n state kept i):=by
  unfold XF Q3
  with_reducible repeat' (first |exact Le.refl _ |apply Le.bind |apply Le.ite |apply Le.t3 |apply ZfV |apply Zdn |apply ZeG |intro _)
noncomputable def X5(r_:panel_Replay)(n:Int):Option panel_Replay:=
  Jj (t3 (XF r_ n)) (r_.state,r_.kept,0)
theorem Zci(r_:panel_Replay)(n:Int):Le (X5 r_ n) (QM r_ n):=by
  unfold X5 QM
  with_reducible repeat' (first |exact Le.refl _ |apply Le.bind |apply Le.loop |apply Le.t3 |apply ZbS |intro _)
noncomputable def JK(r_:panel_Replay)(n:Int):Option (Int×panel_Replay):=
  if((decide (n<0)) || (decide ((i64 (19999-r_.state.Frame))<n)))=true then
  some (9,r_)
  else
  (X5 r_ n).bind fun y=>
  some (0,y)
theorem Zdg(r_:panel_Replay)(n:Int):Le (JK r_ n) (Xq r_ n):=by
  unfold JK Xq
  with_reducible repeat' (first |exact Le.refl _ |apply Le.bind |apply Le.ite |apply Zci |intro _)
noncomputable def Zbm(places:Int)(scale2:Int)(i:Int):Option ((Int×Int) ⊕ (Int)):=
  if(decide (i<places))=true then
  some (.inl ((i64 (scale2*10)),(i64 (i+1))))
  else
  some (.inr scale2)
theorem ZeT(places:Int)(scale2:Int)(i:Int):Le (Zbm places scale2 i) (JU places scale2 i):=by
  unfold Zbm JU
  with_reducible repeat' (first |exact Le.refl _ |apply Le.bind |apply Le.ite |intro _)
noncomputable def Zao(n:Int)(den:Int)(places:Int):Option Str:=
  (quo .i64 (max n (i64 (-n))) den).bind fun q=>
  ((Jj (t2 (Zbm places)) (1,0)):Option ((Int))).bind (t1 fun(scale:Int)=>
  (rem (max n (i64 (-n))) den).bind fun q2=>
  (quo .i64 (i64 ((i64 ((i64 (q2*scale))*2))+den)) (i64 (2*den))).bind fun q3=>
  ((if(decide (q3=scale))=true then
  some ((i64 (q+1)),0)
  else
  some (q,q3)):Option ((Int×Int))).bind (t2 fun(whole:Int) (part:Int)=>
  (itoa whole).bind fun y=>
  ((if(decide (0<places))=true then
  (itoa (i64 (scale+part))).bind fun y2=>
  (slc y2 1 (y2.length:Int)).bind fun s=>
  (cat [46] s).bind fun s2=>
  (cat y s2).bind fun s3=>
  some s3
  else
  some y):Option ((Str))).bind (t1 fun(out:Str)=>
  if((decide (n<0))&&((decide (0<whole)) || (decide (0<part))))=true then
  (cat [45] out).bind fun s4=>
  some s4
  else
  some out)))
theorem ZdK(n:Int)(den:Int)(places:Int):Le (Zao n den places) (Q6 n den places):=by
  unfold Zao Q6
  with_reducible repeat' (first |exact Le.refl _ |apply Le.bind |apply Le.ite |apply Le.loop |apply Le.t1 |apply Le.t2 |apply ZeT |intro _)
noncomputable def ZcD(i:api_Instrument)(n:Int):Option Int:=
  if(decide (n≤i.Low))=true then
  some 0
  else
  if(decide (i.High≤n))=true then
  some i.Steps
  else
  (quo .i64 (i64 ((i64 (n-i.Low))*i.Steps)) (i64 (i.High-i.Low))).bind fun q=>
  some q
theorem Zgn(i:api_Instrument)(n:Int):Le (ZcD i n) (JQ i n):=by
  unfold ZcD JQ
  with_reducible repeat' (first |exact Le.refl _ |apply Le.bind |apply Le.ite |intro _)
noncomputable def Zbl(i:api_Instrument)(n:Int)(i2:Int):Option ((Int) ⊕ (Str) ⊕ (Unit)):=
  if(decide (i2<(i.Zones.length:Int)))=true then
  (idx i.Zones i2).bind fun x=>
  (Qh n x.From x.To).bind fun y=>
  if y=true then
  some (.inr (.inl x.Name))
  else
  some (.inl (i64 (i2+1)))
  else
  some (.inr (.inr ()))
theorem ZeJ(i:api_Instrument)(n:Int)(i2:Int):Le (Zbl i n i2) (Q8 i n i2):=by
  unfold Zbl Q8
  with_reducible repeat' (first |exact Le.refl _ |apply Le.bind |apply Le.ite |apply X8 |intro _)
noncomputable def Zcl(i:api_Instrument)(n:Int):Option Str:=
  ((Jj (t1 (Zbl i n)) 0):Option ((Str) ⊕ (Unit))).bind (Sum.elim (fun q'=>some q') (t0 (some [])))
theorem Zgq(i:api_Instrument)(n:Int):Le (Zcl i n) (Jl i n):=by
  unfold Zcl Jl
  with_reducible repeat' (first |exact Le.refl _ |apply Le.bind |apply Le.loop |apply Le.t0 |apply Le.t1 |apply Le.elim |apply ZeJ |intro _)
noncomputable def ZbZ(i:api_Instrument)(m:api_Memo)(den:Int)(l2:List Str)(i2:Int):Option (((List Str)×Int) ⊕ ((List Str))):=
  if(decide (i2<(m.Tape.length:Int)))=true then
  (idx m.Tape i2).bind fun x2=>
  (Zao x2 den i.Places).bind fun y6=>
  (app l2 ([y6]:List Str)).bind fun l3=>
  some (.inl (l3,(i64 (i2+1))))
  else
  some (.inr l2)
theorem ZfW(i:api_Instrument)(m:api_Memo)(den:Int)(l2:List Str)(i2:Int):Le (ZbZ i m den l2 i2) (XS i m den l2 i2):=by
  unfold ZbZ XS
  with_reducible repeat' (first |exact Le.refl _ |apply Le.bind |apply Le.ite |apply ZdK |intro _)
noncomputable def Zdr(i:api_Instrument)(m:api_Memo)(den:Int)(x:api_Sample)(known:Bool):Option api_Face:=
  ((if(decide (i.Kind=1))=true then
  if known=true then
  (Zao x.N den i.Places).bind fun y=>
  some (api_Face.mk y 0 m.Lit x.Mark)
  else
  some (api_Face.mk [45,45,45] 0 m.Lit x.Mark)
  else
  if(decide (i.Kind=2))=true then
  if known=true then
  (ZcD i x.N).bind fun y2=>
  (Zcl i x.N).bind fun y3=>
  some (api_Face.mk y3 y2 m.Lit x.Mark)
  else
  some (api_Face.mk [45,45,45] 0 m.Lit x.Mark)
  else
  if(decide (i.Kind=3))=true then
  if m.Lit=true then
  some (api_Face.mk [111,110] 0 m.Lit x.Mark)
  else
  if known=true then
  some (api_Face.mk [111,102,102] 0 m.Lit x.Mark)
  else
  some (api_Face.mk [45,45,45] 0 m.Lit x.Mark)
  else
  if(decide (i.Kind=4))=true then
  if m.Some=true then
  (Zao m.N den i.Places).bind fun y4=>
  some (api_Face.mk y4 0 m.Lit x.Mark)
  else
  some (api_Face.mk [45,45,45] 0 m.Lit x.Mark)
  else
  if(decide (i.Kind=5))=true then
  (itoa m.Count).bind fun y5=>
  some (api_Face.mk y5 0 m.Lit x.Mark)
  else
  if(decide (i.Kind=6))=true then
  ((Jj (t2 (ZbZ i m den)) ([],0)):Option (((List Str)))).bind (t1 fun(l:List Str)=>
  if(decide (0<(l.length:Int)))=true then
  (Zg8 l [32]).bind fun y7=>
  some (api_Face.mk y7 0 m.Lit x.Mark)
  else
  some (api_Face.mk [45,45,45] 0 m.Lit x.Mark))
  else
  some (api_Face.mk [45,45,45] 0 m.Lit x.Mark)):Option ((api_Face))).bind (t1 fun(out:api_Face)=>
  some out)
theorem Zhv(i:api_Instrument)(m:api_Memo)(den:Int)(x:api_Sample)(known:Bool):Le (Zdr i m den x known) (XD i m den x known):=by
  unfold Zdr XD
  with_reducible repeat' (first |exact Le.refl _ |apply Le.bind |apply Le.ite |apply Le.loop |apply Le.t1 |apply Le.t2 |apply ZdK |apply Zgn |apply Zgq |apply ZfW |intro _)
noncomputable def Zby(p:api_Panel)(l:List api_Track)(s:api_PanelState)(out2:List api_Face)(i:Int):Option (((List api_Face)×Int) ⊕ ((List api_Face))):=
  if(decide (i<(p.Instruments.length:Int)))=true then
  (idx p.Instruments i).bind fun x=>
  (JY l x).bind fun y=>
  (idx l y).bind fun x2=>
  ((if(decide (0≤s.Frame))=true then
  (ZbK x2 s.Frame).bind fun y2=>
  some (y2.1,y2.2)
  else
  some ((api_Sample.mk 0 0 0),false)):Option ((api_Sample×Bool))).bind (t2 fun(x3:api_Sample) (known:Bool)=>
  (idx s.Memos i).bind fun x4=>
  (Zdr x x4 x2.Series.Den x3 known).bind fun y3=>
  (app out2 ([y3]:List api_Face)).bind fun l2=>
  some (.inl (l2,(i64 (i+1)))))
  else
  some (.inr out2)
theorem Zfu(p:api_Panel)(l:List api_Track)(s:api_PanelState)(out2:List api_Face)(i:Int):Le (Zby p l s out2 i) (Xy p l s out2 i):=by
  unfold Zby Xy
  with_reducible repeat' (first |exact Le.refl _ |apply Le.bind |apply Le.ite |apply Le.t2 |apply Zbp |apply ZdY |apply Zhv |intro _)
noncomputable def ZcZ(p:api_Panel)(l:List api_Track)(s:api_PanelState):Option (List api_Face):=
  ((Jj (t2 (Zby p l s)) ([],0)):Option (((List api_Face)))).bind (t1 fun(out:List api_Face)=>
  some out)
theorem ZgY(p:api_Panel)(l:List api_Track)(s:api_PanelState):Le (ZcZ p l s) (Zaf p l s):=by
  unfold ZcZ Zaf
  with_reducible repeat' (first |exact Le.refl _ |apply Le.bind |apply Le.loop |apply Le.t1 |apply Le.t2 |apply Zfu |intro _)
noncomputable def Zap(r_:panel_Replay):Option (List api_Face):=
  (ZcZ r_.p r_.l r_.state).bind fun y=>
  some y
theorem ZdQ(r_:panel_Replay):Le (Zap r_) (Qy r_):=by
  unfold Zap Qy
  with_reducible repeat' (first |exact Le.refl _ |apply Le.bind |apply ZgY |intro _)
noncomputable def ZdB:Option Bool:=
  (Zee (api_Panel.mk ([(api_Instrument.mk 1 [97] [116] 1 0 0 0 [] 0 0 false 0)]:List api_Instrument)) ([(api_Track.mk [116] (api_Series.mk 2 ([(api_Sample.mk 70 (-3) 4)]:List api_Sample)) 100)]:List api_Track) 1).bind (Sum.elim (fun y=>
  (gd ((!decide (y=0))==false) () (none:Option Unit)).bind fun u=>
  if((!decide (y=0)) || (!decide (0=0)))=true then
  some false
  else
  none) (fun y=>
  ((if((!decide (y.2=0))==false)=true then
  (JK y.1 2).bind fun y2=>
  if(false || (!decide (y2.1=0)))=true then
  some (.inl false)
  else
  some (.inr (y2.2.p,y2.2.l,y2.2.keep,y2.2.state,y2.2.kept,y2.2.marks))
  else
  (gd (true==false) () (none:Option Unit)).bind fun u2=>
  if(true || false)=true then
  some (.inl false)
  else
  some (.inr (y.1.p,y.1.l,y.1.keep,y.1.state,y.1.kept,y.1.marks))):Option ((Bool) ⊕ (api_Panel×(List api_Track)×Int×api_PanelState×(List api_PanelState)×(List api_Bookmark)))).bind (Sum.elim (fun q'=>some q') (t6 fun(p:api_Panel) (l:List api_Track) (keep:Int) (state:api_PanelState) (kept:List api_PanelState) (marks:List api_Bookmark)=>
  (Zap (panel_Replay.mk p l keep state kept marks)).bind fun y3=>
  (gd ((decide ((y3.length:Int)=1))==true) (api_Face.mk [] 0 false 0) (idx y3 0)).bind fun x=>
  some ((decide ((y3.length:Int)=1))&&(decide (x.Text= [45,49,46,53])&&(decide (x.Needle=0)&&((x.Lit==false)&&(decide (x.Mark=4)&&true)))))))))
theorem Zhy:Le (ZdB) (JM):=by
  unfold ZdB JM
  with_reducible repeat' (first |exact Le.refl _ |apply Le.bind |apply Le.ite |apply Le.gd |apply Le.t6 |apply Le.elim |apply Zif |apply Zdg |apply ZdQ |intro _)
end Go.Vx

namespace Go.Vx
open Go Go.RowKit
theorem ZlC:ZdB=some true:=by decide+kernel
theorem Zgz:JM=some true:=Zhy true ZlC
end Go.Vx

namespace Go.Vx
open Go Go.RowKit
section
variable {α ε:Type}
def Qt(g:Nat→α→Option ε):Nat→List α→Option ε
  |_,[]=>none
  |k,x::tl=>match g k x with |some e=>some e |none=>Qt g (k+1) tl
theorem Jo{ρ:Type}{xs:List α}(g:Nat→α→Option ε)(A:ε→ρ)(Z:ρ){body:Int→Option (Int ⊕ ρ)}
    (h: ∀ (k:Nat) x,xs[k]?=some x→body k=ZaH (fun e=>some (.inr (A e))) (some (.inl ((k:Int)+1))) (g k x))
    (hend:body xs.length=some (.inr Z)):loop (t1 body) 0=some (ZaH A Z (Qt g 0 xs)):=by
  refine Zff (xs:=xs) (fun k=>ZaH A Z (Qt g k (xs.drop k))) (fun k x hx=> ?_) ?_
  · rw [h k x hx,ZfQ hx]
    simp only [Qt]
    cases hg:g k x with
    |some e=>right;rfl
    |none=>left;exact⟨rfl,rfl⟩
  · rw [hend];simp [Qt]
theorem Zdu{g:Nat→α→Option ε}: ∀ (k:Nat) (xs:List α),Qt g k xs=none→ ∀ (j:Nat) x,xs[j]?=some x→g (k+j) x=none
  |_,[],_,j,x,hx=>by simp at hx
  |k,y::tl,h,j,x,hx=>by
    simp only [Qt] at h
    cases hy:g k y with
    |some e=>rw [hy] at h;cases h
    |none=>
      rw [hy] at h
      cases j with
      |zero=>simp at hx;subst hx;simpa using hy
      |succ j=>
        have:=Zdu (k+1) tl h j x (by simpa using hx)
        rwa [show k+1+j=k+(j+1) by omega] at this
theorem ZhN{p:α→Bool}: ∀ (k:Nat) (xs:List α),Qt (fun _ x=>if p x then none else some ()) k xs=if xs.all p then none else some ()
  |_,[]=>rfl
  |k,x::tl=>by
    have ih:=ZhN (p:=p) (k+1) tl
    simp only [Qt,List.all_cons]
    by_cases hp:p x=true
    · simp only [hp,if_true,Bool.true_and];exact ih
    · have hp':p x=false:=by simpa using hp
      simp [hp']
end
theorem Zht{k:Nat}{n:Nat}(h:k<n)(hn:n≤9223372036854775807):i64 ((k:Int)+1)=(k:Int)+1:=ZA (by omega) (by omega)
theorem Zgy{s:Str}{k:Nat}{b:UInt8}(h:s[k]?=some b):Jv s (k:Int)=some ((b.toNat:Nat):Int):=by simp [Jv,h]
def lcI(z:Int):Bool:=decide (97≤z)&&decide (z≤122)
def nbI(z:Int):Bool:=(lcI z || (decide (48≤z)&&decide (z≤57))) || decide (z=45)
def lcB(b:UInt8):Bool:=lcI (b.toNat:Int)
def nbB(b:UInt8):Bool:=nbI (b.toNat:Int)
theorem Znb{z:Int}(h:lcI z=true):nbI z=true:=by simp [nbI,h]
def Zk9:List Str:= [[112,104,97,115,101],[109,111,118,101],[114,117,108,101],[105,102],[111,114],[97,110,100],[116,114,117,101],[102,97,108,115,101],[115,116,101,97,100,121],[110,111,116],[102,111,114],[119,105,116,104,105,110],[99,111,117,110,116],[111,102],[114,105,115,101,115],[115,105,110,99,101]]
theorem orW{a b:Prop}[Decidable a][Decidable b]{o:Option Bool}(h:o=some (decide b)):(if decide a=true then some (decide a) else o)=some (decide (a∨b)):=by
  by_cases h1:a
  · simp [h1]
  · simp [h1,h]
theorem Zk0(s:Str):JJ s=some (decide (s∈Zk9)):=by
  have key: ∀ {o:Option Bool} {t:Bool},o=some t→(o.bind (t1 fun(v:Bool)=>if v=true then some true else some false))=some t:=by
    intro o t h;subst h;cases t<;>rfl
  unfold JJ
  refine key ?_
  simp only [Zk9,List.mem_cons,List.not_mem_nil,or_false]
  repeat (first |exact rfl |refine orW ?_)
def nmE:Str→Bool
  | []=>false
  |c::tl=>(lcB c&&tl.all nbB)&&(decide ((c::tl).length≤30)&& !decide ((c::tl)∈Zk9))
theorem Zkq(s:Str):JR s=some (nmE s):=by
  unfold JR Jg
  rw [Option.bind_some]
  cases s with
  |nil=>simp [nmE,gd]
  |cons c tl=>
    by_cases hl:(c::tl).length≤30
    · have hw:(decide (1≤(((c::tl).length:Nat):Int))&&decide ((((c::tl).length:Nat):Int)≤30))=true:=by
        simp only [Bool.and_eq_true,decide_eq_true_iff];simp only [List.length_cons] at hl ⊢;omega
      have h0:Jv (c::tl) 0=some ((c.toNat:Nat):Int):=Zgy (k:=0) rfl
      have hloop:loop (t1 (Xb (c::tl))) 0=some (ZaH (fun _=>Sum.inl false) (Sum.inr ()) (if(c::tl).all nbB then none else some ())):=by
        rw [←ZhN 0]
        refine Jo (xs:=c::tl) (body:=Xb (c::tl)) _ _ _ (fun k x hx=> ?_) (by simp [Xb])
        have hlt:=Zaa hx
        have e1:i64 ((k:Int)+1)=(k:Int)+1:=Zht (n:=(c::tl).length) (by omega) (by omega)
        simp only [Xb,hlt,decide_true,if_true,Zgy hx,Option.bind_some,e1,JA]
        have e2:nbB x=((((decide (97≤((x.toNat:Nat):Int)))&&(decide (((x.toNat:Nat):Int)≤122))) || ((decide (48≤((x.toNat:Nat):Int)))&&(decide (((x.toNat:Nat):Int)≤57)))) || (decide (((x.toNat:Nat):Int)=45))):=rfl
        rw [←e2]
        cases nbB x<;>simp
      rw [hw,h0,Zk0,hloop]
      simp only [nmE,hl,decide_true,Bool.true_and,List.all_cons]
      by_cases hlc:lcB c=true
      · have hnb:nbB c=true:=Znb hlc
        simp only [lcB,lcI,Bool.and_eq_true,decide_eq_true_iff] at hlc
        have h1: ¬((c.toNat:Nat):Int)<97:=by omega
        have h2: ¬122<((c.toNat:Nat):Int):=by omega
        have h3:lcB c=true:=by simp only [lcB,lcI,Bool.and_eq_true,decide_eq_true_iff];exact hlc
        simp only [Bool.not_true,beq_self_eq_true,Zmw,Option.bind_some,h1,h2,decide_false,Bool.or_self,Bool.false_or,h3,hnb,Bool.true_and]
        by_cases hr:(c::tl)∈Zk9
        · simp [hr]
        · cases ha:tl.all nbB<;>simp [hr]
      · have h3:lcB c=false:=by simpa using hlc
        simp only [h3,Bool.false_and,Bool.not_true,beq_self_eq_true,Zmw,Option.bind_some,Bool.false_or]
        simp only [lcB,lcI,Bool.and_eq_false_iff,decide_eq_false_iff_not] at h3
        by_cases h1:((c.toNat:Nat):Int)<97
        · simp [h1,gd]
        · have h2:122<((c.toNat:Nat):Int):=by omega
          have h2': ¬((c.toNat:Nat):Int)≤122:=by omega
          simp [h1,h2,h2',gd]
    · have hw:(decide (1≤(((c::tl).length:Nat):Int))&&decide ((((c::tl).length:Nat):Int)≤30))=false:=by
        simp only [Bool.and_eq_false_iff,decide_eq_false_iff_not];right;omega
      rw [hw]
      simp only [nmE,hl,decide_false,Bool.false_and,Bool.and_false]
      simp [gd]
end Go.Vx

namespace Go.Vx
open Go Go.RowKit
def ZdX(x:api_Zone):Prop:=(wfI .i64) x.From∧(wfI .i64) x.To∧wfS x.Name∧True
def Zbn(x:api_Instrument):Prop:=(wfI .i64) x.Kind∧wfS x.Name∧wfS x.Track∧(wfI .i64) x.Places∧(wfI .i64) x.Low∧(wfI .i64) x.High∧(wfI .i64) x.Steps∧(wfL ZdX) x.Zones∧(wfI .i64) x.Op∧(wfI .i64) x.N∧wfT x.Latch∧(wfI .i64) x.Size∧True
def Zh8(x:api_Panel):Prop:=(wfL Zbn) x.Instruments∧True
def ZcO(x:api_Sample):Prop:=(wfI .i64) x.At∧(wfI .i64) x.N∧(wfI .i64) x.Mark∧True
def Zhn(x:api_Series):Prop:=(wfI .i64) x.Den∧(wfL ZcO) x.Samples∧True
def Zfj(x:api_Track):Prop:=wfS x.Name∧Zhn x.Series∧(wfI .i64) x.Long∧True
end Go.Vx

namespace Go.Vx
open Go Go.RowKit
section
variable {α ε:Type}
theorem Zek{p:α→Bool}: ∀ (k:Nat) (xs:List α),(Qt (fun j x=>if p x=true then some (j:Int) else none) k xs=none∧xs.any p=false)∨(∃ m:Nat,Qt (fun j x=>if p x=true then some (j:Int) else none) k xs=some (m:Int)∧xs.any p=true)
  |_,[]=> .inl ⟨rfl,rfl⟩
  |k,x::tl=>by
    have ih:=Zek (p:=p) (k+1) tl
    simp only [Qt,List.any_cons]
    by_cases hp:p x=true
    · exact .inr ⟨k,by simp [hp],by simp [hp]⟩
    · have hp':p x=false:=by simpa using hp
      simp only [hp',Bool.false_eq_true,if_false,Bool.false_or];exact ih
end
theorem Zm2{l:List api_Track}(hl:l.length≤9223372036854775807){f:api_Track→Option Bool}{p:api_Track→Bool}(hf: ∀ x,f x=some (p x)):Zw l f=some (l.any p):=by
  have h:loop (t1 (Zk l f)) 0=some (ZaH Sum.inl (Sum.inr ()) (Qt (fun k x=>if p x=true then some (k:Int) else none) 0 l)):=by
    refine Jo (xs:=l) (body:=Zk l f) _ _ _ (fun k x hx=> ?_) (by simp [Zk])
    have hlt:=Zaa hx
    have e1:i64 ((k:Int)+1)=(k:Int)+1:=Zht (n:=l.length) (by omega) hl
    simp only [Zk,hlt,decide_true,if_true,Z1 hx,Option.bind_some,e1,hf]
    cases p x<;>rfl
  unfold Zw Zz
  rw [h]
  rcases Zek (p:=p) 0 l with ⟨h1,h2⟩ | ⟨m,h1,h2⟩
  · rw [h1,h2];simp
  · rw [h1,h2];simp
def Zik(l:List api_Track)(k:Nat)(x:api_Track):Option Int:=
  if nmE x.Name=false then some 8 else if(l.take k).any (fun z=>decide (z.Name=x.Name))=true then some 5 else if(chk x.Series).2≠0 then some (chk x.Series).2 else if wi x.Long 0 1099511627776=false then some 9 else none
def ckT(l:List api_Track):Int:=if 50<(l.length:Int) then 3 else ZaH id 0 (Qt (Zik l) 0 l)
theorem Zlf{α:Type}{l:List α}{k:Nat}(h:k≤l.length):slc l 0 (k:Int)=some (l.take k):=by
  unfold slc
  rw [if_pos ⟨by omega,by omega,by omega⟩]
  simp
theorem Zji(l:List api_Track):QZ l=some (ckT l):=by
  unfold QZ ckT
  by_cases h50:50<(l.length:Int)
  · simp [h50]
  · have h:loop (t1 (Qb l)) 0=some (ZaH Sum.inl (Sum.inr ()) (Qt (Zik l) 0 l)):=by
      refine Jo (xs:=l) (body:=Qb l) _ _ _ (fun k x hx=> ?_) (by simp [Qb])
      have hlt:=Zaa hx
      have e1:i64 ((k:Int)+1)=(k:Int)+1:=Zht (n:=l.length) (by omega) (by omega)
      have hc:Zw (l.take k) (fun z0=>Q7 z0 x)=some ((l.take k).any fun z=>decide (z.Name=x.Name)):=
        Zm2 (by rw [List.length_take];omega) (fun _=>rfl)
      have hw:Jg x.Long 0 1099511627776=some (wi x.Long 0 1099511627776):=rfl
      simp only [Qb,hlt,decide_true,if_true,Z1 hx,Option.bind_some,e1,Zkq,Zlf (show k≤l.length by omega),hc,Zlh,hw,Zik]
      cases nmE x.Name with
      |false=>simp
      |true=>cases (l.take k).any (fun z=>decide (z.Name=x.Name)) with
        |true=>simp
        |false=>
          by_cases h0:(chk x.Series).2=0
          · cases wi x.Long 0 1099511627776<;>simp [h0]
          · simp [h0]
    rw [if_neg (by simpa using h50),if_neg h50,h]
    cases Qt (Zik l) 0 l<;>simp
theorem ZfT{t:api_Track}{l:List api_Track}(h:ckT l=0)(ht:t∈l):(chk t.Series).2=0∧wi t.Long 0 1099511627776=true:=by
  unfold ckT at h
  split at h
  · cases h
  · obtain⟨j,hj⟩:=List.mem_iff_getElem?.1 ht
    cases hf:Qt (Zik l) 0 l with
    |none=>
      have:=Zdu 0 l hf j t hj
      unfold Zik at this
      split at this
      · cases this
      · split at this
        · cases this
        · split at this
          · cases this
          · rename_i h0
            split at this
            · cases this
            · rename_i h1
              exact⟨by simpa using h0,by simpa using h1⟩
    |some e=>
      rw [hf] at h
      have he:e=0:=h
      subst he
      exfalso
      have key: ∀ (k:Nat) (xs:List api_Track),Qt (Zik l) k xs≠some 0:=by
        intro k xs
        induction xs generalizing k with
        |nil=>intro e;cases e
        |cons x tl ih=>
          intro e
          simp only [Qt] at e
          cases hg:Zik l k x with
          |none=>rw [hg] at e;exact ih _ e
          |some v=>
            rw [hg] at e
            cases e
            unfold Zik at hg
            repeat' split at hg
            all_goals first | (cases hg;done) |simp_all
      exact key 0 l hf
end Go.Vx

namespace Go.Vx
open Go Go.RowKit
theorem ZgW: ∀ (k u:Nat),u<10^(k+1)→Go.Lib.nDigits u≤k+1
  |0,u,h=>by rw [Go.Lib.nDigits_small (by simpa using h)];exact Nat.le_refl _
  |k+1,u,h=>by
    by_cases h1:u<10
    · rw [Go.Lib.nDigits_small h1];omega
    · rw [Go.Lib.nDigits_big h1]
      have:=ZgW k (u/10) (by rw [Nat.pow_succ] at h;omega)
      omega
theorem Zi5{z:Int}(h0:0≤z)(h1:z<1000000000000000000): ∃ d,itoa z=some d∧1≤d.length∧d.length≤18:=by
  obtain⟨u,rfl⟩:=Int.eq_ofNat_of_zero_le h0
  refine⟨Go.Lib.decDigits u,?_,?_,?_⟩
  · unfold itoa
    rw [if_pos ⟨by omega,by omega⟩]
    unfold Go.Lib.itoa
    rw [if_neg (by omega)];simp
  · rw [Go.Lib.decDigits_length];exact Go.Lib.nDigits_pos u
  · rw [Go.Lib.decDigits_length]
    have e:(10:Nat)^(17+1)=1000000000000000000:=by decide
    exact ZgW 17 u (by rw [e];omega)
theorem ZlV{k:Nat}(h:k≤6):(1:Int)≤10^k∧(10:Int)^k≤1000000:=by
  obtain rfl |rfl |rfl |rfl |rfl |rfl |rfl:k=0∨k=1∨k=2∨k=3∨k=4∨k=5∨k=6:=by omega
  all_goals decide
theorem Zit{m:Nat}(hm:m≤6)(body:Int→Int→Option ((Int×Int) ⊕ Int))
    (hb: ∀ s i:Int,body s i=if decide (i<(m:Int))=true then some (.inl (i64 (s*10),i64 (i+1))) else some (.inr s)):loop (t2 body) (1,0)=some ((10:Int)^m):=by
  refine ZcK (body:=t2 body) (fun p=> ∃ k:Nat,p=((10:Int)^k,(k:Int))∧k≤m) (fun p=>m-p.2.toNat) (fun _=>(10:Int)^m) ?_ (1,0) ⟨0,rfl,Nat.zero_le _⟩
  rintro⟨s,i⟩ ⟨k,he,hk⟩
  obtain⟨rfl,rfl⟩:=Prod.mk.inj he
  simp only [Zfe,hb]
  by_cases h:k<m
  · have h':(k:Int)<m:=by omega
    have hp:=ZlV (k:=k) (by omega)
    rw [if_pos (decide_eq_true h')]
    refine .inl ⟨_,rfl,⟨k+1,?_,h⟩,?_,trivial⟩
    · rw [show i64 ((10:Int)^k*10)=10^k*10 from ZA (by omega) (by omega),show i64 ((k:Int)+1)=k+1 from ZA (by omega) (by omega)]
      rw [Int.pow_succ];rfl
    · rw [show i64 ((k:Int)+1)=k+1 from ZA (by omega) (by omega)]
      simp only;omega
  · obtain rfl:k=m:=by omega
    rw [if_neg (by simp)]
    exact .inr rfl
theorem ZfK{s t:Str}(h:s.length+t.length≤9223372036854775807):cat s t=some (s++t):=by simp [cat,h]
theorem ZmF{s:Str}(h:1≤s.length):slc s 1 (s.length:Int)=some (s.drop 1):=by
  unfold slc
  rw [if_pos ⟨by omega,by omega,Int.le_refl _⟩]
  simp
theorem Zkj{n den places:Int}(hn1: -1125899906842624≤n)(hn2:n≤1125899906842624)(hd1:1≤den)(hd2:den≤1000000)(hp1:0≤places)(hp2:places≤6):
    ∃ s,Q6 n den places=some s∧XR n den places=some s∧s.length≤41:=by
  obtain⟨m,rfl⟩:=Int.eq_ofNat_of_zero_le hp1
  have hm:m≤6:=by omega
  obtain⟨hS1,hS2⟩:=ZlV hm
  have hl1:=Zit hm (JU (m:Int)) (fun _ _=>rfl)
  have hl2:=Zit hm (Zcj (m:Int)) (fun _ _=>rfl)
  generalize hS:(10:Int)^m=S at hS1 hS2 hl1 hl2
  have ea:max n (i64 (-n))=if n<0 then-n else n:=by
    rw [show i64 (-n)= -n from ZA (by omega) (by omega)]
    split<;>omega
  have en:i64 (-n)= -n:=ZA (by omega) (by omega)
  generalize hA:(if n<0 then-n else n)=A at ea
  have hA1:0≤A:=by rw [←hA];split<;>omega
  have hA2:A≤1125899906842624:=by rw [←hA];split<;>omega
  have hd0:den≠0:=by omega
  have hq1:0≤A/den:=Int.ediv_nonneg hA1 (by omega)
  have hq2:A/den≤A:=Int.ediv_le_self _ hA1
  have hr1:0≤A % den:=Int.emod_nonneg _ hd0
  have hr2:A % den<den:=Int.emod_lt_of_pos _ (by omega)
  have eq1:quo .i64 A den=some (A/den):=by
    unfold quo
    rw [if_neg hd0,Int.tdiv_eq_ediv_of_nonneg hA1,ZA (by omega) (by omega)]
  have eq2:Go.Vx.rem A den=some (A % den):=by
    unfold Go.Vx.rem
    rw [if_neg hd0,Int.tmod_eq_emod_of_nonneg hA1]
  generalize A/den=q at*
  generalize A % den=r at*
  have hrS0:0≤r*S:=Int.mul_nonneg hr1 (by omega)
  have hrS:r*S≤(den-1)*S:=Int.mul_le_mul_of_nonneg_right (by omega) (by omega)
  have hrS2:r*S≤1000000*1000000:=Int.mul_le_mul (by omega) hS2 (by omega) (by omega)
  have hdS:(den-1)*S=den*S-S:=by rw [Int.sub_mul,Int.one_mul]
  have e1:i64 (r*S)=r*S:=ZA (by omega) (by omega)
  have e2:i64 (r*S*2)=r*S*2:=ZA (by omega) (by omega)
  have e3:i64 (r*S*2+den)=r*S*2+den:=ZA (by omega) (by omega)
  have e4:i64 (2*den)=2*den:=ZA (by omega) (by omega)
  have e5:i64 (2*S)=2*S:=ZA (by omega) (by omega)
  have e6:2*S*r=r*S*2:=by rw [Int.mul_assoc,Int.mul_comm 2,Int.mul_comm S]
  have hN:0≤r*S*2+den:=by omega
  have hq3:0≤(r*S*2+den)/(2*den):=Int.ediv_nonneg hN (by omega)
  have hq4:(r*S*2+den)/(2*den)≤S:=by
    have:(r*S*2+den)/(2*den)<S+1:=by
      refine Int.ediv_lt_of_lt_mul (by omega) ?_
      have:(S+1)*(2*den)=2*(den*S)+2*den:=by
        rw [Int.add_mul,Int.one_mul,Int.mul_left_comm S 2 den,Int.mul_comm S den]
      omega
    omega
  have eq3:quo .i64 (r*S*2+den) (2*den)=some ((r*S*2+den)/(2*den)):=by
    unfold quo
    rw [if_neg (by omega),Int.tdiv_eq_ediv_of_nonneg hN,ZA (by omega) (by omega)]
  generalize (r*S*2+den)/(2*den)=w at*
  have e7:i64 (q+1)=q+1:=ZA (by omega) (by omega)
  obtain⟨W,Q,hWQ,hW1,hW2,hQ1,hQ2⟩: ∃ W Q:Int,(if decide (w=S)=true then some (q+1,(0:Int)) else some (q,w))=some (W,Q)∧0≤W∧W≤1125899906842625∧0≤Q∧Q≤S:=by
    by_cases h:w=S
    · exact⟨q+1,0,by rw [if_pos (decide_eq_true h)],by omega,by omega,by omega,by omega⟩
    · exact⟨q,w,by rw [if_neg (by simpa using h)],by omega,by omega,by omega,by omega⟩
  obtain⟨d,hd,hdl1,hdl2⟩:=Zi5 (z:=W) hW1 (by omega)
  obtain⟨f,hf,hfl1,hfl2⟩:=Zi5 (z:=S+Q) (by omega) (by omega)
  have e8:i64 (S+Q)=S+Q:=ZA (by omega) (by omega)
  obtain⟨o,ho,hol⟩: ∃ o:Str,(if decide (0<(m:Int))=true then some (d++([46]++f.drop 1)) else some d)=some o∧o.length≤40:=by
    by_cases h:0<(m:Int)
    · exact⟨_,if_pos (decide_eq_true h),by simp;omega⟩
    · exact⟨_,if_neg (by simpa using h),by omega⟩
  have hc1:cat [46] (f.drop 1)=some ([46]++f.drop 1):=ZfK (by simp;omega)
  have hc2:cat d ([46]++f.drop 1)=some (d++([46]++f.drop 1)):=ZfK (by simp;omega)
  have hc3:cat [45] o=some ([45]++o):=ZfK (by simp;omega)
  have hc4:cat [] o=some ([]++o):=ZfK (by simp;omega)
  refine⟨if n<0∧(0<W∨0<Q) then [45]++o else o,?_,?_,?_⟩
  · unfold Q6
    rw [ea,eq1,eq2,hl1]
    simp only [Option.bind_some,ZdI,e1,e2,e3,e4,e7,eq3,hWQ,Zfe,hd,e8,hf,ZmF hfl1,hc1,hc2,ho]
    by_cases h:n<0∧(0<W∨0<Q)
    · have h':(decide (n<0)&&(decide (0<W) || decide (0<Q)))=true:=by simpa using h
      rw [if_pos h',if_pos h,hc3];rfl
    · have h':(decide (n<0)&&(decide (0<W) || decide (0<Q)))=false:=by
        rw [Bool.eq_false_iff];intro e;exact h (by simpa using e)
      rw [if_neg (by rw [h'];simp),if_neg h]
  · have hsz:(if decide (n<0)=true then some (i64 (-n),([45]:Str)) else some (n,[]))=some (A,if n<0 then [45] else []):=by
      rw [en,←hA]
      by_cases h:n<0<;>simp [h]
    unfold XR
    rw [hsz]
    simp only [Option.bind_some,Zfe,hl2,ZdI,eq1,eq2,e5,e6,e2,e3,e4,eq3,e7,hWQ,hd,e8,hf,ZmF hfl1,hc1,hc2,ho]
    by_cases h0:W=0∧Q=0
    · have h':(decide (W=0)&&decide (Q=0))=true:=by simpa using h0
      rw [if_pos h']
      simp only [Option.bind_some,ZdI,hc4]
      rw [if_neg (by omega)];rfl
    · have h':(decide (W=0)&&decide (Q=0))=false:=by
        rw [Bool.eq_false_iff];intro e;exact h0 (by simpa using e)
      rw [h']
      by_cases hn:n<0
      · have:n<0∧(0<W∨0<Q):=⟨hn,by omega⟩
        simp only [hn,if_true,Bool.false_eq_true,if_false,Option.bind_some,ZdI,hc3]
        rw [if_pos ⟨trivial,this.2⟩]
      · simp only [hn,if_false,Bool.false_eq_true,Option.bind_some,ZdI,hc4]
        simp
  · split
    · simp;omega
    · omega
end Go.Vx

namespace Go.Vx
open Go Go.RowKit
def cutN:Str:= [97,98,99,100,101,102,103,104,105,106,107,108,109,110,111,112,113,114,115,116,117,118,119,120,121,122,48,49,50,51,52,53,54,55,56,57,45]
def setN:List Bool:=(List.range 256).map fun(i:Nat)=>nbI (i:Int)
theorem Znf:(Q1 cutN).map (fun r=>(r.1.toList,r.2))=some (setN,true):=by decide+kernel
theorem mkA: ∃ v,QJ cutN=some (v,true)∧v.toList=setN:=by
  have h:=Znf
  cases hc:Q1 cutN with
  |none=>rw [hc] at h;cases h
  |some r=>
    rw [hc] at h
    simp only [Option.map_some,Option.some.injEq,Prod.mk.injEq] at h
    refine⟨r.1,?_,h.1⟩
    rw [ZaW cutN r hc,←h.2]
theorem inA{v:Vector Bool 256}(hv:v.toList=setN)(b:UInt8):ZO v ((b.toNat:Nat):Int)=some (nbB b):=by
  have hb:b.toNat<256:=b.toNat_lt
  have:ZfS v ((b.toNat:Nat):Int)=some (nbB b):=by
    unfold ZfS
    rw [if_pos (by omega),hv]
    simp only [setN,Int.toNat_natCast,List.getElem?_map,List.getElem?_range hb,Option.map_some]
    rfl
  unfold ZO
  rw [this];rfl
theorem ZmX{v:Vector Bool 256}(hv:v.toList=setN)(s:Str)(hs:s.length≤30):Qc s v=some (s.reverse.dropWhile nbB).reverse:=by
  have h:loop (t1 (ZN v)) s=some (s.reverse.dropWhile nbB).reverse:=by
    refine ZcK (body:=t1 (ZN v)) (fun s=>s.length≤30) (fun s=>s.length) (fun s=>(s.reverse.dropWhile nbB).reverse) ?_ s hs
    intro s hs
    rcases List.eq_nil_or_concat s with rfl | ⟨t,c,rfl⟩
    · right;simp [ZN]
    · simp only [List.concat_eq_append] at hs ⊢
      have hl:(t++ [c]).length=t.length+1:=by simp
      have e1:i64 (((t++ [c]).length:Int)-1)=(t.length:Int):=by
        rw [hl];rw [show(((t.length+1:Nat):Int)-1)=(t.length:Int) by omega];exact ZA (by omega) (by omega)
      have e2:Jv (t++ [c]) (t.length:Int)=some ((c.toNat:Nat):Int):=Zgy (by simp)
      have e3:slc (t++ [c]) 0 (t.length:Int)=some t:=by rw [Zlf (by omega)];simp
      have e0:decide ((0:Int)<((t++ [c]).length:Int))=true:=decide_eq_true (by omega)
      simp only [ZdI,ZN,e0,if_true,e1,e2,e3,inA hv,Option.bind_some]
      cases hc:nbB c with
      |true=>left;exact⟨t,by simp,by omega,by omega,by simp [hc]⟩
      |false=>right;simp [hc]
  unfold Qc
  rw [h];rfl
theorem Zm0{v:Vector Bool 256}(hv:v.toList=setN)(s:Str)(hs:s.length≤30):Qm s v=some (s.dropWhile nbB):=by
  have h:loop (t1 (ZQ v)) s=some (s.dropWhile nbB):=by
    refine ZcK (body:=t1 (ZQ v)) (fun s=>s.length≤30) (fun s=>s.length) (fun s=>s.dropWhile nbB) ?_ s hs
    intro s hs
    cases s with
    |nil=>right;simp [ZQ]
    |cons c t=>
      have e2:Jv (c::t) 0=some ((c.toNat:Nat):Int):=Zgy (k:=0) rfl
      have e3:slc (c::t) 1 ((c::t).length:Int)=some t:=by rw [ZmF (by simp)];simp
      have e0:decide ((0:Int)<((c::t).length:Int))=true:=decide_eq_true (by simp only [List.length_cons];omega)
      simp only [ZdI,ZQ,e0,if_true,e2,e3,inA hv,Option.bind_some]
      cases hc:nbB c with
      |true=>left;exact⟨t,by simp,by simp at hs;omega,by simp,by simp [hc]⟩
      |false=>right;simp [hc]
  unfold Qm
  rw [h];rfl
theorem ZhD{α:Type}{p:α→Bool}: ∀ {l:List α},l.dropWhile p= []↔ ∀ x∈l,p x=true
  | []=>by simp
  |a::l=>by
    cases h:p a with
    |true=>rw [List.dropWhile_cons_of_pos h,ZhD];simp [h]
    |false=>rw [List.dropWhile_cons_of_neg (by simp [h])];simp [h]
theorem ZkV(s:Str):((s.reverse.dropWhile nbB).reverse.dropWhile nbB= [])↔s.all nbB=true:=by
  rw [ZhD]
  constructor
  · intro h
    rw [List.all_eq_true]
    intro x hx
    have hx':x∈s.reverse:=List.mem_reverse.2 hx
    rw [←List.takeWhile_append_dropWhile (p:=nbB) (l:=s.reverse)] at hx'
    rcases List.mem_append.1 hx' with h1 |h1
    · exact List.all_eq_true.1 (List.all_takeWhile (p:=nbB) (l:=s.reverse)) x h1
    · exact h x (List.mem_reverse.2 h1)
  · intro h x hx
    have h1:=List.mem_reverse.1 hx
    exact List.all_eq_true.1 h x (List.mem_reverse.1 ((List.dropWhile_sublist nbB).subset h1))
theorem Zms(s:Str)(h0:s≠ [])(hs:s.length≤30): ∃ r,Ji s cutN=some r∧(r= []↔s.all nbB=true):=by
  obtain⟨v,hv1,hv2⟩:=mkA
  have hr:(s.reverse.dropWhile nbB).reverse.length≤30:=by
    rw [List.length_reverse]
    have:=(List.dropWhile_sublist nbB (l:=s.reverse)).length_le
    rw [List.length_reverse] at this;omega
  refine⟨_,?_,ZkV s⟩
  unfold Ji
  have e1:(decide (s= []) || decide (cutN= []))=false:=by simp [h0,cutN]
  have e2:decide ((cutN.length:Int)=1)=false:=by decide
  rw [if_neg (by rw [e1];simp),e2,hv1]
  simp [gd,ZmX hv2 s hs,Zm0 hv2 _ hr]
def pn(s:Str):Bool:=wi (s.length:Int) 1 30&&s.all nbB
theorem Zjz(s:Str):Jc s=some (pn s):=by
  unfold Jc
  have hw:ZF (s.length:Int) 1 30=some (wi (s.length:Int) 1 30):=rfl
  rw [hw]
  cases h:wi (s.length:Int) 1 30 with
  |false=>simp [pn,h,gd]
  |true=>
    obtain⟨h1,h2⟩:=Xx.1 h
    obtain⟨r,hr1,hr2⟩:=Zms s (by rintro rfl;simp at h1) (by omega)
    have hr1':Ji s [97,98,99,100,101,102,103,104,105,106,107,108,109,110,111,112,113,114,115,116,117,118,119,120,121,122,48,49,50,51,52,53,54,55,56,57,45]=some r:=hr1
    rw [Option.bind_some,hr1']
    simp only [beq_self_eq_true,Zmw,Option.bind_some,Bool.true_and,pn,h]
    congr 1
    rw [Bool.eq_iff_iff,decide_eq_true_iff]
    exact hr2
end Go.Vx

namespace Go.Vx
open Go Go.RowKit
theorem Zlx{g v:Bool}:gd g false (some v)=some (g&&v):=by cases g<;>rfl
theorem ZiD{l:List Int}(hl:l.length≤9)(v:Int):Z6 l v=some (l.any fun x=>decide (v=x)):=by
  have h:loop (t1 (ZY l v)) 0=some (ZaH Sum.inl (Sum.inr ()) (Qt (fun k x=>if decide (v=x)=true then some (k:Int) else none) 0 l)):=by
    refine Jo (xs:=l) (body:=ZY l v) _ _ _ (fun k x hx=> ?_) (by simp [ZY])
    have hlt:=Zaa hx
    have e1:i64 ((k:Int)+1)=(k:Int)+1:=Zht (n:=l.length) (by omega) (by omega)
    simp only [ZY,hlt,decide_true,if_true,Z1 hx,Option.bind_some,e1]
    cases decide (v=x)<;>rfl
  unfold Z6 QO
  rw [h]
  rcases Zek (p:=fun x=>decide (v=x)) 0 l with ⟨h1,h2⟩ | ⟨m,h1,h2⟩
  · rw [h1,h2];simp
  · rw [h1,h2];simp
def unV(i:api_Instrument):Bool:=
  (!decide (i.Places=0)&& !(decide (i.Kind=1) || decide (i.Kind=4) || decide (i.Kind=6))) ||
  ((!decide (i.Low=0) || !decide (i.High=0) || !decide (i.Steps=0) || decide (0<(i.Zones.length:Int)))&& !decide (i.Kind=2)) ||
  ((!decide (i.Op=0) || !decide (i.N=0))&& !(decide (i.Kind=3) || decide (i.Kind=5))) ||
  (i.Latch&& !decide (i.Kind=3)) || (!decide (i.Size=0)&& !decide (i.Kind=6))
theorem ZlF: ∀ p k1 q k2 r k3 l k4 z k5:Bool,
    ((p && !(p && k1)) || (q && !(!(p && !(p && k1)) && q && k2)) || (r && !(!((p && !(p && k1)) || (q && !(!(p && !(p && k1)) && q && k2))) && r && k3)) ||
      (l&& !(!((p&& !(p&&k1)) || (q&& !(!(p&& !(p&&k1))&&q&&k2)) || (r&& !(!((p&& !(p&&k1)) || (q&& !(!(p&& !(p&&k1))&&q&&k2)))&&r&&k3)))&&l&&k4)) ||
      (z&& !(!((p&& !(p&&k1)) || (q&& !(!(p&& !(p&&k1))&&q&&k2)) || (r&& !(!((p&& !(p&&k1)) || (q&& !(!(p&& !(p&&k1))&&q&&k2)))&&r&&k3)) ||
      (l&& !(!((p&& !(p&&k1)) || (q&& !(!(p&& !(p&&k1))&&q&&k2)) || (r&& !(!((p&& !(p&&k1)) || (q&& !(!(p&& !(p&&k1))&&q&&k2)))&&r&&k3)))&&l&&k4)))&&z&&k5)))=
    ((p&& !k1) || (q&& !k2) || (r&& !k3) || (l&& !k4) || (z&& !k5)):=by decide+kernel
theorem ZjZ(i:api_Instrument):JG i=some (unV i):=by
  have h1:ZJ [1,4,6] i=some (decide (i.Kind=1) || decide (i.Kind=4) || decide (i.Kind=6)):=by
    unfold ZJ;rw [ZiD (by decide)];simp [Bool.or_assoc]
  have h2:ZJ [2] i=some (decide (i.Kind=2)):=by unfold ZJ;rw [ZiD (by decide)];simp
  have h3:ZJ [3,5] i=some (decide (i.Kind=3) || decide (i.Kind=5)):=by unfold ZJ;rw [ZiD (by decide)];simp
  have h4:ZJ [3] i=some (decide (i.Kind=3)):=by unfold ZJ;rw [ZiD (by decide)];simp
  have h5:ZJ [6] i=some (decide (i.Kind=6)):=by unfold ZJ;rw [ZiD (by decide)];simp
  unfold JG
  rw [h1,h2,h3,h4,h5]
  simp only [Zlx,Option.bind_some,unV]
  congr 1
  generalize (decide (i.Kind=1) || decide (i.Kind=4) || decide (i.Kind=6))=k1
  generalize (!decide (i.Low=0) || !decide (i.High=0) || !decide (i.Steps=0) || decide (0<(i.Zones.length:Int)))=q
  generalize (decide (i.Kind=3) || decide (i.Kind=5))=k3
  generalize (!decide (i.Op=0) || !decide (i.N=0))=r
  generalize (!decide (i.Places=0))=p
  generalize (!decide (i.Size=0))=z
  generalize decide (i.Kind=2)=k2
  generalize decide (i.Kind=3)=k4
  generalize decide (i.Kind=6)=k5
  generalize i.Latch=l
  have:=ZlF p k1 q k2 r k3 l k4 z k5
  rw [←this]
  revert p k1 q k2 r k3 l k4 z k5
  decide+kernel
end Go.Vx

namespace Go.Vx
open Go Go.RowKit
def nb50(z:Int):Bool:=wi z (-1125899906842624) 1125899906842624
def ZjN(zs:List api_Zone)(k:Nat)(x:api_Zone):Option Int:=
  if pn x.Name=false then some 8 else if decide (x.To<x.From)=true then some 9 else if(decide (0<(k:Int))&&(zs[k-1]?).elim false fun y=>decide (x.From≤y.To))=true then some 10 else none
def Zjr(i:api_Instrument):Int:=
  if(decide (i.High≤i.Low) || !nb50 i.Low || !nb50 i.High || !wi i.Steps 1 1000)=true then 9 else if 10<(i.Zones.length:Int) then 3 else ZaH id 0 (Qt (ZjN i.Zones) 0 i.Zones)
theorem Zng{zs:List api_Zone}{k:Nat}{x:api_Zone}(hx:zs[k]?=some x)(hl:zs.length≤10):
    ∃ y,gd (decide (0<(k:Int))==true) (api_Zone.mk 0 0 []) (idx zs (i64 ((k:Int)-1)))=some y∧(decide (0<(k:Int))&&decide (x.From≤y.To))=(decide (0<(k:Int))&&(zs[k-1]?).elim false fun y=>decide (x.From≤y.To)):=by
  have hlt:=Zaa hx
  by_cases h0:0<(k:Int)
  · obtain⟨y,hy⟩:=XN (xs:=zs) (k:=k-1) (by omega)
    have e:i64 ((k:Int)-1)=((k-1:Nat):Int):=by rw [show((k:Int)-1)=((k-1:Nat):Int) by omega];exact ZA (by omega) (by omega)
    refine⟨y,?_,?_⟩
    · rw [decide_eq_true h0,e,Z1 hy];rfl
    · rw [hy];rfl
  · have h0':decide (0<(k:Int))=false:=decide_eq_false h0
    rw [h0']
    exact⟨_,rfl,rfl⟩
theorem Zli(i:api_Instrument):XG i=some (Zjr i):=by
  unfold XG Zjr
  have e1:Xj i.Low=some (nb50 i.Low):=rfl
  have e2:Xj i.High=some (nb50 i.High):=rfl
  have e3:ZF i.Steps 1 1000=some (wi i.Steps 1 1000):=rfl
  rw [e1,e2,e3]
  simp only [Zlx,Option.bind_some]
  have hb: ∀ h a b c:Bool,(h || !(h==false&&a) || !((h || !(h==false&&a))==false&&b) || !((h || !(h==false&&a) || !((h || !(h==false&&a))==false&&b))==false&&c))=(h || !a || !b || !c):=by decide
  rw [hb]
  cases hc:(decide (i.High≤i.Low) || !nb50 i.Low || !nb50 i.High || !wi i.Steps 1 1000) with
  |true=>simp
  |false=>
    by_cases h10:10<(i.Zones.length:Int)
    · simp [h10]
    · have h:loop (t1 (Qz i)) 0=some (ZaH Sum.inl (Sum.inr ()) (Qt (ZjN i.Zones) 0 i.Zones)):=by
        refine Jo (xs:=i.Zones) (body:=Qz i) _ _ _ (fun k x hx=> ?_) (by simp [Qz])
        have hlt:=Zaa hx
        have e1:i64 ((k:Int)+1)=(k:Int)+1:=Zht (n:=i.Zones.length) (by omega) (by omega)
        obtain⟨y,hy1,hy2⟩:=Zng hx (by omega)
        simp only [Qz,hlt,decide_true,if_true,Z1 hx,Option.bind_some,e1,Zjz,hy1,hy2,ZjN]
        cases pn x.Name with
        |false=>simp
        |true=>cases decide (x.To<x.From) with
          |true=>simp
          |false=>cases (decide (0<(k:Int))&&(i.Zones[k-1]?).elim false fun y=>decide (x.From≤y.To))<;>simp
      simp only [Bool.false_eq_true,if_false,h10,decide_false,h]
      cases Qt (ZjN i.Zones) 0 i.Zones<;>simp
def ZaX(i:api_Instrument):Int:=
  if wi i.Kind 1 6=false then 7 else if(!pn i.Name || !wi (i.Track.length:Int) 1 30)=true then 8 else if unV i=true then 2 else if wi i.Places 0 6=false then 9 else
  if i.Kind=2 then Zjr i else if i.Kind=3∨i.Kind=5 then(if wi i.Op 1 6=false then 7 else if nb50 i.N=false then 9 else 0) else if i.Kind=6 then(if wi i.Size 1 50=false then 9 else 0) else 0
theorem ZlD(i:api_Instrument):Qo i=some (ZaX i):=by
  unfold Qo ZaX
  have e0: ∀ z a b,ZF z a b=some (wi z a b):=fun z a b=>rfl
  have e1:Xj i.N=some (nb50 i.N):=rfl
  simp only [e0,e1,Zjz,ZjZ,Zli,Zlx,Option.bind_some]
  cases wi i.Kind 1 6 with
  |false=>simp
  | true => cases pn i.Name with
    |false=>simp
    | true => cases wi (i.Track.length : Int) 1 30 with
      |false=>simp
      | true => cases unV i with
        |true=>simp
        |false=>cases wi i.Places 0 6 with
          |false=>simp
          |true=>
            by_cases h2:i.Kind=2
            · simp [h2]
            · by_cases h3:i.Kind=3
              · cases wi i.Op 1 6<;>cases nb50 i.N<;>simp [h3]
              · by_cases h5:i.Kind=5
                · cases wi i.Op 1 6<;>cases nb50 i.N<;>simp [h5]
                · by_cases h6:i.Kind=6
                  · cases wi i.Size 1 50<;>simp [h6]
                  · simp [h2,h3,h5,h6]
def ZkK(i:api_Instrument)(n:Int):Int:=if ZaX i≠0 then ZaX i else if i.Kind≠2 then 7 else if nb50 n=false then 9 else 0
structure DialOK (i:api_Instrument):Prop where
  lt:i.Low<i.High
  low: -1125899906842624≤i.Low∧i.Low≤1125899906842624
  high: -1125899906842624≤i.High∧i.High≤1125899906842624
  steps:1≤i.Steps∧i.Steps≤1000
  zones:i.Zones.length≤10
theorem Zlv{i:api_Instrument}{n:Int}(h:ZkK i n=0):DialOK i∧(-1125899906842624≤n∧n≤1125899906842624):=by
  unfold ZkK at h
  split at h
  · rename_i h0;exact absurd h h0
  · rename_i h0
    split at h
    · cases h
    · rename_i h2
      have h2:i.Kind=2:=by omega
      split at h
      · cases h
      · rename_i hn
        have hn:nb50 n=true:=by simpa using hn
        have hI:ZaX i=0:=by omega
        unfold ZaX at hI
        split at hI
        · cases hI
        split at hI
        · cases hI
        split at hI
        · cases hI
        split at hI
        · cases hI
        try rw [if_pos h2] at hI
        unfold Zjr at hI
        split at hI
        · cases hI
        rename_i hc
        split at hI
        · cases hI
        rename_i h10
        have hc:(decide (i.High≤i.Low) || !nb50 i.Low || !nb50 i.High || !wi i.Steps 1 1000)=false:=by simpa using hc
        simp only [Bool.or_eq_false_iff,decide_eq_false_iff_not,Bool.not_eq_false'] at hc
        obtain⟨⟨⟨c1,c2⟩,c3⟩,c4⟩:=hc
        exact⟨⟨by omega,Xx.1 c2,Xx.1 c3,Xx.1 c4,by omega⟩,Xx.1 hn⟩
def ndl(i:api_Instrument)(n:Int):Int:=if n≤i.Low then 0 else if i.High≤n then i.Steps else((n-i.Low)*i.Steps)/(i.High-i.Low)
theorem Zlm{i:api_Instrument}(hi:DialOK i){n:Int}(h1:i.Low<n)(h2:n<i.High):0≤(n-i.Low)*i.Steps∧(n-i.Low)*i.Steps≤2251799813685248000:=by
  have:=hi.low;have:=hi.high;have:=hi.steps
  exact⟨Int.mul_nonneg (by omega) (by omega),by
    have:(n-i.Low)*i.Steps≤2251799813685248*1000:=Int.mul_le_mul (by omega) (by omega) (by omega) (by omega)
    omega⟩
theorem Zj1{i:api_Instrument}(hi:DialOK i){n:Int}(hn: -1125899906842624≤n∧n≤1125899906842624):JQ i n=some (ndl i n):=by
  unfold JQ ndl
  by_cases h1:n≤i.Low
  · simp [h1]
  · by_cases h2:i.High≤n
    · simp [h1,h2]
    · have:=hi.low;have:=hi.high;have hlt:=hi.lt
      obtain⟨m1,m2⟩:=Zlm hi (n:=n) (by omega) (by omega)
      have e1:i64 (n-i.Low)=n-i.Low:=ZA (by omega) (by omega)
      have e2:i64 ((n-i.Low)*i.Steps)=(n-i.Low)*i.Steps:=ZA (by omega) (by omega)
      have e3:i64 (i.High-i.Low)=i.High-i.Low:=ZA (by omega) (by omega)
      have q1:0≤(n-i.Low)*i.Steps/(i.High-i.Low):=Int.ediv_nonneg m1 (by omega)
      have q2:(n-i.Low)*i.Steps/(i.High-i.Low)≤(n-i.Low)*i.Steps:=Int.ediv_le_self _ m1
      have e4:quo .i64 ((n-i.Low)*i.Steps) (i.High-i.Low)=some ((n-i.Low)*i.Steps/(i.High-i.Low)):=by
        unfold quo
        rw [if_neg (by omega),Int.tdiv_eq_ediv_of_nonneg m1,ZA (by omega) (by omega)]
      rw [if_neg (by simpa using h1),if_neg (by simpa using h2),if_neg h1,if_neg h2,e1,e2,e3,e4];rfl
theorem ZmH{i:api_Instrument}(hz:i.Zones.length≤10)(n:Int): ∃ s,Jl i n=some s∧ZfE i n=some s:=by
  have e:ZfE i n=Jl i n:=rfl
  rw [e]
  have h:loop (t1 (Q8 i n)) 0=some (ZaH Sum.inl (Sum.inr ()) (Qt (fun _ x=>if wi n x.From x.To=true then some x.Name else none) 0 i.Zones)):=by
    refine Jo (xs:=i.Zones) (body:=Q8 i n) _ _ _ (fun k x hx=> ?_) (by simp [Q8])
    have hlt:=Zaa hx
    have e1:i64 ((k:Int)+1)=(k:Int)+1:=Zht (n:=i.Zones.length) (by omega) (by omega)
    have e0:ZF n x.From x.To=some (wi n x.From x.To):=rfl
    simp only [Q8,hlt,decide_true,if_true,Z1 hx,Option.bind_some,e1,e0]
    cases wi n x.From x.To<;>rfl
  unfold Jl
  rw [h]
  cases Qt (fun _ x=>if wi n x.From x.To=true then some x.Name else none) 0 i.Zones with
  |none=>exact⟨[],rfl,rfl⟩
  |some v=>exact⟨v,rfl,rfl⟩
end Go.Vx

namespace Go.Vx
open Go Go.RowKit
theorem Zjy{l:List api_Instrument}(hl:l.length≤9223372036854775807){f:api_Instrument→Option Bool}{p:api_Instrument→Bool}(hf: ∀ x,f x=some (p x)):Zh l f=some (l.any p):=by
  have h:loop (t1 (Zn l f)) 0=some (ZaH Sum.inl (Sum.inr ()) (Qt (fun k x=>if p x=true then some (k:Int) else none) 0 l)):=by
    refine Jo (xs:=l) (body:=Zn l f) _ _ _ (fun k x hx=> ?_) (by simp [Zn])
    have hlt:=Zaa hx
    have e1:i64 ((k:Int)+1)=(k:Int)+1:=Zht (n:=l.length) (by omega) hl
    simp only [Zn,hlt,decide_true,if_true,Z1 hx,Option.bind_some,e1,hf]
    cases p x<;>rfl
  unfold Zh Zy
  rw [h]
  rcases Zek (p:=p) 0 l with ⟨h1,h2⟩ | ⟨m,h1,h2⟩
  · rw [h1,h2];simp
  · rw [h1,h2];simp
def Zil(xs:List api_Instrument)(k:Nat)(x:api_Instrument):Option Int:=
  if ZaX x≠0 then some (ZaX x) else if(xs.take k).any (fun z=>decide (z.Name=x.Name))=true then some 5 else none
def ZgN(p:api_Panel):Int:=if 100<(p.Instruments.length:Int) then 3 else ZaH id 0 (Qt (Zil p.Instruments) 0 p.Instruments)
theorem ZkF(p:api_Panel):Zac p=some (ZgN p):=by
  unfold Zac ZgN
  by_cases h50:100<(p.Instruments.length:Int)
  · simp [h50]
  · have h:loop (t1 (Xv p)) 0=some (ZaH Sum.inl (Sum.inr ()) (Qt (Zil p.Instruments) 0 p.Instruments)):=by
      refine Jo (xs:=p.Instruments) (body:=Xv p) _ _ _ (fun k x hx=> ?_) (by simp [Xv])
      have hlt:=Zaa hx
      have e1:i64 ((k:Int)+1)=(k:Int)+1:=Zht (n:=p.Instruments.length) (by omega) (by omega)
      have hc:Zh (p.Instruments.take k) (fun z0=>J3 z0 x)=some ((p.Instruments.take k).any fun z=>decide (z.Name=x.Name)):=
        Zjy (by rw [List.length_take];omega) (fun _=>rfl)
      simp only [Xv,hlt,decide_true,if_true,Z1 hx,Option.bind_some,e1,ZlD,Zlf (show k≤p.Instruments.length by omega),hc,Zil]
      by_cases h0:ZaX x=0
      · cases (p.Instruments.take k).any (fun z=>decide (z.Name=x.Name))<;>simp [h0]
      · simp [h0]
    simp only [h50,decide_false,Bool.false_eq_true,if_false,h]
    cases Qt (Zil p.Instruments) 0 p.Instruments<;>simp
theorem Zcn{p:api_Panel}(h:ZgN p=0):p.Instruments.length≤100:=by
  unfold ZgN at h
  split at h
  · cases h
  · omega
theorem ZkR{α:Type}{n:Nat}(h:n≤4294967296)(z:α):mks (n:Int) z=some (List.replicate n z):=by
  unfold mks mkz
  rw [if_pos ⟨by omega,by omega⟩,Int.toNat_natCast]
end Go.Vx
