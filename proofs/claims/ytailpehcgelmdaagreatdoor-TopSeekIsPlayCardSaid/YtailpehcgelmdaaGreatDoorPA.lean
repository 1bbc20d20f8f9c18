/- A text of the proof: a verified executor of the program form, or the contracts of the functions that the law reaches. -/
import Derived.Test.YtailpehcgelmdaaGreatDoorShLib
import Derived.Test.YtailpehcgelmdaaGreatDoorShT
import Derived.Test.YtailpehcgelmdaaGreatDoorVH
import Derived.Test.YtailpehcgelmdaaGreatDoorVP
set_option linter.all false
namespace Go.Vx
open Go Go.RowKit
theorem Zz{z:Int}(h1: -9223372036854775808≤z)(h2:z≤9223372036854775807):IntKind.i64.wrap z=z:=w64 h1 h2
theorem Zkw{z:Int}(h1:0≤z)(h2:z<18446744073709551616):IntKind.u64.wrap z=z:=Zlt h1 h2
@[simp] theorem ZjA {α:Type} {d:α} {o:Option α}:gd true d o=o:=rfl
@[simp] theorem ZlC {α:Type} {d:α} {o:Option α}:gd false d o=some d:=rfl
@[simp] theorem Zj3 {α:Type} {d:α} {o:Option α}:gd (true==true) d o=o:=rfl
theorem ZN{α:Type}{xs:List α}{k:Nat}{x:α}(h:xs[k]?=some x):idx xs (k:Int)=some x:=by simp [idx,h]
theorem X4{α:Type}{xs:List α}{k:Nat}{x:α}(h:xs[k]?=some x):(k:Int)<(xs.length:Int):=by
  have:=(List.getElem?_eq_some_iff.1 h).1;omega
theorem QQ{α:Type}{xs:List α}{k:Nat}(h:k<xs.length): ∃ x,xs[k]?=some x:=⟨xs[k],List.getElem?_eq_getElem h⟩
theorem ZdL{α:Type}{xs:List α}{k:Nat}{x:α}(h:xs[k]?=some x):xs.drop k=x::xs.drop (k+1):=by
  obtain⟨hk,rfl⟩:=List.getElem?_eq_some_iff.1 h
  exact List.drop_eq_getElem_cons hk
theorem ZdM{α:Type}{xs ys:List α}(h:xs.length+ys.length≤4294967296):app xs ys=some (xs++ys):=by unfold app apz;rw [if_pos (by omega)]
section loops
variable {σ ρ:Type}
theorem Zbn{body:σ→Option (σ ⊕ ρ)}(I:σ→Prop)(μ:σ→Nat)(F:σ→ρ)(step: ∀ s,I s→(∃ s',body s=some (.inl s')∧I s'∧μ s'<μ s∧F s=F s')∨body s=some (.inr (F s))):
    ∀ s,I s→loop body s=some (F s):=by
  intro s hs
  obtain⟨r,h1,h2⟩:=Zg5 (body:=body) (fun s'=>I s'∧F s=F s') μ (fun r=>r=F s) (fun s' ⟨h1,h2⟩=>by
    rcases step s' h1 with ⟨s2,e1,e2,e3,e4⟩ |e
    · exact .inl ⟨s2,e1,⟨e2,h2.trans e4⟩,e3⟩
    · exact .inr ⟨_,e,h2.symm⟩) s ⟨hs,rfl⟩
  rw [h1,h2]
variable {α:Type} {xs:List α}
theorem ZbQ{body:Int→Option (Int ⊕ ρ)}(F:Nat→ρ)
    (hstep: ∀ (k:Nat) x,xs[k]?=some x→(body k=some (.inl ((k:Int)+1))∧F k=F (k+1))∨body k=some (.inr (F k)))
    (hend:body xs.length=some (.inr (F xs.length))):loop (t1 body) 0=some (F 0):=by
  refine Zbn (body:=t1 body) (fun i=> ∃ k:Nat,i=k∧k≤xs.length) (fun i=>xs.length-i.toNat) (fun i=>F i.toNat) ?_ 0 ⟨0,rfl,Nat.zero_le _⟩
  rintro i ⟨k,rfl,hk⟩
  simp only [Int.toNat_natCast,Zcc]
  rcases Nat.lt_or_ge k xs.length with h |h
  · obtain⟨x,hx⟩:=QQ h
    rcases hstep k x hx with ⟨h1,h2⟩ |h1
    · exact .inl ⟨_,h1,⟨k+1,by push_cast;rfl,h⟩,by omega,by rw [h2];rfl⟩
    · exact .inr h1
  · have:k=xs.length:=by omega
    subst this
    exact .inr hend
theorem ZaG{body:σ→Int→Option ((σ×Int) ⊕ ρ)}(I:σ→Nat→Prop)(F:σ→Nat→ρ)
    (hstep: ∀ a (k:Nat) x,I a k→xs[k]?=some x→(∃ a',body a k=some (.inl (a',(k:Int)+1))∧I a' (k+1)∧F a k=F a' (k+1))∨body a k=some (.inr (F a k)))
    (hend: ∀ a,I a xs.length→body a xs.length=some (.inr (F a xs.length))) {a0:σ} (h0:I a0 0):loop (t2 body) (a0,0)=some (F a0 0):=by
  refine Zbn (body:=t2 body) (fun p=> ∃ k:Nat,p.2=k∧k≤xs.length∧I p.1 k) (fun p=>xs.length-p.2.toNat) (fun p=>F p.1 p.2.toNat) ?_ (a0,0) ⟨0,rfl,Nat.zero_le _,h0⟩
  rintro⟨a,i⟩ ⟨k,hi,hk,hI⟩
  simp only at hi hI
  subst hi
  simp only [Int.toNat_natCast,ZdE]
  rcases Nat.lt_or_ge k xs.length with h |h
  · obtain⟨x,hx⟩:=QQ h
    rcases hstep a k x hI hx with ⟨a',h1,h2,h3⟩ |h1
    · exact .inl ⟨_,h1,⟨k+1,by push_cast;rfl,h,h2⟩,by simp only;omega,by rw [h3];rfl⟩
    · exact .inr h1
  · have:k=xs.length:=by omega
    subst this
    exact .inr (hend a hI)
end loops
end Go.Vx

namespace Go.Vx
open Go Go.RowKit
abbrev Smp:=api_Sample
def wi(n lo hi:Int):Bool:=decide (lo≤n)&&decide (n≤hi)
theorem ZgP(n a b:Int):Xr n a b=some (wi n a b):=rfl
theorem ZdY(n a b:Int):Xj n a b=some (!wi n a b):=by
  simp only [Xj,wi,Option.some.injEq]
  rw [Bool.eq_iff_iff];simp [Int.not_le]
theorem Q9{n a b:Int}:wi n a b=true↔a≤n∧n≤b:=by simp [wi]
def JL(x:Smp):Option Int:=if !(wi x.At 0 1099511627776&&wi x.N (-1125899906842624) 1125899906842624&&wi x.Mark 0 4) then some 9 else if !decide (x.N=0)&&decide (x.Mark≤1) then some 2 else none
def ZgJ(xs:List Smp)(k:Nat):Option Smp:=if k=0 then none else xs[k-1]?
def Zcj(p:Option Smp)(x:Smp):Bool:=match p with |none=>false |some q=>decide (x.At≤q.At)
def Zc9:Option Smp→Nat→List Smp→Int×Int
  |_,_,[]=>(-1,0)
  |p,k,x::tl=>match JL x with |some e=>((k:Int),e) |none=>if Zcj p x then((k:Int),10) else Zc9 (some x) (k+1) tl
def chk(s:api_Series):Int×Int:=if wi s.Den 1 1000000 then(if(s.Samples.length:Int)≤20000 then Zc9 none 0 s.Samples else(-1,3)) else(-1,9)
theorem ZfF{xs:List Smp}{k:Nat}{x:Smp}(h:xs[k]?=some x):ZgJ xs (k+1)=some x:=by simp [ZgJ,h]
theorem ZgO{xs:List Smp}{k:Nat}(hk:0<k)(h:k≤xs.length): ∃ y,xs[k-1]?=some y∧ZgJ xs k=some y∧idx xs ((k:Int)-1)=some y:=by
  obtain⟨y,hy⟩:=QQ (xs:=xs) (k:=k-1) (by omega)
  refine⟨y,hy,by simp [ZgJ,hy];omega,?_⟩
  have:((k:Int)-1)=((k-1:Nat):Int):=by omega
  rw [this,ZN hy]
theorem Zhu(s:api_Series)(h:(s.Samples.length:Int)≤20000):
    loop (t1 (XR s)) 0=some ((fun r:Int×Int=>if r.2=0 then Sum.inr () else Sum.inl r) (Zc9 none 0 s.Samples)):=by
  refine ZbQ (xs:=s.Samples) (fun k=>(fun r:Int×Int=>if r.2=0 then Sum.inr () else Sum.inl r) (Zc9 (ZgJ s.Samples k) k (s.Samples.drop k))) (fun k x hx=> ?_) ?_
  · have hlt:=X4 hx
    rw [ZdL hx,Zc9]
    simp only [XR,ZN hx,hlt,decide_true,if_true,Option.bind_some,ZgP]
    by_cases hb:(wi x.At 0 1099511627776&&wi x.N (-1125899906842624) 1125899906842624&&wi x.Mark 0 4)=true
    · simp only [Bool.and_eq_true] at hb
      obtain⟨⟨h1,h2⟩,h3⟩:=hb
      by_cases hh:(!decide (x.N=0)&&decide (x.Mark≤1))=true
      · right
        simp [JL,h1,h2,h3,hh]
      · have hs:JL x=none:=by simp only [JL,h1,h2,h3];simp [hh]
        rw [hs]
        rcases Nat.eq_zero_or_pos k with rfl |hk
        · left
          simp [h1,h2,h3,hh,Zz,ZgJ,Zcj,hx]
        · obtain⟨y,hy,hp,hi⟩:=ZgO (xs:=s.Samples) hk (by omega)
          have hk':(0:Int)<k:=by omega
          rw [hp]
          have hw:IntKind.i64.wrap ((k:Int)-1)=(k:Int)-1:=Zz (by omega) (by omega)
          have hw2:IntKind.i64.wrap ((k:Int)+1)=(k:Int)+1:=Zz (by omega) (by omega)
          by_cases ho:x.At≤y.At
          · right;simp [h1,h2,h3,hh,hw,hi,hk,Zcj,ho]
          · left;simp [h1,h2,h3,hh,hw,hw2,hi,hk,Zcj,ho,ZfF hx]
    · right
      have hs:JL x=some 9:=by
        simp only [JL]
        rw [if_pos (by cases h1:wi x.At 0 1099511627776<;>cases h2:wi x.N (-1125899906842624) 1125899906842624<;>cases h3:wi x.Mark 0 4<;>simp_all)]
      rw [hs]
      simp only [Bool.and_eq_true,not_and,Bool.not_eq_true] at hb
      cases h1:wi x.At 0 1099511627776<;>cases h2:wi x.N (-1125899906842624) 1125899906842624<;>cases h3:wi x.Mark 0 4<;>simp_all
  · simp [XR,List.drop_length,Zc9]
theorem Zdm: ∀ (p:Option Smp) (k:Nat) (xs:List Smp),Zc9 p k xs=(-1,0)∨(Zc9 p k xs).2≠0
  |_,_,[]=> .inl rfl
  |p,k,x::tl=>by
    rw [Zc9]
    split
    · rename_i e he;right;unfold JL at he;split at he
      · cases he;simp
      · split at he<;>cases he;simp
    · split
      · right;simp
      · exact Zdm _ _ tl
theorem ZjT(s:api_Series):J9 s=some (chk s):=by
  simp only [J9,ZgP,Option.bind_some,chk]
  cases hd:wi s.Den 1 1000000 with
  |false=>simp
  |true=>
    by_cases hl:(s.Samples.length:Int)≤20000
    · rw [Zhu s hl]
      simp only [show ¬20000<(s.Samples.length:Int) by omega,hl,decide_false,if_true,if_false,Bool.not_true,Option.bind_some,Bool.false_eq_true]
      rcases Zdm none 0 s.Samples with h |h
      · simp [h]
      · simp [h]
    · simp [hl,show 20000<(s.Samples.length:Int) by omega]
theorem Zhc(x:Smp):Zas x=some ((JL x).getD 0):=by
  simp only [Zas,ZdY,Option.bind_some,ZcZ,JL]
  cases h1:wi x.At 0 1099511627776<;>cases h2:wi x.N (-1125899906842624) 1125899906842624<;>cases h3:wi x.Mark 0 4<;>simp
  by_cases h4:x.N=0<;>by_cases h5:x.Mark≤1<;>simp [h4,h5]<;>omega
theorem Zfh{x:Smp}{e:Int}(h:JL x=some e):e=9∨e=2:=by
  unfold JL at h;split at h
  · cases h;simp
  · split at h<;>cases h;simp
theorem Zhb(s:api_Series)(h:(s.Samples.length:Int)≤20000):
    loop (t1 (Zav s)) 0=some ((fun r:Int×Int=>if r.2=0 then Sum.inr () else Sum.inl r) (Zc9 none 0 s.Samples)):=by
  refine ZbQ (xs:=s.Samples) (fun k=>(fun r:Int×Int=>if r.2=0 then Sum.inr () else Sum.inl r) (Zc9 (ZgJ s.Samples k) k (s.Samples.drop k))) (fun k x hx=> ?_) ?_
  · have hlt:=X4 hx
    rw [ZdL hx,Zc9]
    simp only [Zav,ZN hx,hlt,decide_true,if_true,Option.bind_some,Zhc]
    cases hs:JL x with
    |some e=>
      right
      rcases Zfh hs with rfl |rfl<;>simp
    |none=>
      rcases Nat.eq_zero_or_pos k with rfl |hk
      · left
        simp [Zz,ZgJ,Zcj,hx]
      · obtain⟨y,hy,hp,hi⟩:=ZgO (xs:=s.Samples) hk (by omega)
        rw [hp]
        have hw:IntKind.i64.wrap ((k:Int)-1)=(k:Int)-1:=Zz (by omega) (by omega)
        have hw2:IntKind.i64.wrap ((k:Int)+1)=(k:Int)+1:=Zz (by omega) (by omega)
        by_cases ho:x.At≤y.At
        · right;simp [hw,hi,hk,Zcj,ho]
        · left;simp [hw,hw2,hi,hk,Zcj,ho,ZfF hx]
  · simp [Zav,List.drop_length,Zc9]
theorem Zjp(s:api_Series):Zc3 s=some (chk s):=by
  simp only [Zc3,ZdY,Option.bind_some,chk]
  cases hd:wi s.Den 1 1000000 with
  |false=>simp
  |true=>
    by_cases hl:(s.Samples.length:Int)≤20000
    · rw [Zhb s hl]
      simp only [show ¬20000<(s.Samples.length:Int) by omega,hl,decide_false,if_true,if_false,Bool.not_true,Option.bind_some,Bool.false_eq_true]
      rcases Zdm none 0 s.Samples with h |h
      · simp [h]
      · simp [h]
    · simp [hl,show 20000<(s.Samples.length:Int) by omega]
theorem ZjH(s:api_Series):JV s=some (chk s).2:=by simp [JV,ZjT]
theorem ZiQ(s:api_Series):Zdf s=some (chk s).2:=by simp [Zdf,Zjp]
structure SerOK (s:api_Series):Prop where
  den:1≤s.Den∧s.Den≤1000000
  len:(s.Samples.length:Int)≤20000
  at': ∀ (k:Nat) x,s.Samples[k]?=some x→(0≤x.At∧x.At≤1099511627776)∧(-1125899906842624≤x.N∧x.N≤1125899906842624)∧(0≤x.Mark∧x.Mark≤4)∧(x.N≠0→2≤x.Mark)
  rise: ∀ (i j:Nat) x y,i<j→s.Samples[i]?=some x→s.Samples[j]?=some y→x.At<y.At
theorem ZfK: ∀ (p:Option Smp) (k:Nat) (xs:List Smp),(Zc9 p k xs).2=0→
    (∀ (j:Nat) x,xs[j]?=some x→JL x=none∧ ∀ q,p=some q→q.At<x.At)∧(∀ (i j:Nat) x y,i<j→xs[i]?=some x→xs[j]?=some y→x.At<y.At)
  |_,_,[],_=>⟨fun j x h=>by simp at h,fun i j x y _ h=>by simp at h⟩
  |p,k,x::tl,h=>by
    rw [Zc9] at h
    cases hs:JL x with
    |some e=>rw [hs] at h;rcases Zfh hs with rfl |rfl<;>simp at h
    |none=>
      rw [hs] at h
      simp only at h
      split at h
      · simp at h
      · rename_i ho
        obtain⟨h1,h2⟩:=ZfK _ _ tl h
        have hpx: ∀ q,p=some q→q.At<x.At:=fun q hq=>by subst hq;simpa [Zcj] using ho
        refine⟨fun j y hy=> ?_,fun i j u v hij hu hv=> ?_⟩
        · cases j with
          |zero=>simp at hy;subst hy;exact⟨hs,hpx⟩
          |succ j=>
            have hy':tl[j]?=some y:=by simpa using hy
            obtain⟨g1,g2⟩:=h1 j y hy'
            exact⟨g1,fun q hq=>Int.lt_trans (hpx q hq) (g2 x rfl)⟩
        · cases j with
          |zero=>omega
          |succ j=>
            have hv':tl[j]?=some v:=by simpa using hv
            cases i with
            |zero=>simp at hu;subst hu;exact(h1 j v hv').2 x rfl
            |succ i=>exact h2 i j u v (by omega) (by simpa using hu) hv'
theorem ZeR{s:api_Series}(h:(chk s).2=0):SerOK s:=by
  unfold chk at h
  split at h
  · rename_i hd
    split at h
    · rename_i hl
      obtain⟨h1,h2⟩:=ZfK none 0 s.Samples h
      refine⟨Q9.1 hd,hl,fun k x hx=> ?_,h2⟩
      have:=(h1 k x hx).1
      unfold JL at this
      split at this
      · cases this
      · rename_i hb
        split at this
        · cases this
        · rename_i hh
          simp only [Bool.not_eq_true',Bool.not_eq_false,Bool.and_eq_true,Q9] at hb
          simp only [Bool.and_eq_true,Bool.not_eq_true',decide_eq_false_iff_not,decide_eq_true_eq] at hh
          exact⟨hb.1.1,hb.1.2,hb.2,fun h0=>by omega⟩
    · simp at h
  · simp at h
end Go.Vx

namespace Go.Vx
open Go Go.RowKit
def Z1(xs:List Smp)(t:Int):Nat:=xs.countP fun x=>decide (x.At≤t)
theorem ZbJ: ∀ (xs:List Smp) (t:Int),(∀ (i j:Nat) x y,i<j→xs[i]?=some x→xs[j]?=some y→x.At<y.At)→
    (∀ (k:Nat) x,k<Z1 xs t→xs[k]?=some x→x.At≤t)∧(∀ (k:Nat) x,Z1 xs t≤k→xs[k]?=some x→t<x.At)
  | [],_,_=>⟨fun k x h=>by simp [Z1] at h,fun k x _ h=>by simp at h⟩
  |x::tl,t,hr=>by
    obtain⟨h1,h2⟩:=ZbJ tl t fun i j u v hij hu hv=>hr (i+1) (j+1) u v (by omega) (by simpa using hu) (by simpa using hv)
    have hx: ∀ (j:Nat) y,tl[j]?=some y→x.At<y.At:=fun j y hy=>hr 0 (j+1) x y (by omega) rfl (by simpa using hy)
    by_cases hc:x.At≤t
    · have e:Z1 (x::tl) t=Z1 tl t+1:=by simp [Z1,hc]
      rw [e]
      refine⟨fun k y hk hy=> ?_,fun k y hk hy=> ?_⟩
      · cases k with
        |zero=>simp at hy;subst hy;exact hc
        |succ k=>exact h1 k y (by omega) (by simpa using hy)
      · cases k with
        |zero=>omega
        |succ k=>exact h2 k y (by omega) (by simpa using hy)
    · have e0:Z1 tl t=0:=by
        unfold Z1
        rw [List.countP_eq_zero]
        intro y hy
        obtain⟨j,hj⟩:=List.mem_iff_getElem?.1 hy
        have:=hx j y hj
        simp;omega
      have e:Z1 (x::tl) t=0:=by
        have:Z1 (x::tl) t=Z1 tl t:=by simp [Z1,hc]
        rw [this,e0]
      rw [e]
      refine⟨fun k y hk _=>by omega,fun k y _ hy=> ?_⟩
      cases k with
      |zero=>simp at hy;subst hy;omega
      |succ k=>have:=hx k y (by simpa using hy);omega
theorem Zfs(xs:List Smp)(t:Int):Z1 xs t≤xs.length:=List.countP_le_length
def ZdR(xs:List Smp)(t:Int):Option Smp:=if Z1 xs t=0 then none else xs[Z1 xs t-1]?
def J8(xs:List Smp)(t long:Int):Option Smp:=(ZdR xs t).bind fun x=>if 3≤x.Mark∧t-x.At≤long then some x else none
def z0:Smp:=api_Sample.mk 0 0 0
def ZcO(o:Option Smp):Smp×Bool:=match o with |some x=>(x,true) |none=>(z0,false)
theorem Zbv{ρ:Type}{body:Int→Int→Option ((Int×Int) ⊕ ρ)}(n c:Nat)(F:Nat→ρ)(hc:c≤n)(hn:n≤4611686018427387904)
    (hstep: ∀ (i j m:Nat),i<j→j≤n→m=(i+j)/2→(m<c→body i j=some (.inl ((m:Int)+1,j)))∧(c≤m→body i j=some (.inl (i,(m:Int)))))
    (hend: ∀ i:Nat,body i i=some (.inr (F i))):loop (t2 body) (0,(n:Int))=some (F c):=by
  refine Zbn (body:=t2 body) (fun p=> ∃ i j:Nat,p=((i:Int),(j:Int))∧i≤c∧c≤j∧j≤n) (fun p=>(p.2-p.1).toNat) (fun _=>F c) ?_ _ ⟨0,n,rfl,Nat.zero_le _,hc,Nat.le_refl _⟩
  rintro _ ⟨i,j,rfl,h1,h2,h3⟩
  simp only [ZdE]
  rcases Nat.lt_or_ge i j with h |h
  · obtain⟨g1,g2⟩:=hstep i j ((i+j)/2) h h3 rfl
    rcases Nat.lt_or_ge ((i+j)/2) c with h4 |h4
    · exact .inl ⟨_,g1 h4,⟨(i+j)/2+1,j,by push_cast;rfl,h4,h2,h3⟩,by simp only;omega,by trivial⟩
    · exact .inl ⟨_,g2 h4,⟨i,(i+j)/2,rfl,h1,h4,by omega⟩,by simp only;omega,by trivial⟩
  · have e1:i=c:=by omega
    have e2:j=c:=by omega
    subst e1;subst e2
    exact .inr (hend _)
theorem ZjD{s:api_Series}(hs:SerOK s)(t long:Int)(ht:0≤t∧t≤1099511627776):ZdV s t long=some (ZcO (J8 s.Samples t long)):=by
  have hlen:=hs.len
  obtain⟨hc1,hc2⟩:=ZbJ s.Samples t hs.rise
  have hcl:=Zfs s.Samples t
  have hl:loop (t2 (ZaU s t)) (0,(s.Samples.length:Int))=some ((Z1 s.Samples t:Nat):Int):=by
    refine Zbv s.Samples.length (Z1 s.Samples t) (fun k=>(k:Int)) hcl (by omega) (fun i j m hij hj hm=> ?_) (fun i=> ?_)
    · obtain⟨x,hx⟩:=QQ (xs:=s.Samples) (k:=m) (by omega)
      have hq:quo .i64 (i64 ((i:Int)+j)) 2=some (m:Int):=by
        rw [i64,Zz (by omega) (by omega),quo,if_neg (by decide),Int.tdiv_eq_ediv_of_nonneg (by omega),Zz (by omega) (by omega)]
        congr 1;omega
      have h2:(i:Int)<j:=by omega
      simp only [ZaU,h2,decide_true,if_true,hq,Option.bind_some,ZN hx]
      refine⟨fun h=> ?_,fun h=> ?_⟩
      · have:=hc1 m x h hx
        simp [this,Zz (show-9223372036854775808≤(m:Int)+1 by omega) (by omega)]
      · have:=hc2 m x h hx
        simp [show ¬x.At≤t by omega]
    · simp [ZaU]
  simp only [ZdV,hl,Option.bind_some,t1]
  by_cases h0:Z1 s.Samples t=0
  · simp [h0,J8,ZdR,ZcO,z0]
  · obtain⟨x,hx⟩:=QQ (xs:=s.Samples) (k:=Z1 s.Samples t-1) (by omega)
    have hi:idx s.Samples (IntKind.i64.wrap ((Z1 s.Samples t:Int)-1))=some x:=by
      rw [Zz (by omega) (by omega),show((Z1 s.Samples t:Int)-1)=((Z1 s.Samples t-1:Nat):Int) by omega,ZN hx]
    obtain⟨hx1,_,_,_⟩:=hs.at' _ _ hx
    have hw:IntKind.i64.wrap (t-x.At)=t-x.At:=Zz (by omega) (by omega)
    simp only [h0,hi,ZeN,J8,ZdR,hx,hw,Option.bind_some,i64,decide_false,if_false,Int.natCast_eq_zero,Bool.false_eq_true]
    by_cases h3:3≤x.Mark
    · by_cases h4:long<t-x.At
      · simp [h3,h4,ZcO,z0,show ¬t-x.At≤long by omega]
      · simp [h3,h4,ZcO,show t-x.At≤long by omega]
    · simp [h3,ZcO,z0]
end Go.Vx

namespace Go.Vx
open Go Go.RowKit
theorem ZgG{xs:List Smp}{t:Int}{c:Nat}(hr: ∀ (i j:Nat) x y,i<j→xs[i]?=some x→xs[j]?=some y→x.At<y.At)(hc:c≤xs.length)
    (h1: ∀ (k:Nat) x,k<c→xs[k]?=some x→x.At≤t) (h2: ∀ (k:Nat) x,c≤k→xs[k]?=some x→t<x.At):Z1 xs t=c:=by
  obtain⟨g1,g2⟩:=ZbJ xs t hr
  have hl:=Zfs xs t
  rcases Nat.lt_trichotomy (Z1 xs t) c with h |h |h
  · obtain⟨x,hx⟩:=QQ (xs:=xs) (k:=Z1 xs t) (by omega)
    have:=h1 _ x h hx;have:=g2 _ x (Nat.le_refl _) hx;omega
  · exact h
  · obtain⟨x,hx⟩:=QQ (xs:=xs) (k:=c) (by omega)
    have:=g1 _ x h hx;have:=h2 _ x (Nat.le_refl _) hx;omega
theorem Zj9{i j:Nat}(h:i+j<4611686018427387904):shr .u64 (u64 (i64 ((i:Int)+j))) 1=some (((i+j)/2:Nat):Int):=by
  rw [i64,u64,Zz (by omega) (by omega),Zkw (by omega) (by omega),shr,if_neg (by decide)]
  have:min (1:Int).toNat IntKind.u64.bits=1:=by decide
  rw [this]
  congr 1
  rw [Int.fdiv_eq_ediv_of_nonneg _ (by decide)]
  omega
theorem Zlr{xs:List Smp}{t:Int}(hlen:(xs.length:Int)≤20000)(hat: ∀ (k:Nat) x,xs[k]?=some x→0≤x.At∧x.At≤1099511627776)
    (hr: ∀ (i j:Nat) x y,i<j→xs[i]?=some x→xs[j]?=some y→x.At<y.At) (ht:0≤t∧t≤1099511627776):
    ZA xs t (fun z0 z1=>QM z0 z1)=some ((Z1 xs (t-1):Int),decide (∃ x,xs[Z1 xs (t-1)]?=some x∧x.At=t)):=by
  obtain⟨hc1,hc2⟩:=ZbJ xs (t-1) hr
  have hcl:=Zfs xs (t-1)
  have hcmp: ∀ (k:Nat) x,xs[k]?=some x→QM x t=some (x.At-t):=fun k x hx=>by
    have:=hat k x hx
    simp only [QM,i64]
    rw [Zz (by omega) (by omega)]
  have hl:loop (t2 (Zx xs t (fun z0 z1=>QM z0 z1))) (0,(xs.length:Int))=some ((Z1 xs (t-1):Nat):Int):=by
    refine Zbv xs.length (Z1 xs (t-1)) (fun k=>(k:Int)) hcl (by omega) (fun i j m hij hj hm=> ?_) (fun i=> ?_)
    · obtain⟨x,hx⟩:=QQ (xs:=xs) (k:=m) (by omega)
      have h2:(i:Int)<j:=by omega
      have hm':shr .u64 (u64 (i64 ((i:Int)+j))) 1=some (m:Int):=by rw [Zj9 (by omega),hm]
      have hmi:i64 (m:Int)=m:=Zz (by omega) (by omega)
      simp only [Zx,h2,decide_true,if_true,hm',Option.bind_some,hmi,ZN hx,hcmp m x hx]
      refine⟨fun h=> ?_,fun h=> ?_⟩
      · have:=hc1 m x h hx
        simp [show x.At-t<0 by omega,Zz (show-9223372036854775808≤(m:Int)+1 by omega) (by omega)]
      · have:=hc2 m x h hx
        simp [show ¬x.At-t<0 by omega]
    · simp [Zx]
  simp only [ZA,hl,Option.bind_some,t1]
  rcases Nat.lt_or_ge (Z1 xs (t-1)) xs.length with h |h
  · obtain⟨x,hx⟩:=QQ h
    have h':((Z1 xs (t-1):Nat):Int)<xs.length:=by omega
    simp only [h',decide_true,ZN hx,Zj3,Option.bind_some,hcmp _ x hx,hx,Bool.true_and,Option.some.injEq,exists_eq_left',Prod.mk.injEq,true_and]
    simp only [decide_eq_decide];omega
  · have h': ¬((Z1 xs (t-1):Nat):Int)<xs.length:=by omega
    simp [gd,h,List.getElem?_eq_none h,show ¬Z1 xs (t-1)<xs.length by omega]
theorem Zje{s:api_Series}(hs:SerOK s){t:Int}(ht:0≤t∧t≤1099511627776):JC s t=some ((Z1 s.Samples t:Int)-1):=by
  have hlen:=hs.len
  obtain⟨hc1,hc2⟩:=ZbJ s.Samples (t-1) hs.rise
  have hcl:=Zfs s.Samples (t-1)
  simp only [JC,Zlr hlen (fun k x hx=>(hs.at' k x hx).1) hs.rise ht,Option.bind_some]
  by_cases hf: ∃ x,s.Samples[Z1 s.Samples (t-1)]?=some x∧x.At=t
  · obtain⟨x,hx,hxt⟩:=hf
    have hlt:=(List.getElem?_eq_some_iff.1 hx).1
    have:Z1 s.Samples t=Z1 s.Samples (t-1)+1:=ZgG hs.rise (by omega) (fun k y hk hy=>by
        rcases Nat.lt_or_ge k (Z1 s.Samples (t-1)) with h |h
        · have:=hc1 k y h hy;omega
        · have:k=Z1 s.Samples (t-1):=by omega
          subst this;rw [hx] at hy;cases hy;omega) (fun k y hk hy=>by
        have:=hs.rise _ _ _ _ (show Z1 s.Samples (t-1)<k by omega) hx hy;omega)
    have hd:(∃ x,s.Samples[Z1 s.Samples (t-1)]?=some x∧x.At=t):=⟨x,hx,hxt⟩
    simp only [hd,decide_true,if_true,this]
    congr 1;omega
  · have:Z1 s.Samples t=Z1 s.Samples (t-1):=ZgG hs.rise hcl (fun k y hk hy=>by have:=hc1 k y hk hy;omega) (fun k y hk hy=>by
        have h1:=hc2 k y hk hy
        rcases Nat.lt_or_ge (Z1 s.Samples (t-1)) k with h |h
        · obtain⟨x,hx⟩:=QQ (xs:=s.Samples) (k:=Z1 s.Samples (t-1)) (by have:=(List.getElem?_eq_some_iff.1 hy).1;omega)
          have:=hs.rise _ _ _ _ h hx hy
          have:=hc2 _ x (Nat.le_refl _) hx;omega
        · have:k=Z1 s.Samples (t-1):=by omega
          subst this
          have: ¬y.At=t:=fun e=>hf ⟨y,hy,e⟩
          omega)
    simp only [hf,decide_false,this,i64,Bool.false_eq_true,if_false]
    rw [Zz (by omega) (by omega)]
theorem ZkG{s:api_Series}(hs:SerOK s)(t long:Int)(ht:0≤t∧t≤1099511627776):ZaD s t long=some (ZcO (J8 s.Samples t long)):=by
  have hlen:=hs.len
  have hcl:=Zfs s.Samples t
  simp only [ZaD,Zje hs ht,Option.bind_some]
  by_cases h0:Z1 s.Samples t=0
  · simp [h0,J8,ZdR,ZcO,z0,gd]
  · obtain⟨x,hx⟩:=QQ (xs:=s.Samples) (k:=Z1 s.Samples t-1) (by omega)
    have hi:idx s.Samples ((Z1 s.Samples t:Int)-1)=some x:=by
      rw [show((Z1 s.Samples t:Int)-1)=((Z1 s.Samples t-1:Nat):Int) by omega,ZN hx]
    obtain⟨hx1,_,_,_⟩:=hs.at' _ _ hx
    have hw:IntKind.i64.wrap (t-x.At)=t-x.At:=Zz (by omega) (by omega)
    have hn: ¬((Z1 s.Samples t:Int)-1<0):=by omega
    simp only [h0,hi,hn,ZaY,J8,ZdR,hx,hw,Option.bind_some,i64,decide_false,if_false,Bool.false_eq_true]
    by_cases h3:3≤x.Mark
    · by_cases h4:long<t-x.At
      · simp [h3,h4,ZcO,z0,show ¬t-x.At≤long by omega,hw]
      · simp [h3,h4,ZcO,show t-x.At≤long by omega,hw]
    · simp [h3,ZcO,z0]
def Zgs(s:api_Series)(t long:Int):Smp×Bool×Int:=
  if(chk s).2≠0 then(z0,false,(chk s).2) else if wi t 0 1099511627776&&wi long 0 1099511627776 then((ZcO (J8 s.Samples t long)).1,(ZcO (J8 s.Samples t long)).2,0) else(z0,false,9)
theorem ZjL(s:api_Series)(t long:Int):Zd0 s t long=some (Zgs s t long):=by
  simp only [Zd0,ZiQ,ZdY,Option.bind_some,Zgs]
  by_cases h0:(chk s).2=0
  · cases h1:wi t 0 1099511627776 with
    |false=>simp [h0,z0]
    |true=>cases h2:wi long 0 1099511627776 with
      |false=>simp [h0,z0]
      |true=>simp [h0,ZjD (ZeR h0) t long (Q9.1 h1)]
  · simp [h0,z0]
end Go.Vx

namespace Go.Vx
open Go Go.RowKit
section err
variable {α ε:Type}
def JA{ρ:Type}(A:ε→ρ)(Z:ρ):Option ε→ρ
  |some e=>A e
  |none=>Z
@[simp] theorem ZkN {ρ:Type} (A:ε→ρ) (Z:ρ) (e:ε):JA A Z (some e)=A e:=rfl
@[simp] theorem ZkL {ρ:Type} (A:ε→ρ) (Z:ρ):JA A Z none=Z:=rfl
end err
end Go.Vx

namespace Go.Vx
open Go Go.RowKit
def ZfS{σ ρ:Type}(b:σ→Option (σ ⊕ ρ))(s:σ):Option ρ:=
  Nat.rec (motive:=fun _=>σ→Option ρ) (fun _=>none) (fun _ ih s=>match b s with |none=>none |some (.inl s')=>ih s' |some (.inr r)=>some r) 1000000 s
def Le{α:Type}(a b:Option α):Prop:= ∀ r,a=some r→b=some r
theorem Le.refl{α:Type}(a:Option α):Le a a:=fun _ h=>h
section
variable {α β γ δ ε ζ η θ ι κ σ ρ:Type}
theorem Le.bind{a b:Option α}{f g:α→Option β}(h:Le a b)(hf: ∀ x,Le (f x) (g x)):Le (a.bind f) (b.bind g):=by
  intro r hr
  cases ha:a with
  |none=>rw [ha] at hr;cases hr
  |some x=>rw [ha] at hr;rw [h x ha];exact hf x r hr
theorem Le.ite{c:Prop}[Decidable c]{a b a' b':Option α}(h1:Le a a')(h2:Le b b'):Le (if c then a else b) (if c then a' else b'):=by
  split
  · exact h1
  · exact h2
theorem Le.gd{g:Bool}{d:α}{a b:Option α}(h:Le a b):Le (gd g d a) (gd g d b):=by
  cases g
  · exact fun r hr=>hr
  · exact h
theorem Le.loop{b b':σ→Option (σ ⊕ ρ)}{s:σ}(h: ∀ s,Le (b s) (b' s)):Le (ZfS b s) (loop b' s):=by
  have key: ∀ n s r,Nat.rec (motive:=fun _=>σ→Option ρ) (fun _=>none) (fun _ ih s=>match b s with |none=>none |some (.inl s')=>ih s' |some (.inr r)=>some r) n s=some r→Zap b' n s=some r:=by
    intro n
    induction n with
    |zero=>intro s r hr;cases hr
    |succ n ih=>
      intro s r hr
      simp only at hr
      cases hb:b s with
      |none=>rw [hb] at hr;cases hr
      |some o=>
        rw [hb] at hr
        simp only [Zap,h s o hb,Option.bind_some]
        cases o with
        |inl s'=>exact ih s' r hr
        |inr r'=>exact hr
  intro r hr
  exact ZeC (key 1000000 s r hr)
theorem Le.t0{f g:Option κ}{p:Unit}(h:Le f g):Le (t0 f p) (t0 g p):=h
theorem Le.t1{f g:α→Option κ}{p:α}(h: ∀ a,Le (f a) (g a)):Le (t1 f p) (t1 g p):=h _
theorem Le.t2{f g:α→β→Option κ}{p:α×β}(h: ∀ a b,Le (f a b) (g a b)):Le (t2 f p) (t2 g p):=h _ _
theorem Le.t3{f g:α→β→γ→Option κ}{p:α×β×γ}(h: ∀ a b c,Le (f a b c) (g a b c)):Le (t3 f p) (t3 g p):=h _ _ _
theorem Le.t4{f g:α→β→γ→δ→Option κ}{p:α×β×γ×δ}(h: ∀ a b c d,Le (f a b c d) (g a b c d)):Le (t4 f p) (t4 g p):=h _ _ _ _
theorem Le.t5{f g:α→β→γ→δ→ε→Option κ}{p:α×β×γ×δ×ε}(h: ∀ a b c d e,Le (f a b c d e) (g a b c d e)):Le (t5 f p) (t5 g p):=h _ _ _ _ _
theorem Le.t6{f g:α→β→γ→δ→ε→ζ→Option κ}{p:α×β×γ×δ×ε×ζ}(h: ∀ a b c d e x,Le (f a b c d e x) (g a b c d e x)):Le (t6 f p) (t6 g p):=h _ _ _ _ _ _
theorem Le.t7{f g:α→β→γ→δ→ε→ζ→η→Option κ}{p:α×β×γ×δ×ε×ζ×η}(h: ∀ a b c d e x y,Le (f a b c d e x y) (g a b c d e x y)):Le (t7 f p) (t7 g p):=h _ _ _ _ _ _ _
theorem Le.t8{f g:α→β→γ→δ→ε→ζ→η→θ→Option κ}{p:α×β×γ×δ×ε×ζ×η×θ}(h: ∀ a b c d e x y z,Le (f a b c d e x y z) (g a b c d e x y z)):Le (t8 f p) (t8 g p):=h _ _ _ _ _ _ _ _
theorem Le.t9{ι:Type}{f g:α→β→γ→δ→ε→ζ→η→θ→ι→Option κ}{p:α×β×γ×δ×ε×ζ×η×θ×ι}(h: ∀ a b c d e x y z w,Le (f a b c d e x y z w) (g a b c d e x y z w)):Le (t9 f p) (t9 g p):=h _ _ _ _ _ _ _ _ _
theorem Le.elim{f f':α→Option κ}{g g':β→Option κ}{s:α ⊕ β}(h1: ∀ a,Le (f a) (f' a))(h2: ∀ b,Le (g b) (g' b)):Le (Sum.elim f g s) (Sum.elim f' g' s):=by
  cases s with
  |inl a=>exact h1 a
  |inr b=>exact h2 b
end
end Go.Vx

namespace Go.Vx
open Go Go.RowKit
set_option linter.unusedVariables false
noncomputable def JJ(x:Int):Option Int:=
  (shr .u16 x 8).bind fun q=>
  (Zac [0,1,1,2,1,2,2,3,1,2,2,3,2,3,3,4,1,2,2,3,2,3,3,4,2,3,3,4,3,4,4,5,1,2,2,3,2,3,3,4,2,3,3,4,3,4,4,5,2,3,3,4,3,4,4,5,3,4,4,5,4,5,5,6,1,2,2,3,2,3,3,4,2,3,3,4,3,4,4,5,2,3,3,4,3,4,4,5,3,4,4,5,4,5,5,6,2,3,3,4,3,4,4,5,3,4,4,5,4,5,5,6,3,4,4,5,4,5,5,6,4,5,5,6,5,6,6,7,1,2,2,3,2,3,3,4,2,3,3,4,3,4,4,5,2,3,3,4,3,4,4,5,3,4,4,5,4,5,5,6,2,3,3,4,3,4,4,5,3,4,4,5,4,5,5,6,3,4,4,5,4,5,5,6,4,5,5,6,5,6,6,7,2,3,3,4,3,4,4,5,3,4,4,5,4,5,5,6,3,4,4,5,4,5,5,6,4,5,5,6,5,6,6,7,3,4,4,5,4,5,5,6,4,5,5,6,5,6,6,7,4,5,5,6,5,6,6,7,5,6,6,7,6,7,7,8] q).bind fun b=>
  (Zac [0,1,1,2,1,2,2,3,1,2,2,3,2,3,3,4,1,2,2,3,2,3,3,4,2,3,3,4,3,4,4,5,1,2,2,3,2,3,3,4,2,3,3,4,3,4,4,5,2,3,3,4,3,4,4,5,3,4,4,5,4,5,5,6,1,2,2,3,2,3,3,4,2,3,3,4,3,4,4,5,2,3,3,4,3,4,4,5,3,4,4,5,4,5,5,6,2,3,3,4,3,4,4,5,3,4,4,5,4,5,5,6,3,4,4,5,4,5,5,6,4,5,5,6,5,6,6,7,1,2,2,3,2,3,3,4,2,3,3,4,3,4,4,5,2,3,3,4,3,4,4,5,3,4,4,5,4,5,5,6,2,3,3,4,3,4,4,5,3,4,4,5,4,5,5,6,3,4,4,5,4,5,5,6,4,5,5,6,5,6,6,7,2,3,3,4,3,4,4,5,3,4,4,5,4,5,5,6,3,4,4,5,4,5,5,6,4,5,5,6,5,6,6,7,3,4,4,5,4,5,5,6,4,5,5,6,5,6,6,7,4,5,5,6,5,6,6,7,5,6,6,7,6,7,7,8] (ZbZ .u16 x 255)).bind fun b2=>
  some (i64 (u8 (b+b2)))
theorem ZcP(x:Int):Le (JJ x) (XA x):=by
  unfold JJ XA
  with_reducible repeat' (first |exact Le.refl _ |apply Le.bind |intro _)
noncomputable def Zct(w:Int):Option Bool:=
  (gd ((decide (w≤4095))==true) 0 (JJ w)).bind fun y=>
  (gd ((decide (w≤4095))==true) 0 (rem y 2)).bind fun q=>
  some ((decide (w≤4095))&&(decide (q=1)))
theorem Zf2(w:Int):Le (Zct w) (ZbH w):=by
  unfold Zct ZbH
  with_reducible repeat' (first |exact Le.refl _ |apply Le.bind |apply Le.gd |apply ZcP |intro _)
noncomputable def Xe(data:Int):Option Int:=
  (Zct (u16 data)).bind fun y=>
  if(!y)=true then
  some (bor .u16 (u16 data) 2048)
  else
  some (u16 data)
theorem ZbE(data:Int):Le (Xe data) (Xq data):=by
  unfold Xe Xq
  with_reducible repeat' (first |exact Le.refl _ |apply Le.bind |apply Le.ite |apply Zf2 |intro _)
noncomputable def Zbg(data:List Int)(f2:Vector Int 64)(i:Int):Option (((Vector Int 64)×Int) ⊕ ((Vector Int 64)×Int) ⊕ ((Vector Int 64))):=
  if(decide (i<(data.length:Int)))=true then
  (idx data i).bind fun x3=>
  if((decide (x3<0)) || (decide (2047<x3)))=true then
  some (.inr (.inl ((#v[0,0,0,0,0,0,0,0,0,0,0,0,0,0,0,0,0,0,0,0,0,0,0,0,0,0,0,0,0,0,0,0,0,0,0,0,0,0,0,0,0,0,0,0,0,0,0,0,0,0,0,0,0,0,0,0,0,0,0,0,0,0,0,0]:Vector Int 64),9)))
  else
  (Xe x3).bind fun y3=>
  (Xl f2 (i64 (3+i))).bind fun x4=>
  some (.inl ((XL f2 (i64 (3+i)) y3),(i64 (i+1))))
  else
  some (.inr (.inr f2))
theorem Zep(data:List Int)(f2:Vector Int 64)(i:Int):Le (Zbg data f2 i) (ZaX data f2 i):=by
  unfold Zbg ZaX
  with_reducible repeat' (first |exact Le.refl _ |apply Le.bind |apply Le.ite |apply ZbE |intro _)
noncomputable def Zaa(w:Int):Option Int:=
  some (i64 (ZbZ .u16 w 2047))
theorem Zc0(w:Int):Le (Zaa w) (JK w):=by
  unfold Zaa JK
  with_reducible repeat' (first |exact Le.refl _ |apply Le.bind |intro _)
noncomputable def Zaj(f:Vector Int 64):Option Int:=
  (Xl f 1).bind fun x=>
  (Zaa x).bind fun y=>
  (Xl f 2).bind fun x2=>
  (Zaa x2).bind fun y2=>
  (shl .i64 y2 11).bind fun q=>
  some (bor .i64 y q)
theorem ZdD(f:Vector Int 64):Le (Zaj f) (Ja f):=by
  unfold Zaj Ja
  with_reducible repeat' (first |exact Le.refl _ |apply Le.bind |apply Zc0 |intro _)
noncomputable def Zar(f:Vector Int 64)(n2:Int)(i:Int):Option ((Int×Int) ⊕ (Int)):=
  if(decide (i<60))=true then
  (Xl f (i64 (i+1))).bind fun x=>
  (Zaa x).bind fun y=>
  some (.inl ((Zig .i64 n2 y),(i64 (i+1))))
  else
  some (.inr n2)
theorem Zdr(f:Vector Int 64)(n2:Int)(i:Int):Le (Zar f n2 i) (Zae f n2 i):=by
  unfold Zar Zae
  with_reducible repeat' (first |exact Le.refl _ |apply Le.bind |apply Le.ite |apply Zc0 |intro _)
noncomputable def Zbx(f:Vector Int 64):Option Int:=
  ((ZfS (t2 (Zar f)) (0,0)):Option ((Int))).bind (t1 fun(n:Int)=>
  some n)
theorem Zfi(f:Vector Int 64):Le (Zbx f) (ZaE f):=by
  unfold Zbx ZaE
  with_reducible repeat' (first |exact Le.refl _ |apply Le.bind |apply Le.loop |apply Le.t1 |apply Le.t2 |apply Zdr |intro _)
noncomputable def JM(f:Vector Int 64)(i:Int)(n4:Int)(k:Int):Option ((Int×Int) ⊕ (Int)):=
  if(decide (0≤k))=true then
  (shl .i64 n4 1).bind fun q=>
  (Xl f i).bind fun x=>
  (shr .u16 x k).bind fun q2=>
  if(!((!decide ((ZbZ .i64 n4 2097152)=0))==(decide ((ZbZ .u16 q2 1)=1))))=true then
  some (.inl ((Zig .i64 (ZbZ .i64 q 4194303) 2097167),(i64 (k-1))))
  else
  some (.inl ((ZbZ .i64 q 4194303),(i64 (k-1))))
  else
  some (.inr n4)
theorem ZcS(f:Vector Int 64)(i:Int)(n4:Int)(k:Int):Le (JM f i n4 k) (Jp f i n4 k):=by
  unfold JM Jp
  with_reducible repeat' (first |exact Le.refl _ |apply Le.bind |apply Le.ite |intro _)
noncomputable def JH(f:Vector Int 64)(n2:Int)(i:Int):Option ((Int×Int) ⊕ (Int)):=
  if(decide (i<62))=true then
  ((ZfS (t2 (JM f i)) (n2,11)):Option ((Int))).bind (t1 fun(n3:Int)=>
  some (.inl (n3,(i64 (i+1)))))
  else
  some (.inr n2)
theorem ZcR(f:Vector Int 64)(n2:Int)(i:Int):Le (JH f n2 i) (Js f n2 i):=by
  unfold JH Js
  with_reducible repeat' (first |exact Le.refl _ |apply Le.bind |apply Le.ite |apply Le.loop |apply Le.t1 |apply Le.t2 |apply ZcS |intro _)
noncomputable def ZaT(f:Vector Int 64):Option Int:=
  ((ZfS (t2 (JH f)) (0,0)):Option ((Int))).bind (t1 fun(n:Int)=>
  some n)
theorem ZdJ(f:Vector Int 64):Le (ZaT f) (JB f):=by
  unfold ZaT JB
  with_reducible repeat' (first |exact Le.refl _ |apply Le.bind |apply Le.loop |apply Le.t1 |apply Le.t2 |apply ZcR |intro _)
noncomputable def Zbb(f:Vector Int 64):Option (Vector Int 64):=
  (Zaj f).bind fun y=>
  (rem y 4).bind fun q=>
  (Xl gv_frame_syncs q).bind fun x=>
  (Xl f 0).bind fun x2=>
  (Zbx (XL f 0 x)).bind fun y2=>
  (Xe y2).bind fun y3=>
  (Xl (XL f 0 x) 61).bind fun x3=>
  (ZaT (XL (XL f 0 x) 61 y3)).bind fun y4=>
  (shr .i64 y4 11).bind fun q2=>
  (Xe q2).bind fun y5=>
  (Xe (ZbZ .i64 y4 2047)).bind fun y6=>
  (Xl (XL (XL f 0 x) 61 y3) 62).bind fun x4=>
  (Xl (XL (XL (XL f 0 x) 61 y3) 62 y5) 63).bind fun x5=>
  some (XL (XL (XL (XL f 0 x) 61 y3) 62 y5) 63 y6)
theorem Zej(f:Vector Int 64):Le (Zbb f) (J3 f):=by
  unfold Zbb J3
  with_reducible repeat' (first |exact Le.refl _ |apply Le.bind |apply ZdD |apply Zfi |apply ZbE |apply ZdJ |intro _)
noncomputable def ZcF(number:Int)(data:List Int):Option ((Vector Int 64)×Int):=
  if((decide (number<0)) || (decide (4194304≤number)))=true then
  some ((#v[0,0,0,0,0,0,0,0,0,0,0,0,0,0,0,0,0,0,0,0,0,0,0,0,0,0,0,0,0,0,0,0,0,0,0,0,0,0,0,0,0,0,0,0,0,0,0,0,0,0,0,0,0,0,0,0,0,0,0,0,0,0,0,0]:Vector Int 64),9)
  else
  if(!decide ((data.length:Int)=58))=true then
  some ((#v[0,0,0,0,0,0,0,0,0,0,0,0,0,0,0,0,0,0,0,0,0,0,0,0,0,0,0,0,0,0,0,0,0,0,0,0,0,0,0,0,0,0,0,0,0,0,0,0,0,0,0,0,0,0,0,0,0,0,0,0,0,0,0,0]:Vector Int 64),3)
  else
  (Xe (ZbZ .i64 number 2047)).bind fun y=>
  (shr .i64 number 11).bind fun q=>
  (Xe q).bind fun y2=>
  (Xl (Vector.replicate 64 (0:Int)) 1).bind fun x=>
  (Xl (XL (Vector.replicate 64 0) 1 y) 2).bind fun x2=>
  ((ZfS (t2 (Zbg data)) ((XL (XL (Vector.replicate 64 0) 1 y) 2 y2),0)):Option (((Vector Int 64)×Int) ⊕ ((Vector Int 64)))).bind (Sum.elim (fun q'=>some q') (t1 fun(f:Vector Int 64)=>
  (Zbb f).bind fun y4=>
  some (y4,0)))
theorem Zgy(number:Int)(data:List Int):Le (ZcF number data) (ZbF number data):=by
  unfold ZcF ZbF
  with_reducible repeat' (first |exact Le.refl _ |apply Le.bind |apply Le.ite |apply Le.loop |apply Le.t1 |apply Le.t2 |apply Le.elim |apply ZbE |apply Zep |apply Zej |intro _)
noncomputable def ZcD:Option Bool:=
  (mks 58 0).bind fun l=>
  (idx l 0).bind fun x=>
  (ZcF 2050 (l.set (Int.toNat 0) 5)).bind fun y=>
  (gd ((decide (y.2=0))==true) 0 (Xl y.1 0)).bind fun x2=>
  (gd (((decide (y.2=0))&&(decide (x2=2631)))==true) 0 (Xl y.1 1)).bind fun x3=>
  (gd ((((decide (y.2=0))&&(decide (x2=2631)))&&(decide (x3=2)))==true) 0 (Xl y.1 2)).bind fun x4=>
  (gd (((((decide (y.2=0))&&(decide (x2=2631)))&&(decide (x3=2)))&&(decide (x4=1)))==true) 0 (Xl y.1 3)).bind fun x5=>
  some (((((decide (y.2=0))&&(decide (x2=2631)))&&(decide (x3=2)))&&(decide (x4=1)))&&(decide (x5=2053)))
theorem Zf0:Le (ZcD) (Za3):=by
  unfold ZcD Za3
  with_reducible repeat' (first |exact Le.refl _ |apply Le.bind |apply Le.gd |apply Zgy |intro _)
noncomputable def Q8(chars:Str)(as_2:Vector Bool 256)(i:Int):Option (((Vector Bool 256)×Int) ⊕ ((Vector Bool 256)×Bool) ⊕ ((Vector Bool 256))):=
  if(decide (i<(chars.length:Int)))=true then
  (Zac chars i).bind fun b=>
  if(decide (128≤b))=true then
  some (.inr (.inl (as_2,false)))
  else
  (Xl as_2 b).bind fun x=>
  some (.inl ((XL as_2 b true),(i64 (i+1))))
  else
  some (.inr (.inr as_2))
theorem Za8(chars:Str)(as_2:Vector Bool 256)(i:Int):Le (Q8 chars as_2 i) (QI chars as_2 i):=by
  unfold Q8 QI
  with_reducible repeat' (first |exact Le.refl _ |apply Le.bind |apply Le.ite |intro _)
noncomputable def QT(chars:Str):Option ((Vector Bool 256)×Bool):=
  ((ZfS (t2 (Q8 chars)) ((Vector.replicate 256 false),0)):Option (((Vector Bool 256)×Bool) ⊕ ((Vector Bool 256)))).bind (Sum.elim (fun q'=>some q') (t1 fun(as_:Vector Bool 256)=>
  some (as_,true)))
theorem ZbU(chars:Str):Le (QT chars) (Qm chars):=by
  unfold QT Qm
  with_reducible repeat' (first |exact Le.refl _ |apply Le.bind |apply Le.loop |apply Le.t1 |apply Le.t2 |apply Le.elim |apply Za8 |intro _)
end Go.Vx

namespace Go.Vx
open Go Go.RowKit
end Go.Vx

namespace Go.Vx
open Go Go.RowKit
section
variable {α ε:Type}
def Qc(g:Nat→α→Option ε):Nat→List α→Option ε
  |_,[]=>none
  |k,x::tl=>match g k x with |some e=>some e |none=>Qc g (k+1) tl
theorem Xv{ρ:Type}{xs:List α}(g:Nat→α→Option ε)(A:ε→ρ)(Z:ρ){body:Int→Option (Int ⊕ ρ)}
    (h: ∀ (k:Nat) x,xs[k]?=some x→body k=JA (fun e=>some (.inr (A e))) (some (.inl ((k:Int)+1))) (g k x))
    (hend:body xs.length=some (.inr Z)):loop (t1 body) 0=some (JA A Z (Qc g 0 xs)):=by
  refine ZbQ (xs:=xs) (fun k=>JA A Z (Qc g k (xs.drop k))) (fun k x hx=> ?_) ?_
  · rw [h k x hx,ZdL hx]
    simp only [Qc]
    cases hg:g k x with
    |some e=>right;rfl
    |none=>left;exact⟨rfl,rfl⟩
  · rw [hend];simp [Qc]
theorem Zb2{g:Nat→α→Option ε}: ∀ (k:Nat) (xs:List α),Qc g k xs=none→ ∀ (j:Nat) x,xs[j]?=some x→g (k+j) x=none
  |_,[],_,j,x,hx=>by simp at hx
  |k,y::tl,h,j,x,hx=>by
    simp only [Qc] at h
    cases hy:g k y with
    |some e=>rw [hy] at h;cases h
    |none=>
      rw [hy] at h
      cases j with
      |zero=>simp at hx;subst hx;simpa using hy
      |succ j=>
        have:=Zb2 (k+1) tl h j x (by simpa using hx)
        rwa [show k+1+j=k+(j+1) by omega] at this
theorem ZfM{p:α→Bool}: ∀ (k:Nat) (xs:List α),Qc (fun _ x=>if p x then none else some ()) k xs=if xs.all p then none else some ()
  |_,[]=>rfl
  |k,x::tl=>by
    have ih:=ZfM (p:=p) (k+1) tl
    simp only [Qc,List.all_cons]
    by_cases hp:p x=true
    · simp only [hp,if_true,Bool.true_and];exact ih
    · have hp':p x=false:=by simpa using hp
      simp [hp']
end
theorem Zfw{k:Nat}{n:Nat}(h:k<n)(hn:n≤9223372036854775807):i64 ((k:Int)+1)=(k:Int)+1:=Zz (by omega) (by omega)
theorem ZeA{s:Str}{k:Nat}{b:UInt8}(h:s[k]?=some b):Zac s (k:Int)=some ((b.toNat:Nat):Int):=by simp [Zac,h]
def lcI(z:Int):Bool:=decide (97≤z)&&decide (z≤122)
def nbI(z:Int):Bool:=(lcI z || (decide (48≤z)&&decide (z≤57))) || decide (z=45)
def lcB(b:UInt8):Bool:=lcI (b.toNat:Int)
def nbB(b:UInt8):Bool:=nbI (b.toNat:Int)
theorem ZkR{z:Int}(h:lcI z=true):nbI z=true:=by simp [nbI,h]
def ZjS:List Str:= [[112,104,97,115,101],[109,111,118,101],[114,117,108,101],[105,102],[111,114],[97,110,100],[116,114,117,101],[102,97,108,115,101],[115,116,101,97,100,121],[110,111,116],[102,111,114],[119,105,116,104,105,110],[99,111,117,110,116],[111,102],[114,105,115,101,115],[115,105,110,99,101]]
theorem orW{a b:Prop}[Decidable a][Decidable b]{o:Option Bool}(h:o=some (decide b)):(if decide a=true then some (decide a) else o)=some (decide (a∨b)):=by
  by_cases h1:a
  · simp [h1]
  · simp [h1,h]
theorem Zjb(s:Str):JU s=some (decide (s∈ZjS)):=by
  have key: ∀ {o:Option Bool} {t:Bool},o=some t→(o.bind (t1 fun(v:Bool)=>if v=true then some true else some false))=some t:=by
    intro o t h;subst h;cases t<;>rfl
  unfold JU
  refine key ?_
  simp only [ZjS,List.mem_cons,List.not_mem_nil,or_false]
  repeat (first |exact rfl |refine orW ?_)
def nmE:Str→Bool
  | []=>false
  |c::tl=>(lcB c&&tl.all nbB)&&(decide ((c::tl).length≤30)&& !decide ((c::tl)∈ZjS))
theorem ZiR(s:Str):JW s=some (nmE s):=by
  unfold JW Jr
  rw [Option.bind_some]
  cases s with
  |nil=>simp [nmE,gd]
  |cons c tl=>
    by_cases hl:(c::tl).length≤30
    · have hw:(decide (1≤(((c::tl).length:Nat):Int))&&decide ((((c::tl).length:Nat):Int)≤30))=true:=by
        simp only [Bool.and_eq_true,decide_eq_true_iff];simp only [List.length_cons] at hl ⊢;omega
      have h0:Zac (c::tl) 0=some ((c.toNat:Nat):Int):=ZeA (k:=0) rfl
      have hloop:loop (t1 (Xb (c::tl))) 0=some (JA (fun _=>Sum.inl false) (Sum.inr ()) (if(c::tl).all nbB then none else some ())):=by
        rw [←ZfM 0]
        refine Xv (xs:=c::tl) (body:=Xb (c::tl)) _ _ _ (fun k x hx=> ?_) (by simp [Xb])
        have hlt:=X4 hx
        have e1:i64 ((k:Int)+1)=(k:Int)+1:=Zfw (n:=(c::tl).length) (by omega) (by omega)
        simp only [Xb,hlt,decide_true,if_true,ZeA hx,Option.bind_some,e1,JX]
        have e2:nbB x=((((decide (97≤((x.toNat:Nat):Int)))&&(decide (((x.toNat:Nat):Int)≤122))) || ((decide (48≤((x.toNat:Nat):Int)))&&(decide (((x.toNat:Nat):Int)≤57)))) || (decide (((x.toNat:Nat):Int)=45))):=rfl
        rw [←e2]
        cases nbB x<;>simp
      rw [hw,h0,Zjb,hloop]
      simp only [nmE,hl,decide_true,Bool.true_and,List.all_cons]
      by_cases hlc:lcB c=true
      · have hnb:nbB c=true:=ZkR hlc
        simp only [lcB,lcI,Bool.and_eq_true,decide_eq_true_iff] at hlc
        have h1: ¬((c.toNat:Nat):Int)<97:=by omega
        have h2: ¬122<((c.toNat:Nat):Int):=by omega
        have h3:lcB c=true:=by simp only [lcB,lcI,Bool.and_eq_true,decide_eq_true_iff];exact hlc
        simp only [Bool.not_true,beq_self_eq_true,ZjA,Option.bind_some,h1,h2,decide_false,Bool.or_self,Bool.false_or,h3,hnb,Bool.true_and]
        by_cases hr:(c::tl)∈ZjS
        · simp [hr]
        · cases ha:tl.all nbB<;>simp [hr]
      · have h3:lcB c=false:=by simpa using hlc
        simp only [h3,Bool.false_and,Bool.not_true,beq_self_eq_true,ZjA,Option.bind_some,Bool.false_or]
        simp only [lcB,lcI,Bool.and_eq_false_iff,decide_eq_false_iff_not] at h3
        by_cases h1:((c.toNat:Nat):Int)<97
        · simp [h1,gd]
        · have h2:122<((c.toNat:Nat):Int):=by omega
          have h2': ¬((c.toNat:Nat):Int)≤122:=by omega
          simp [h1,h2,h2',gd]
    · have hw:(decide (1≤(((c::tl).length:Nat):Int))&&decide ((((c::tl).length:Nat):Int)≤30))=false:=by
        simp only [Bool.and_eq_false_iff,decide_eq_false_iff_not];right;omega
      rw [hw]
      simp only [nmE,hl,decide_false,Bool.false_and,Bool.and_false]
      simp [gd]
end Go.Vx

namespace Go.Vx
open Go Go.RowKit
def Zcv(x:api_Zone):Prop:=(wfI .i64) x.From∧(wfI .i64) x.To∧wfS x.Name∧True
def J7(x:api_Instrument):Prop:=(wfI .i64) x.Kind∧wfS x.Name∧wfS x.Track∧(wfI .i64) x.Places∧(wfI .i64) x.Low∧(wfI .i64) x.High∧(wfI .i64) x.Steps∧(wfL Zcv) x.Zones∧(wfI .i64) x.Op∧(wfI .i64) x.N∧wfT x.Latch∧(wfI .i64) x.Size∧True
def Zgw(x:api_Panel):Prop:=(wfL J7) x.Instruments∧True
def Zbw(x:api_Sample):Prop:=(wfI .i64) x.At∧(wfI .i64) x.N∧(wfI .i64) x.Mark∧True
def Zfy(x:api_Series):Prop:=(wfI .i64) x.Den∧(wfL Zbw) x.Samples∧True
def ZdA(x:api_Track):Prop:=wfS x.Name∧Zfy x.Series∧(wfI .i64) x.Long∧True
end Go.Vx

namespace Go.Vx
open Go Go.RowKit
section
variable {α ε:Type}
theorem ZcI{p:α→Bool}: ∀ (k:Nat) (xs:List α),(Qc (fun j x=>if p x=true then some (j:Int) else none) k xs=none∧xs.any p=false)∨(∃ m:Nat,Qc (fun j x=>if p x=true then some (j:Int) else none) k xs=some (m:Int)∧xs.any p=true)
  |_,[]=> .inl ⟨rfl,rfl⟩
  |k,x::tl=>by
    have ih:=ZcI (p:=p) (k+1) tl
    simp only [Qc,List.any_cons]
    by_cases hp:p x=true
    · exact .inr ⟨k,by simp [hp],by simp [hp]⟩
    · have hp':p x=false:=by simpa using hp
      simp only [hp',Bool.false_eq_true,if_false,Bool.false_or];exact ih
end
theorem Zlp{l:List api_Track}(hl:l.length≤9223372036854775807){f:api_Track→Option Bool}{p:api_Track→Bool}(hf: ∀ x,f x=some (p x)):ZD l f=some (l.any p):=by
  have h:loop (t1 (Zq l f)) 0=some (JA Sum.inl (Sum.inr ()) (Qc (fun k x=>if p x=true then some (k:Int) else none) 0 l)):=by
    refine Xv (xs:=l) (body:=Zq l f) _ _ _ (fun k x hx=> ?_) (by simp [Zq])
    have hlt:=X4 hx
    have e1:i64 ((k:Int)+1)=(k:Int)+1:=Zfw (n:=l.length) (by omega) hl
    simp only [Zq,hlt,decide_true,if_true,ZN hx,Option.bind_some,e1,hf]
    cases p x<;>rfl
  unfold ZD ZF
  rw [h]
  rcases ZcI (p:=p) 0 l with ⟨h1,h2⟩ | ⟨m,h1,h2⟩
  · rw [h1,h2];simp
  · rw [h1,h2];simp
def Zgt(l:List api_Track)(k:Nat)(x:api_Track):Option Int:=
  if nmE x.Name=false then some 8 else if(l.take k).any (fun z=>decide (z.Name=x.Name))=true then some 5 else if(chk x.Series).2≠0 then some (chk x.Series).2 else if wi x.Long 0 1099511627776=false then some 9 else none
def ckT(l:List api_Track):Int:=if 50<(l.length:Int) then 3 else JA id 0 (Qc (Zgt l) 0 l)
theorem ZjY{α:Type}{l:List α}{k:Nat}(h:k≤l.length):slc l 0 (k:Int)=some (l.take k):=by
  unfold slc
  rw [if_pos ⟨by omega,by omega,by omega⟩]
  simp
theorem Zhx(l:List api_Track):Xh l=some (ckT l):=by
  unfold Xh ckT
  by_cases h50:50<(l.length:Int)
  · simp [h50]
  · have h:loop (t1 (Qo l)) 0=some (JA Sum.inl (Sum.inr ()) (Qc (Zgt l) 0 l)):=by
      refine Xv (xs:=l) (body:=Qo l) _ _ _ (fun k x hx=> ?_) (by simp [Qo])
      have hlt:=X4 hx
      have e1:i64 ((k:Int)+1)=(k:Int)+1:=Zfw (n:=l.length) (by omega) (by omega)
      have hc:ZD (l.take k) (fun z0=>Xx z0 x)=some ((l.take k).any fun z=>decide (z.Name=x.Name)):=
        Zlp (by rw [List.length_take];omega) (fun _=>rfl)
      have hw:Jr x.Long 0 1099511627776=some (wi x.Long 0 1099511627776):=rfl
      simp only [Qo,hlt,decide_true,if_true,ZN hx,Option.bind_some,e1,ZiR,ZjY (show k≤l.length by omega),hc,ZjH,hw,Zgt]
      cases nmE x.Name with
      |false=>simp
      |true=>cases (l.take k).any (fun z=>decide (z.Name=x.Name)) with
        |true=>simp
        |false=>
          by_cases h0:(chk x.Series).2=0
          · cases wi x.Long 0 1099511627776<;>simp [h0]
          · simp [h0]
    rw [if_neg (by simpa using h50),if_neg h50,h]
    cases Qc (Zgt l) 0 l<;>simp
theorem ZgD{t:api_Track}{l:List api_Track}(h:ckT l=0)(ht:t∈l):(chk t.Series).2=0∧wi t.Long 0 1099511627776=true:=by
  unfold ckT at h
  split at h
  · cases h
  · obtain⟨j,hj⟩:=List.mem_iff_getElem?.1 ht
    cases hf:Qc (Zgt l) 0 l with
    |none=>
      have:=Zb2 0 l hf j t hj
      unfold Zgt at this
      split at this
      · cases this
      · split at this
        · cases this
        · split at this
          · cases this
          · rename_i h0
            split at this
            · cases this
            · rename_i h1
              exact⟨by simpa using h0,by simpa using h1⟩
    |some e=>
      rw [hf] at h
      have he:e=0:=h
      subst he
      exfalso
      have key: ∀ (k:Nat) (xs:List api_Track),Qc (Zgt l) k xs≠some 0:=by
        intro k xs
        induction xs generalizing k with
        |nil=>intro e;cases e
        |cons x tl ih=>
          intro e
          simp only [Qc] at e
          cases hg:Zgt l k x with
          |none=>rw [hg] at e;exact ih _ e
          |some v=>
            rw [hg] at e
            cases e
            unfold Zgt at hg
            repeat' split at hg
            all_goals first | (cases hg;done) |simp_all
      exact key 0 l hf
end Go.Vx

namespace Go.Vx
open Go Go.RowKit
theorem Ze3: ∀ (k u:Nat),u<10^(k+1)→Go.Lib.nDigits u≤k+1
  |0,u,h=>by rw [Go.Lib.nDigits_small (by simpa using h)];exact Nat.le_refl _
  |k+1,u,h=>by
    by_cases h1:u<10
    · rw [Go.Lib.nDigits_small h1];omega
    · rw [Go.Lib.nDigits_big h1]
      have:=Ze3 k (u/10) (by rw [Nat.pow_succ] at h;omega)
      omega
theorem Zhp{z:Int}(h0:0≤z)(h1:z<1000000000000000000): ∃ d,itoa z=some d∧1≤d.length∧d.length≤18:=by
  obtain⟨u,rfl⟩:=Int.eq_ofNat_of_zero_le h0
  refine⟨Go.Lib.decDigits u,?_,?_,?_⟩
  · unfold itoa
    rw [if_pos ⟨by omega,by omega⟩]
    unfold Go.Lib.itoa
    rw [if_neg (by omega)];simp
  · rw [Go.Lib.decDigits_length];exact Go.Lib.nDigits_pos u
  · rw [Go.Lib.decDigits_length]
    have e:(10:Nat)^(17+1)=1000000000000000000:=by decide
    exact Ze3 17 u (by rw [e];omega)
theorem Zkg{k:Nat}(h:k≤6):(1:Int)≤10^k∧(10:Int)^k≤1000000:=by
  obtain rfl |rfl |rfl |rfl |rfl |rfl |rfl:k=0∨k=1∨k=2∨k=3∨k=4∨k=5∨k=6:=by omega
  all_goals decide
theorem ZgZ{m:Nat}(hm:m≤6)(body:Int→Int→Option ((Int×Int) ⊕ Int))
    (hb: ∀ s i:Int,body s i=if decide (i<(m:Int))=true then some (.inl (i64 (s*10),i64 (i+1))) else some (.inr s)):loop (t2 body) (1,0)=some ((10:Int)^m):=by
  refine Zbn (body:=t2 body) (fun p=> ∃ k:Nat,p=((10:Int)^k,(k:Int))∧k≤m) (fun p=>m-p.2.toNat) (fun _=>(10:Int)^m) ?_ (1,0) ⟨0,rfl,Nat.zero_le _⟩
  rintro⟨s,i⟩ ⟨k,he,hk⟩
  obtain⟨rfl,rfl⟩:=Prod.mk.inj he
  simp only [ZdE,hb]
  by_cases h:k<m
  · have h':(k:Int)<m:=by omega
    have hp:=Zkg (k:=k) (by omega)
    rw [if_pos (decide_eq_true h')]
    refine .inl ⟨_,rfl,⟨k+1,?_,h⟩,?_,trivial⟩
    · rw [show i64 ((10:Int)^k*10)=10^k*10 from Zz (by omega) (by omega),show i64 ((k:Int)+1)=k+1 from Zz (by omega) (by omega)]
      rw [Int.pow_succ];rfl
    · rw [show i64 ((k:Int)+1)=k+1 from Zz (by omega) (by omega)]
      simp only;omega
  · obtain rfl:k=m:=by omega
    rw [if_neg (by simp)]
    exact .inr rfl
theorem Zd7{s t:Str}(h:s.length+t.length≤9223372036854775807):cat s t=some (s++t):=by simp [cat,h]
theorem ZkA{s:Str}(h:1≤s.length):slc s 1 (s.length:Int)=some (s.drop 1):=by
  unfold slc
  rw [if_pos ⟨by omega,by omega,Int.le_refl _⟩]
  simp
theorem Zji{n den places:Int}(hn1: -1125899906842624≤n)(hn2:n≤1125899906842624)(hd1:1≤den)(hd2:den≤1000000)(hp1:0≤places)(hp2:places≤6):
    ∃ s,QR n den places=some s∧Jj n den places=some s∧s.length≤41:=by
  obtain⟨m,rfl⟩:=Int.eq_ofNat_of_zero_le hp1
  have hm:m≤6:=by omega
  obtain⟨hS1,hS2⟩:=Zkg hm
  have hl1:=ZgZ hm (ZaS (m:Int)) (fun _ _=>rfl)
  have hl2:=ZgZ hm (Zch (m:Int)) (fun _ _=>rfl)
  generalize hS:(10:Int)^m=S at hS1 hS2 hl1 hl2
  have ea:max n (i64 (-n))=if n<0 then-n else n:=by
    rw [show i64 (-n)= -n from Zz (by omega) (by omega)]
    split<;>omega
  have en:i64 (-n)= -n:=Zz (by omega) (by omega)
  generalize hA:(if n<0 then-n else n)=A at ea
  have hA1:0≤A:=by rw [←hA];split<;>omega
  have hA2:A≤1125899906842624:=by rw [←hA];split<;>omega
  have hd0:den≠0:=by omega
  have hq1:0≤A/den:=Int.ediv_nonneg hA1 (by omega)
  have hq2:A/den≤A:=Int.ediv_le_self _ hA1
  have hr1:0≤A % den:=Int.emod_nonneg _ hd0
  have hr2:A % den<den:=Int.emod_lt_of_pos _ (by omega)
  have eq1:quo .i64 A den=some (A/den):=by
    unfold quo
    rw [if_neg hd0,Int.tdiv_eq_ediv_of_nonneg hA1,Zz (by omega) (by omega)]
  have eq2:Go.Vx.rem A den=some (A % den):=by
    unfold Go.Vx.rem
    rw [if_neg hd0,Int.tmod_eq_emod_of_nonneg hA1]
  generalize A/den=q at*
  generalize A % den=r at*
  have hrS0:0≤r*S:=Int.mul_nonneg hr1 (by omega)
  have hrS:r*S≤(den-1)*S:=Int.mul_le_mul_of_nonneg_right (by omega) (by omega)
  have hrS2:r*S≤1000000*1000000:=Int.mul_le_mul (by omega) hS2 (by omega) (by omega)
  have hdS:(den-1)*S=den*S-S:=by rw [Int.sub_mul,Int.one_mul]
  have e1:i64 (r*S)=r*S:=Zz (by omega) (by omega)
  have e2:i64 (r*S*2)=r*S*2:=Zz (by omega) (by omega)
  have e3:i64 (r*S*2+den)=r*S*2+den:=Zz (by omega) (by omega)
  have e4:i64 (2*den)=2*den:=Zz (by omega) (by omega)
  have e5:i64 (2*S)=2*S:=Zz (by omega) (by omega)
  have e6:2*S*r=r*S*2:=by rw [Int.mul_assoc,Int.mul_comm 2,Int.mul_comm S]
  have hN:0≤r*S*2+den:=by omega
  have hq3:0≤(r*S*2+den)/(2*den):=Int.ediv_nonneg hN (by omega)
  have hq4:(r*S*2+den)/(2*den)≤S:=by
    have:(r*S*2+den)/(2*den)<S+1:=by
      refine Int.ediv_lt_of_lt_mul (by omega) ?_
      have:(S+1)*(2*den)=2*(den*S)+2*den:=by
        rw [Int.add_mul,Int.one_mul,Int.mul_left_comm S 2 den,Int.mul_comm S den]
      omega
    omega
  have eq3:quo .i64 (r*S*2+den) (2*den)=some ((r*S*2+den)/(2*den)):=by
    unfold quo
    rw [if_neg (by omega),Int.tdiv_eq_ediv_of_nonneg hN,Zz (by omega) (by omega)]
  generalize (r*S*2+den)/(2*den)=w at*
  have e7:i64 (q+1)=q+1:=Zz (by omega) (by omega)
  obtain⟨W,Q,hWQ,hW1,hW2,hQ1,hQ2⟩: ∃ W Q:Int,(if decide (w=S)=true then some (q+1,(0:Int)) else some (q,w))=some (W,Q)∧0≤W∧W≤1125899906842625∧0≤Q∧Q≤S:=by
    by_cases h:w=S
    · exact⟨q+1,0,by rw [if_pos (decide_eq_true h)],by omega,by omega,by omega,by omega⟩
    · exact⟨q,w,by rw [if_neg (by simpa using h)],by omega,by omega,by omega,by omega⟩
  obtain⟨d,hd,hdl1,hdl2⟩:=Zhp (z:=W) hW1 (by omega)
  obtain⟨f,hf,hfl1,hfl2⟩:=Zhp (z:=S+Q) (by omega) (by omega)
  have e8:i64 (S+Q)=S+Q:=Zz (by omega) (by omega)
  obtain⟨o,ho,hol⟩: ∃ o:Str,(if decide (0<(m:Int))=true then some (d++([46]++f.drop 1)) else some d)=some o∧o.length≤40:=by
    by_cases h:0<(m:Int)
    · exact⟨_,if_pos (decide_eq_true h),by simp;omega⟩
    · exact⟨_,if_neg (by simpa using h),by omega⟩
  have hc1:cat [46] (f.drop 1)=some ([46]++f.drop 1):=Zd7 (by simp;omega)
  have hc2:cat d ([46]++f.drop 1)=some (d++([46]++f.drop 1)):=Zd7 (by simp;omega)
  have hc3:cat [45] o=some ([45]++o):=Zd7 (by simp;omega)
  have hc4:cat [] o=some ([]++o):=Zd7 (by simp;omega)
  refine⟨if n<0∧(0<W∨0<Q) then [45]++o else o,?_,?_,?_⟩
  · unfold QR
    rw [ea,eq1,eq2,hl1]
    simp only [Option.bind_some,Zcc,e1,e2,e3,e4,e7,eq3,hWQ,ZdE,hd,e8,hf,ZkA hfl1,hc1,hc2,ho]
    by_cases h:n<0∧(0<W∨0<Q)
    · have h':(decide (n<0)&&(decide (0<W) || decide (0<Q)))=true:=by simpa using h
      rw [if_pos h',if_pos h,hc3];rfl
    · have h':(decide (n<0)&&(decide (0<W) || decide (0<Q)))=false:=by
        rw [Bool.eq_false_iff];intro e;exact h (by simpa using e)
      rw [if_neg (by rw [h'];simp),if_neg h]
  · have hsz:(if decide (n<0)=true then some (i64 (-n),([45]:Str)) else some (n,[]))=some (A,if n<0 then [45] else []):=by
      rw [en,←hA]
      by_cases h:n<0<;>simp [h]
    unfold Jj
    rw [hsz]
    simp only [Option.bind_some,ZdE,hl2,Zcc,eq1,eq2,e5,e6,e2,e3,e4,eq3,e7,hWQ,hd,e8,hf,ZkA hfl1,hc1,hc2,ho]
    by_cases h0:W=0∧Q=0
    · have h':(decide (W=0)&&decide (Q=0))=true:=by simpa using h0
      rw [if_pos h']
      simp only [Option.bind_some,Zcc,hc4]
      rw [if_neg (by omega)];rfl
    · have h':(decide (W=0)&&decide (Q=0))=false:=by
        rw [Bool.eq_false_iff];intro e;exact h0 (by simpa using e)
      rw [h']
      by_cases hn:n<0
      · have:n<0∧(0<W∨0<Q):=⟨hn,by omega⟩
        simp only [hn,if_true,Bool.false_eq_true,if_false,Option.bind_some,Zcc,hc3]
        rw [if_pos ⟨trivial,this.2⟩]
      · simp only [hn,if_false,Bool.false_eq_true,Option.bind_some,Zcc,hc4]
        simp
  · split
    · simp;omega
    · omega
end Go.Vx

namespace Go.Vx
open Go Go.RowKit
def cutN:Str:= [97,98,99,100,101,102,103,104,105,106,107,108,109,110,111,112,113,114,115,116,117,118,119,120,121,122,48,49,50,51,52,53,54,55,56,57,45]
def setN:List Bool:=(List.range 256).map fun(i:Nat)=>nbI (i:Int)
theorem Zla:(QT cutN).map (fun r=>(r.1.toList,r.2))=some (setN,true):=by decide+kernel
theorem mkA: ∃ v,Qm cutN=some (v,true)∧v.toList=setN:=by
  have h:=Zla
  cases hc:QT cutN with
  |none=>rw [hc] at h;cases h
  |some r=>
    rw [hc] at h
    simp only [Option.map_some,Option.some.injEq,Prod.mk.injEq] at h
    refine⟨r.1,?_,h.1⟩
    rw [ZbU cutN r hc,←h.2]
theorem inA{v:Vector Bool 256}(hv:v.toList=setN)(b:UInt8):ZW v ((b.toNat:Nat):Int)=some (nbB b):=by
  have hb:b.toNat<256:=b.toNat_lt
  have:Xl v ((b.toNat:Nat):Int)=some (nbB b):=by
    unfold Xl
    rw [if_pos (by omega),hv]
    simp only [setN,Int.toNat_natCast,List.getElem?_map,List.getElem?_range hb,Option.map_some]
    rfl
  unfold ZW
  rw [this];rfl
theorem Zlc{v:Vector Bool 256}(hv:v.toList=setN)(s:Str)(hs:s.length≤30):Qt s v=some (s.reverse.dropWhile nbB).reverse:=by
  have h:loop (t1 (ZX v)) s=some (s.reverse.dropWhile nbB).reverse:=by
    refine Zbn (body:=t1 (ZX v)) (fun s=>s.length≤30) (fun s=>s.length) (fun s=>(s.reverse.dropWhile nbB).reverse) ?_ s hs
    intro s hs
    rcases List.eq_nil_or_concat s with rfl | ⟨t,c,rfl⟩
    · right;simp [ZX]
    · simp only [List.concat_eq_append] at hs ⊢
      have hl:(t++ [c]).length=t.length+1:=by simp
      have e1:i64 (((t++ [c]).length:Int)-1)=(t.length:Int):=by
        rw [hl];rw [show(((t.length+1:Nat):Int)-1)=(t.length:Int) by omega];exact Zz (by omega) (by omega)
      have e2:Zac (t++ [c]) (t.length:Int)=some ((c.toNat:Nat):Int):=ZeA (by simp)
      have e3:slc (t++ [c]) 0 (t.length:Int)=some t:=by rw [ZjY (by omega)];simp
      have e0:decide ((0:Int)<((t++ [c]).length:Int))=true:=decide_eq_true (by omega)
      simp only [Zcc,ZX,e0,if_true,e1,e2,e3,inA hv,Option.bind_some]
      cases hc:nbB c with
      |true=>left;exact⟨t,by simp,by omega,by omega,by simp [hc]⟩
      |false=>right;simp [hc]
  unfold Qt
  rw [h];rfl
theorem Zlb{v:Vector Bool 256}(hv:v.toList=setN)(s:Str)(hs:s.length≤30):Qx s v=some (s.dropWhile nbB):=by
  have h:loop (t1 (Z4 v)) s=some (s.dropWhile nbB):=by
    refine Zbn (body:=t1 (Z4 v)) (fun s=>s.length≤30) (fun s=>s.length) (fun s=>s.dropWhile nbB) ?_ s hs
    intro s hs
    cases s with
    |nil=>right;simp [Z4]
    |cons c t=>
      have e2:Zac (c::t) 0=some ((c.toNat:Nat):Int):=ZeA (k:=0) rfl
      have e3:slc (c::t) 1 ((c::t).length:Int)=some t:=by rw [ZkA (by simp)];simp
      have e0:decide ((0:Int)<((c::t).length:Int))=true:=decide_eq_true (by simp only [List.length_cons];omega)
      simp only [Zcc,Z4,e0,if_true,e2,e3,inA hv,Option.bind_some]
      cases hc:nbB c with
      |true=>left;exact⟨t,by simp,by simp at hs;omega,by simp,by simp [hc]⟩
      |false=>right;simp [hc]
  unfold Qx
  rw [h];rfl
theorem ZfX{α:Type}{p:α→Bool}: ∀ {l:List α},l.dropWhile p= []↔ ∀ x∈l,p x=true
  | []=>by simp
  |a::l=>by
    cases h:p a with
    |true=>rw [List.dropWhile_cons_of_pos h,ZfX];simp [h]
    |false=>rw [List.dropWhile_cons_of_neg (by simp [h])];simp [h]
theorem ZiJ(s:Str):((s.reverse.dropWhile nbB).reverse.dropWhile nbB= [])↔s.all nbB=true:=by
  rw [ZfX]
  constructor
  · intro h
    rw [List.all_eq_true]
    intro x hx
    have hx':x∈s.reverse:=List.mem_reverse.2 hx
    rw [←List.takeWhile_append_dropWhile (p:=nbB) (l:=s.reverse)] at hx'
    rcases List.mem_append.1 hx' with h1 |h1
    · exact List.all_eq_true.1 (List.all_takeWhile (p:=nbB) (l:=s.reverse)) x h1
    · exact h x (List.mem_reverse.2 h1)
  · intro h x hx
    have h1:=List.mem_reverse.1 hx
    exact List.all_eq_true.1 h x (List.mem_reverse.1 ((List.dropWhile_sublist nbB).subset h1))
theorem ZkC(s:Str)(h0:s≠ [])(hs:s.length≤30): ∃ r,Jm s cutN=some r∧(r= []↔s.all nbB=true):=by
  obtain⟨v,hv1,hv2⟩:=mkA
  have hr:(s.reverse.dropWhile nbB).reverse.length≤30:=by
    rw [List.length_reverse]
    have:=(List.dropWhile_sublist nbB (l:=s.reverse)).length_le
    rw [List.length_reverse] at this;omega
  refine⟨_,?_,ZiJ s⟩
  unfold Jm
  have e1:(decide (s= []) || decide (cutN= []))=false:=by simp [h0,cutN]
  have e2:decide ((cutN.length:Int)=1)=false:=by decide
  rw [if_neg (by rw [e1];simp),e2,hv1]
  simp [gd,Zlc hv2 s hs,Zlb hv2 _ hr]
def pn(s:Str):Bool:=wi (s.length:Int) 1 30&&s.all nbB
theorem ZhA(s:Str):Jl s=some (pn s):=by
  unfold Jl
  have hw:ZC (s.length:Int) 1 30=some (wi (s.length:Int) 1 30):=rfl
  rw [hw]
  cases h:wi (s.length:Int) 1 30 with
  |false=>simp [pn,h,gd]
  |true=>
    obtain⟨h1,h2⟩:=Q9.1 h
    obtain⟨r,hr1,hr2⟩:=ZkC s (by rintro rfl;simp at h1) (by omega)
    have hr1':Jm s [97,98,99,100,101,102,103,104,105,106,107,108,109,110,111,112,113,114,115,116,117,118,119,120,121,122,48,49,50,51,52,53,54,55,56,57,45]=some r:=hr1
    rw [Option.bind_some,hr1']
    simp only [beq_self_eq_true,ZjA,Option.bind_some,Bool.true_and,pn,h]
    congr 1
    rw [Bool.eq_iff_iff,decide_eq_true_iff]
    exact hr2
end Go.Vx

namespace Go.Vx
open Go Go.RowKit
theorem ZjO{g v:Bool}:gd g false (some v)=some (g&&v):=by cases g<;>rfl
theorem ZgI{l:List Int}(hl:l.length≤9)(v:Int):Qk l v=some (l.any fun x=>decide (v=x)):=by
  have h:loop (t1 (Z8 l v)) 0=some (JA Sum.inl (Sum.inr ()) (Qc (fun k x=>if decide (v=x)=true then some (k:Int) else none) 0 l)):=by
    refine Xv (xs:=l) (body:=Z8 l v) _ _ _ (fun k x hx=> ?_) (by simp [Z8])
    have hlt:=X4 hx
    have e1:i64 ((k:Int)+1)=(k:Int)+1:=Zfw (n:=l.length) (by omega) (by omega)
    simp only [Z8,hlt,decide_true,if_true,ZN hx,Option.bind_some,e1]
    cases decide (v=x)<;>rfl
  unfold Qk Xf
  rw [h]
  rcases ZcI (p:=fun x=>decide (v=x)) 0 l with ⟨h1,h2⟩ | ⟨m,h1,h2⟩
  · rw [h1,h2];simp
  · rw [h1,h2];simp
def unV(i:api_Instrument):Bool:=
  (!decide (i.Places=0)&& !(decide (i.Kind=1) || decide (i.Kind=4) || decide (i.Kind=6))) ||
  ((!decide (i.Low=0) || !decide (i.High=0) || !decide (i.Steps=0) || decide (0<(i.Zones.length:Int)))&& !decide (i.Kind=2)) ||
  ((!decide (i.Op=0) || !decide (i.N=0))&& !(decide (i.Kind=3) || decide (i.Kind=5))) ||
  (i.Latch&& !decide (i.Kind=3)) || (!decide (i.Size=0)&& !decide (i.Kind=6))
theorem ZjJ: ∀ p k1 q k2 r k3 l k4 z k5:Bool,
    ((p && !(p && k1)) || (q && !(!(p && !(p && k1)) && q && k2)) || (r && !(!((p && !(p && k1)) || (q && !(!(p && !(p && k1)) && q && k2))) && r && k3)) ||
      (l&& !(!((p&& !(p&&k1)) || (q&& !(!(p&& !(p&&k1))&&q&&k2)) || (r&& !(!((p&& !(p&&k1)) || (q&& !(!(p&& !(p&&k1))&&q&&k2)))&&r&&k3)))&&l&&k4)) ||
      (z&& !(!((p&& !(p&&k1)) || (q&& !(!(p&& !(p&&k1))&&q&&k2)) || (r&& !(!((p&& !(p&&k1)) || (q&& !(!(p&& !(p&&k1))&&q&&k2)))&&r&&k3)) ||
      (l&& !(!((p&& !(p&&k1)) || (q&& !(!(p&& !(p&&k1))&&q&&k2)) || (r&& !(!((p&& !(p&&k1)) || (q&& !(!(p&& !(p&&k1))&&q&&k2)))&&r&&k3)))&&l&&k4)))&&z&&k5)))=
    ((p&& !k1) || (q&& !k2) || (r&& !k3) || (l&& !k4) || (z&& !k5)):=by decide+kernel
theorem Zh3(i:api_Instrument):Zaf i=some (unV i):=by
  have h1:ZJ [1,4,6] i=some (decide (i.Kind=1) || decide (i.Kind=4) || decide (i.Kind=6)):=by
    unfold ZJ;rw [ZgI (by decide)];simp [Bool.or_assoc]
  have h2:ZJ [2] i=some (decide (i.Kind=2)):=by unfold ZJ;rw [ZgI (by decide)];simp
  have h3:ZJ [3,5] i=some (decide (i.Kind=3) || decide (i.Kind=5)):=by unfold ZJ;rw [ZgI (by decide)];simp
  have h4:ZJ [3] i=some (decide (i.Kind=3)):=by unfold ZJ;rw [ZgI (by decide)];simp
  have h5:ZJ [6] i=some (decide (i.Kind=6)):=by unfold ZJ;rw [ZgI (by decide)];simp
  unfold Zaf
  rw [h1,h2,h3,h4,h5]
  simp only [ZjO,Option.bind_some,unV]
  congr 1
  generalize (decide (i.Kind=1) || decide (i.Kind=4) || decide (i.Kind=6))=k1
  generalize (!decide (i.Low=0) || !decide (i.High=0) || !decide (i.Steps=0) || decide (0<(i.Zones.length:Int)))=q
  generalize (decide (i.Kind=3) || decide (i.Kind=5))=k3
  generalize (!decide (i.Op=0) || !decide (i.N=0))=r
  generalize (!decide (i.Places=0))=p
  generalize (!decide (i.Size=0))=z
  generalize decide (i.Kind=2)=k2
  generalize decide (i.Kind=3)=k4
  generalize decide (i.Kind=6)=k5
  generalize i.Latch=l
  have:=ZjJ p k1 q k2 r k3 l k4 z k5
  rw [←this]
  revert p k1 q k2 r k3 l k4 z k5
  decide+kernel
end Go.Vx

namespace Go.Vx
open Go Go.RowKit
def nb50(z:Int):Bool:=wi z (-1125899906842624) 1125899906842624
def ZhN(zs:List api_Zone)(k:Nat)(x:api_Zone):Option Int:=
  if pn x.Name=false then some 8 else if decide (x.To<x.From)=true then some 9 else if(decide (0<(k:Int))&&(zs[k-1]?).elim false fun y=>decide (x.From≤y.To))=true then some 10 else none
def ZhO(i:api_Instrument):Int:=
  if(decide (i.High≤i.Low) || !nb50 i.Low || !nb50 i.High || !wi i.Steps 1 1000)=true then 9 else if 10<(i.Zones.length:Int) then 3 else JA id 0 (Qc (ZhN i.Zones) 0 i.Zones)
theorem Zk2{zs:List api_Zone}{k:Nat}{x:api_Zone}(hx:zs[k]?=some x)(hl:zs.length≤10):
    ∃ y,gd (decide (0<(k:Int))==true) (api_Zone.mk 0 0 []) (idx zs (i64 ((k:Int)-1)))=some y∧(decide (0<(k:Int))&&decide (x.From≤y.To))=(decide (0<(k:Int))&&(zs[k-1]?).elim false fun y=>decide (x.From≤y.To)):=by
  have hlt:=X4 hx
  by_cases h0:0<(k:Int)
  · obtain⟨y,hy⟩:=QQ (xs:=zs) (k:=k-1) (by omega)
    have e:i64 ((k:Int)-1)=((k-1:Nat):Int):=by rw [show((k:Int)-1)=((k-1:Nat):Int) by omega];exact Zz (by omega) (by omega)
    refine⟨y,?_,?_⟩
    · rw [decide_eq_true h0,e,ZN hy];rfl
    · rw [hy];rfl
  · have h0':decide (0<(k:Int))=false:=decide_eq_false h0
    rw [h0']
    exact⟨_,rfl,rfl⟩
theorem Zju(i:api_Instrument):XU i=some (ZhO i):=by
  unfold XU ZhO
  have e1:Xm i.Low=some (nb50 i.Low):=rfl
  have e2:Xm i.High=some (nb50 i.High):=rfl
  have e3:ZC i.Steps 1 1000=some (wi i.Steps 1 1000):=rfl
  rw [e1,e2,e3]
  simp only [ZjO,Option.bind_some]
  have hb: ∀ h a b c:Bool,(h || !(h==false&&a) || !((h || !(h==false&&a))==false&&b) || !((h || !(h==false&&a) || !((h || !(h==false&&a))==false&&b))==false&&c))=(h || !a || !b || !c):=by decide
  rw [hb]
  cases hc:(decide (i.High≤i.Low) || !nb50 i.Low || !nb50 i.High || !wi i.Steps 1 1000) with
  |true=>simp
  |false=>
    by_cases h10:10<(i.Zones.length:Int)
    · simp [h10]
    · have h:loop (t1 (QD i)) 0=some (JA Sum.inl (Sum.inr ()) (Qc (ZhN i.Zones) 0 i.Zones)):=by
        refine Xv (xs:=i.Zones) (body:=QD i) _ _ _ (fun k x hx=> ?_) (by simp [QD])
        have hlt:=X4 hx
        have e1:i64 ((k:Int)+1)=(k:Int)+1:=Zfw (n:=i.Zones.length) (by omega) (by omega)
        obtain⟨y,hy1,hy2⟩:=Zk2 hx (by omega)
        simp only [QD,hlt,decide_true,if_true,ZN hx,Option.bind_some,e1,ZhA,hy1,hy2,ZhN]
        cases pn x.Name with
        |false=>simp
        |true=>cases decide (x.To<x.From) with
          |true=>simp
          |false=>cases (decide (0<(k:Int))&&(i.Zones[k-1]?).elim false fun y=>decide (x.From≤y.To))<;>simp
      simp only [Bool.false_eq_true,if_false,h10,decide_false,h]
      cases Qc (ZhN i.Zones) 0 i.Zones<;>simp
def JO(i:api_Instrument):Int:=
  if wi i.Kind 1 6=false then 7 else if(!pn i.Name || !wi (i.Track.length:Int) 1 30)=true then 8 else if unV i=true then 2 else if wi i.Places 0 6=false then 9 else
  if i.Kind=2 then ZhO i else if i.Kind=3∨i.Kind=5 then(if wi i.Op 1 6=false then 7 else if nb50 i.N=false then 9 else 0) else if i.Kind=6 then(if wi i.Size 1 50=false then 9 else 0) else 0
theorem ZjR(i:api_Instrument):Qy i=some (JO i):=by
  unfold Qy JO
  have e0: ∀ z a b,ZC z a b=some (wi z a b):=fun z a b=>rfl
  have e1:Xm i.N=some (nb50 i.N):=rfl
  simp only [e0,e1,ZhA,Zh3,Zju,ZjO,Option.bind_some]
  cases wi i.Kind 1 6 with
  |false=>simp
  | true => cases pn i.Name with
    |false=>simp
    | true => cases wi (i.Track.length : Int) 1 30 with
      |false=>simp
      | true => cases unV i with
        |true=>simp
        |false=>cases wi i.Places 0 6 with
          |false=>simp
          |true=>
            by_cases h2:i.Kind=2
            · simp [h2]
            · by_cases h3:i.Kind=3
              · cases wi i.Op 1 6<;>cases nb50 i.N<;>simp [h3]
              · by_cases h5:i.Kind=5
                · cases wi i.Op 1 6<;>cases nb50 i.N<;>simp [h5]
                · by_cases h6:i.Kind=6
                  · cases wi i.Size 1 50<;>simp [h6]
                  · simp [h2,h3,h5,h6]
def ZiV(i:api_Instrument)(n:Int):Int:=if JO i≠0 then JO i else if i.Kind≠2 then 7 else if nb50 n=false then 9 else 0
structure DialOK (i:api_Instrument):Prop where
  lt:i.Low<i.High
  low: -1125899906842624≤i.Low∧i.Low≤1125899906842624
  high: -1125899906842624≤i.High∧i.High≤1125899906842624
  steps:1≤i.Steps∧i.Steps≤1000
  zones:i.Zones.length≤10
theorem ZjG{i:api_Instrument}{n:Int}(h:ZiV i n=0):DialOK i∧(-1125899906842624≤n∧n≤1125899906842624):=by
  unfold ZiV at h
  split at h
  · rename_i h0;exact absurd h h0
  · rename_i h0
    split at h
    · cases h
    · rename_i h2
      have h2:i.Kind=2:=by omega
      split at h
      · cases h
      · rename_i hn
        have hn:nb50 n=true:=by simpa using hn
        have hI:JO i=0:=by omega
        unfold JO at hI
        split at hI
        · cases hI
        split at hI
        · cases hI
        split at hI
        · cases hI
        split at hI
        · cases hI
        try rw [if_pos h2] at hI
        unfold ZhO at hI
        split at hI
        · cases hI
        rename_i hc
        split at hI
        · cases hI
        rename_i h10
        have hc:(decide (i.High≤i.Low) || !nb50 i.Low || !nb50 i.High || !wi i.Steps 1 1000)=false:=by simpa using hc
        simp only [Bool.or_eq_false_iff,decide_eq_false_iff_not,Bool.not_eq_false'] at hc
        obtain⟨⟨⟨c1,c2⟩,c3⟩,c4⟩:=hc
        exact⟨⟨by omega,Q9.1 c2,Q9.1 c3,Q9.1 c4,by omega⟩,Q9.1 hn⟩
def ndl(i:api_Instrument)(n:Int):Int:=if n≤i.Low then 0 else if i.High≤n then i.Steps else((n-i.Low)*i.Steps)/(i.High-i.Low)
theorem Zjz{i:api_Instrument}(hi:DialOK i){n:Int}(h1:i.Low<n)(h2:n<i.High):0≤(n-i.Low)*i.Steps∧(n-i.Low)*i.Steps≤2251799813685248000:=by
  have:=hi.low;have:=hi.high;have:=hi.steps
  exact⟨Int.mul_nonneg (by omega) (by omega),by
    have:(n-i.Low)*i.Steps≤2251799813685248*1000:=Int.mul_le_mul (by omega) (by omega) (by omega) (by omega)
    omega⟩
theorem Zh7{i:api_Instrument}(hi:DialOK i){n:Int}(hn: -1125899906842624≤n∧n≤1125899906842624):JY i n=some (ndl i n):=by
  unfold JY ndl
  by_cases h1:n≤i.Low
  · simp [h1]
  · by_cases h2:i.High≤n
    · simp [h1,h2]
    · have:=hi.low;have:=hi.high;have hlt:=hi.lt
      obtain⟨m1,m2⟩:=Zjz hi (n:=n) (by omega) (by omega)
      have e1:i64 (n-i.Low)=n-i.Low:=Zz (by omega) (by omega)
      have e2:i64 ((n-i.Low)*i.Steps)=(n-i.Low)*i.Steps:=Zz (by omega) (by omega)
      have e3:i64 (i.High-i.Low)=i.High-i.Low:=Zz (by omega) (by omega)
      have q1:0≤(n-i.Low)*i.Steps/(i.High-i.Low):=Int.ediv_nonneg m1 (by omega)
      have q2:(n-i.Low)*i.Steps/(i.High-i.Low)≤(n-i.Low)*i.Steps:=Int.ediv_le_self _ m1
      have e4:quo .i64 ((n-i.Low)*i.Steps) (i.High-i.Low)=some ((n-i.Low)*i.Steps/(i.High-i.Low)):=by
        unfold quo
        rw [if_neg (by omega),Int.tdiv_eq_ediv_of_nonneg m1,Zz (by omega) (by omega)]
      rw [if_neg (by simpa using h1),if_neg (by simpa using h2),if_neg h1,if_neg h2,e1,e2,e3,e4];rfl
theorem Zko{i:api_Instrument}(hz:i.Zones.length≤10)(n:Int): ∃ s,Jk i n=some s∧ZdP i n=some s:=by
  have e:ZdP i n=Jk i n:=rfl
  rw [e]
  have h:loop (t1 (Xd i n)) 0=some (JA Sum.inl (Sum.inr ()) (Qc (fun _ x=>if wi n x.From x.To=true then some x.Name else none) 0 i.Zones)):=by
    refine Xv (xs:=i.Zones) (body:=Xd i n) _ _ _ (fun k x hx=> ?_) (by simp [Xd])
    have hlt:=X4 hx
    have e1:i64 ((k:Int)+1)=(k:Int)+1:=Zfw (n:=i.Zones.length) (by omega) (by omega)
    have e0:ZC n x.From x.To=some (wi n x.From x.To):=rfl
    simp only [Xd,hlt,decide_true,if_true,ZN hx,Option.bind_some,e1,e0]
    cases wi n x.From x.To<;>rfl
  unfold Jk
  rw [h]
  cases Qc (fun _ x=>if wi n x.From x.To=true then some x.Name else none) 0 i.Zones with
  |none=>exact⟨[],rfl,rfl⟩
  |some v=>exact⟨v,rfl,rfl⟩
end Go.Vx

namespace Go.Vx
open Go Go.RowKit
theorem ZhE{l:List api_Instrument}(hl:l.length≤9223372036854775807){f:api_Instrument→Option Bool}{p:api_Instrument→Bool}(hf: ∀ x,f x=some (p x)):Zp l f=some (l.any p):=by
  have h:loop (t1 (Zt l f)) 0=some (JA Sum.inl (Sum.inr ()) (Qc (fun k x=>if p x=true then some (k:Int) else none) 0 l)):=by
    refine Xv (xs:=l) (body:=Zt l f) _ _ _ (fun k x hx=> ?_) (by simp [Zt])
    have hlt:=X4 hx
    have e1:i64 ((k:Int)+1)=(k:Int)+1:=Zfw (n:=l.length) (by omega) hl
    simp only [Zt,hlt,decide_true,if_true,ZN hx,Option.bind_some,e1,hf]
    cases p x<;>rfl
  unfold Zp ZH
  rw [h]
  rcases ZcI (p:=p) 0 l with ⟨h1,h2⟩ | ⟨m,h1,h2⟩
  · rw [h1,h2];simp
  · rw [h1,h2];simp
def Zf4(xs:List api_Instrument)(k:Nat)(x:api_Instrument):Option Int:=
  if JO x≠0 then some (JO x) else if(xs.take k).any (fun z=>decide (z.Name=x.Name))=true then some 5 else none
def ZeO(p:api_Panel):Int:=if 100<(p.Instruments.length:Int) then 3 else JA id 0 (Qc (Zf4 p.Instruments) 0 p.Instruments)
theorem Ziu(p:api_Panel):Zay p=some (ZeO p):=by
  unfold Zay ZeO
  by_cases h50:100<(p.Instruments.length:Int)
  · simp [h50]
  · have h:loop (t1 (XC p)) 0=some (JA Sum.inl (Sum.inr ()) (Qc (Zf4 p.Instruments) 0 p.Instruments)):=by
      refine Xv (xs:=p.Instruments) (body:=XC p) _ _ _ (fun k x hx=> ?_) (by simp [XC])
      have hlt:=X4 hx
      have e1:i64 ((k:Int)+1)=(k:Int)+1:=Zfw (n:=p.Instruments.length) (by omega) (by omega)
      have hc:Zp (p.Instruments.take k) (fun z0=>Zat z0 x)=some ((p.Instruments.take k).any fun z=>decide (z.Name=x.Name)):=
        ZhE (by rw [List.length_take];omega) (fun _=>rfl)
      simp only [XC,hlt,decide_true,if_true,ZN hx,Option.bind_some,e1,ZjR,ZjY (show k≤p.Instruments.length by omega),hc,Zf4]
      by_cases h0:JO x=0
      · cases (p.Instruments.take k).any (fun z=>decide (z.Name=x.Name))<;>simp [h0]
      · simp [h0]
    simp only [h50,decide_false,Bool.false_eq_true,if_false,h]
    cases Qc (Zf4 p.Instruments) 0 p.Instruments<;>simp
theorem Zbd{p:api_Panel}(h:ZeO p=0):p.Instruments.length≤100:=by
  unfold ZeO at h
  split at h
  · cases h
  · omega
theorem ZiP{α:Type}{n:Nat}(h:n≤4294967296)(z:α):mks (n:Int) z=some (List.replicate n z):=by
  unfold mks mkz
  rw [if_pos ⟨by omega,by omega⟩,Int.toNat_natCast]
end Go.Vx

namespace Go.Vx
open Go Go.RowKit
def vV(t:api_Track)(f:Int):api_Sample×Bool:=((ZcO (J8 t.Series.Samples (64*f+63) t.Long)).1,(ZcO (J8 t.Series.Samples (64*f+63) t.Long)).2)
theorem Zkf{t:api_Track}(hc:(chk t.Series).2=0)(hl:wi t.Long 0 1099511627776=true){frame:Int}(f1:0≤frame)(f2:frame≤4194303):Jc t frame=some (vV t frame)∧ZaW t frame=some (vV t frame):=by
  have e1:i64 (64*frame)=64*frame:=Zz (by omega) (by omega)
  have e2:i64 (64*frame+64)=64*frame+64:=Zz (by omega) (by omega)
  have e3:i64 (64*frame+64-1)=64*frame+63:=by rw [show 64*frame+64-1=64*frame+63 by omega];exact Zz (by omega) (by omega)
  have e4:i64 (64*frame+63)=64*frame+63:=Zz (by omega) (by omega)
  have ht:(0:Int)≤64*frame+63∧64*frame+63≤1099511627776:=by omega
  constructor
  · unfold Jc Zbr
    rw [e1,e2,e3,ZkG (ZeR hc) _ _ ht];rfl
  · unfold ZaW
    rw [e1,e4,ZjL]
    have hwi:wi (64*frame+63) 0 1099511627776=true:=Q9.2 ht
    simp [Zgs,hc,hwi,hl,vV]
theorem ZfI{α:Type}{p:α→Bool}: ∀ (k:Nat) (xs:List α),(Qc (fun j x=>if p x=true then some (j:Int) else none) k xs=none∧Qc (fun _ x=>if p x=true then some x else none) k xs=none)∨
    (∃ (m:Nat) (x:α),Qc (fun j x=>if p x=true then some (j:Int) else none) k xs=some ((k+m:Nat):Int)∧Qc (fun _ x=>if p x=true then some x else none) k xs=some x∧xs[m]?=some x)
  |_,[]=> .inl ⟨rfl,rfl⟩
  |k,x::tl=>by
    have ih:=ZfI (p:=p) (k+1) tl
    simp only [Qc]
    by_cases hp:p x=true
    · exact .inr ⟨0,x,by simp [hp],by simp [hp],rfl⟩
    · have hp':p x=false:=by simpa using hp
      simp only [hp',Bool.false_eq_true,if_false]
      rcases ih with h | ⟨m,y,h1,h2,h3⟩
      · exact .inl h
      · exact .inr ⟨m+1,y,by rw [h1];congr 2;omega,h2,by simpa using h3⟩
def tkI(l:List api_Track)(nm:Str):Option Int:=Qc (fun j x=>if decide (x.Name=nm)=true then some (j:Int) else none) 0 l
def tkT(l:List api_Track)(nm:Str):Option api_Track:=Qc (fun _ x=>if decide (x.Name=nm)=true then some x else none) 0 l
theorem ZiC(l:List api_Track)(nm:Str):(tkI l nm=none∧tkT l nm=none)∨(∃ (m:Nat) (x:api_Track),tkI l nm=some (m:Int)∧tkT l nm=some x∧l[m]?=some x):=by
  rcases ZfI (p:=fun x:api_Track=>decide (x.Name=nm)) 0 l with h | ⟨m,x,h1,h2,h3⟩
  · exact .inl h
  · exact .inr ⟨m,x,by rw [Nat.zero_add] at h1;exact h1,h2,h3⟩
theorem ZdU{l:List api_Track}(hl:l.length≤50)(i:api_Instrument):Qr l i=some (JA id (-1) (tkI l i.Track)):=by
  have h:loop (t1 (Zq l (fun z0=>XS z0 i))) 0=some (JA Sum.inl (Sum.inr ()) (tkI l i.Track)):=by
    refine Xv (xs:=l) (body:=Zq l _) _ _ _ (fun k x hx=> ?_) (by simp [Zq])
    have hlt:=X4 hx
    have e1:i64 ((k:Int)+1)=(k:Int)+1:=Zfw (n:=l.length) (by omega) (by omega)
    simp only [Zq,hlt,decide_true,if_true,ZN hx,Option.bind_some,e1,XS]
    cases decide (x.Name=i.Track)<;>rfl
  unfold Qr ZF
  rw [h]
  cases tkI l i.Track<;>rfl
theorem Zit{l:List api_Track}(hl:l.length≤50)(nm:Str):Zbi l nm=some (JA (fun x=>(x,true)) (api_Track.mk [] (api_Series.mk 0 []) 0,false) (tkT l nm)):=by
  have h:loop (t1 (Jz l nm)) 0=some (JA (fun x=>Sum.inl (x,true)) (Sum.inr ()) (tkT l nm)):=by
    refine Xv (xs:=l) (body:=Jz l nm) _ _ _ (fun k x hx=> ?_) (by simp [Jz])
    have hlt:=X4 hx
    have e1:i64 ((k:Int)+1)=(k:Int)+1:=Zfw (n:=l.length) (by omega) (by omega)
    simp only [Jz,hlt,decide_true,if_true,ZN hx,Option.bind_some,e1]
    cases decide (x.Name=nm)<;>rfl
  unfold Zbi
  rw [h]
  cases tkT l nm<;>rfl
theorem ZeF{l:List api_Track}(h:ckT l=0):l.length≤50:=by
  unfold ckT at h
  split at h
  · cases h
  · omega
def Zh5(l:List api_Track)(i:api_Instrument):Bool:=(tkT l i.Track).isNone
def XI(p:api_Panel)(l:List api_Track):Int:=if ZeO p≠0 then ZeO p else if ckT l≠0 then ckT l else if p.Instruments.any (Zh5 l)=true then 4 else 0
theorem ZgE(p:api_Panel)(l:List api_Track):XO p l=some (XI p l):=by
  unfold XO XI
  rw [Ziu,Zhx]
  simp only [Option.bind_some]
  by_cases h0:ZeO p=0
  · by_cases h1:ckT l=0
    · have hl:=ZeF h1
      have hp:=Zbd h0
      have hc:Zp p.Instruments (fun z0=>Xn z0 l)=some (p.Instruments.any (Zh5 l)):=by
        refine ZhE (by omega) fun x=> ?_
        unfold Xn
        rw [ZdU hl,Option.bind_some]
        unfold Zh5
        rcases ZiC l x.Track with ⟨a,b⟩ | ⟨m,y,a,b,_⟩
        · rw [a,b];rfl
        · rw [a,b]
          have:decide (((m:Nat):Int)<0)=false:=decide_eq_false (by omega)
          show some (decide (((m:Nat):Int)<0))=_
          rw [this];rfl
      rw [hc]
      cases p.Instruments.any (Zh5 l)<;>simp [h0,h1]
    · simp [h0,h1]
  · simp [h0]
end Go.Vx

namespace Go.Vx
open Go Go.RowKit
theorem Zaz{α:Type}{l:List α}(h:l.length≤4294967296):ZaJ l=some l:=by unfold ZaJ;rw [ZdM (by simpa using h)];rfl
def shk(l:List Int)(k:Nat):List Int:=(l.drop 1).take k++l.drop k
theorem ZhK{l:List Int}{k:Nat}(h:k+1≤l.length):(shk l k).length=l.length:=by
  unfold shk
  rw [List.length_append,List.length_take,List.length_drop,List.length_drop];omega
theorem ZhV{l:List Int}{k j:Nat}(h:k+1≤l.length)(hj:k≤j):(shk l k)[j]?=l[j]?:=by
  unfold shk
  have e:((l.drop 1).take k).length=k:=by rw [List.length_take,List.length_drop];omega
  rw [List.getElem?_append_right (by omega),e,List.getElem?_drop]
  congr 1;omega
theorem Zjy{l:List Int}{k:Nat}{x:Int}(h:k+2≤l.length)(hx:l[k+1]?=some x):(shk l k).set k x=shk l (k+1):=by
  unfold shk
  have e:((l.drop 1).take k).length=k:=by rw [List.length_take,List.length_drop];omega
  rw [List.set_append_right _ _ (by omega),e,Nat.sub_self]
  have h1:k<l.length:=by omega
  rw [List.drop_eq_getElem_cons h1,List.set_cons_zero]
  have h2:(l.drop 1)[k]?=some x:=by rw [List.getElem?_drop,Nat.add_comm];exact hx
  rw [List.take_add_one,h2]
  simp
theorem Zhn{l:List Int}(h0:1≤l.length)(hl:l.length≤1000):loop (t2 QX) (l,0)=some (shk l (l.length-1)):=by
  refine Zbn (body:=t2 QX) (fun p=> ∃ k:Nat,p=(shk l k,(k:Int))∧k+1≤l.length) (fun p=>l.length-p.2.toNat) (fun _=>shk l (l.length-1)) ?_ (l,0) ⟨0,by simp [shk],h0⟩
  rintro⟨o,i⟩ ⟨k,he,hk⟩
  obtain⟨rfl,rfl⟩:=Prod.mk.inj he
  simp only [ZdE]
  have hlen:=ZhK hk
  have e2:i64 ((k:Int)+2)=(k:Int)+2:=Zz (by omega) (by omega)
  have e1:i64 ((k:Int)+1)=(k:Int)+1:=Zz (by omega) (by omega)
  by_cases h:k+2≤l.length
  · obtain⟨x,hx⟩:=QQ (xs:=l) (k:=k+1) (by omega)
    obtain⟨y,hy⟩:=QQ (xs:=l) (k:=k) (by omega)
    have hlt:decide ((k:Int)+2≤((shk l k).length:Int))=true:=decide_eq_true (by rw [hlen];omega)
    have hs:slp (shk l k) (k:Int) ((k:Int)+2)=some ():=by
      unfold slp
      have a:decide ((0:Int)≤k)=true:=decide_eq_true (by omega)
      have b:decide ((k:Int)<(k:Int)+2)=true:=decide_eq_true (by omega)
      rw [a,b,hlt];rfl
    have hc:ck (decide (2≤Int.toNat ((k:Int)+2-(k:Int))))=some ():=by
      have:Int.toNat ((k:Int)+2-(k:Int))=2:=by omega
      rw [this];rfl
    have ix1:idx (shk l k) ((k:Int)+1)=some x:=by
      have:=ZN (xs:=shk l k) (k:=k+1) (x:=x) (by rw [ZhV hk (by omega)];exact hx)
      exact this
    have ix0:idx (shk l k) ((k:Int)+0)=some y:=by
      rw [Int.add_zero];exact ZN (by rw [ZhV hk (Nat.le_refl _)];exact hy)
    have hst:(shk l k).set (((k:Int)+0).toNat) x=shk l (k+1):=by
      rw [Int.add_zero,Int.toNat_natCast];exact Zjy h hx
    left
    refine⟨(shk l (k+1),(k:Int)+1),?_,⟨k+1,rfl,by omega⟩,?_,trivial⟩
    · simp only [QX,e2,hlt,if_true,hs,Option.bind_some,hc,ix1,ix0,hst,e1]
      rfl
    · simp only;omega
  · right
    have hlt:decide ((k:Int)+2≤((shk l k).length:Int))=false:=decide_eq_false (by rw [hlen];omega)
    obtain rfl:k=l.length-1:=by omega
    simp only [QX,e2,hlt,Bool.false_eq_true,if_false]
def shV(tape:List Int)(size n:Int):List Int:=if((tape.length+1:Nat):Int)≤size then tape++ [n] else(tape++ [n]).drop 1
theorem Zh8{tape:List Int}(ht:tape.length≤100)(size n:Int):JD tape size n=some (shV tape size n):=by
  unfold JD shV
  have hl:(tape++ [n]).length=tape.length+1:=by simp
  rw [Zaz (by omega),Option.bind_some,ZdM (by simp;omega),Option.bind_some,hl]
  by_cases h:((tape.length+1:Nat):Int)≤size
  · simp only [h,decide_true,if_true]
  · simp only [h,decide_false,Bool.false_eq_true,if_false]
    rw [Zhn (by omega) (by omega),hl,Nat.add_sub_cancel]
    have hk:=ZhK (l:=tape++ [n]) (k:=tape.length) (by omega)
    simp only [Option.bind_some,Zcc,hk,hl]
    have e:i64 (((tape.length+1:Nat):Int)-1)=(tape.length:Int):=by
      rw [show(((tape.length+1:Nat):Int)-1)=(tape.length:Int) by omega];exact Zz (by omega) (by omega)
    rw [e,ZjY (by omega),Option.bind_some]
    congr 1
    unfold shk
    have e2:((tape++ [n]).drop 1).length=tape.length:=by rw [List.length_drop];omega
    rw [List.take_append,List.length_take,e2,Nat.min_self,Nat.sub_self,List.take_zero,List.append_nil,List.take_take,Nat.min_self]
    exact List.take_of_length_le (by omega)
end Go.Vx

namespace Go.Vx
open Go Go.RowKit
def Zga(op a b:Int):Bool:=if op=1 then decide (a<b) else if op=2 then decide (a≤b) else if op=3 then decide (a=b) else if op=4 then !decide (a=b) else if op=5 then decide (b≤a) else decide (b<a)
theorem Zjf(op a b:Int):ZaL op a b=some (Zga op a b):=by
  unfold ZaL Zga
  by_cases h1:op=1
  · simp [h1]
  · by_cases h2:op=2
    · simp [h2]
    · by_cases h3:op=3
      · simp [h3]
      · by_cases h4:op=4
        · simp [h4]
        · by_cases h5:op=5
          · simp [h5]
          · simp [h1,h2,h3,h4,h5]
def isV(i:api_Instrument)(n:Int)(known:Bool):Bool:=(known&&(decide (i.Kind=3) || decide (i.Kind=5)))&&Zga i.Op n i.N
def Zf8(i:api_Instrument)(m:api_Memo)(n:Int)(known:Bool):api_Memo:=
  if i.Kind=3 then api_Memo.mk (isV i n known || (i.Latch&&m.Lit)) m.Some m.N m.Count m.Tape
  else if i.Kind=5 then(if(isV i n known&& !m.Lit)=true then api_Memo.mk (isV i n known) m.Some m.N (i64 (m.Count+1)) m.Tape else api_Memo.mk (isV i n known) m.Some m.N m.Count m.Tape)
  else if(decide (i.Kind=4)&&known)=true then api_Memo.mk m.Lit true (if m.Some=true then max n m.N else n) m.Count m.Tape
  else if(decide (i.Kind=6)&&known)=true then api_Memo.mk m.Lit m.Some m.N m.Count (shV m.Tape i.Size n) else m
theorem Zku(i:api_Instrument)(m:api_Memo)(n:Int)(known:Bool)(ht:m.Tape.length≤100):Q5 i m n known=some (Zf8 i m n known):=by
  unfold Q5 Zf8
  rw [Zjf,ZjO,Zh8 ht]
  simp only [Option.bind_some]
  have e:((known&&(decide (i.Kind=3) || decide (i.Kind=5)))&&((known&&(decide (i.Kind=3) || decide (i.Kind=5)))==true&&Zga i.Op n i.N))=isV i n known:=by
    unfold isV
    cases (known&&(decide (i.Kind=3) || decide (i.Kind=5)))<;>simp
  simp only [e]
  by_cases h3:i.Kind=3
  · simp [h3]
  · by_cases h5:i.Kind=5
    · simp only [h5,decide_true,if_true]
      cases isV i n known<;>cases m.Lit<;>simp
    · by_cases h4:i.Kind=4
      · cases known<;>cases m.Some<;>simp [h4]
      · by_cases h6:i.Kind=6
        · cases known<;>simp [h6]
        · simp [h3,h4,h5,h6]
def ZjU(i:api_Instrument)(m:api_Memo):Bool:=
  ((((m.Lit&&(!((decide (i.Kind=3)) || (decide (i.Kind=5))))) || ((m.Some || (!decide (m.N=0)))&&(!(decide (i.Kind=4))))) || ((!decide (m.Count=0))&&(!(decide (i.Kind=5))))) || ((decide (0<(m.Tape.length:Int)))&&(!(decide (i.Kind=6))))) || ((!decide (m.N=0))&&(!m.Some))
def Zhz(i:api_Instrument)(m:api_Memo):Int:=
  if ZjU i m=true then 2 else if(!wi m.Count 0 20000 || !nb50 m.N)=true then 9 else if i.Size<(m.Tape.length:Int) then 3 else if m.Tape.any (fun z=> !nb50 z)=true then 9 else 0
structure MemoOK (i:api_Instrument) (m:api_Memo):Prop where
  lit:m.Lit=true→i.Kind=3∨i.Kind=5
  some:m.Some=true→i.Kind=4
  num:m.N≠0→i.Kind=4∧m.Some=true
  cnt:m.Count≠0→i.Kind=5
  tape:0<m.Tape.length→i.Kind=6
  cr:0≤m.Count∧m.Count≤20000
  nr:nb50 m.N=true
  len:(m.Tape.length:Int)≤i.Size
  all: ∀ z∈m.Tape,nb50 z=true
theorem ZhB{i:api_Instrument}{m:api_Memo}:Zhz i m=0↔MemoOK i m:=by
  unfold Zhz
  constructor
  · intro h
    split at h
    · cases h
    rename_i hb
    split at h
    · cases h
    rename_i hc
    split at h
    · cases h
    rename_i hl
    split at h
    · cases h
    rename_i ha
    simp only [ZjU,Bool.or_eq_true,Bool.and_eq_true,Bool.not_eq_true',Bool.or_eq_false_iff,decide_eq_true_eq,decide_eq_false_iff_not,not_or,not_and,Classical.not_not,Bool.not_eq_false] at hb hc ha
    obtain⟨⟨⟨⟨b1,b2⟩,b3⟩,b4⟩,b5⟩:=hb
    obtain⟨c1,c2⟩:=hc
    refine⟨fun h=> ?_,fun h=>b2 (.inl h),fun h=>⟨b2 (.inr h),b5 h⟩,fun h=>b3 h,fun h=>b4 (by omega),Q9.1 c1,c2,by omega,fun z hz=> ?_⟩
    · have:=b1 h
      by_cases h3:i.Kind=3
      · exact .inl h3
      · exact .inr (this h3)
    · have:=ha
      simp only [List.any_eq_true,not_exists,not_and,Bool.not_eq_true',Bool.not_eq_false] at this
      exact this z hz
  · intro h
    have hb:ZjU i m=false:=by
      simp only [ZjU,Bool.or_eq_false_iff,Bool.and_eq_false_iff,Bool.not_eq_false',Bool.or_eq_true,decide_eq_true_eq,decide_eq_false_iff_not]
      refine⟨⟨⟨⟨?_,?_⟩,?_⟩,?_⟩,?_⟩
      · cases hl:m.Lit with
        |false=>exact .inl rfl
        |true=>exact .inr (h.lit hl)
      · by_cases h4:i.Kind=4
        · exact .inr h4
        · left
          constructor
          · cases hs:m.Some with
            |false=>rfl
            |true=>exact absurd (h.some hs) h4
          · by_cases hn:m.N=0
            · exact hn
            · exact absurd (h.num hn).1 h4
      · by_cases hc:m.Count=0
        · exact .inl hc
        · exact .inr (h.cnt hc)
      · by_cases ht:0<m.Tape.length
        · exact .inr (h.tape ht)
        · left;omega
      · by_cases hn:m.N=0
        · exact .inl hn
        · exact .inr (h.num hn).2
    have hc:(!wi m.Count 0 20000 || !nb50 m.N)=false:=by rw [Q9.2 h.cr,h.nr];rfl
    have ha:m.Tape.any (fun z=> !nb50 z)=false:=by
      rw [List.any_eq_false];intro z hz;rw [h.all z hz];simp
    have hl:=h.len
    rw [if_neg (by rw [hb];simp),if_neg (by rw [hc];simp),if_neg (by omega),if_neg (by rw [ha];simp)]
theorem ZkD{tape:List Int}{size n:Int}(hs:1≤size)(hl:(tape.length:Int)≤size)(ha: ∀ z∈tape,nb50 z=true)(hn:nb50 n=true):((shV tape size n).length:Int)≤size∧ ∀ z∈shV tape size n,nb50 z=true:=by
  have hall: ∀ z∈tape++ [n],nb50 z=true:=fun z hz=>by
    rcases List.mem_append.1 hz with h |h
    · exact ha z h
    · rw [List.mem_singleton] at h;subst h;exact hn
  unfold shV
  split
  · rename_i h
    exact⟨by simp;omega,hall⟩
  · exact⟨by simp;omega,fun z hz=>hall z (List.mem_of_mem_drop hz)⟩
theorem Zkv{i:api_Instrument}{m:api_Memo}(hm:MemoOK i m)(h6:i.Kind=6→1≤i.Size){n:Int}(hn:nb50 n=true)(known:Bool)(hc:m.Count≠20000):MemoOK i (Zf8 i m n known):=by
  have hcr:=hm.cr
  unfold Zf8
  split
  · rename_i k3
    exact⟨fun _=> .inl k3,hm.some,hm.num,hm.cnt,hm.tape,hm.cr,hm.nr,hm.len,hm.all⟩
  · split
    · rename_i k5
      have e:i64 (m.Count+1)=m.Count+1:=Zz (by omega) (by omega)
      split
      · exact⟨fun _=> .inr k5,hm.some,hm.num,fun _=>k5,hm.tape,by rw [e];exact⟨by simp only;omega,by simp only;omega⟩,hm.nr,hm.len,hm.all⟩
      · exact⟨fun _=> .inr k5,hm.some,hm.num,fun _=>k5,hm.tape,hm.cr,hm.nr,hm.len,hm.all⟩
    · split
      · rename_i k
        simp only [Bool.and_eq_true,decide_eq_true_eq] at k
        refine⟨hm.lit,fun _=>k.1,fun _=>⟨k.1,rfl⟩,hm.cnt,hm.tape,hm.cr,?_,hm.len,hm.all⟩
        show nb50 (if m.Some=true then max n m.N else n)=true
        split
        · have h1:=Q9.1 hn
          have h2:=Q9.1 hm.nr
          refine Q9.2 ⟨by omega,by omega⟩
        · exact hn
      · split
        · rename_i k
          simp only [Bool.and_eq_true,decide_eq_true_eq] at k
          obtain⟨s1,s2⟩:=ZkD (h6 k.1) hm.len hm.all hn
          exact⟨hm.lit,hm.some,hm.num,hm.cnt,fun _=>k.1,hm.cr,hm.nr,s1,s2⟩
        · exact hm
end Go.Vx

namespace Go.Vx
open Go Go.RowKit
def stG(p:api_Panel)(k:Nat)(m:api_Memo):Option Int:=match p.Instruments[k]? with |some i=>if Zhz i m≠0 then some (Zhz i m) else none |none=>none
def stateV(p:api_Panel)(s:api_PanelState):Int:=
  if wi s.Frame (-1) 19999=false then 9 else if ¬(s.Memos.length:Int)=(p.Instruments.length:Int) then 2 else JA id 0 (Qc (stG p) 0 s.Memos)
theorem ZcV{α ε:Type}{g:Nat→α→Option ε}: ∀ (k:Nat) (xs:List α),(∀ (j:Nat) x,xs[j]?=some x→g (k+j) x=none)→Qc g k xs=none
  |_,[],_=>rfl
  |k,x::tl,h=>by
    simp only [Qc]
    have h0:=h 0 x rfl
    rw [Nat.add_zero] at h0
    rw [h0]
    exact ZcV (k+1) tl fun j y hy=>by
      have:=h (j+1) y (by simpa using hy)
      rwa [show k+(j+1)=k+1+j by omega] at this
theorem ZbR{p:api_Panel}{s:api_PanelState}:stateV p s=0↔((-1≤s.Frame∧s.Frame≤19999)∧s.Memos.length=p.Instruments.length∧ ∀ (k:Nat) i m,p.Instruments[k]?=some i→s.Memos[k]?=some m→MemoOK i m):=by
  unfold stateV
  constructor
  · intro h
    split at h
    · cases h
    rename_i hf
    split at h
    · cases h
    rename_i hl
    have hl':s.Memos.length=p.Instruments.length:=by omega
    refine⟨Q9.1 (by simpa using hf),hl',fun k i m hi hm=> ?_⟩
    have hnone:Qc (stG p) 0 s.Memos=none:=by
      cases hh:Qc (stG p) 0 s.Memos with
      |none=>rfl
      |some e=>
        exfalso
        rw [hh] at h
        have he:e=0:=h
        subst he
        have key: ∀ (k:Nat) (xs:List api_Memo),Qc (stG p) k xs≠some 0:=by
          intro k xs
          induction xs generalizing k with
          |nil=>intro e;cases e
          |cons x tl ih=>
            intro e
            simp only [Qc] at e
            cases hg:stG p k x with
            |none=>rw [hg] at e;exact ih _ e
            |some v=>
              rw [hg] at e
              cases e
              unfold stG at hg
              split at hg
              · split at hg
                · rename_i h0;exact h0 (Option.some.inj hg)
                · cases hg
              · cases hg
        exact key 0 _ hh
    have:=Zb2 0 s.Memos hnone k m hm
    rw [Nat.zero_add] at this
    unfold stG at this
    rw [hi] at this
    simp only at this
    split at this
    · cases this
    · rename_i h0;exact ZhB.1 (by omega)
  · rintro⟨hf,hl,h⟩
    rw [if_neg (by rw [Q9.2 hf];simp),if_neg (by omega)]
    rw [ZcV 0 s.Memos fun j m hm=> ?_]
    · rfl
    · rw [Nat.zero_add]
      obtain⟨i,hi⟩:=QQ (xs:=p.Instruments) (k:=j) (by have:=(List.getElem?_eq_some_iff.1 hm).1;omega)
      unfold stG
      rw [hi]
      simp only
      rw [if_neg (by simp [ZhB.2 (h j i m hi hm)])]
theorem Za0{p:api_Panel}(h:ZeO p=0){i:api_Instrument}(hi:i∈p.Instruments):JO i=0:=by
  unfold ZeO at h
  split at h
  · cases h
  · obtain⟨j,hj⟩:=List.mem_iff_getElem?.1 hi
    cases hf:Qc (Zf4 p.Instruments) 0 p.Instruments with
    |none=>
      have:=Zb2 0 _ hf j i hj
      unfold Zf4 at this
      split at this
      · cases this
      · rename_i h0;omega
    |some e=>
      rw [hf] at h
      have he:e=0:=h
      subst he
      exfalso
      have key: ∀ (k:Nat) (xs:List api_Instrument),Qc (Zf4 p.Instruments) k xs≠some 0:=by
        intro k xs
        induction xs generalizing k with
        |nil=>intro e;cases e
        |cons x tl ih=>
          intro e
          simp only [Qc] at e
          cases hg:Zf4 p.Instruments k x with
          |none=>rw [hg] at e;exact ih _ e
          |some v=>
            rw [hg] at e
            cases e
            unfold Zf4 at hg
            split at hg
            · rename_i h0;exact h0 (Option.some.inj hg)
            · split at hg<;>cases hg
      exact key 0 _ hf
theorem Zd2{i:api_Instrument}(h:JO i=0):(i.Kind=6→1≤i.Size)∧i.Size≤50:=by
  unfold JO at h
  split at h
  · cases h
  split at h
  · cases h
  split at h
  · cases h
  rename_i hu
  split at h
  · cases h
  by_cases h6:i.Kind=6
  · rw [if_neg (by omega),if_neg (by omega),if_pos h6] at h
    split at h
    · cases h
    · rename_i hs
      have:=Q9.1 (show wi i.Size 1 50=true by simpa using hs)
      exact⟨fun _=>this.1,this.2⟩
  · refine⟨fun e=>absurd e h6,?_⟩
    have:i.Size=0:=by
      have hu:unV i=false:=by simpa using hu
      unfold unV at hu
      simp only [Bool.or_eq_false_iff] at hu
      have h1:=hu.2
      simp only [h6,decide_false,Bool.not_false,Bool.and_true,Bool.not_eq_false',decide_eq_true_eq] at h1
      exact h1
    omega
end Go.Vx

namespace Go.Vx
open Go Go.RowKit
theorem Zjt{xs:List Smp}{t long:Int}{x:Smp}(h:J8 xs t long=some x): ∃ k:Nat,xs[k]?=some x:=by
  simp only [J8,Option.bind_eq_some_iff] at h
  obtain⟨y,h1,h2⟩:=h
  split at h2
  · cases h2
    unfold ZdR at h1
    split at h1
    · cases h1
    · exact⟨_,h1⟩
  · cases h2
theorem Ziz{t:api_Track}(hc:(chk t.Series).2=0)(f:Int):nb50 (vV t f).1.N=true:=by
  have hs:=ZeR hc
  unfold vV
  cases hh:J8 t.Series.Samples (64*f+63) t.Long with
  |none=>simp only [ZcO];decide
  |some x=>
    obtain⟨k,hk⟩:=Zjt hh
    exact Q9.2 (hs.at' k x hk).2.1
def nxt(p:api_Panel)(l:List api_Track)(s:api_PanelState)(k:Nat):api_Memo:=
  match p.Instruments[k]?,s.Memos[k]? with
  |some i,some m=>match tkT l i.Track with
    |some t=>Zf8 i m (vV t (s.Frame+1)).1.N (vV t (s.Frame+1)).2
    |none=>m
  |_,_=>api_Memo.mk false false 0 0 []
theorem ZaF{p:api_Panel}{l:List api_Track}(h:XI p l=0):ZeO p=0∧ckT l=0∧ ∀ i∈p.Instruments,∃ (m:Nat) (t:api_Track),tkI l i.Track=some (m:Int)∧tkT l i.Track=some t∧l[m]?=some t:=by
  unfold XI at h
  split at h
  · rename_i h';exact absurd h h'
  rename_i h1
  split at h
  · rename_i h';exact absurd h h'
  rename_i h2
  split at h
  · cases h
  rename_i h3
  refine⟨by omega,by omega,fun i hi=> ?_⟩
  have h3:p.Instruments.any (Zh5 l)=false:=by simpa using h3
  rw [List.any_eq_false] at h3
  have hno:=h3 i hi
  rcases ZiC l i.Track with ⟨_,b⟩ |h
  · exact absurd (by unfold Zh5;rw [b];rfl) hno
  · exact h
theorem Zd5{i:api_Instrument}{m:api_Memo}(hm:MemoOK i m)(hi:JO i=0):m.Tape.length≤100:=by
  have:=hm.len;have:=(Zd2 hi).2;omega
theorem Zif{p:api_Panel}{l:List api_Track}{s:api_PanelState}(hb:XI p l=0)(hs:stateV p s=0)(hf:s.Frame≠19999):
    Xs p l s=some (api_PanelState.mk (s.Frame+1) ((List.range p.Instruments.length).map (nxt p l s))):=by
  obtain⟨b1,b2,b3⟩:=ZaF hb
  obtain⟨s1,s2,s3⟩:=ZbR.1 hs
  have hp:=Zbd b1
  have hl:=ZeF b2
  have e0:i64 (s.Frame+1)=s.Frame+1:=Zz (by omega) (by omega)
  have h:loop (t2 (QW p l s)) ([],0)=some ((List.range p.Instruments.length).map (nxt p l s)):=by
    refine ZaG (xs:=p.Instruments) (body:=QW p l s) (fun a k=>a=(List.range k).map (nxt p l s)) (fun _ _=>(List.range p.Instruments.length).map (nxt p l s)) (fun a k i ha hi=> ?_) (fun a ha=> ?_) (by simp)
    · have hlt:=X4 hi
      have him:=List.mem_of_getElem? hi
      obtain⟨j,t,t1',t2',t3'⟩:=b3 i him
      obtain⟨m,hm⟩:=QQ (xs:=s.Memos) (k:=k) (by omega)
      have hmo:=s3 k i m hi hm
      have hin:=Za0 b1 him
      have htl:=Zd5 hmo hin
      obtain⟨c1,c2⟩:=ZgD b2 (List.mem_of_getElem? t3')
      have e1:i64 ((k:Int)+1)=(k:Int)+1:=Zz (by omega) (by omega)
      have a1:Qr l i=some (j:Int):=by rw [ZdU hl,t1'];rfl
      have a2:=(Zkf c1 c2 (frame:=s.Frame+1) (by omega) (by omega)).1
      have hn:nxt p l s k=Zf8 i m (vV t (s.Frame+1)).1.N (vV t (s.Frame+1)).2:=by
        unfold nxt;rw [hi,hm];simp only;rw [t2']
      have hal:a.length=k:=by rw [ha];simp
      left
      refine⟨a++ [nxt p l s k],?_,?_,rfl⟩
      · simp only [QW,hlt,decide_true,if_true,ZN hi,Option.bind_some,a1,ZN t3',e0,a2,ZN hm,Zaz (show m.Tape.length≤4294967296 by omega)]
        rw [Zku i (api_Memo.mk m.Lit m.Some m.N m.Count m.Tape) _ _ htl]
        simp only [Option.bind_some]
        rw [show api_Memo.mk m.Lit m.Some m.N m.Count m.Tape=m from rfl,←hn,ZdM (by simp;omega)]
        simp only [Option.bind_some,e1]
      · rw [ha,List.range_succ,List.map_append];rfl
    · rw [ha];simp [QW]
  unfold Xs
  rw [h]
  simp only [Option.bind_some,Zcc,e0]
end Go.Vx

namespace Go.Vx
open Go Go.RowKit
end Go.Vx

namespace Go.Vx
open Go Go.RowKit
theorem Zh0{xs:List Str}(h:xs≠ [])(y sep:Str):Go.Lib.join (xs++ [y]) sep=Go.Lib.join xs sep++(sep++y):=by
  cases xs with
  |nil=>exact absurd rfl h
  |cons a r=>
    rw [List.cons_append,Go.Lib.join_cons,Go.Lib.join_cons]
    simp [Go.Lib.joinTail,List.append_assoc]
noncomputable def dgV(den pl z:Int):Str:=(QR z den pl).getD []
theorem ZiL{den pl z:Int}(hd:1≤den∧den≤1000000)(hp:0≤pl∧pl≤6)(hz:nb50 z=true):QR z den pl=some (dgV den pl z)∧Jj z den pl=some (dgV den pl z)∧(dgV den pl z).length≤41:=by
  obtain⟨z1,z2⟩:=Q9.1 hz
  obtain⟨s,h1,h2,h3⟩:=Zji z1 z2 hd.1 hd.2 hp.1 hp.2
  have e:dgV den pl z=s:=by unfold dgV;rw [h1];rfl
  rw [e];exact⟨h1,h2,h3⟩
noncomputable def tpV(den pl:Int)(tape:List Int)(k:Nat):Str:=if k=0 then [45,45,45] else Go.Lib.join ((tape.take k).map (dgV den pl)) [32]
theorem ZfW{α:Type}{l:List α}{k:Nat}{x:α}(h:l[k]?=some x):l.take (k+1)=l.take k++ [x]:=by rw [List.take_add_one,h];rfl
theorem ZgR{den pl:Int}{tape:List Int}{k:Nat}{x:Int}(hx:tape[k]?=some x):tpV den pl tape (k+1)=if k=0 then dgV den pl x else tpV den pl tape k++([32]++dgV den pl x):=by
  unfold tpV
  rw [if_neg (by omega),ZfW hx,List.map_append]
  by_cases h:k=0
  · subst h;simp [Go.Lib.join_one]
  · have hk:=(List.getElem?_eq_some_iff.1 hx).1
    rw [if_neg h,if_neg h]
    exact Zh0 (by
      intro e
      have:=congrArg List.length e
      simp at this
      rcases this with h1 |h1
      · exact h h1
      · subst h1;simp at hk) _ _
theorem Zgz{den pl:Int}(hd:1≤den∧den≤1000000)(hp:0≤pl∧pl≤6){tape:List Int}(ha: ∀ z∈tape,nb50 z=true): ∀ (k:Nat),k≤tape.length→(tpV den pl tape k).length≤3+42*k
  |0,_=>by simp [tpV]
  |k+1,h=>by
    obtain⟨x,hx⟩:=QQ (xs:=tape) (k:=k) (by omega)
    have ih:=Zgz hd hp ha k (by omega)
    have hl:=(ZiL hd hp (ha x (List.mem_of_getElem? hx))).2.2
    rw [ZgR hx]
    split
    · omega
    · simp only [List.length_append,List.length_cons,List.length_nil];omega
theorem Zjv{i:api_Instrument}{m:api_Memo}{den:Int}(hd:1≤den∧den≤1000000)(hp:0≤i.Places∧i.Places≤6)(ha: ∀ z∈m.Tape,nb50 z=true)(hl:m.Tape.length≤100):
    loop (t2 (XY i m den)) ([],0)=some (m.Tape.map (dgV den i.Places)):=by
  refine ZaG (xs:=m.Tape) (body:=XY i m den) (fun a k=>a=(m.Tape.take k).map (dgV den i.Places)) (fun _ _=>m.Tape.map (dgV den i.Places)) (fun a k x hA hx=> ?_) (fun a hA=> ?_) (by simp)
  · have hlt:=X4 hx
    have e1:i64 ((k:Int)+1)=(k:Int)+1:=Zz (by omega) (by omega)
    have hdg:=(ZiL hd hp (ha x (List.mem_of_getElem? hx))).1
    have hal:a.length≤100:=by rw [hA,List.length_map,List.length_take];omega
    left
    refine⟨a++ [dgV den i.Places x],?_,?_,rfl⟩
    · simp only [XY,hlt,decide_true,if_true,ZN hx,Option.bind_some,hdg,ZdM (show a.length+ [dgV den i.Places x].length≤4294967296 by simp;omega),e1]
    · rw [hA,ZfW hx,List.map_append];rfl
  · rw [hA];simp [XY]
theorem ZjI{i:api_Instrument}{m:api_Memo}{den mk:Int}(hd:1≤den∧den≤1000000)(hp:0≤i.Places∧i.Places≤6)(ha: ∀ z∈m.Tape,nb50 z=true)(hl:m.Tape.length≤100):
    loop (t2 (Jo i den m mk)) ([45,45,45],0)=some (api_Face.mk (tpV den i.Places m.Tape m.Tape.length) 0 false mk):=by
  refine ZaG (xs:=m.Tape) (body:=Jo i den m mk) (fun a k=>a=tpV den i.Places m.Tape k∧k≤m.Tape.length) (fun _ _=>api_Face.mk (tpV den i.Places m.Tape m.Tape.length) 0 false mk) (fun a k x hA hx=> ?_) (fun a hA=> ?_) ⟨rfl,Nat.zero_le _⟩
  · have hlt:=X4 hx
    have e1:i64 ((k:Int)+1)=(k:Int)+1:=Zz (by omega) (by omega)
    obtain⟨_,hdg,hdl⟩:=ZiL hd hp (ha x (List.mem_of_getElem? hx))
    have htl:=Zgz hd hp ha k hA.2
    left
    refine⟨tpV den i.Places m.Tape (k+1),?_,⟨rfl,by omega⟩,rfl⟩
    rw [ZgR hx]
    by_cases h:k=0
    · subst h
      simp [Jo,show(0:Nat)<m.Tape.length by omega,ZN hx,hdg,show idx m.Tape 0=some x from ZN (k:=0) hx,Zz]
    · have h':decide ((k:Int)=0)=false:=decide_eq_false (by omega)
      have c1:cat [32] (dgV den i.Places x)=some ([32]++dgV den i.Places x):=Zd7 (by simp;omega)
      have c2:cat a ([32]++dgV den i.Places x)=some (a++([32]++dgV den i.Places x)):=Zd7 (by rw [hA.1];simp;omega)
      simp only [Jo,hlt,decide_true,if_true,ZN hx,Option.bind_some,h',Bool.false_eq_true,if_false,hdg,c1,c2,e1,if_neg h,hA.1]
      rw [hA.1] at c2
      have c3:cat (tpV den i.Places m.Tape k) (32::dgV den i.Places x)=some (tpV den i.Places m.Tape k++32::dgV den i.Places x):=c2
      simp [c3]
  · rw [hA.1];simp [Jo]
end Go.Vx

namespace Go.Vx
open Go Go.RowKit
theorem ZeT{i:api_Instrument}(h:JO i=0):(1≤i.Kind∧i.Kind≤6)∧(0≤i.Places∧i.Places≤6)∧(i.Kind=2→DialOK i):=by
  have h0:=h
  unfold JO at h
  split at h
  · cases h
  rename_i hk
  split at h
  · cases h
  split at h
  · cases h
  split at h
  · cases h
  rename_i hp
  refine⟨Q9.1 (by simpa using hk),Q9.1 (by simpa using hp),fun h2=> ?_⟩
  exact(ZjG (n:=0) (by unfold ZiV;rw [if_neg (by omega),if_neg (by omega),if_neg (by decide)])).1
theorem Zjk{i:api_Instrument}{m:api_Memo}(hi:JO i=0)(hm:MemoOK i m){den:Int}(hd:1≤den∧den≤1000000){x:api_Sample}{known:Bool}(hx:nb50 x.N=true)(hk:known=false→x.Mark=0):
    ∃ fc,JN i m den x known=some fc∧ZcJ i den m x known=some fc:=by
  obtain⟨⟨k1,k6⟩,hp,hdial⟩:=ZeT hi
  have hl:=Zd5 hm hi
  have hmk:(if known=true then some x.Mark else some 0)=some x.Mark:=by
    cases known with
    |false=>simp [hk rfl]
    |true=>rfl
  have nlit:i.Kind≠3→i.Kind≠5→m.Lit=false:=fun h3 h5=>by
    cases h:m.Lit with
    |false=>rfl
    | true => rcases hm.lit h with e | e
              · exact absurd e h3
              · exact absurd e h5
  obtain⟨d1,d2,_⟩:=ZiL hd hp hx
  obtain⟨d3,d4,_⟩:=ZiL hd hp hm.nr
  unfold JN ZcJ
  rw [hmk]
  simp only [Option.bind_some,Zcc]
  have hK:i.Kind=1∨i.Kind=2∨i.Kind=3∨i.Kind=4∨i.Kind=5∨i.Kind=6:=by omega
  rcases hK with e |e |e |e |e |e
  · have:=nlit (by omega) (by omega)
    cases known
    · exact⟨_,by simp [e,this];rfl,by simp [e]⟩
    · exact⟨_,by simp [e,this,d1];rfl,by simp [e,d2]⟩
  · have:=nlit (by omega) (by omega)
    have hD:=hdial e
    have n1:=Zh7 hD (Q9.1 hx)
    have n2:Zd9 i x.N=some (ndl i x.N):=n1
    obtain⟨s,z1,z2⟩:=Zko hD.zones x.N
    cases known
    · exact⟨_,by simp [e,this];rfl,by simp [e]⟩
    · exact⟨_,by simp [e,this,n1,z1];rfl,by simp [e,n2,z2]⟩
  · cases h:m.Lit
    · cases known
      · exact⟨_,by simp [e,h];rfl,by simp [e,h]⟩
      · exact⟨_,by simp [e,h];rfl,by simp [e,h]⟩
    · exact⟨_,by simp [e,h];rfl,by simp [e,h]⟩
  · have:=nlit (by omega) (by omega)
    cases h:m.Some
    · exact⟨_,by simp [e,this,h];rfl,by simp [e,h]⟩
    · exact⟨_,by simp [e,this,h,d3];rfl,by simp [e,h,d4]⟩
  · obtain⟨d,hd',_,_⟩:=Zhp (z:=m.Count) hm.cr.1 (by have:=hm.cr.2;omega)
    exact⟨_,by simp [e,hd'];rfl,by simp [e,hd']⟩
  · have:=nlit (by omega) (by omega)
    have p1:=Zjv (m:=m) (den:=den) hd hp hm.all hl
    have p2:=ZjI (m:=m) (den:=den) (mk:=x.Mark) hd hp hm.all hl
    have hlen:=Zgz hd hp hm.all m.Tape.length (Nat.le_refl _)
    by_cases h0:m.Tape.length=0
    · have ht:m.Tape= []:=List.length_eq_zero_iff.1 h0
      refine⟨api_Face.mk [45,45,45] 0 false x.Mark,?_,?_⟩
      · simp [e,p1,ht,this]
      · simp [e,p2,ht,tpV]
    · have hj:ZfJ (m.Tape.map (dgV den i.Places)) [32]=some (tpV den i.Places m.Tape m.Tape.length):=by
        have et:tpV den i.Places m.Tape m.Tape.length=Go.Lib.join (m.Tape.map (dgV den i.Places)) [32]:=by unfold tpV;rw [if_neg h0,List.take_length]
        unfold ZfJ
        rw [if_pos ⟨by simp;omega,by rw [←et];omega⟩,et]
      have hg:decide ((0:Int)<(m.Tape.length:Int))=true:=decide_eq_true (by omega)
      refine⟨api_Face.mk (tpV den i.Places m.Tape m.Tape.length) 0 false x.Mark,?_,?_⟩
      · simp only [e,p1,this,Option.bind_some,Zcc,List.length_map,hg,if_true,hj]
        simp
      · simp [e,p2]
end Go.Vx

namespace Go.Vx
open Go Go.RowKit
noncomputable def fcV(p:api_Panel)(l:List api_Track)(s:api_PanelState)(k:Nat):api_Face:=
  match p.Instruments[k]?,s.Memos[k]? with
  |some i,some m=>match tkT l i.Track with
    |some t=>(JN i m t.Series.Den (if 0≤s.Frame then(vV t s.Frame).1 else api_Sample.mk 0 0 0) (if 0≤s.Frame then(vV t s.Frame).2 else false)).getD (api_Face.mk [] 0 false 0)
    |none=>api_Face.mk [] 0 false 0
  |_,_=>api_Face.mk [] 0 false 0
theorem ZjX{t:api_Track}{f:Int}(h:(vV t f).2=false):(vV t f).1.Mark=0:=by
  unfold vV at h ⊢
  cases hh:J8 t.Series.Samples (64*f+63) t.Long with
  |none=>rfl
  |some x=>rw [hh] at h;simp only [ZcO] at h;cases h
theorem ZjV{p:api_Panel}{l:List api_Track}{s:api_PanelState}(hb:XI p l=0)(hs:stateV p s=0):
    ZaB p l s=some ((List.range p.Instruments.length).map (fcV p l s))∧Zfu p l s=some ((List.range p.Instruments.length).map (fcV p l s)):=by
  obtain⟨b1,b2,b3⟩:=ZaF hb
  obtain⟨s1,s2,s3⟩:=ZbR.1 hs
  have hp:=Zbd b1
  have hl:=ZeF b2
  have step: ∀ (k:Nat) i,p.Instruments[k]?=some i→ ∃ (j:Nat) (t:api_Track) (m:api_Memo) (x:api_Sample) (known:Bool),
      Qr l i=some (j:Int)∧Zbi l i.Track=some (t,true)∧l[j]?=some t∧s.Memos[k]?=some m∧
      (if decide (0≤s.Frame)=true then(Jc t s.Frame).bind fun y2=>some (y2.1,y2.2) else some (api_Sample.mk 0 0 0,false))=some (x,known)∧
      (if decide (0≤s.Frame)=true then(ZaW t s.Frame).bind fun y2=>some (y2.1,y2.2) else some (api_Sample.mk 0 0 0,false))=some (x,known)∧
      JN i m t.Series.Den x known=some (fcV p l s k)∧ZcJ i t.Series.Den m x known=some (fcV p l s k):=fun k i hi=>by
    have him:=List.mem_of_getElem? hi
    obtain⟨j,t,t1',t2',t3'⟩:=b3 i him
    obtain⟨m,hm⟩:=QQ (xs:=s.Memos) (k:=k) (by have:=(List.getElem?_eq_some_iff.1 hi).1;omega)
    have hmo:=s3 k i m hi hm
    have hin:=Za0 b1 him
    obtain⟨c1,c2⟩:=ZgD b2 (List.mem_of_getElem? t3')
    have hden:=(ZeR c1).den
    have a1:Qr l i=some (j:Int):=by rw [ZdU hl,t1'];rfl
    have a2:Zbi l i.Track=some (t,true):=by rw [Zit hl,t2'];rfl
    by_cases hf:0≤s.Frame
    · obtain⟨v1,v2⟩:=Zkf c1 c2 (frame:=s.Frame) hf (by omega)
      obtain⟨fc,f1,f2⟩:=Zjk hin hmo hden (x:=(vV t s.Frame).1) (known:=(vV t s.Frame).2) (Ziz c1 _) ZjX
      have e:fcV p l s k=fc:=by unfold fcV;rw [hi,hm];simp only;rw [t2'];simp only [if_pos hf,f1,Option.getD_some]
      exact⟨j,t,m,_,_,a1,a2,t3',hm,by rw [if_pos (decide_eq_true hf),v1];rfl,by rw [if_pos (decide_eq_true hf),v2];rfl,by rw [e];exact f1,by rw [e];exact f2⟩
    · obtain⟨fc,f1,f2⟩:=Zjk hin hmo hden (x:=api_Sample.mk 0 0 0) (known:=false) (by decide) (fun _=>rfl)
      have e:fcV p l s k=fc:=by unfold fcV;rw [hi,hm];simp only;rw [t2'];simp only [if_neg hf,f1,Option.getD_some]
      exact⟨j,t,m,_,_,a1,a2,t3',hm,by rw [if_neg (by simpa using hf)],by rw [if_neg (by simpa using hf)],by rw [e];exact f1,by rw [e];exact f2⟩
  constructor
  · have h:loop (t2 (XF p l s)) ([],0)=some ((List.range p.Instruments.length).map (fcV p l s)):=by
      refine ZaG (xs:=p.Instruments) (body:=XF p l s) (fun a k=>a=(List.range k).map (fcV p l s)) (fun _ _=>(List.range p.Instruments.length).map (fcV p l s)) (fun a k i ha hi=> ?_) (fun a ha=> ?_) (by simp)
      · have hlt:=X4 hi
        obtain⟨j,t,m,x,known,a1,a2,a3,a4,a5,a6,a7,a8⟩:=step k i hi
        have e1:i64 ((k:Int)+1)=(k:Int)+1:=Zz (by omega) (by omega)
        have hal:a.length=k:=by rw [ha];simp
        left
        refine⟨a++ [fcV p l s k],?_,?_,rfl⟩
        · simp only [XF,hlt,decide_true,if_true,ZN hi,Option.bind_some,a1,ZN a3,a5,ZdE,ZN a4,a7,ZdM (show a.length+ [fcV p l s k].length≤4294967296 by simp;omega),e1]
        · rw [ha,List.range_succ,List.map_append];rfl
      · rw [ha];simp [XF]
    unfold ZaB
    rw [h];rfl
  · have h:loop (t2 (Jx p l s)) ([],0)=some ((List.range p.Instruments.length).map (fcV p l s)):=by
      refine ZaG (xs:=p.Instruments) (body:=Jx p l s) (fun a k=>a=(List.range k).map (fcV p l s)) (fun _ _=>(List.range p.Instruments.length).map (fcV p l s)) (fun a k i ha hi=> ?_) (fun a ha=> ?_) (by simp)
      · have hlt:=X4 hi
        obtain⟨j,t,m,x,known,a1,a2,a3,a4,a5,a6,a7,a8⟩:=step k i hi
        have e1:i64 ((k:Int)+1)=(k:Int)+1:=Zz (by omega) (by omega)
        have hal:a.length=k:=by rw [ha];simp
        left
        refine⟨a++ [fcV p l s k],?_,?_,rfl⟩
        · simp only [Jx,hlt,decide_true,if_true,ZN hi,Option.bind_some,a2,a6,ZdE,ZN a4,a8,ZdM (show a.length+ [fcV p l s k].length≤4294967296 by simp;omega),e1]
        · rw [ha,List.range_succ,List.map_append];rfl
      · rw [ha];simp [Jx]
    unfold Zfu
    rw [h];rfl
end Go.Vx

namespace Go.Vx
open Go Go.RowKit
def ZgT(p:api_Panel)(l:List api_Track)(s:api_PanelState):api_PanelState:=api_PanelState.mk (s.Frame+1) ((List.range p.Instruments.length).map (nxt p l s))
structure Inv (p:api_Panel) (s:api_PanelState) (n:Nat):Prop where
  fr:s.Frame=(n:Int)-1
  ok:stateV p s=0
  cnt: ∀ m∈s.Memos,m.Count≤(n:Int)
theorem Zis{i:api_Instrument}{m:api_Memo}(n:Int)(known:Bool)(h:0≤m.Count∧m.Count≤20000):(Zf8 i m n known).Count≤m.Count+1:=by
  have e:i64 (m.Count+1)=m.Count+1:=Zz (by omega) (by omega)
  unfold Zf8
  split
  · simp only;omega
  · split
    · split
      · simp only [e];omega
      · simp only;omega
    · split
      · simp only;omega
      · split
        · simp only;omega
        · omega
theorem Zj6{p:api_Panel}{l:List api_Track}{s:api_PanelState}(hb:XI p l=0)(hs:stateV p s=0){k:Nat}{i:api_Instrument}(hi:p.Instruments[k]?=some i):
    ∃ m t,s.Memos[k]?=some m∧(chk t.Series).2=0∧MemoOK i m∧JO i=0∧nxt p l s k=Zf8 i m (vV t (s.Frame+1)).1.N (vV t (s.Frame+1)).2:=by
  obtain⟨b1,b2,b3⟩:=ZaF hb
  obtain⟨s1,s2,s3⟩:=ZbR.1 hs
  have him:=List.mem_of_getElem? hi
  obtain⟨j,t,t1',t2',t3'⟩:=b3 i him
  obtain⟨m,hm⟩:=QQ (xs:=s.Memos) (k:=k) (by have:=(List.getElem?_eq_some_iff.1 hi).1;omega)
  exact⟨m,t,hm,(ZgD b2 (List.mem_of_getElem? t3')).1,s3 k i m hi hm,Za0 b1 him,by unfold nxt;rw [hi,hm];simp only;rw [t2']⟩
theorem ZjP{p:api_Panel}{l:List api_Track}{s:api_PanelState}{n:Nat}(hb:XI p l=0)(h:Inv p s n)(hn:n≤19999):Inv p (ZgT p l s) (n+1):=by
  have hf:=h.fr
  refine⟨by simp only [ZgT,hf];omega,?_,?_⟩
  · refine ZbR.2 ⟨⟨by simp only [ZgT,hf];omega,by simp only [ZgT,hf];omega⟩,by simp [ZgT],fun k i m' hi hm'=> ?_⟩
    obtain⟨m,t,hm,hc,hmo,hin,e⟩:=Zj6 hb h.ok hi
    have hk:=(List.getElem?_eq_some_iff.1 hi).1
    have:m'=nxt p l s k:=by
      simp only [ZgT,List.getElem?_map,List.getElem?_range hk,Option.map_some,Option.some.injEq] at hm'
      exact hm'.symm
    rw [this,e]
    have:=h.cnt m (List.mem_of_getElem? hm)
    exact Zkv hmo (Zd2 hin).1 (Ziz hc _) _ (by omega)
  · intro m' hm'
    simp only [ZgT,List.mem_map,List.mem_range] at hm'
    obtain⟨k,hk,rfl⟩:=hm'
    obtain⟨i,hi⟩:=QQ (xs:=p.Instruments) (k:=k) hk
    obtain⟨m,t,hm,hc,hmo,hin,e⟩:=Zj6 hb h.ok hi
    rw [e]
    have h1:=h.cnt m (List.mem_of_getElem? hm)
    have h2:=Zis (i:=i) (m:=m) (vV t (s.Frame+1)).1.N (vV t (s.Frame+1)).2 hmo.cr
    omega
end Go.Vx

namespace Go.Vx
open Go Go.RowKit
def st0(p:api_Panel):api_PanelState:=api_PanelState.mk (-1) (List.replicate p.Instruments.length (api_Memo.mk false false 0 0 []))
theorem Zjw{p:api_Panel}(h:ZeO p=0):Inv p (st0 p) 0:=by
  refine⟨rfl,ZbR.2 ⟨⟨by simp [st0],by simp [st0]⟩,by simp [st0],fun k i m hi hm=> ?_⟩,fun m hm=> ?_⟩
  · have hm':m=api_Memo.mk false false 0 0 []:=(List.mem_replicate.1 (List.mem_of_getElem? hm)).2
    have hin:=Za0 h (List.mem_of_getElem? hi)
    have hsz:0≤i.Size:=by
      have h0:=hin
      unfold JO at h0
      split at h0
      · cases h0
      split at h0
      · cases h0
      split at h0
      · cases h0
      rename_i hu
      by_cases h6:i.Kind=6
      · have:=(Zd2 hin).1 h6;omega
      · have hu:unV i=false:=by simpa using hu
        unfold unV at hu
        simp only [Bool.or_eq_false_iff] at hu
        have h1:=hu.2
        simp only [h6,decide_false,Bool.not_false,Bool.and_true,Bool.not_eq_false',decide_eq_true_eq] at h1
        omega
    subst hm'
    refine⟨?_,?_,?_,?_,?_,⟨by simp,by simp⟩,by decide,by simpa using hsz,?_⟩
    · intro h;cases h
    · intro h;cases h
    · intro h;exact absurd rfl h
    · intro h;exact absurd rfl h
    · intro h;simp at h
    · intro z hz;cases hz
  · have hm':m=api_Memo.mk false false 0 0 []:=(List.mem_replicate.1 hm).2
    subst hm';simp
end Go.Vx

namespace Go.Vx
open Go Go.RowKit Go.Lib
set_option maxHeartbeats 1000000
theorem Zim{l:List Int}(hl:l.length≤1000000):QH l l=some true:=by
  have h:loop (t1 (Z6 l l)) 0=some (Sum.inr ()):=by
    refine ZbQ (xs:=l) (body:=Z6 l l) (fun _=>Sum.inr ()) (fun k x hx=> .inl ⟨?_,rfl⟩) (by simp [Z6])
    have hlt:=X4 hx
    have e1:i64 ((k:Int)+1)=(k:Int)+1:=Zz (by omega) (by omega)
    simp [Z6,hlt,ZN hx,e1]
  unfold QH
  rw [h];simp
theorem Zic{l:List api_Face}(hl:l.length≤1000000):ZT l l=some true:=by
  have h:loop (t1 (ZI l l)) 0=some (Sum.inr ()):=by
    refine ZbQ (xs:=l) (body:=ZI l l) (fun _=>Sum.inr ()) (fun k x hx=> .inl ⟨?_,rfl⟩) (by simp [ZI])
    have hlt:=X4 hx
    have e1:i64 ((k:Int)+1)=(k:Int)+1:=Zz (by omega) (by omega)
    simp [ZI,hlt,ZN hx,e1]
  unfold ZT
  rw [h];simp
end Go.Vx
