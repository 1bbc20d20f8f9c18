/- A text of the proof: a verified executor of the program form, or the contracts of the functions that the law reaches. -/
import Derived.Test.YtjjknklgafdeiaaGreatDoorShT
import Derived.Test.YtjjknklgafdeiaaGreatDoorShLib
import Derived.Test.YtjjknklgafdeiaaGreatDoorVH
import Derived.Test.YtjjknklgafdeiaaGreatDoorVP
import Derived.Test.YtjjknklgafdeiaaGreatDoorVR
set_option linter.all false
namespace Go.Vx
open Go Go.RowKit
theorem lnb{α β:Type}{x:Option α}{f:α→Option β}{r:β}(h:x.bind f=some r): ∃ a,x=some a∧f a=some r:=Option.bind_eq_some_iff.1 h
theorem QR{data:List Int}{a b:Int}{cmp:Int→Int→Option Int}{r:List Int}(h:ZQ data a b cmp=some r):r.length=data.length:=by
  unfold ZQ at h
  refine Zbd (body:=t2 (ZM a b cmp)) (fun x=>x.1.length=data.length) (fun o=>o.length=data.length) ?_ ?_ rfl h
  · rintro⟨o,i⟩ s' hs hb
    simp only [QG] at hb hs
    unfold ZM at hb
    split at hb
    · obtain⟨o2,h2,hb⟩:=lnb hb
      cases hb
      refine Zbd (body:=t2 (ZT a cmp)) (fun x=>x.1.length=data.length) (fun o=>o.length=data.length) ?_ ?_ hs h2
      · rintro⟨o,j⟩ s' hs hb
        simp only [QG] at hb hs
        unfold ZT at hb
        obtain⟨_,_,hb⟩:=lnb hb
        obtain⟨_,_,hb⟩:=lnb hb
        obtain⟨_,_,hb⟩:=lnb hb
        split at hb
        · obtain⟨_,_,hb⟩:=lnb hb
          obtain⟨_,_,hb⟩:=lnb hb
          obtain⟨_,_,hb⟩:=lnb hb
          obtain⟨_,_,hb⟩:=lnb hb
          cases hb
          simpa using hs
        · cases hb
      · rintro⟨o,j⟩ s' hs hb
        simp only [QG] at hb hs
        unfold ZT at hb
        obtain⟨_,_,hb⟩:=lnb hb
        obtain⟨_,_,hb⟩:=lnb hb
        obtain⟨_,_,hb⟩:=lnb hb
        split at hb
        · obtain⟨_,_,hb⟩:=lnb hb
          obtain⟨_,_,hb⟩:=lnb hb
          obtain⟨_,_,hb⟩:=lnb hb
          obtain⟨_,_,hb⟩:=lnb hb
          cases hb
        · cases hb;exact hs
    · cases hb
  · rintro⟨o,i⟩ s' hs hb
    simp only [QG] at hb hs
    unfold ZM at hb
    split at hb
    · obtain⟨o2,h2,hb⟩:=lnb hb
      cases hb
    · cases hb;exact hs
theorem QJ{data:List Int}{a b n:Int}{cmp:Int→Int→Option Int}{r:List Int}(h:ZZ data a b n cmp=some r):r.length=data.length:=by
  unfold ZZ at h
  refine Zbd (body:=t2 (Qi a b n)) (fun x=>x.1.length=data.length) (fun o=>o.length=data.length) ?_ ?_ rfl h
  · rintro⟨o,i⟩ s' hs hb
    simp only [QG] at hb hs
    unfold Qi at hb
    split at hb
    · obtain⟨_,_,hb⟩:=lnb hb
      obtain⟨_,_,hb⟩:=lnb hb
      obtain⟨_,_,hb⟩:=lnb hb
      obtain⟨_,_,hb⟩:=lnb hb
      cases hb
      simpa using hs
    · cases hb
  · rintro⟨o,i⟩ s' hs hb
    simp only [QG] at hb hs
    unfold Qi at hb
    split at hb
    · obtain⟨_,_,hb⟩:=lnb hb
      obtain⟨_,_,hb⟩:=lnb hb
      obtain⟨_,_,hb⟩:=lnb hb
      obtain⟨_,_,hb⟩:=lnb hb
      cases hb
    · cases hb;exact hs
theorem ZaH{data:List Int}{a m b:Int}{cmp:Int→Int→Option Int}{r:List Int}(h:Qq data a m b cmp=some r):r.length=data.length:=by
  unfold Qq at h
  obtain⟨⟨o,i⟩,ho,h⟩:=lnb h
  simp only [QG] at h
  obtain⟨y,hy,h⟩:=lnb h
  cases h
  refine(QJ hy).trans ?_
  refine Zbd (body:=t3 (Qo m cmp)) (fun x=>x.1.length=data.length) (fun o=>o.1.length=data.length) ?_ ?_ rfl ho
  · rintro⟨o,i,j⟩ s' hs hb
    simp only [Zef] at hb hs
    unfold Qo at hb
    split at hb
    · split at hb
      · obtain⟨z,hz,hb⟩:=lnb hb
        cases hb
        exact(QJ hz).trans hs
      · obtain⟨z,hz,hb⟩:=lnb hb
        cases hb
        exact(QJ hz).trans hs
    · cases hb
  · rintro⟨o,i,j⟩ s' hs hb
    simp only [Zef] at hb hs
    unfold Qo at hb
    split at hb
    · split at hb
      · obtain⟨z,hz,hb⟩:=lnb hb
        cases hb
      · obtain⟨z,hz,hb⟩:=lnb hb
        cases hb
    · cases hb;exact hs
theorem Zpe{rec_:List Int→Int→Int→Int→(Int→Int→Option Int)→Option (List Int)}{data:List Int}{a m b:Int}{cmp:Int→Int→Option Int}{r:List Int}
    (hr: ∀ {data:List Int} {a m b:Int} {cmp:Int→Int→Option Int} {r:List Int},rec_ data a m b cmp=some r→r.length=data.length) (h:Qm rec_ data a m b cmp=some r):r.length=data.length:=by
  unfold Qm at h
  split at h
  · obtain⟨i,_,h⟩:=lnb h
    simp only [Z8] at h
    obtain⟨o,ho,h⟩:=lnb h
    cases h
    refine Zbd (body:=t2 (Z0 i)) (fun x=>x.1.length=data.length) (fun o=>o.length=data.length) ?_ ?_ rfl ho
    · rintro⟨o,k⟩ s' hs hb
      simp only [QG] at hb hs
      unfold Z0 at hb
      split at hb
      · obtain⟨_,_,hb⟩:=lnb hb
        obtain⟨_,_,hb⟩:=lnb hb
        obtain⟨_,_,hb⟩:=lnb hb
        obtain⟨_,_,hb⟩:=lnb hb
        cases hb
        simpa using hs
      · cases hb
    · rintro⟨o,k⟩ s' hs hb
      simp only [QG] at hb hs
      unfold Z0 at hb
      split at hb
      · obtain⟨_,_,hb⟩:=lnb hb
        obtain⟨_,_,hb⟩:=lnb hb
        obtain⟨_,_,hb⟩:=lnb hb
        obtain⟨_,_,hb⟩:=lnb hb
        cases hb
      · cases hb;exact hs
  · split at h
    · obtain⟨i,_,h⟩:=lnb h
      simp only [Z8] at h
      obtain⟨o,ho,h⟩:=lnb h
      cases h
      refine Zbd (body:=t2 (Z3 i)) (fun x=>x.1.length=data.length) (fun o=>o.length=data.length) ?_ ?_ rfl ho
      · rintro⟨o,k⟩ s' hs hb
        simp only [QG] at hb hs
        unfold Z3 at hb
        split at hb
        · obtain⟨_,_,hb⟩:=lnb hb
          obtain⟨_,_,hb⟩:=lnb hb
          obtain⟨_,_,hb⟩:=lnb hb
          obtain⟨_,_,hb⟩:=lnb hb
          cases hb
          simpa using hs
        · cases hb
      · rintro⟨o,k⟩ s' hs hb
        simp only [QG] at hb hs
        unfold Z3 at hb
        split at hb
        · obtain⟨_,_,hb⟩:=lnb hb
          obtain⟨_,_,hb⟩:=lnb hb
          obtain⟨_,_,hb⟩:=lnb hb
          obtain⟨_,_,hb⟩:=lnb hb
          cases hb
        · cases hb;exact hs
    · obtain⟨q3,_,h⟩:=lnb h
      obtain⟨⟨st,rr⟩,_,h⟩:=lnb h
      simp only [QG] at h
      obtain⟨s2,_,h⟩:=lnb h
      simp only [Z8] at h
      obtain⟨o5,h5,h⟩:=lnb h
      simp only [Z8] at h
      obtain⟨o6,h6,h⟩:=lnb h
      simp only [Z8] at h
      have l5:o5.length=data.length:=by
        split at h5
        · obtain⟨z,hz,h5⟩:=lnb h5
          cases h5
          exact ZaH hz
        · cases h5;rfl
      have l6:o6.length=data.length:=by
        split at h6
        · obtain⟨z,hz,h6⟩:=lnb h6
          cases h6
          exact(hr hz).trans l5
        · cases h6;exact l5
      split at h
      · obtain⟨z,hz,h⟩:=lnb h
        cases h
        exact(hr hz).trans l6
      · cases h;exact l6
theorem QP{n_:Nat}{data:List Int}{a m b:Int}{cmp:Int→Int→Option Int}{r:List Int}(h:Z6 n_ data a m b cmp=some r):r.length=data.length:=by
  induction n_ generalizing data a m b cmp r with
  |zero=>cases h
  |succ n ih=>exact Zpe (rec_:=Z6 n) (fun h=>ih h) h
theorem Zdp{data:List Int}{n:Int}{cmp:Int→Int→Option Int}{r:List Int}(hy:QU data n cmp=some r):r.length=data.length:=by
  unfold QU at hy
  obtain⟨⟨o,a⟩,ho,hy⟩:=lnb hy
  simp only [QG] at hy
  obtain⟨y2,hy2,hy⟩:=lnb hy
  have h1:o.length=data.length:=by
    refine Zbd (body:=t3 (Qg n cmp)) (fun s=>s.1.length=data.length) (fun q=>q.1.length=data.length) ?_ ?_ rfl ho
    · rintro⟨o,a,b⟩ s' hs hb
      simp only [Zef] at hb hs
      unfold Qg at hb
      split at hb
      · obtain⟨z,hz,hb⟩:=lnb hb
        cases hb
        exact(QR hz).trans hs
      · cases hb
    · rintro⟨o,a,b⟩ s' hs hb
      simp only [Zef] at hb hs
      unfold Qg at hb
      split at hb
      · obtain⟨z,hz,hb⟩:=lnb hb
        cases hb
      · cases hb;exact hs
  have h2:y2.length=data.length:=(QR hy2).trans h1
  have inner: ∀ (bs:Int) (s:List Int) (q:List Int×Int),s.length=data.length→loop (t3 (Z9 n cmp bs)) (s,0,i64 (2*bs))=some q→q.1.length=data.length:=by
    intro bs s q hs hq
    refine Zbd (body:=t3 (Z9 n cmp bs)) (fun s=>s.1.length=data.length) (fun q=>q.1.length=data.length) ?_ ?_ hs hq
    · rintro⟨o,a,b⟩ s' hs hb
      simp only [Zef] at hb hs
      unfold Z9 at hb
      split at hb
      · obtain⟨z,hz,hb⟩:=lnb hb
        cases hb
        exact(QP hz).trans hs
      · cases hb
    · rintro⟨o,a,b⟩ s' hs hb
      simp only [Zef] at hb hs
      unfold Z9 at hb
      split at hb
      · obtain⟨z,hz,hb⟩:=lnb hb
        cases hb
      · cases hb;exact hs
  refine Zbd (body:=t2 (Qa n cmp)) (fun s=>s.1.length=data.length) (fun q=>q.length=data.length) ?_ ?_ h2 hy
  · rintro⟨o,bs⟩ s' hs hb
    simp only [QG] at hb hs
    unfold Qa at hb
    split at hb
    · obtain⟨⟨o4,a3⟩,h4,hb⟩:=lnb hb
      simp only [QG] at hb
      have l4:=inner bs o _ hs h4
      split at hb
      · obtain⟨z,hz,hb⟩:=lnb hb
        cases hb
        exact(QP hz).trans l4
      · cases hb;exact l4
    · cases hb
  · rintro⟨o,bs⟩ s' hs hb
    simp only [QG] at hb hs
    unfold Qa at hb
    split at hb
    · obtain⟨⟨o4,a3⟩,h4,hb⟩:=lnb hb
      simp only [QG] at hb
      split at hb
      · obtain⟨z,hz,hb⟩:=lnb hb
        cases hb
      · cases hb
    · cases hb;exact hs
theorem Zcm{x:List Int}{cmp:Int→Int→Option Int}{r:List Int}(h:Qj x cmp=some r):r.length=x.length:=by
  unfold Qj at h
  obtain⟨y,hy,h⟩:=lnb h
  cases h
  exact Zdp hy
end Go.Vx

namespace Go.Vx
open Go Go.RowKit
theorem ZL{z:Int}(h1: -9223372036854775808≤z)(h2:z≤9223372036854775807):IntKind.i64.wrap z=z:=w64 h1 h2
theorem Zpo{z:Int}(h1:0≤z)(h2:z<18446744073709551616):IntKind.u64.wrap z=z:=ZtH h1 h2
@[simp] theorem Zdj {α:Type} {d:α} {o:Option α}:gd true d o=o:=rfl
@[simp] theorem ZqE {α:Type} {d:α} {o:Option α}:gd false d o=some d:=rfl
@[simp] theorem ZcJ {α:Type} {d:α} {o:Option α}:gd (true==true) d o=o:=rfl
theorem Zw{α:Type}{xs:List α}{k:Nat}{x:α}(h:xs[k]?=some x):idx xs (k:Int)=some x:=by simp [idx,h]
theorem Zrk{α:Type}{xs:List α}{k:Nat}{x:α}(h:xs[k]?=some x):(k:Int)<(xs.length:Int):=by
  have:=(List.getElem?_eq_some_iff.1 h).1;omega
theorem ZF{α:Type}{xs:List α}{k:Nat}(h:k<xs.length): ∃ x,xs[k]?=some x:=⟨xs[k],List.getElem?_eq_getElem h⟩
theorem ZeD{α:Type}{xs:List α}{k:Nat}{x:α}(h:xs[k]?=some x):xs.drop k=x::xs.drop (k+1):=by
  obtain⟨hk,rfl⟩:=List.getElem?_eq_some_iff.1 h
  exact List.drop_eq_getElem_cons hk
theorem Xk{α:Type}{xs ys:List α}(h:xs.length+ys.length≤4294967296):app xs ys=some (xs++ys):=by unfold app apz;rw [if_pos (by omega)]
section loops
variable {σ ρ:Type}
theorem Zcx{body:σ→Option (σ ⊕ ρ)}(I:σ→Prop)(μ:σ→Nat)(F:σ→ρ)(step: ∀ s,I s→(∃ s',body s=some (.inl s')∧I s'∧μ s'<μ s∧F s=F s')∨body s=some (.inr (F s))):
    ∀ s,I s→loop body s=some (F s):=by
  intro s hs
  obtain⟨r,h1,h2⟩:=ZbE (body:=body) (fun s'=>I s'∧F s=F s') μ (fun r=>r=F s) (fun s' ⟨h1,h2⟩=>by
    rcases step s' h1 with ⟨s2,e1,e2,e3,e4⟩ |e
    · exact .inl ⟨s2,e1,⟨e2,h2.trans e4⟩,e3⟩
    · exact .inr ⟨_,e,h2.symm⟩) s ⟨hs,rfl⟩
  rw [h1,h2]
variable {α:Type} {xs:List α}
theorem ZgL{body:Int→Option (Int ⊕ ρ)}(F:Nat→ρ)
    (hstep: ∀ (k:Nat) x,xs[k]?=some x→(body k=some (.inl ((k:Int)+1))∧F k=F (k+1))∨body k=some (.inr (F k)))
    (hend:body xs.length=some (.inr (F xs.length))):loop (t1 body) 0=some (F 0):=by
  refine Zcx (body:=t1 body) (fun i=> ∃ k:Nat,i=k∧k≤xs.length) (fun i=>xs.length-i.toNat) (fun i=>F i.toNat) ?_ 0 ⟨0,rfl,Nat.zero_le _⟩
  rintro i ⟨k,rfl,hk⟩
  simp only [Int.toNat_natCast,Z8]
  rcases Nat.lt_or_ge k xs.length with h |h
  · obtain⟨x,hx⟩:=ZF h
    rcases hstep k x hx with ⟨h1,h2⟩ |h1
    · exact .inl ⟨_,h1,⟨k+1,by push_cast;rfl,h⟩,by omega,by rw [h2];rfl⟩
    · exact .inr h1
  · have:k=xs.length:=by omega
    subst this
    exact .inr hend
end loops
end Go.Vx

namespace Go.Vx
open Go Go.RowKit
section err
variable {α ε:Type}
def Zid{ρ:Type}(A:ε→ρ)(Z:ρ):Option ε→ρ
  |some e=>A e
  |none=>Z
@[simp] theorem Zsc {ρ:Type} (A:ε→ρ) (Z:ρ) (e:ε):Zid A Z (some e)=A e:=rfl
@[simp] theorem Zsk {ρ:Type} (A:ε→ρ) (Z:ρ):Zid A Z none=Z:=rfl
def Zfu(g:α→Option ε):List α→Option ε
  | []=>none
  |x::tl=>match g x with |some e=>some e |none=>Zfu g tl
theorem Zkk{ρ:Type}{xs:List α}(g:α→Option ε)(A:ε→ρ)(Z:ρ){body:Int→Option (Int ⊕ ρ)}
    (h: ∀ (k:Nat) x,xs[k]?=some x→body k=match g x with |some e=>some (.inr (A e)) |none=>some (.inl ((k:Int)+1)))
    (hend:body xs.length=some (.inr Z)):loop (t1 body) 0=some (Zid A Z (Zfu g xs)):=by
  refine ZgL (xs:=xs) (fun k=>Zid A Z (Zfu g (xs.drop k))) (fun k x hx=> ?_) ?_
  · rw [h k x hx,ZeD hx]
    simp only [Zfu]
    cases hg:g x with
    |some e=>right;rfl
    |none=>left;exact⟨rfl,rfl⟩
  · rw [hend];simp [Zfu]
end err
theorem Zlz{α:Type}{xs:List α}{body:List α→Int→Option ((List α×Int) ⊕ (List α))}(g:α→α)
    (hstep: ∀ (k:Nat) x acc,xs[k]?=some x→acc.length=xs.length→acc[k]?=some x→ ∃ acc',body acc k=some (.inl (acc',(k:Int)+1))∧acc'=acc.set k (g x))
    (hend: ∀ acc,body acc xs.length=some (.inr acc)):loop (t2 body) (xs,0)=some (xs.map g):=by
  refine(Zcx (body:=t2 body) (fun p=> ∃ k:Nat,p.2=k∧k≤xs.length∧p.1=(xs.take k).map g++xs.drop k) (fun p=>xs.length-p.2.toNat) (fun _=>xs.map g) ?_ (xs,0) ⟨0,rfl,Nat.zero_le _,by simp⟩)
  rintro⟨acc,i⟩ ⟨k,hi,hk,ha⟩
  simp only at hi ha
  subst hi
  simp only [QG]
  rcases Nat.lt_or_ge k xs.length with h |h
  · obtain⟨x,hx⟩:=ZF h
    left
    have hlen:acc.length=xs.length:=by rw [ha];simp;omega
    have hm:(xs.take k).length=k:=by simp;omega
    have hax:acc[k]?=some x:=by
      rw [ha,List.getElem?_append_right (by simp;omega)]
      simp [hm,hx,show min k xs.length=k by omega]
    obtain⟨acc',h1,h2⟩:=hstep k x acc hx hlen hax
    refine⟨_,h1,⟨k+1,by push_cast;rfl,h,?_⟩,by simp only;omega,trivial⟩
    simp only
    rw [h2,ha,ZeD hx]
    have e1:xs.take (k+1)=xs.take k++ [x]:=by
      rw [List.take_succ,hx];rfl
    rw [e1,List.map_append,List.set_append,if_neg (by simp;omega)]
    have:k-((xs.take k).map g).length=0:=by simp;omega
    rw [this]
    simp
  · have:k=xs.length:=by omega
    subst this
    right
    rw [hend,ha];simp
end Go.Vx

namespace Go.Vx
open Go Go.RowKit
theorem ZoF{z:Int}(h1: -9223372036854775808≤z)(h2:z≤9223372036854775807):i64 z=z:=ZL h1 h2
theorem ZrI{n:Nat}(h:n≤61):(1:Int)≤2^n∧(2:Int)^n≤2305843009213693952:=by
  have e:((2^n:Nat):Int)=(2:Int)^n:=by push_cast;rfl
  have h1:1≤2^n:=Nat.one_le_two_pow
  have h2:2^n≤2^61:=Nat.pow_le_pow_right (by decide) h
  rw [show(2:Nat)^61=2305843009213693952 by decide] at h2
  omega
theorem ZfN{v:Int}{n:Nat}(hn:n≤61):XF .i64 v ((2:Int)^n-1)=v % (2:Int)^n:=by
  have hb:=ZrI hn
  have e:((2:Int)^n-1)=((2^n-1:Nat):Int):=by
    have h1:1≤2^n:=Nat.one_le_two_pow
    have h2:((2^n:Nat):Int)=(2:Int)^n:=by push_cast;rfl
    omega
  have h2:2^n≤2^61:=Nat.pow_le_pow_right (by decide) hn
  have h2p:0<2^n:=Nat.two_pow_pos n
  have e2 : (BitVec.ofInt 64 ((2 : Int) ^ n - 1)).toNat = 2 ^ n - 1 := by
    rw [e,BitVec.ofInt_natCast,BitVec.toNat_ofNat]
    exact Nat.mod_eq_of_lt (by have : (2 : Nat) ^ 61 < 2 ^ 64 := by decide
                               omega)
  have e3:((BitVec.ofInt 64 v).toNat:Int)=v % (2:Int)^64:=by
    rw [BitVec.toNat_ofInt]
    have:(0:Int)≤v % ((2^64:Nat):Int):=Int.emod_nonneg _ (by decide)
    rw [Int.toNat_of_nonneg this];rfl
  have e4:((BitVec.ofInt 64 v&&&BitVec.ofInt 64 ((2:Int)^n-1)).toNat:Int)=v % (2:Int)^n:=by
    rw [BitVec.toNat_and,e2,Nat.and_two_pow_sub_one_eq_mod]
    push_cast
    rw [e3]
    have:((2:Int)^n)∣(2:Int)^64:=⟨(2:Int)^(64-n),by rw [←Int.pow_add];congr 1;omega⟩
    exact Int.emod_emod_of_dvd v this
  have hp:(0:Int)<(2:Int)^n:=by omega
  have b1:=Int.emod_nonneg v (show(2:Int)^n≠0 by omega)
  have b2:=Int.emod_lt_of_pos v hp
  unfold XF
  have:IntKind.i64.bits=64:=rfl
  rw [this,e4]
  exact ZoF (by omega) (by omega)
theorem Ztv{a b n:Nat}(ha:a<2^n)(hb:a+2^n*b<2^62):bor .i64 (a:Int) ((2^n*b:Nat):Int)=((a+2^n*b:Nat):Int):=by
  unfold bor
  have e0:IntKind.i64.bits=64:=rfl
  have h64:(2:Nat)^62<2^64:=by decide
  have e1:(BitVec.ofInt 64 (a:Int)).toNat=a:=by
    rw [BitVec.ofInt_natCast,BitVec.toNat_ofNat];exact Nat.mod_eq_of_lt (by omega)
  have e2:(BitVec.ofInt 64 ((2^n*b:Nat):Int)).toNat=2^n*b:=by
    rw [BitVec.ofInt_natCast,BitVec.toNat_ofNat];exact Nat.mod_eq_of_lt (by omega)
  rw [e0,BitVec.toNat_or,e1,e2,Nat.or_comm,←Nat.two_pow_add_eq_or_of_lt ha,Nat.add_comm]
  have h62:(2:Nat)^62=4611686018427387904:=by decide
  exact ZoF (by omega) (by omega)
end Go.Vx

namespace Go.Vx
open Go Go.RowKit
theorem Zm7{a:Nat}(h:a<9223372036854775808):(BitVec.ofInt 64 (a:Int)).toNat=a:=by
  rw [BitVec.ofInt_natCast,BitVec.toNat_ofNat];exact Nat.mod_eq_of_lt (by omega)
theorem ZrA{a b:Nat}(ha:a<9223372036854775808)(hb:b<9223372036854775808):XF .i64 (a:Int) (b:Int)=((a&&&b:Nat):Int):=by
  unfold XF
  have e0:IntKind.i64.bits=64:=rfl
  rw [e0,BitVec.toNat_and,Zm7 ha,Zm7 hb]
  have:=Nat.and_le_left (n:=a) (m:=b)
  exact ZoF (by omega) (by omega)
theorem ZkQ{a b:Nat}(ha:a<9223372036854775808)(hb:b<9223372036854775808):Zaq .i64 (a:Int) (b:Int)=((a^^^b:Nat):Int):=by
  unfold Zaq
  have e0:IntKind.i64.bits=64:=rfl
  rw [e0,BitVec.toNat_xor,Zm7 ha,Zm7 hb]
  have:a^^^b<2^63:=Nat.xor_lt_two_pow (by omega) (by omega)
  exact ZoF (by omega) (by omega)
def restB:BitVec 22:=2097167#22
def zS(v:BitVec 22):BitVec 22:=(v<<<1)^^^(if v.msb then restB else 0#22)
theorem Zsd(a b:BitVec 22):zS (a^^^b)=zS a^^^zS b:=by
  have e1: ∀ x y r:BitVec 22,(x^^^r)^^^(y^^^r)=x^^^y:=fun x y r=>by
    rw [BitVec.xor_assoc,BitVec.xor_comm y r,←BitVec.xor_assoc r r y,BitVec.xor_self,BitVec.zero_xor]
  have e2: ∀ x y r:BitVec 22,(x^^^r)^^^y=(x^^^y)^^^r:=fun x y r=>by
    rw [BitVec.xor_assoc,BitVec.xor_comm r y,←BitVec.xor_assoc]
  unfold zS
  rw [BitVec.shiftLeft_xor_distrib,BitVec.msb_xor]
  cases a.msb<;>cases b.msb
  · simp
  · simp [BitVec.xor_assoc]
  · simp [e2]
  · simp [e1]
def pS(b:Nat→Bool):Nat→BitVec 22
  |0=>0#22
  |k+1=>zS (pS b k)^^^(if b k then restB else 0#22)
def rS(b:Nat→Bool):Nat→BitVec 22
  |0=>0#22
  |k+1=>zS (rS b k)^^^(if b k then 1#22 else 0#22)
def zI:Nat→BitVec 22→BitVec 22
  |0,v=>v
  |k+1,v=>zS (zI k v)
theorem ZrH(k:Nat)(a b:BitVec 22):zI k (a^^^b)=zI k a^^^zI k b:=by
  induction k with
  |zero=>rfl
  |succ k ih=>simp only [zI,ih,Zsd]
theorem Zs4(k:Nat)(v:BitVec 22):zI k (zS v)=zS (zI k v):=by
  induction k with
  |zero=>rfl
  |succ k ih=>simp only [zI,ih]
theorem zI_one:zI 22 1#22=restB:=by decide
theorem zI_zero:zI 22 0#22=0#22:=by decide
theorem Zrd(b:Nat→Bool): ∀ k,pS b k=zI 22 (rS b k)
  |0=>zI_zero.symm
  |k+1=>by
    rw [pS,rS,ZrH,Zs4,Zrd b k]
    congr 1
    cases b k
    · exact zI_zero.symm
    · exact zI_one.symm
theorem Zm1{b:Nat→Bool}{n:Nat}(h: ∀ k,n≤k→b k=false): ∀ j,rS b (n+j)=zI j (rS b n)
  |0=>rfl
  |j+1=>by
    rw [←Nat.add_assoc,rS,Zm1 h j,h _ (by omega)]
    simp [zI]
theorem ZrT{b:Nat→Bool}{n:Nat}(h: ∀ k,n≤k→b k=false):rS b (n+22)=pS b n:=by rw [Zm1 h,Zrd]
theorem Ztx(v:BitVec 22):decide (XF .i64 (v.toNat:Int) 2097152=0)= !v.msb:=by
  have:=v.isLt
  rw [show(2097152:Int)=((2097152:Nat):Int) from rfl,ZrA (by omega) (by omega)]
  rw [show(2097152:Nat)=2^21 from rfl]
  have e:v.msb=v.toNat.testBit 21:=by rw [BitVec.msb_eq_getLsbD_last];rfl
  rw [e]
  have e2:(v.toNat&&&2^21).testBit 21=v.toNat.testBit 21:=by rw [Nat.testBit_and,Nat.testBit_two_pow_self,Bool.and_true]
  cases hb:v.toNat.testBit 21
  · have:v.toNat&&&2^21=0:=by
      refine Nat.eq_of_testBit_eq fun i=> ?_
      rw [Nat.testBit_and,Nat.testBit_two_pow]
      by_cases h:21=i
      · subst h;rw [hb];simp
      · simp [h]
    rw [this];rfl
  · have:v.toNat&&&2^21≠0:=fun h=>by rw [h,Nat.zero_testBit,hb] at e2;cases e2
    have:((v.toNat&&&2^21:Nat):Int)≠0:=by omega
    simp only [this,decide_false,Bool.not_true]
theorem Ztg(v:BitVec 22):shl .i64 (v.toNat:Int) 1=some ((v.toNat:Int)*2):=by
  have:=v.isLt
  unfold shl
  rw [if_neg (by decide)]
  congr 1
  have e:(2:Int)^min (Int.toNat 1) IntKind.i64.bits=2:=rfl
  rw [e]
  exact ZoF (by omega) (by omega)
theorem Zti(v:BitVec 22):XF .i64 ((v.toNat:Int)*2) 4194303=((v<<<1).toNat:Int):=by
  have e:(4194303:Int)=(2:Int)^22-1:=by decide
  rw [e,ZfN (n:=22) (by decide),BitVec.toNat_shiftLeft,Nat.shiftLeft_eq]
  rw [Int.natCast_emod,Int.natCast_mul]
  rfl
theorem ZtP(v:BitVec 22):Zaq .i64 (v.toNat:Int) 2097167=((v^^^restB).toNat:Int):=by
  have:=v.isLt
  rw [show(2097167:Int)=((2097167:Nat):Int) from rfl,ZkQ (by omega) (by omega),BitVec.toNat_xor]
  rfl
theorem Zqr(v:BitVec 22)(b:Bool):zS v^^^(if b then restB else 0#22)=if(!(v.msb==b))=true then(v<<<1)^^^restB else v<<<1:=by
  unfold zS
  cases v.msb<;>cases b
  · simp
  · simp
  · simp
  · simp [BitVec.xor_assoc]
theorem ZpA(m:Nat):(2*m)^^^1=2*m+1:=by
  have h1:((2*m)^^^1) % 2^1=(2*m) % 2^1^^^1 % 2^1:=Nat.xor_mod_two_pow
  have h2:((2*m)^^^1)/2^1=(2*m)/2^1^^^1/2^1:=Nat.xor_div_two_pow
  rw [show(2*m) % 2^1=0 by omega,show 1 % 2^1=1 from rfl,Nat.zero_xor] at h1
  rw [show(2*m)/2^1=m by omega,show 1/2^1=0 from rfl,Nat.xor_zero] at h2
  omega
theorem ZqA(v:BitVec 22)(b:Bool):let R:Nat:=2*v.toNat+b.toNat
    (if 4194304≤R then R^^^6291471 else R)=(zS v^^^(if b then 1#22 else 0#22)).toNat:=by
  intro R
  have hv:=v.isLt
  have hb:b.toNat≤1:=by cases b<;>decide
  have hm:v.msb=decide (2097152≤v.toNat):=by
    rw [BitVec.msb_eq_decide]
  have es:(v<<<1).toNat=(2*v.toNat) % 4194304:=by rw [BitVec.toNat_shiftLeft,Nat.shiftLeft_eq];congr 1;omega
  obtain⟨s,hs⟩: ∃ s,(v<<<1).toNat=2*s:=⟨(v<<<1).toNat/2,by omega⟩
  have e1: ∀ u:BitVec 22,((v<<<1)^^^u^^^(if b then 1#22 else 0#22)).toNat=((v<<<1).toNat+b.toNat)^^^u.toNat:=fun u=>by
    rw [BitVec.toNat_xor,BitVec.toNat_xor,hs]
    cases b
    · simp
    · simp only [if_true,Bool.toNat_true]
      rw [←ZpA,Nat.xor_assoc,Nat.xor_comm u.toNat,←Nat.xor_assoc];rfl
  unfold zS
  by_cases h:2097152≤v.toNat
  · rw [if_pos (by omega),hm,decide_eq_true h,if_pos rfl,e1]
    have h1:(R^^^6291471) % 2^22=R % 2^22^^^6291471 % 2^22:=Nat.xor_mod_two_pow
    have h2:(R^^^6291471)/2^22=R/2^22^^^6291471/2^22:=Nat.xor_div_two_pow
    have h3:R/2^22=1:=by omega
    have h4:R % 2^22=(v<<<1).toNat+b.toNat:=by omega
    rw [h3,show 6291471/2^22=1 from rfl,Nat.xor_self] at h2
    rw [h4,show 6291471 % 2^22=restB.toNat from rfl] at h1
    omega
  · rw [if_neg (by omega),hm,decide_eq_false h,if_neg (by decide),e1]
    simp only [BitVec.toNat_ofNat,Nat.zero_mod,Nat.xor_zero]
    omega
end Go.Vx

namespace Go.Vx
open Go Go.RowKit
def JZ(x:api_Memory):Prop:=(wfI .i64) x.Slots∧(wfI .i64) x.Limit∧(wfL (wfL (wfI .u8))) x.Sectors∧(wfL (wfI .i64)) x.Wear∧(wfL wfT) x.Bad∧True
def JO(x:api_Piece):Prop:=(wfL (wfI .u8)) x.Bytes∧wfT x.Half∧True
end Go.Vx

namespace Go.Vx
open Go Go.RowKit
def Zkn{σ ρ:Type}(b:σ→Option (σ ⊕ ρ))(s:σ):Option ρ:=
  Nat.rec (motive:=fun _=>σ→Option ρ) (fun _=>none) (fun _ ih s=>match b s with |none=>none |some (.inl s')=>ih s' |some (.inr r)=>some r) 1000000 s
def Le{α:Type}(a b:Option α):Prop:= ∀ r,a=some r→b=some r
theorem Le.refl{α:Type}(a:Option α):Le a a:=fun _ h=>h
section
variable {α β γ δ ε ζ η θ ι κ σ ρ:Type}
theorem Le.bind{a b:Option α}{f g:α→Option β}(h:Le a b)(hf: ∀ x,Le (f x) (g x)):Le (a.bind f) (b.bind g):=by
  intro r hr
  cases ha:a with
  |none=>rw [ha] at hr;cases hr
  |some x=>rw [ha] at hr;rw [h x ha];exact hf x r hr
theorem Le.ite{c:Prop}[Decidable c]{a b a' b':Option α}(h1:Le a a')(h2:Le b b'):Le (if c then a else b) (if c then a' else b'):=by
  split
  · exact h1
  · exact h2
theorem Le.gd{g:Bool}{d:α}{a b:Option α}(h:Le a b):Le (gd g d a) (gd g d b):=by
  cases g
  · exact fun r hr=>hr
  · exact h
theorem Le.loop{b b':σ→Option (σ ⊕ ρ)}{s:σ}(h: ∀ s,Le (b s) (b' s)):Le (Zkn b s) (loop b' s):=by
  have key: ∀ n s r,Nat.rec (motive:=fun _=>σ→Option ρ) (fun _=>none) (fun _ ih s=>match b s with |none=>none |some (.inl s')=>ih s' |some (.inr r)=>some r) n s=some r→Zbv b' n s=some r:=by
    intro n
    induction n with
    |zero=>intro s r hr;cases hr
    |succ n ih=>
      intro s r hr
      simp only at hr
      cases hb:b s with
      |none=>rw [hb] at hr;cases hr
      |some o=>
        rw [hb] at hr
        simp only [Zbv,h s o hb,Option.bind_some]
        cases o with
        |inl s'=>exact ih s' r hr
        |inr r'=>exact hr
  intro r hr
  exact Ze1 (key 1000000 s r hr)
theorem Le.t0{f g:Option κ}{p:Unit}(h:Le f g):Le (t0 f p) (t0 g p):=h
theorem Le.t1{f g:α→Option κ}{p:α}(h: ∀ a,Le (f a) (g a)):Le (t1 f p) (t1 g p):=h _
theorem Le.t2{f g:α→β→Option κ}{p:α×β}(h: ∀ a b,Le (f a b) (g a b)):Le (t2 f p) (t2 g p):=h _ _
theorem Le.t3{f g:α→β→γ→Option κ}{p:α×β×γ}(h: ∀ a b c,Le (f a b c) (g a b c)):Le (t3 f p) (t3 g p):=h _ _ _
theorem Le.t4{f g:α→β→γ→δ→Option κ}{p:α×β×γ×δ}(h: ∀ a b c d,Le (f a b c d) (g a b c d)):Le (t4 f p) (t4 g p):=h _ _ _ _
theorem Le.t5{f g:α→β→γ→δ→ε→Option κ}{p:α×β×γ×δ×ε}(h: ∀ a b c d e,Le (f a b c d e) (g a b c d e)):Le (t5 f p) (t5 g p):=h _ _ _ _ _
theorem Le.t6{f g:α→β→γ→δ→ε→ζ→Option κ}{p:α×β×γ×δ×ε×ζ}(h: ∀ a b c d e x,Le (f a b c d e x) (g a b c d e x)):Le (t6 f p) (t6 g p):=h _ _ _ _ _ _
theorem Le.t7{f g:α→β→γ→δ→ε→ζ→η→Option κ}{p:α×β×γ×δ×ε×ζ×η}(h: ∀ a b c d e x y,Le (f a b c d e x y) (g a b c d e x y)):Le (t7 f p) (t7 g p):=h _ _ _ _ _ _ _
theorem Le.t8{f g:α→β→γ→δ→ε→ζ→η→θ→Option κ}{p:α×β×γ×δ×ε×ζ×η×θ}(h: ∀ a b c d e x y z,Le (f a b c d e x y z) (g a b c d e x y z)):Le (t8 f p) (t8 g p):=h _ _ _ _ _ _ _ _
theorem Le.t9{ι:Type}{f g:α→β→γ→δ→ε→ζ→η→θ→ι→Option κ}{p:α×β×γ×δ×ε×ζ×η×θ×ι}(h: ∀ a b c d e x y z w,Le (f a b c d e x y z w) (g a b c d e x y z w)):Le (t9 f p) (t9 g p):=h _ _ _ _ _ _ _ _ _
theorem Le.elim{f f':α→Option κ}{g g':β→Option κ}{s:α ⊕ β}(h1: ∀ a,Le (f a) (f' a))(h2: ∀ b,Le (g b) (g' b)):Le (Sum.elim f g s) (Sum.elim f' g' s):=by
  cases s with
  |inl a=>exact h1 a
  |inr b=>exact h2 b
end
end Go.Vx

namespace Go.Vx
open Go Go.RowKit
end Go.Vx

namespace Go.Vx
open Go Go.RowKit
set_option linter.unusedVariables false
noncomputable def Zet(n2:Int)(ones2:Int):Option ((Int×Int) ⊕ (Int)):=
  if(decide (0<n2))=true then
  (rem n2 2).bind fun q=>
  (quo .i64 n2 2).bind fun q2=>
  some (.inl (q2,(i64 (ones2+q))))
  else
  some (.inr ones2)
theorem Zjd(n2:Int)(ones2:Int):Le (Zet n2 ones2) (Zeb n2 ones2):=by
  unfold Zet Zeb
  with_reducible repeat' (first |exact Le.refl _ |apply Le.bind |apply Le.ite |intro _)
noncomputable def Zd5(n:Int):Option Bool:=
  ((Zkn (t2 (Zet)) (n,0)):Option ((Int))).bind (t1 fun(ones:Int)=>
  (rem ones 2).bind fun q3=>
  some (decide (q3=1)))
theorem Zlp(n:Int):Le (Zd5 n) (Zci n):=by
  unfold Zd5 Zci
  with_reducible repeat' (first |exact Le.refl _ |apply Le.bind |apply Le.loop |apply Le.t1 |apply Le.t2 |apply Zjd |intro _)
noncomputable def ZcB(w:Int):Option Int:=
  some (i64 (XF .u16 w 2047))
theorem Zgf(w:Int):Le (ZcB w) (Xl w):=by
  unfold ZcB Xl
  with_reducible repeat' (first |exact Le.refl _ |apply Le.bind |intro _)
noncomputable def ZcP(f:Vector Int 64):Option Int:=
  (ZA f 1).bind fun x=>
  (ZcB x).bind fun y=>
  (ZA f 2).bind fun x2=>
  (ZcB x2).bind fun y2=>
  (shl .i64 y2 11).bind fun q=>
  some (bor .i64 y q)
theorem Zhd(f:Vector Int 64):Le (ZcP f) (Xe f):=by
  unfold ZcP Xe
  with_reducible repeat' (first |exact Le.refl _ |apply Le.bind |apply Zgf |intro _)
noncomputable def ZbR(x:Int):Option Int:=
  (shr .u16 x 8).bind fun q=>
  (Znp [0,1,1,2,1,2,2,3,1,2,2,3,2,3,3,4,1,2,2,3,2,3,3,4,2,3,3,4,3,4,4,5,1,2,2,3,2,3,3,4,2,3,3,4,3,4,4,5,2,3,3,4,3,4,4,5,3,4,4,5,4,5,5,6,1,2,2,3,2,3,3,4,2,3,3,4,3,4,4,5,2,3,3,4,3,4,4,5,3,4,4,5,4,5,5,6,2,3,3,4,3,4,4,5,3,4,4,5,4,5,5,6,3,4,4,5,4,5,5,6,4,5,5,6,5,6,6,7,1,2,2,3,2,3,3,4,2,3,3,4,3,4,4,5,2,3,3,4,3,4,4,5,3,4,4,5,4,5,5,6,2,3,3,4,3,4,4,5,3,4,4,5,4,5,5,6,3,4,4,5,4,5,5,6,4,5,5,6,5,6,6,7,2,3,3,4,3,4,4,5,3,4,4,5,4,5,5,6,3,4,4,5,4,5,5,6,4,5,5,6,5,6,6,7,3,4,4,5,4,5,5,6,4,5,5,6,5,6,6,7,4,5,5,6,5,6,6,7,5,6,6,7,6,7,7,8] q).bind fun b=>
  (Znp [0,1,1,2,1,2,2,3,1,2,2,3,2,3,3,4,1,2,2,3,2,3,3,4,2,3,3,4,3,4,4,5,1,2,2,3,2,3,3,4,2,3,3,4,3,4,4,5,2,3,3,4,3,4,4,5,3,4,4,5,4,5,5,6,1,2,2,3,2,3,3,4,2,3,3,4,3,4,4,5,2,3,3,4,3,4,4,5,3,4,4,5,4,5,5,6,2,3,3,4,3,4,4,5,3,4,4,5,4,5,5,6,3,4,4,5,4,5,5,6,4,5,5,6,5,6,6,7,1,2,2,3,2,3,3,4,2,3,3,4,3,4,4,5,2,3,3,4,3,4,4,5,3,4,4,5,4,5,5,6,2,3,3,4,3,4,4,5,3,4,4,5,4,5,5,6,3,4,4,5,4,5,5,6,4,5,5,6,5,6,6,7,2,3,3,4,3,4,4,5,3,4,4,5,4,5,5,6,3,4,4,5,4,5,5,6,4,5,5,6,5,6,6,7,3,4,4,5,4,5,5,6,4,5,5,6,5,6,6,7,4,5,5,6,5,6,6,7,5,6,6,7,6,7,7,8] (XF .u16 x 255)).bind fun b2=>
  some (i64 (u8 (b+b2)))
theorem Zgd(x:Int):Le (ZbR x) (Zaa x):=by
  unfold ZbR Zaa
  with_reducible repeat' (first |exact Le.refl _ |apply Le.bind |intro _)
noncomputable def Zfn(w:Int):Option Bool:=
  (gd ((decide (w≤4095))==true) 0 (ZbR w)).bind fun y=>
  (gd ((decide (w≤4095))==true) 0 (rem y 2)).bind fun q=>
  some ((decide (w≤4095))&&(decide (q=1)))
theorem ZkN(w:Int):Le (Zfn w) (J5 w):=by
  unfold Zfn J5
  with_reducible repeat' (first |exact Le.refl _ |apply Le.bind |apply Le.gd |apply Zgd |intro _)
noncomputable def ZcQ(f:Vector Int 64)(n2:Int)(i:Int):Option ((Int×Int) ⊕ (Int)):=
  if(decide (i<60))=true then
  (ZA f (i64 (i+1))).bind fun x=>
  (ZcB x).bind fun y=>
  some (.inl ((Zaq .i64 n2 y),(i64 (i+1))))
  else
  some (.inr n2)
theorem Zhk(f:Vector Int 64)(n2:Int)(i:Int):Le (ZcQ f n2 i) (JE f n2 i):=by
  unfold ZcQ JE
  with_reducible repeat' (first |exact Le.refl _ |apply Le.bind |apply Le.ite |apply Zgf |intro _)
noncomputable def Zen(f:Vector Int 64):Option Int:=
  ((Zkn (t2 (ZcQ f)) (0,0)):Option ((Int))).bind (t1 fun(n:Int)=>
  some n)
theorem ZiM(f:Vector Int 64):Le (Zen f) (Jl f):=by
  unfold Zen Jl
  with_reducible repeat' (first |exact Le.refl _ |apply Le.bind |apply Le.loop |apply Le.t1 |apply Le.t2 |apply Zhk |intro _)
noncomputable def Zb0(f:Vector Int 64)(i:Int)(n4:Int)(k:Int):Option ((Int×Int) ⊕ (Int)):=
  if(decide (0≤k))=true then
  (shl .i64 n4 1).bind fun q=>
  (ZA f i).bind fun x=>
  (shr .u16 x k).bind fun q2=>
  if(!((!decide ((XF .i64 n4 2097152)=0))==(decide ((XF .u16 q2 1)=1))))=true then
  some (.inl ((Zaq .i64 (XF .i64 q 4194303) 2097167),(i64 (k-1))))
  else
  some (.inl ((XF .i64 q 4194303),(i64 (k-1))))
  else
  some (.inr n4)
theorem Zgb(f:Vector Int 64)(i:Int)(n4:Int)(k:Int):Le (Zb0 f i n4 k) (Xu f i n4 k):=by
  unfold Zb0 Xu
  with_reducible repeat' (first |exact Le.refl _ |apply Le.bind |apply Le.ite |intro _)
noncomputable def ZbT(f:Vector Int 64)(n2:Int)(i:Int):Option ((Int×Int) ⊕ (Int)):=
  if(decide (i<62))=true then
  ((Zkn (t2 (Zb0 f i)) (n2,11)):Option ((Int))).bind (t1 fun(n3:Int)=>
  some (.inl (n3,(i64 (i+1)))))
  else
  some (.inr n2)
theorem Zga(f:Vector Int 64)(n2:Int)(i:Int):Le (ZbT f n2 i) (XR f n2 i):=by
  unfold ZbT XR
  with_reducible repeat' (first |exact Le.refl _ |apply Le.bind |apply Le.ite |apply Le.loop |apply Le.t1 |apply Le.t2 |apply Zgb |intro _)
noncomputable def Zdm(f:Vector Int 64):Option Int:=
  ((Zkn (t2 (ZbT f)) (0,0)):Option ((Int))).bind (t1 fun(n:Int)=>
  some n)
theorem ZhO(f:Vector Int 64):Le (Zdm f) (Xw f):=by
  unfold Zdm Xw
  with_reducible repeat' (first |exact Le.refl _ |apply Le.bind |apply Le.loop |apply Le.t1 |apply Le.t2 |apply Zga |intro _)
noncomputable def JS(data:Int):Option Int:=
  (Zfn (u16 data)).bind fun y=>
  if(!y)=true then
  some (bor .u16 (u16 data) 2048)
  else
  some (u16 data)
theorem Zeo(data:Int):Le (JS data) (Xa data):=by
  unfold JS Xa
  with_reducible repeat' (first |exact Le.refl _ |apply Le.bind |apply Le.ite |apply ZkN |intro _)
noncomputable def ZdN(data:List Int)(f2:Vector Int 64)(i:Int):Option (((Vector Int 64)×Int) ⊕ ((Vector Int 64)×Int) ⊕ ((Vector Int 64))):=
  if(decide (i<(data.length:Int)))=true then
  (idx data i).bind fun x3=>
  if((decide (x3<0)) || (decide (2047<x3)))=true then
  some (.inr (.inl ((#v[0,0,0,0,0,0,0,0,0,0,0,0,0,0,0,0,0,0,0,0,0,0,0,0,0,0,0,0,0,0,0,0,0,0,0,0,0,0,0,0,0,0,0,0,0,0,0,0,0,0,0,0,0,0,0,0,0,0,0,0,0,0,0,0]:Vector Int 64),9)))
  else
  (JS x3).bind fun y3=>
  (ZA f2 (i64 (3+i))).bind fun x4=>
  some (.inl ((Qr f2 (i64 (3+i)) y3),(i64 (i+1))))
  else
  some (.inr (.inr f2))
theorem Zig(data:List Int)(f2:Vector Int 64)(i:Int):Le (ZdN data f2 i) (Zdr data f2 i):=by
  unfold ZdN Zdr
  with_reducible repeat' (first |exact Le.refl _ |apply Le.bind |apply Le.ite |apply Zeo |intro _)
noncomputable def ZdZ(f:Vector Int 64):Option (Vector Int 64):=
  (ZcP f).bind fun y=>
  (rem y 4).bind fun q=>
  (ZA gv_frame_syncs q).bind fun x=>
  (ZA f 0).bind fun x2=>
  (Zen (Qr f 0 x)).bind fun y2=>
  (JS y2).bind fun y3=>
  (ZA (Qr f 0 x) 61).bind fun x3=>
  (Zdm (Qr (Qr f 0 x) 61 y3)).bind fun y4=>
  (shr .i64 y4 11).bind fun q2=>
  (JS q2).bind fun y5=>
  (JS (XF .i64 y4 2047)).bind fun y6=>
  (ZA (Qr (Qr f 0 x) 61 y3) 62).bind fun x4=>
  (ZA (Qr (Qr (Qr f 0 x) 61 y3) 62 y5) 63).bind fun x5=>
  some (Qr (Qr (Qr (Qr f 0 x) 61 y3) 62 y5) 63 y6)
theorem Zin(f:Vector Int 64):Le (ZdZ f) (Zck f):=by
  unfold ZdZ Zck
  with_reducible repeat' (first |exact Le.refl _ |apply Le.bind |apply Zhd |apply ZiM |apply Zeo |apply ZhO |intro _)
noncomputable def Zfq(number:Int)(data:List Int):Option ((Vector Int 64)×Int):=
  if((decide (number<0)) || (decide (4194304≤number)))=true then
  some ((#v[0,0,0,0,0,0,0,0,0,0,0,0,0,0,0,0,0,0,0,0,0,0,0,0,0,0,0,0,0,0,0,0,0,0,0,0,0,0,0,0,0,0,0,0,0,0,0,0,0,0,0,0,0,0,0,0,0,0,0,0,0,0,0,0]:Vector Int 64),9)
  else
  if(!decide ((data.length:Int)=58))=true then
  some ((#v[0,0,0,0,0,0,0,0,0,0,0,0,0,0,0,0,0,0,0,0,0,0,0,0,0,0,0,0,0,0,0,0,0,0,0,0,0,0,0,0,0,0,0,0,0,0,0,0,0,0,0,0,0,0,0,0,0,0,0,0,0,0,0,0]:Vector Int 64),3)
  else
  (JS (XF .i64 number 2047)).bind fun y=>
  (shr .i64 number 11).bind fun q=>
  (JS q).bind fun y2=>
  (ZA (Vector.replicate 64 (0:Int)) 1).bind fun x=>
  (ZA (Qr (Vector.replicate 64 0) 1 y) 2).bind fun x2=>
  ((Zkn (t2 (ZdN data)) ((Qr (Qr (Vector.replicate 64 0) 1 y) 2 y2),0)):Option (((Vector Int 64)×Int) ⊕ ((Vector Int 64)))).bind (Sum.elim (fun q'=>some q') (t1 fun(f:Vector Int 64)=>
  (ZdZ f).bind fun y4=>
  some (y4,0)))
theorem Zk3(number:Int)(data:List Int):Le (Zfq number data) (Zew number data):=by
  unfold Zfq Zew
  with_reducible repeat' (first |exact Le.refl _ |apply Le.bind |apply Le.ite |apply Le.loop |apply Le.t1 |apply Le.t2 |apply Le.elim |apply Zeo |apply Zig |apply Zin |intro _)
noncomputable def Zib:Option Bool:=
  (mks 58 0).bind fun l=>
  (idx l 0).bind fun x=>
  (Zfq 2050 (l.set (Int.toNat 0) 5)).bind fun y=>
  (gd ((decide (y.2=0))==true) 0 (ZA y.1 0)).bind fun x2=>
  (gd (((decide (y.2=0))&&(decide (x2=2631)))==true) 0 (ZA y.1 1)).bind fun x3=>
  (gd ((((decide (y.2=0))&&(decide (x2=2631)))&&(decide (x3=2)))==true) 0 (ZA y.1 2)).bind fun x4=>
  (gd (((((decide (y.2=0))&&(decide (x2=2631)))&&(decide (x3=2)))&&(decide (x4=1)))==true) 0 (ZA y.1 3)).bind fun x5=>
  some (((((decide (y.2=0))&&(decide (x2=2631)))&&(decide (x3=2)))&&(decide (x4=1)))&&(decide (x5=2053)))
theorem Zk6:Le (Zib) (ZdF):=by
  unfold Zib ZdF
  with_reducible repeat' (first |exact Le.refl _ |apply Le.bind |apply Le.gd |apply Zk3 |intro _)
end Go.Vx


namespace Go.Vx
open Go Go.RowKit
end Go.Vx

namespace Go.Vx
open Go Go.RowKit
def hvB(bs:List Int):List Int:=bs.flatMap fun b=> [b/16,b % 16]
def hv(p:api_Piece):List Int:=if p.Half=true then(hvB p.Bytes).drop 1 else hvB p.Bytes
def u8L(l:List Int):Prop:= ∀ x∈l,0≤x∧x≤255
def Zku:List Int→Bool
  | []=>false
  |x::_=>decide (x≤15)
def Zdq(p:api_Piece):Int:=if 200000<(p.Bytes.length:Int) then 3 else if(p.Half&& !Zku p.Bytes)=true then 2 else 0
theorem Zrc{n:Int}(h:wfI .u8 n):0≤n∧n≤255:=by
  have h':(decide (IntKind.u8.min≤n)&&decide (n≤IntKind.u8.max))=true:=h
  have e1:IntKind.u8.min=0:=by decide
  have e2:IntKind.u8.max=255:=by decide
  rw [e1,e2] at h'
  simpa using h'
theorem Zjs{p:api_Piece}(h:JO p):u8L p.Bytes:=fun x hx=>Zrc (h.1.2 x hx)
theorem ZY{z:Int}(h1: -9223372036854775808≤z)(h2:z≤9223372036854775807):i64 z=z:=ZL h1 h2
theorem Zo6(x:Int):shr .u8 x 4=some (x/16):=by
  unfold shr
  rw [if_neg (by decide)]
  have e:(2:Int)^min (Int.toNat 4) IntKind.u8.bits=16:=by decide
  rw [e,Int.fdiv_eq_ediv_of_nonneg _ (by decide)]
theorem Zsf(x:Int):shr .u8 x 0=some x:=by
  unfold shr
  rw [if_neg (by decide)]
  have e:(2:Int)^min (Int.toNat 0) IntKind.u8.bits=1:=by decide
  rw [e,Int.fdiv_eq_ediv_of_nonneg _ (by decide),Int.ediv_one]
theorem Zmr:(List.range 256).all (fun n=>decide (XF .u8 (n:Int) 15=((n % 16:Nat):Int)))=true:=by decide+kernel
theorem Zmm{x:Int}(h:0≤x∧x≤255):XF .u8 x 15=x % 16:=by
  have:=List.all_eq_true.1 Zmr x.toNat (List.mem_range.2 (by omega))
  simp only [decide_eq_true_eq] at this
  rw [show((x.toNat:Nat):Int)=x by omega] at this
  rw [this];omega
theorem ZkP(p:api_Piece)(h:u8L p.Bytes):Ju p=some (Zdq p):=by
  unfold Ju Zdq
  by_cases h1:200000<(p.Bytes.length:Int)
  · rw [if_pos (by simpa using h1),if_pos h1]
  · rw [if_neg (by simpa using h1),if_neg h1]
    obtain⟨bs,hf⟩:=p
    simp only at h ⊢
    cases hf
    · simp
    · cases bs with
      |nil=>simp [Zku]
      |cons x tl=>
        have hx:=h x (List.mem_cons_self ..)
        have e0: ¬((x::tl).length:Int)=0:=by simp;omega
        have e1:idx (x::tl) 0=some x:=by simp [idx]
        have e2:(x/16=0)↔x≤15:=by omega
        simp only [e0,decide_false,e1,Zku,Bool.true_and,beq_self_eq_true,Bool.and_self,Zdj,Option.bind_some,Zo6,Bool.false_or,e2]
        split<;>rfl
theorem Zgh(p:api_Piece)(h:u8L p.Bytes):JJ p=some (Zdq p):=by
  unfold JJ Zdq
  by_cases h1:200000<(p.Bytes.length:Int)
  · rw [if_pos (by simpa using h1),if_pos h1]
  · rw [if_neg (by simpa using h1),if_neg h1]
    obtain⟨bs,hf⟩:=p
    simp only at h ⊢
    cases hf
    · simp
    · cases bs with
      |nil=>simp [Zku]
      |cons x tl=>
        have hx:=h x (List.mem_cons_self ..)
        have e0: ¬((x::tl).length:Int)=0:=by simp;omega
        have e1:idx (x::tl) 0=some x:=by simp [idx]
        have e2:(decide (15<x))= !decide (x≤15):=by rw [←decide_not];congr 1;simp
        simp only [e0,decide_false,e1,Zku,Bool.true_and,beq_self_eq_true,Bool.and_self,Zdj,Option.bind_some,Bool.false_or,e2]
        split<;>rfl
theorem Zgq{p:api_Piece}(h:Zdq p=0):p.Bytes.length≤200000∧(p.Half=true→ ∃ x tl,p.Bytes=x::tl∧x≤15):=by
  unfold Zdq at h
  split at h
  · cases h
  · rename_i h1
    split at h
    · cases h
    · rename_i h2
      refine⟨by omega,fun hf=> ?_⟩
      rw [hf] at h2
      cases hb:p.Bytes with
      |nil=>rw [hb] at h2;simp [Zku] at h2
      |cons x tl=>rw [hb] at h2;simp [Zku] at h2;exact⟨x,tl,rfl,h2⟩
theorem ZeR(bs:List Int):(hvB bs).length=2*bs.length:=by
  unfold hvB
  induction bs with
  |nil=>rfl
  |cons b bs ih=>simp only [List.flatMap_cons,List.length_append,ih,List.length_cons,List.length_nil];omega
theorem Znl{bs:List Int}{k:Nat}{b:Int}(h:bs[k]?=some b):(hvB bs)[2*k]?=some (b/16)∧(hvB bs)[2*k+1]?=some (b % 16):=by
  induction bs generalizing k with
  |nil=>simp at h
  |cons x bs ih=>
    have e:hvB (x::bs)=x/16::x % 16::hvB bs:=rfl
    rw [e]
    cases k with
    |zero=>simp at h;subst h;exact⟨rfl,rfl⟩
    |succ k=>
      obtain⟨h1,h2⟩:=ih (k:=k) (by simpa using h)
      have e1:2*(k+1)=2*k+1+1:=by omega
      rw [e1]
      exact⟨by simpa using h1,by simpa using h2⟩
theorem Zl8{bs:List Int}(h:u8L bs): ∀ x∈hvB bs,0≤x∧x≤15:=by
  intro x hx
  obtain⟨b,hb,hx⟩:=List.mem_flatMap.1 hx
  have:=h b hb
  simp only [List.mem_cons,List.not_mem_nil,or_false] at hx
  rcases hx with rfl |rfl<;>omega
theorem ZlN{p:api_Piece}(h:u8L p.Bytes): ∀ x∈hv p,0≤x∧x≤15:=by
  intro x hx
  unfold hv at hx
  split at hx
  · exact Zl8 h x (List.mem_of_mem_drop hx)
  · exact Zl8 h x hx
def ahN(p:api_Piece):Nat:=if p.Half=true then 1 else 0
theorem ZmS(p:api_Piece):ZaF p=some (ahN p:Int):=by
  unfold ZaF ahN
  split<;>rfl
theorem Zn4(p:api_Piece):hv p=(hvB p.Bytes).drop (ahN p):=by
  unfold hv ahN
  split<;>simp
theorem Zmq(p:api_Piece):(hv p).length=2*p.Bytes.length-ahN p:=by rw [Zn4,List.length_drop,ZeR]
theorem Zrm{p:api_Piece}(h:Zdq p=0):ahN p≤1∧ahN p≤2*p.Bytes.length:=by
  unfold ahN
  split
  · rename_i hf
    obtain⟨x,tl,hb,_⟩:=(Zgq h).2 hf
    rw [hb];simp;omega
  · simp
theorem ZoT{p:api_Piece}(h:Zdq p=0):ZaS p=some ((hv p).length:Int):=by
  have hl:=(Zgq h).1
  have ha:=Zrm h
  unfold ZaS
  rw [ZmS,Option.bind_some,ZY (z:=2*(p.Bytes.length:Int)) (by omega) (by omega),ZY (by omega) (by omega),Zmq]
  congr 1
  omega
theorem Zn5{bs:List Int}(h:u8L bs){j:Nat}{x:Int}(hl:bs.length≤200000)(hj:(hvB bs)[j]?=some x):Za1 bs (j:Int)=some x:=by
  have hjl:=(List.getElem?_eq_some_iff.1 hj).1
  rw [ZeR] at hjl
  obtain⟨b,hb⟩:=ZF (xs:=bs) (k:=j/2) (by omega)
  have hbb:=h b (List.mem_of_getElem? hb)
  obtain⟨g1,g2⟩:=Znl hb
  have eq:quo .i64 (j:Int) 2=some ((j/2:Nat):Int):=by
    unfold quo
    rw [if_neg (by decide),Int.tdiv_eq_ediv_of_nonneg (by omega)]
    have:(j:Int)/2=((j/2:Nat):Int):=by omega
    rw [this]
    exact congrArg some (ZY (by omega) (by omega))
  have er:rem (j:Int) 2=some ((j % 2:Nat):Int):=by
    unfold rem
    rw [if_neg (by decide),Int.tmod_eq_emod_of_nonneg (by omega)]
    rfl
  unfold Za1
  rw [eq,Option.bind_some,Zw hb,Option.bind_some,er,Option.bind_some]
  rcases Nat.mod_two_eq_zero_or_one j with hm |hm
  · have e:i64 (4-i64 (4*((j % 2:Nat):Int)))=4:=by rw [hm];rfl
    have ej:2*(j/2)=j:=by omega
    rw [ej,hj] at g1
    cases g1
    rw [e,Zo6,Option.bind_some,Zmm (by omega)]
    congr 1;omega
  · have e:i64 (4-i64 (4*((j % 2:Nat):Int)))=0:=by rw [hm];rfl
    have ej:2*(j/2)+1=j:=by omega
    rw [ej,hj] at g2
    cases g2
    rw [e,Zsf,Option.bind_some,Zmm hbb]
theorem ZnP{body:List Int→Int→Option ((List Int×Int) ⊕ List Int)}(xs:List Int)
    (hstep: ∀ (k:Nat) acc x,acc.length=xs.length→xs[k]?=some x→body acc k=some (.inl (acc.set k x,(k:Int)+1))) (hend: ∀ acc,body acc xs.length=some (.inr acc)) {l0:List Int} (h0:l0.length=xs.length):
    loop (t2 body) (l0,0)=some xs:=by
  have:=Zcx (body:=t2 body) (fun p=> ∃ k:Nat,p.2=k∧k≤xs.length∧p.1.length=xs.length∧p.1.take k=xs.take k) (fun p=>xs.length-p.2.toNat) (fun _=>xs) (by
    rintro⟨acc,i⟩ ⟨k,hi,hk,hl,ht⟩
    simp only at hi hl ht
    subst hi
    simp only [QG]
    rcases Nat.lt_or_ge k xs.length with hlt |hge
    · left
      obtain⟨x,hx⟩:=ZF hlt
      refine⟨_,hstep k acc x hl hx,⟨k+1,by push_cast;rfl,hlt,by simpa using hl,?_⟩,by simp only;omega,trivial⟩
      simp only
      rw [List.take_add_one,List.take_add_one,List.getElem?_set_self (by omega),hx,List.take_set_of_le (Nat.le_refl _),ht]
    · right
      have:k=xs.length:=by omega
      subst this
      rw [List.take_of_length_le (by omega),List.take_of_length_le (by omega)] at ht
      rw [ht];exact hend xs) (l0,0) ⟨0,rfl,Nat.zero_le _,h0,by simp⟩
  exact this
theorem Zof{p:api_Piece}(hu:u8L p.Bytes)(h:Zdq p=0):Zac p=some (hv p):=by
  have hl:=(Zgq h).1
  have ha:=Zrm h
  have hlen:=Zmq p
  unfold Zac
  rw [ZoT h,Option.bind_some]
  have hm:mks ((hv p).length:Int) (0:Int)=some (List.replicate (hv p).length 0):=by
    unfold mks mkz;rw [if_pos (by omega)];simp
  rw [hm,Option.bind_some]
  have:=ZnP (body:=JR p (List.replicate (hv p).length 0)) (hv p) (fun k acc x hacc hx=>by
    have hk:=(List.getElem?_eq_some_iff.1 hx).1
    have hx':=hx
    rw [Zn4,List.getElem?_drop] at hx'
    have e:i64 ((k:Int)+(ahN p:Int))=((ahN p+k:Nat):Int):=by rw [ZY (by omega) (by omega)];push_cast;omega
    obtain⟨y,hy⟩:=ZF (xs:=acc) (k:=k) (by omega)
    have hc:(k:Int)<(((List.replicate (hv p).length (0:Int)).length:Nat):Int):=by simp;omega
    unfold JR
    rw [if_pos (by simpa using hc),ZmS,Option.bind_some,e,Zn5 hu hl hx',Option.bind_some,Zw hy,Option.bind_some,ZY (by omega) (by omega)]
    rfl) (fun acc=>by unfold JR;rw [if_neg (by simp)]) (l0:=List.replicate (hv p).length 0) (by simp)
  rw [this]
  rfl
theorem ZnE{p:api_Piece}(hu:u8L p.Bytes)(h:p.Bytes.length≤4000000):Zaf p=some (hv p):=by
  have key: ∀ (k:Nat),(hvB (p.Bytes.take k)).length=2*min k p.Bytes.length:=fun k=>by rw [ZeR,List.length_take]
  have := Zcx (body := t2 (Za5 p)) (fun s => ∃ k : Nat, s.2 = k ∧ k ≤ p.Bytes.length ∧ s.1 = (hvB (p.Bytes.take k)).drop (ahN p)) (fun s => p.Bytes.length - s.2.toNat) (fun _ => hv p) (by
    rintro⟨acc,i⟩ ⟨k,hi,hk,hac⟩
    simp only at hi hac
    subst hi
    simp only [QG]
    rcases Nat.lt_or_ge k p.Bytes.length with hlt |hge
    · left
      obtain⟨x,hx⟩:=ZF hlt
      have hxb:=hu x (List.mem_of_getElem? hx)
      have hc:=Zrk hx
      have hq:quo .u8 x 16=some (x/16):=by
        unfold quo
        rw [if_neg (by decide),Int.tdiv_eq_ediv_of_nonneg (by omega)]
        congr 1
        have: ∀ z:Int,0≤z→z≤255→IntKind.u8.wrap z=z:=fun z h1 h2=>by
          unfold IntKind.wrap
          have e:(2:Int)^IntKind.u8.bits=256:=by decide
          have e2:IntKind.u8.signed=false:=rfl
          simp only [e,e2]
          simp
          omega
        exact this _ (by omega) (by omega)
      have hr:rem x 16=some (x % 16):=by
        unfold rem
        rw [if_neg (by decide),Int.tmod_eq_emod_of_nonneg (by omega)]
      have htk:p.Bytes.take (k+1)=p.Bytes.take k++ [x]:=by rw [List.take_add_one,hx];rfl
      have hB:hvB (p.Bytes.take (k+1))=hvB (p.Bytes.take k)++ [x/16,x % 16]:=by rw [htk];simp [hvB]
      have hlen:acc.length≤2*k:=by rw [hac,List.length_drop,key];omega
      refine⟨((hvB (p.Bytes.take (k+1))).drop (ahN p),(k:Int)+1),?_,⟨k+1,by push_cast;rfl,hlt,rfl⟩,by simp only;omega,trivial⟩
      unfold Za5
      rw [if_pos (by simpa using hc),Zw hx,Option.bind_some]
      rw [hB]
      by_cases h0:(decide (0<(k:Int)) || !p.Half)=true
      · rw [if_pos h0,hq,Option.bind_some,Xk (by simp;omega),Option.bind_some,Option.bind_some,Z8,hr,Option.bind_some,Xk (by simp;omega),Option.bind_some,ZY (by omega) (by omega)]
        have hle:ahN p≤(hvB (p.Bytes.take k)).length:=by
          rw [key]
          unfold ahN
          split
          · rename_i hf;simp [hf] at h0;omega
          · omega
        rw [hac,List.drop_append_of_le_length hle,List.append_assoc];rfl
      · rw [if_neg h0]
        simp only [Bool.or_eq_true,decide_eq_true_eq,Bool.not_eq_true',not_or,Bool.not_eq_false] at h0
        obtain⟨h1,h2⟩:=h0
        obtain rfl:k=0:=by omega
        have ea:ahN p=1:=by unfold ahN;rw [if_pos h2]
        rw [ea] at hac ⊢
        have e0:hvB (p.Bytes.take 0)= []:=rfl
        rw [e0] at hac ⊢
        simp only [List.drop_nil] at hac
        subst hac
        simp only [Option.bind_some,Z8,hr]
        rw [Xk (by simp)]
        rfl
    · right
      have:k=p.Bytes.length:=by omega
      subst this
      unfold Za5
      rw [if_neg (by simp),hac,Zn4,List.take_length]) ([],0) ⟨0,rfl,Nat.zero_le _,by simp [hvB]⟩
  unfold Zaf
  rw [this]
  rfl
theorem Zj2{p:api_Piece}(hu:u8L p.Bytes)(h:p.Bytes.length≤200000):Zaf p=some (hv p):=ZnE hu (by omega)
end Go.Vx

namespace Go.Vx
open Go Go.RowKit
def w3(a b c:Int):Int:=256*a+16*b+c
def w3B(n:Nat):Bool:=
  let a:Int:=((n/256:Nat):Int);let b:Int:=((n/16 % 16:Nat):Int);let c:Int:=((n % 16:Nat):Int)
  decide (shl .u16 (u16 a) 8=some (256*a))&&decide (shl .u16 (u16 b) 4=some (16*b))&&decide (bor .u16 (bor .u16 (256*a) (16*b)) (u16 c)=w3 a b c)&&decide (u16 (u16 (u16 (u16 a*256)+u16 (u16 b*16))+u16 c)=w3 a b c)
theorem ZrC:(List.range 4096).all w3B=true:=by decide+kernel
theorem Zpj{a b c:Int}(ha:0≤a∧a≤15)(hb:0≤b∧b≤15)(hc:0≤c∧c≤15):
    shl .u16 (u16 a) 8=some (256*a)∧shl .u16 (u16 b) 4=some (16*b)∧bor .u16 (bor .u16 (256*a) (16*b)) (u16 c)=w3 a b c∧u16 (u16 (u16 (u16 a*256)+u16 (u16 b*16))+u16 c)=w3 a b c:=by
  have:=List.all_eq_true.1 ZrC (a.toNat*256+b.toNat*16+c.toNat) (List.mem_range.2 (by omega))
  simp only [w3B,Bool.and_eq_true,decide_eq_true_eq] at this
  have e1:(((a.toNat*256+b.toNat*16+c.toNat)/256:Nat):Int)=a:=by omega
  have e2:(((a.toNat*256+b.toNat*16+c.toNat)/16 % 16:Nat):Int)=b:=by omega
  have e3:(((a.toNat*256+b.toNat*16+c.toNat) % 16:Nat):Int)=c:=by omega
  rw [e1,e2,e3] at this
  exact⟨this.1.1.1,this.1.1.2,this.1.2,this.2⟩
def hL(l:List Int):Prop:= ∀ x∈l,0≤x∧x≤15
theorem ZgM{a b c:Int}{tl:List Int}(ha:0≤a∧a≤15)(hb:0≤b∧b≤15)(hc:0≤c∧c≤15):X6 (a::b::c::tl)=some (w3 a b c):=by
  obtain⟨h1,h2,h3,_⟩:=Zpj ha hb hc
  unfold X6
  have e0:idx (a::b::c::tl) 0=some a:=by simp [idx]
  have e1:idx (a::b::c::tl) 1=some b:=by simp [idx]
  have e2:idx (a::b::c::tl) 2=some c:=by simp [idx]
  rw [e0,Option.bind_some,h1,Option.bind_some,e1,Option.bind_some,h2,Option.bind_some,e2,Option.bind_some,h3]
theorem ZqG{l:List Int}{k:Nat}{a b c:Int}(h0:l[k]?=some a)(h1:l[k+1]?=some b)(h2:l[k+2]?=some c):slc l (k:Int) ((k:Int)+3)=some [a,b,c]:=by
  have hk:=(List.getElem?_eq_some_iff.1 h2).1
  unfold slc
  rw [if_pos (by omega)]
  congr 1
  have e1:((k:Int)+3).toNat=k+3:=by omega
  rw [e1,Int.toNat_natCast]
  have:l.take (k+3)=l.take k++ [a,b,c]:=by
    rw [show k+3=k+1+1+1 by omega,List.take_add_one,List.take_add_one,List.take_add_one,h0,h1,show k+1+1=k+2 by omega,h2]
    simp
  rw [this,List.drop_append_of_le_length (by simp;omega),List.drop_eq_nil_of_le (by simp;omega)]
  rfl
theorem ZkU{h:List Int}(hh:hL h){at_:Int}(hat: -1000000≤at_∧at_≤1000000)(hlen:h.length≤1000000)(f:Vector Int 64)(w:Vector Bool 64){i:Int}(hi:0≤i):
    XE h at_ f w i=Qh h at_ f w i:=by
  unfold XE Qh
  by_cases hi2:i<64
  · have e0:decide (i<64)=true:=by simpa using hi2
    simp only [e0,if_true]
    rw [ZY (z:=3*i) (by omega) (by omega),ZY (z:=at_+3*i) (by omega) (by omega),ZY (z:=at_+3*i+3) (by omega) (by omega)]
    by_cases hc:0≤at_+3*i∧at_+3*i+3≤(h.length:Int)
    · rw [if_neg (by simp;omega),if_pos (by simp;omega)]
      obtain⟨k,hk⟩: ∃ k:Nat,at_+3*i=k:=⟨(at_+3*i).toNat,by omega⟩
      obtain⟨j,rfl⟩: ∃ j:Nat,i=j:=⟨i.toNat,by omega⟩
      rw [hk] at hc ⊢
      obtain⟨a,ha⟩:=ZF (xs:=h) (k:=k) (by omega)
      obtain⟨b,hb⟩:=ZF (xs:=h) (k:=k+1) (by omega)
      obtain⟨c,hc'⟩:=ZF (xs:=h) (k:=k+2) (by omega)
      have ba:=hh a (List.mem_of_getElem? ha)
      have bb:=hh b (List.mem_of_getElem? hb)
      have bc:=hh c (List.mem_of_getElem? hc')
      have e1:i64 ((k:Int)+1)=((k+1:Nat):Int):=by rw [ZY (by omega) (by omega)];push_cast;rfl
      have e2:i64 ((k:Int)+2)=((k+2:Nat):Int):=by rw [ZY (by omega) (by omega)];push_cast;rfl
      rw [ZqG ha hb hc',Option.bind_some,ZgM ba bb bc,Option.bind_some,e1,e2,Zw ha,Zw hb,Zw hc']
      obtain⟨_,_,_,h4⟩:=Zpj ba bb bc
      simp only [Option.bind_some,h4]
      have v1: ∃ x,ZA f (j:Int)=some x:=⟨_,by unfold ZA;rw [if_pos (by omega)];exact List.getElem?_eq_getElem (by simp;omega)⟩
      have v2: ∃ x,ZA w (j:Int)=some x:=⟨_,by unfold ZA;rw [if_pos (by omega)];exact List.getElem?_eq_getElem (by simp;omega)⟩
      obtain⟨x1,v1⟩:=v1
      obtain⟨x2,v2⟩:=v2
      rw [v1,v2];rfl
    · rw [if_pos (by simp;omega),if_neg (by simp;omega)]
  · have e0:decide (i<64)=false:=by simpa using hi2
    simp only [e0,Bool.false_eq_true,if_false]
def Zg9(h:List Int)(at_:Int)(s:Vector Int 64×Vector Bool 64)(i:Nat):Vector Int 64×Vector Bool 64:=
  if 0≤at_+3*i∧at_+3*i+3≤(h.length:Int) then(Qr s.1 i (w3 (h.getD (at_+3*i).toNat 0) (h.getD ((at_+3*i).toNat+1) 0) (h.getD ((at_+3*i).toNat+2) 0)),Qr s.2 i true) else s
def frW(h:List Int)(at_:Int):Vector Int 64×Vector Bool 64:=(List.range 64).foldl (Zg9 h at_) (Vector.replicate 64 0,Vector.replicate 64 false)
theorem XX{l:List Int}{k:Nat}{x:Int}(h:l[k]?=some x):l.getD k 0=x:=by rw [List.getD_eq_getElem?_getD,h];rfl
theorem ZbG{σ:Type}(g:σ→Nat→σ)(s0:σ)(k:Nat):(List.range (k+1)).foldl g s0=g ((List.range k).foldl g s0) k:=by rw [List.range_succ,List.foldl_append];rfl
theorem Zji{h:List Int}(hh:hL h){at_:Int}(hat: -1000000≤at_∧at_≤1000000)(hlen:h.length≤1000000):X7 h at_=some (frW h at_):=by
  have := Zcx (body := t3 (Qh h at_)) (fun s => ∃ k : Nat, s.2.2 = k ∧ k ≤ 64 ∧ (s.1, s.2.1) = (List.range k).foldl (Zg9 h at_) (Vector.replicate 64 0, Vector.replicate 64 false)) (fun s => 64 - s.2.2.toNat) (fun _ => frW h at_) (by
    rintro⟨f,w,i⟩ ⟨k,hi,hk,hs⟩
    simp only at hi hs
    subst hi
    show(∃ s',Qh h at_ f w (k:Int)=_∧_)∨Qh h at_ f w (k:Int)=_
    rcases Nat.lt_or_ge k 64 with hlt |hge
    · left
      refine⟨((Zg9 h at_ (f,w) k).1,(Zg9 h at_ (f,w) k).2,(k:Int)+1),?_,⟨k+1,by push_cast;rfl,hlt,?_⟩,by simp only;omega,rfl⟩
      · unfold Qh Zg9
        rw [if_pos (by simp;omega)]
        rw [ZY (z:=3*(k:Int)) (by omega) (by omega),ZY (z:=at_+3*(k:Int)) (by omega) (by omega),ZY (z:=at_+3*(k:Int)+3) (by omega) (by omega),ZY (z:=(k:Int)+1) (by omega) (by omega)]
        by_cases hc:0≤at_+3*(k:Int)∧at_+3*(k:Int)+3≤(h.length:Int)
        · rw [if_pos (by simp;omega),if_pos hc]
          obtain⟨q,hq⟩: ∃ q:Nat,at_+3*(k:Int)=q:=⟨(at_+3*(k:Int)).toNat,by omega⟩
          rw [hq] at hc ⊢
          obtain⟨a,ha⟩:=ZF (xs:=h) (k:=q) (by omega)
          obtain⟨b,hb⟩:=ZF (xs:=h) (k:=q+1) (by omega)
          obtain⟨c,hc'⟩:=ZF (xs:=h) (k:=q+2) (by omega)
          have ba:=hh a (List.mem_of_getElem? ha)
          have bb:=hh b (List.mem_of_getElem? hb)
          have bc:=hh c (List.mem_of_getElem? hc')
          rw [ZqG ha hb hc',Option.bind_some,ZgM ba bb bc,Option.bind_some]
          obtain⟨x1,v1⟩: ∃ x,ZA f (k:Int)=some x:=⟨_,by unfold ZA;rw [if_pos (by omega)];exact List.getElem?_eq_getElem (by simp;omega)⟩
          obtain⟨x2,v2⟩: ∃ x,ZA w (k:Int)=some x:=⟨_,by unfold ZA;rw [if_pos (by omega)];exact List.getElem?_eq_getElem (by simp;omega)⟩
          rw [v1,Option.bind_some,v2,Option.bind_some,Int.toNat_natCast,XX ha,XX hb,XX hc']
        · rw [if_neg (by simp;omega),if_neg hc]
      · simp only
        rw [ZbG,←hs]
    · right
      have:k=64:=by omega
      subst this
      unfold Qh
      rw [if_neg (by decide)]
      unfold frW
      rw [←hs]) (Vector.replicate 64 0,Vector.replicate 64 false,0) ⟨0,rfl,by omega,rfl⟩
  unfold X7
  rw [this]
  rfl
theorem zV:(#v[0,0,0,0,0,0,0,0,0,0,0,0,0,0,0,0,0,0,0,0,0,0,0,0,0,0,0,0,0,0,0,0,0,0,0,0,0,0,0,0,0,0,0,0,0,0,0,0,0,0,0,0,0,0,0,0,0,0,0,0,0,0,0,0]:Vector Int 64)=Vector.replicate 64 0:=by decide
theorem zB:(#v[false,false,false,false,false,false,false,false,false,false,false,false,false,false,false,false,false,false,false,false,false,false,false,false,false,false,false,false,false,false,false,false,false,false,false,false,false,false,false,false,false,false,false,false,false,false,false,false,false,false,false,false,false,false,false,false,false,false,false,false,false,false,false,false]:Vector Bool 64)=Vector.replicate 64 false:=by decide
theorem Zjo{h:List Int}(hh:hL h){at_:Int}(hat: -1000000≤at_∧at_≤1000000)(hlen:h.length≤1000000):Zam h at_=some (frW h at_):=by
  have h1:=Zji hh hat hlen
  unfold X7 at h1
  unfold Zam
  rw [zV,zB]
  have e:loop (t3 (XE h at_)) (Vector.replicate 64 0,Vector.replicate 64 false,0)=loop (t3 (Qh h at_)) (Vector.replicate 64 0,Vector.replicate 64 false,0):=by
    have key:loop (t3 (Qh h at_)) (Vector.replicate 64 0,Vector.replicate 64 false,0)=some (frW h at_):=by
      cases hq:loop (t3 (Qh h at_)) (Vector.replicate 64 0,Vector.replicate 64 false,0) with
      |none=>rw [hq] at h1;cases h1
      |some r=>rw [hq] at h1;exact h1
    rw [key]
    have := Zcx (body := t3 (XE h at_)) (fun s => ∃ k : Nat, s.2.2 = k ∧ k ≤ 64 ∧ (s.1, s.2.1) = (List.range k).foldl (Zg9 h at_) (Vector.replicate 64 0, Vector.replicate 64 false)) (fun s => 64 - s.2.2.toNat) (fun _ => frW h at_) (by
      rintro⟨f,w,i⟩ ⟨k,hi,hk,hs⟩
      simp only at hi hs
      subst hi
      show(∃ s',XE h at_ f w (k:Int)=_∧_)∨XE h at_ f w (k:Int)=_
      rw [ZkU hh hat hlen f w (by omega)]
      rcases Nat.lt_or_ge k 64 with hlt |hge
      · left
        refine⟨((Zg9 h at_ (f,w) k).1,(Zg9 h at_ (f,w) k).2,(k:Int)+1),?_,⟨k+1,by push_cast;rfl,hlt,?_⟩,by simp only;omega,rfl⟩
        · unfold Qh Zg9
          rw [if_pos (by simp;omega)]
          rw [ZY (z:=3*(k:Int)) (by omega) (by omega),ZY (z:=at_+3*(k:Int)) (by omega) (by omega),ZY (z:=at_+3*(k:Int)+3) (by omega) (by omega),ZY (z:=(k:Int)+1) (by omega) (by omega)]
          by_cases hc:0≤at_+3*(k:Int)∧at_+3*(k:Int)+3≤(h.length:Int)
          · rw [if_pos (by simp;omega),if_pos hc]
            obtain⟨q,hq⟩: ∃ q:Nat,at_+3*(k:Int)=q:=⟨(at_+3*(k:Int)).toNat,by omega⟩
            rw [hq] at hc ⊢
            obtain⟨a,ha⟩:=ZF (xs:=h) (k:=q) (by omega)
            obtain⟨b,hb⟩:=ZF (xs:=h) (k:=q+1) (by omega)
            obtain⟨c,hc'⟩:=ZF (xs:=h) (k:=q+2) (by omega)
            have ba:=hh a (List.mem_of_getElem? ha)
            have bb:=hh b (List.mem_of_getElem? hb)
            have bc:=hh c (List.mem_of_getElem? hc')
            rw [ZqG ha hb hc',Option.bind_some,ZgM ba bb bc,Option.bind_some]
            obtain⟨x1,v1⟩: ∃ x,ZA f (k:Int)=some x:=⟨_,by unfold ZA;rw [if_pos (by omega)];exact List.getElem?_eq_getElem (by simp;omega)⟩
            obtain⟨x2,v2⟩: ∃ x,ZA w (k:Int)=some x:=⟨_,by unfold ZA;rw [if_pos (by omega)];exact List.getElem?_eq_getElem (by simp;omega)⟩
            rw [v1,Option.bind_some,v2,Option.bind_some,Int.toNat_natCast,XX ha,XX hb,XX hc']
          · rw [if_neg (by simp;omega),if_neg hc]
        · simp only
          rw [ZbG,←hs]
      · right
        have:k=64:=by omega
        subst this
        unfold Qh
        rw [if_neg (by decide)]
        unfold frW
        rw [←hs]) (Vector.replicate 64 0,Vector.replicate 64 false,0) ⟨0,rfl,by omega,rfl⟩
    exact this
  rw [e]
  exact h1
theorem Zka{p:api_Piece}(h:Zdq p=0):(hv p).length≤400000:=by have:=(Zgq h).1;rw [Zmq];omega
end Go.Vx

namespace Go.Vx
open Go Go.RowKit
theorem ZbM{σ ρ:Type}{body:σ→Int→Option ((σ×Int) ⊕ ρ)}(S:Nat→σ)(R:ρ){a b:Nat}(hab:a≤b)
    (hstep: ∀ k:Nat,a≤k→k<b→body (S k) (k:Int)=some (.inl (S (k+1),(k:Int)+1))) (hend:body (S b) (b:Int)=some (.inr R)):
    loop (t2 body) (S a,(a:Int))=some R:=by
  refine Zcx (body:=t2 body) (fun s=> ∃ k:Nat,a≤k∧k≤b∧s=(S k,(k:Int))) (fun s=>b-s.2.toNat) (fun _=>R) ?_ _ ⟨a,Nat.le_refl _,hab,rfl⟩
  rintro _ ⟨k,h1,h2,rfl⟩
  rcases Nat.lt_or_ge k b with h |h
  · exact .inl ⟨_,hstep k h1 h,⟨k+1,by omega,h,by push_cast;rfl⟩,by simp only;omega,rfl⟩
  · obtain rfl:k=b:=by omega
    exact .inr hend
theorem Zqi{σ ρ:Type}{body:σ→Int→Option ((σ×Int) ⊕ ρ)}(S:Nat→σ)(R:ρ){b:Nat}
    (hstep: ∀ k:Nat,k<b→body (S (b-1-k)) (k:Int)=some (.inl (S (b-k),(k:Int)-1))) (hend:body (S b) (-1)=some (.inr R)):
    loop (t2 body) (S 0,(b:Int)-1)=some R:=by
  refine Zcx (body:=t2 body) (fun s=> ∃ k:Nat,k≤b∧s=(S (b-k),(k:Int)-1)) (fun s=>(s.2+1).toNat) (fun _=>R) ?_ _ ⟨b,Nat.le_refl _,by rw [Nat.sub_self]⟩
  rintro _ ⟨k,h2,rfl⟩
  rcases Nat.eq_zero_or_pos k with rfl |h
  · exact .inr hend
  · obtain⟨j,rfl⟩: ∃ j,k=j+1:=⟨k-1,by omega⟩
    refine .inl ⟨_,?_,⟨j,by omega,rfl⟩,?_,rfl⟩
    · have:=hstep j h2
      rw [show((j+1:Nat):Int)-1=(j:Int) by omega,show b-(j+1)=b-1-j by omega]
      exact this
    · simp only;omega
def wd(f:Vector Int 64)(i:Nat):Int:=f.toList.getD i 0
def fU(f:Vector Int 64):Prop:= ∀ i,0≤wd f i∧wd f i≤65535
theorem Qf(f:Vector Int 64){i:Nat}(hi:i<64):ZA f (i:Int)=some (wd f i):=by
  unfold ZA wd
  rw [if_pos (by omega),Int.toNat_natCast]
  obtain⟨x,hx⟩:=ZF (xs:=f.toList) (k:=i) (by simp;omega)
  rw [List.getD_eq_getElem?_getD,hx];rfl
theorem ZeP{x:Int}(h:0≤x∧x≤65535):Xl x=some (x % 2048):=by
  obtain⟨n,rfl⟩: ∃ n:Nat,x=n:=⟨x.toNat,by omega⟩
  have e0:IntKind.u16.bits=16:=rfl
  have e1:(BitVec.ofInt 16 (n:Int)).toNat=n:=by
    rw [BitVec.ofInt_natCast,BitVec.toNat_ofNat];exact Nat.mod_eq_of_lt (by omega)
  have e2:(BitVec.ofInt 16 2047).toNat=2^11-1:=rfl
  have e3:XF .u16 (n:Int) 2047=((n % 2048:Nat):Int):=by
    unfold XF
    rw [e0,BitVec.toNat_and,e1,e2,Nat.and_two_pow_sub_one_eq_mod]
    have:n % 2^11<2048:=Nat.mod_lt _ (by decide)
    simp only [IntKind.wrap,IntKind.signed,IntKind.bits]
    have e:(2:Int)^16=65536:=by decide
    simp [e]
    omega
  unfold Xl
  rw [e3,ZY (by omega) (by omega)];rfl
theorem ZeI{x:Int}(h:0≤x)(n:Int)(hn:0<n):rem x n=some (x % n):=by
  unfold rem
  rw [if_neg (by omega),Int.tmod_eq_emod_of_nonneg h]
def ZaI(f:Vector Int 64):Int:=wd f 1 % 2048+wd f 2 % 2048*2048
theorem ZiB(f:Vector Int 64):0≤ZaI f∧ZaI f<4194304:=by unfold ZaI;omega
theorem ZqZ{a b:Int}(ha:0≤a∧a<2048)(hb:0≤b∧b<2048):(shl .i64 b 11).bind (fun q=>some (bor .i64 a q))=some (a+b*2048)∧(shl .i64 a 11).bind (fun q=>some (bor .i64 q b))=some (a*2048+b):=by
  have e: ∀ z:Int,0≤z∧z<2048→shl .i64 z 11=some (z*2048):=fun z hz=>by
    unfold shl
    rw [if_neg (by decide)]
    have e:(2:Int)^min (Int.toNat 11) IntKind.i64.bits=2048:=rfl
    rw [e,w64 (by omega) (by omega)]
  have e2: ∀ x y:Int,0≤x∧x<2048→0≤y∧y<2048→bor .i64 x (y*2048)=x+y*2048:=fun x y hx hy=>by
    obtain⟨m,rfl⟩: ∃ m:Nat,x=m:=⟨x.toNat,by omega⟩
    obtain⟨n,rfl⟩: ∃ n:Nat,y=n:=⟨y.toNat,by omega⟩
    have:=Ztv (a:=m) (b:=n) (n:=11) (by rw [show(2:Nat)^11=2048 by decide];omega) (by rw [show(2:Nat)^11=2048 by decide,show(2:Nat)^62=4611686018427387904 by decide];omega)
    rw [show(2:Nat)^11=2048 by decide] at this
    rw [show((n:Int)*2048)=((2048*n:Nat):Int) by omega,this];omega
  have e3: ∀ x y:Int,bor .i64 x y=bor .i64 y x:=fun x y=>by unfold bor;rw [BitVec.or_comm]
  rw [e b hb,e a ha,Option.bind_some,Option.bind_some,e2 a b ha hb,e3,e2 b a hb ha]
  exact⟨rfl,by rw [Int.add_comm]⟩
theorem ZtK{a b:Int}(h1:0≤a∧a≤65535)(h2:0≤b∧b≤65535):i64 (b % 2048*2048)=b % 2048*2048∧i64 (a % 2048+b % 2048*2048)=a % 2048+b % 2048*2048∧i64 a=a∧i64 b=b:=⟨ZY (by omega) (by omega),ZY (by omega) (by omega),ZY (by omega) (by omega),ZY (by omega) (by omega)⟩
theorem ZkD{f:Vector Int 64}(h:fU f):Xe f=some (ZaI f)∧JX f=some (ZaI f):=by
  have v1:ZA f 1=some (wd f 1):=Qf f (i:=1) (by decide)
  have v2:ZA f 2=some (wd f 2):=Qf f (i:=2) (by decide)
  obtain⟨e1,e2,e3,e4⟩:=ZtK (h 1) (h 2)
  refine⟨?_,?_⟩
  · unfold Xe ZaI
    rw [v1,Option.bind_some,ZeP (h 1),Option.bind_some,v2,Option.bind_some,ZeP (h 2),Option.bind_some,(ZqZ (by omega) (by omega)).1]
  · unfold JX ZaI
    rw [v1,Option.bind_some,e3,ZeI (h 1).1 _ (by decide),Option.bind_some,v2,Option.bind_some,e4,ZeI (h 2).1 _ (by decide),Option.bind_some,e1,e2]
def Zco(f:Vector Int 64):Nat→Int
  |0=>0
  |k+1=>Zaq .i64 (Zco f k) (wd f (k+1) % 2048)
theorem ZkS{f:Vector Int 64}(h:fU f):Jl f=some (Zco f 60)∧ZdY f=some (Zco f 60):=by
  constructor
  · have:=ZbM (body:=JE f) (Zco f) (Zco f 60) (a:=0) (b:=60) (by decide) (fun k _ hk=>by
      have hw:=h (k+1)
      unfold JE
      rw [if_pos (by simp;omega),ZY (by omega) (by omega),show(k:Int)+1=((k+1:Nat):Int) by push_cast;rfl,Qf f (by omega),Option.bind_some,ZeP hw,Option.bind_some]
      rfl) (by unfold JE;rw [if_neg (by decide)])
    unfold Jl
    rw [show((0:Int),(0:Int))=(Zco f 0,((0:Nat):Int)) from rfl,this]
    rfl
  · have:=ZbM (body:=Zc6 f) (fun k=>Zco f (k-1)) (Zco f 60) (a:=1) (b:=61) (by decide) (fun k h1 hk=>by
      have hw:=h k
      obtain⟨j,rfl⟩: ∃ j,k=j+1:=⟨k-1,by omega⟩
      unfold Zc6
      rw [if_pos (by simp;omega),Qf f (by omega),Option.bind_some,ZY (by omega) (by omega),ZeI hw.1 _ (by decide),Option.bind_some,ZY (by omega) (by omega)]
      rfl) (by unfold Zc6;rw [if_neg (by decide)])
    unfold ZdY
    rw [show((0:Int),(1:Int))=((fun k=>Zco f (k-1)) 1,((1:Nat):Int)) from rfl,this]
    rfl
theorem Znb(f:Vector Int 64): ∀ k,0≤Zco f k∧Zco f k<2048
  |0=>⟨Int.le_refl 0,by show(0:Int)<2048;decide⟩
  |k+1=>by
    have ih:=Znb f k
    obtain⟨a,ha⟩: ∃ n:Nat,Zco f k=n:=⟨(Zco f k).toNat,by omega⟩
    obtain⟨b,hb⟩: ∃ n:Nat,wd f (k+1) % 2048=n:=⟨(wd f (k+1) % 2048).toNat,by omega⟩
    rw [Zco,hb,ha,ZkQ (by omega) (by omega)]
    have:a^^^b<2^11:=Nat.xor_lt_two_pow (by omega) (by omega)
    omega
def Zc3(f:Vector Int 64)(j:Nat):Bool:=decide (j<744)&&decide (wd f (j/12)/(2:Int)^(11-j % 12) % 2=1)
theorem ZpZ(x:Int){k:Nat}(hk:k≤11):shr .u16 x (k:Int)=some (x/(2:Int)^k):=by
  unfold shr
  have hm:min ((k:Int)).toNat IntKind.u16.bits=k:=by
    have:IntKind.u16.bits=16:=rfl
    rw [Int.toNat_natCast];omega
  have hp:(0:Int)<2^k:=Int.pow_pos (by decide)
  rw [if_neg (by omega),hm,Int.fdiv_eq_ediv_of_nonneg _ (by omega)]
theorem Zks(x:Int){k:Nat}(hk:k≤11):shr .i64 x (k:Int)=some (x/(2:Int)^k):=by
  unfold shr
  have hm:min ((k:Int)).toNat IntKind.i64.bits=k:=by
    have:IntKind.i64.bits=64:=rfl
    rw [Int.toNat_natCast];omega
  have hp:(0:Int)<2^k:=Int.pow_pos (by decide)
  rw [if_neg (by omega),hm,Int.fdiv_eq_ediv_of_nonneg _ (by omega)]
theorem ZrU{x:Int}(h:0≤x∧x≤65535)(k:Nat):0≤x/(2:Int)^k∧x/(2:Int)^k≤65535:=by
  have hp:(0:Int)<2^k:=Int.pow_pos (by decide)
  have h1:=Int.ediv_nonneg h.1 (Int.le_of_lt hp)
  have h2:x/(2:Int)^k≤x:=Int.ediv_le_self _ h.1
  omega
theorem ZmK{x:Int}(h:0≤x∧x≤65535):XF .u16 x 1=x % 2:=by
  obtain⟨n,rfl⟩: ∃ n:Nat,x=n:=⟨x.toNat,by omega⟩
  have e0:IntKind.u16.bits=16:=rfl
  have e1:(BitVec.ofInt 16 (n:Int)).toNat=n:=by
    rw [BitVec.ofInt_natCast,BitVec.toNat_ofNat];exact Nat.mod_eq_of_lt (by omega)
  have e2:(BitVec.ofInt 16 1).toNat=2^1-1:=rfl
  unfold XF
  rw [e0,BitVec.toNat_and,e1,e2,Nat.and_two_pow_sub_one_eq_mod]
  have:n % 2^1<2:=Nat.mod_lt _ (by decide)
  simp only [IntKind.wrap,IntKind.signed,IntKind.bits]
  have e:(2:Int)^16=65536:=by decide
  simp [e]
  omega
theorem ZlZ(x:Int):XF .i64 x 1=x % 2:=ZfN (v:=x) (n:=1) (by decide)
def ckS(f:Vector Int 64)(k:Nat):Int:=((pS (Zc3 f) k).toNat:Int)
theorem Zpu(f:Vector Int 64)(j:Nat):ckS f (j+1)=if(!((!decide (XF .i64 (ckS f j) 2097152=0))==Zc3 f j))=true then Zaq .i64 (XF .i64 (ckS f j*2) 4194303) 2097167 else XF .i64 (ckS f j*2) 4194303:=by
  have:=Zqr (pS (Zc3 f) j) (Zc3 f j)
  unfold ckS
  rw [pS,this,Ztx,Bool.not_not,Zti,ZtP]
  split<;>rfl
theorem Zj3{f:Vector Int 64}(h:fU f):Xw f=some (ckS f 744):=by
  have inner: ∀ i:Nat,i<62→loop (t2 (Xu f (i:Int))) (ckS f (12*i),11)=some (ckS f (12*(i+1))):=fun i hi=>by
    have hw:=h i
    have:=Zqi (body:=Xu f (i:Int)) (fun j=>ckS f (12*i+j)) (ckS f (12*(i+1))) (b:=12) (fun k hk=>by
      have hd:=ZrU hw k
      have hv:=(pS (Zc3 f) (12*i+(12-1-k))).isLt
      unfold Xu
      have e1:shl .i64 (ckS f (12*i+(12-1-k))) 1=some (ckS f (12*i+(12-1-k))*2):=Ztg _
      rw [if_pos (by simp),e1,Option.bind_some,Qf f (by omega),Option.bind_some,ZpZ _ (by omega),Option.bind_some,ZmK hd,ZY (by omega) (by omega)]
      have eb:Zc3 f (12*i+(12-1-k))=decide (wd f i/(2:Int)^k % 2=1):=by
        unfold Zc3
        rw [decide_eq_true (show 12*i+(12-1-k)<744 by omega),Bool.true_and,show(12*i+(12-1-k))/12=i by omega,show 11-(12*i+(12-1-k)) % 12=k by omega]
      have:=Zpu f (12*i+(12-1-k))
      rw [eb] at this
      rw [show 12*i+(12-k)=12*i+(12-1-k)+1 by omega,this]
      split<;>rfl) (by unfold Xu;rw [if_neg (by decide)];rw [show 12*(i+1)=12*i+12 by omega])
    exact this
  have:=ZbM (body:=XR f) (fun i=>ckS f (12*i)) (ckS f 744) (a:=0) (b:=62) (by decide) (fun k _ hk=>by
    unfold XR
    rw [if_pos (by simp;omega),inner k hk,Option.bind_some,Z8,ZY (by omega) (by omega)]) (by unfold XR;rw [if_neg (by decide)])
  unfold Xw
  have e0:((0:Int),(0:Int))=((fun i=>ckS f (12*i)) 0,((0:Nat):Int)):=rfl
  rw [e0,this]
  rfl
def rkS(f:Vector Int 64)(k:Nat):Int:=((rS (Zc3 f) k).toNat:Int)
theorem Zo5{f:Vector Int 64}(h:fU f):ZbY f=some (ckS f 744):=by
  have hfin:rkS f 766=ckS f 744:=by
    unfold rkS ckS
    rw [show 766=744+22 from rfl,ZrT (fun k hk=>by unfold Zc3;rw [decide_eq_false (by omega),Bool.false_and])]
  have := ZbM (body := Zbw f) (rkS f) (ckS f 744) (a := 0) (b := 766) (by decide) (fun k _ hk => by
    have hv:=(rS (Zc3 f) k).isLt
    have hb:((if(decide ((k:Int)<744))=true then(quo .i64 (k:Int) 12).bind fun q=>(ZA f q).bind fun x=>(rem (k:Int) 12).bind fun q2=>(shr .i64 (i64 x) (i64 (11-q2))).bind fun q3=>some (XF .i64 q3 1) else some 0):Option Int)=some ((Zc3 f k).toNat:Int):=by
      by_cases hk2:k<744
      · have hw:=h (k/12)
        rw [if_pos (by simp;omega)]
        have e1:quo .i64 (k:Int) 12=some ((k/12:Nat):Int):=by
          unfold quo
          rw [if_neg (by decide),Int.tdiv_eq_ediv_of_nonneg (by omega),w64 (by omega) (by omega)]
          rfl
        rw [e1,Option.bind_some,Qf f (by omega),Option.bind_some,ZeI (by omega) _ (by decide),Option.bind_some,ZY (by omega) (by omega)]
        have e2:i64 (11-(k:Int) % 12)=((11-k % 12:Nat):Int):=by rw [ZY (by omega) (by omega)];omega
        rw [e2,Zks _ (by omega),Option.bind_some,ZlZ]
        unfold Zc3
        rw [decide_eq_true hk2,Bool.true_and]
        generalize wd f (k/12)/(2:Int)^(11-k % 12)=z
        by_cases hz:z % 2=1
        · rw [decide_eq_true hz,hz];rfl
        · rw [decide_eq_false hz,show z % 2=0 by omega];rfl
      · rw [if_neg (by simp;omega)]
        unfold Zc3
        rw [decide_eq_false hk2,Bool.false_and];rfl
    unfold Zbw
    rw [if_pos (by simp;omega),hb,Option.bind_some,Z8]
    have hbl:(Zc3 f k).toNat≤1:=by cases Zc3 f k<;>decide
    have hs:=ZqA (rS (Zc3 f) k) (Zc3 f k)
    simp only at hs
    have er:i64 (i64 (rkS f k*2)+((Zc3 f k).toNat:Int))=((2*(rS (Zc3 f) k).toNat+(Zc3 f k).toNat:Nat):Int):=by
      unfold rkS
      rw [ZY (z:=((rS (Zc3 f) k).toNat:Int)*2) (by omega) (by omega),ZY (by omega) (by omega)];push_cast;omega
    have en:rkS f (k+1)=((zS (rS (Zc3 f) k)^^^(if Zc3 f k then 1#22 else 0#22)).toNat:Int):=rfl
    rw [er,en,←hs,ZY (z:=(k:Int)+1) (by omega) (by omega)]
    by_cases hc:4194304≤2*(rS (Zc3 f) k).toNat+(Zc3 f k).toNat
    · rw [if_pos (by simp;omega),if_pos hc,show(6291471:Int)=((6291471:Nat):Int) from rfl,ZkQ (by omega) (by omega)]
    · rw [if_neg (by simp;omega),if_neg hc]) (by unfold Zbw;rw [if_neg (by decide),hfin])
  unfold ZbY
  rw [show((0:Int),(0:Int))=(rkS f 0,((0:Nat):Int)) from rfl,this]
  rfl
end Go.Vx

namespace Go.Vx
open Go Go.RowKit
theorem Zhz{ρ:Type}{body:Int→Option (Int ⊕ ρ)}(P:Nat→Bool)(A Z:ρ){a b:Nat}(hab:a≤b)
    (hstep: ∀ k:Nat,a≤k→k<b→body (k:Int)=if P k=true then some (.inl ((k:Int)+1)) else some (.inr A)) (hend:body (b:Int)=some (.inr Z)):
    loop (t1 body) (a:Int)=some (cond ((List.range' a (b-a)).all P) Z A):=by
  refine Zcx (body:=t1 body) (fun i=> ∃ k:Nat,i=k∧a≤k∧k≤b) (fun i=>b-i.toNat) (fun i=>cond ((List.range' i.toNat (b-i.toNat)).all P) Z A) ?_ (a:Int) ⟨a,rfl,Nat.le_refl _,hab⟩
  rintro i ⟨k,rfl,h1,h2⟩
  simp only [Int.toNat_natCast,Z8]
  rcases Nat.lt_or_ge k b with h |h
  · rw [hstep k h1 h]
    obtain⟨n,hn⟩: ∃ n,b-k=n+1:=⟨b-k-1,by omega⟩
    rw [hn,List.range'_succ,List.all_cons]
    cases hp:P k
    · right;simp
    · left
      refine⟨_,by rw [if_pos rfl],⟨k+1,by push_cast;rfl,by omega,h⟩,by omega,?_⟩
      rw [show((k:Int)+1).toNat=k+1 by omega,show b-(k+1)=n by omega,Bool.true_and]
  · obtain rfl:k=b:=by omega
    right
    rw [hend];simp
def flL(P:Nat→Bool)(c:Int)(a n:Nat):List api_Flaw:=((List.range' a n).filter fun k=> !P k).map fun(k:Nat)=>api_Flaw.mk (k:Int) c
theorem Zls(P:Nat→Bool)(c:Int)(a n:Nat):flL P c a (n+1)=flL P c a n++(if P (a+n)=true then [] else [api_Flaw.mk ((a+n:Nat):Int) c]):=by
  unfold flL
  rw [List.range'_1_concat,List.filter_append,List.map_append]
  congr 1
  cases h:P (a+n)<;>simp [h]
theorem Zkt(P:Nat→Bool)(c:Int)(a:Nat): ∀ n,(flL P c a n).length≤n
  |0=>by simp [flL]
  |n+1=>by
    have:=Zkt P c a n
    rw [Zls,List.length_append];split<;>simp<;>omega
theorem ZkX(P:Nat→Bool)(c:Int)(a n:Nat):(flL P c a n).length=0↔(List.range' a n).all P=true:=by
  unfold flL
  rw [List.length_map,List.length_eq_zero_iff,List.filter_eq_nil_iff,List.all_eq_true]
  exact⟨fun h x hx=>by have:=h x hx;simpa using this,fun h x hx=>by rw [h x hx];decide⟩
theorem ZmT{body:List api_Flaw→Int→Option ((List api_Flaw×Int) ⊕ List api_Flaw)}(P:Nat→Bool)(c:Int){a b:Nat}(hab:a≤b)(l0:List api_Flaw)(hl:l0.length≤1000)(hb:b≤1000)
    (hstep: ∀ (l:List api_Flaw) (k:Nat),l.length≤2000→a≤k→k<b→body l (k:Int)=if P k=true then some (.inl (l,(k:Int)+1)) else some (.inl (l++ [api_Flaw.mk (k:Int) c],(k:Int)+1)))
    (hend: ∀ l,body l (b:Int)=some (.inr l)):loop (t2 body) (l0,(a:Int))=some (l0++flL P c a (b-a)):=by
  have:=ZbM (body:=body) (fun k=>l0++flL P c a (k-a)) (l0++flL P c a (b-a)) (a:=a) (b:=b) hab (fun k h1 h2=>by
    have hlen:=Zkt P c a (k-a)
    rw [hstep _ k (by rw [List.length_append];omega) h1 h2,show k+1-a=k-a+1 by omega,Zls,show a+(k-a)=k by omega]
    cases P k<;>simp) (hend _)
  have e:(fun k=>l0++flL P c a (k-a)) a=l0:=by simp [flL]
  simp only at e
  rw [e] at this
  exact this
noncomputable def Ztz(n:Nat):Bool:=decide (J5 (n:Int)=Zd5 (n:Int))&&(Zd5 (n:Int)).isSome
theorem ZqU:(List.range 4096).all Ztz=true:=by decide+kernel
noncomputable def ZbZ(x:Int):Bool:=(Zd5 x).getD false
theorem Zjf{x:Int}(h:0≤x∧x≤4095):J5 x=some (ZbZ x)∧Zci x=some (ZbZ x):=by
  obtain⟨n,rfl⟩: ∃ n:Nat,x=n:=⟨x.toNat,by omega⟩
  have:=List.all_eq_true.1 ZqU n (List.mem_range.2 (by omega))
  simp only [Ztz,Bool.and_eq_true,decide_eq_true_eq] at this
  obtain⟨h2,h3⟩:=this
  obtain⟨b,hb⟩:=Option.isSome_iff_exists.1 h3
  unfold ZbZ
  rw [hb]
  exact⟨h2.trans hb,Zlp _ b hb⟩
def ZaM(f:Vector Int 64)(k:Nat):Bool:=decide (wd f k≤4095)
def ZbK(f:Vector Int 64):Bool:=(List.range' 0 64).all (ZaM f)
theorem Zj0{f:Vector Int 64}(h:ZbK f=true)(k:Nat)(hk:k<64):wd f k≤4095:=by
  have:=List.all_eq_true.1 h k (List.mem_range'.2 ⟨k,hk,by omega⟩)
  simpa [ZaM] using this
theorem ZpN(f:Vector Int 64):ZcM f=some (!ZbK f):=by
  have:=Zhz (body:=Zbz f) (ZaM f) (.inl true:Bool ⊕ Unit) (.inr ()) (a:=0) (b:=64) (by decide) (fun k _ hk=>by
    unfold Zbz ZaM
    rw [if_pos (by simp;omega),Qf f hk,Option.bind_some,ZY (by omega) (by omega)]
    by_cases hw:4095<wd f k
    · rw [if_pos (by simpa using hw),if_neg (by simpa using hw)]
    · rw [if_neg (by simpa using hw),if_pos (by simpa using hw)]) (by unfold Zbz;rw [if_neg (by decide)])
  unfold ZcM
  have e0:(0:Int)=((0:Nat):Int):=rfl
  rw [e0,this]
  unfold ZbK
  rw [Nat.sub_zero]
  cases (List.range' 0 64).all (ZaM f)<;>rfl
def Q9(n:Int):Int:=gv_frame_syncs.toList.getD (n % 4).toNat 0
theorem ZeY{n:Int}(h:0≤n):rem n 4=some (n % 4)∧ZA gv_frame_syncs (n % 4)=some (Q9 n):=by
  refine⟨ZeI h _ (by decide),?_⟩
  unfold ZA Q9
  rw [if_pos (by omega)]
  obtain⟨x,hx⟩:=ZF (xs:=gv_frame_syncs.toList) (k:=(n % 4).toNat) (by simp;omega)
  rw [List.getD_eq_getElem?_getD,hx];rfl
theorem Zi0{n:Int}(h:0≤n):ZaP n=some (Q9 n):=by
  unfold ZaP
  have:=(ZeY h).2
  unfold gv_frame_syncs at this
  rw [(ZeY h).1,Option.bind_some,this,Option.bind_some]
noncomputable def ZjB(f:Vector Int 64)(k:Nat):Bool:=ZbZ (wd f k)
def ckW(f:Vector Int 64):Int:=wd f 62 % 2048*2048+wd f 63 % 2048
noncomputable def ZfE(f:Vector Int 64):Bool:=ZbK f&&(decide (wd f 0=Q9 (ZaI f))&&(decide (wd f 61 % 2048=Zco f 60)&&((List.range' 1 63).all (ZjB f)&&decide (ckW f=ckS f 744))))
theorem ZmV{f:Vector Int 64}(h:fU f):Zb2 f=some (ZfE f):=by
  unfold Zb2
  rw [ZpN,Option.bind_some]
  cases hn:ZbK f
  · unfold ZfE
    rw [hn]
    simp [gd]
  · have hnb:=ZiB f
    have h0:=h 0
    have v0:ZA f 0=some (wd f 0):=Qf f (i:=0) (by decide)
    have v61:ZA f 61=some (wd f 61):=Qf f (i:=61) (by decide)
    have v62:ZA f 62=some (wd f 62):=Qf f (i:=62) (by decide)
    have v63:ZA f 63=some (wd f 63):=Qf f (i:=63) (by decide)
    have ck:=ckW f
    have e0:((!true)==false)=true:=rfl
    have ob:0≤wd f 62 % 2048∧wd f 62 % 2048<2048:=by omega
    have oc:0≤wd f 63 % 2048∧wd f 63 % 2048<2048:=by omega
    rw [e0,Zdj,v0,Option.bind_some,Zdj,(ZkD h).1,Option.bind_some,Zdj,(ZeY hnb.1).1,Option.bind_some,Zdj,(ZeY hnb.1).2,Option.bind_some]
    unfold ZfE
    rw [hn,Bool.not_true,Bool.false_or,Bool.true_and]
    by_cases hs:wd f 0=Q9 (ZaI f)
    · have e1:decide (wd f 0=Q9 (ZaI f))=true:=decide_eq_true hs
      rw [e1,Bool.not_true,show(false==false)=true from rfl,Zdj,v61,Option.bind_some,Zdj,ZeP (h 61),Option.bind_some,Zdj,(ZkS h).1,Option.bind_some,Bool.false_or,Bool.true_and]
      by_cases hs2:wd f 61 % 2048=Zco f 60
      · rw [if_neg (by simp [hs2]),decide_eq_true hs2,Bool.true_and]
        have:=Zhz (body:=ZaX f) (ZjB f) (.inl false:Bool ⊕ Unit) (.inr ()) (a:=1) (b:=64) (by decide) (fun k _ hk=>by
          unfold ZaX ZjB
          have:=Zj0 hn k hk
          rw [if_pos (by simp;omega),Qf f hk,Option.bind_some,(Zjf ⟨(h k).1,this⟩).1,Option.bind_some,ZY (by omega) (by omega)]
          cases ZbZ (wd f k)<;>rfl) (by unfold ZaX;rw [if_neg (by decide)])
        have e1:(1:Int)=((1:Nat):Int):=rfl
        rw [e1,this,Option.bind_some]
        rw [show 64-1=63 from rfl]
        cases (List.range' 1 63).all (ZjB f)
        · rfl
        · rw [Bool.true_and]
          show(ZA f 62).bind _=_
          rw [v62,Option.bind_some,ZeP (h 62),Option.bind_some]
          unfold ckW
          have eb:=(ZqZ ob oc).2
          obtain⟨q,hq,hq2⟩: ∃ q,shl .i64 (wd f 62 % 2048) 11=some q∧bor .i64 q (wd f 63 % 2048)=wd f 62 % 2048*2048+wd f 63 % 2048:=by
            cases hh:shl .i64 (wd f 62 % 2048) 11 with
            |none=>rw [hh] at eb;cases eb
            |some q=>rw [hh,Option.bind_some] at eb;exact⟨q,rfl,Option.some.inj eb⟩
          rw [hq,Option.bind_some,v63,Option.bind_some,ZeP (h 63),Option.bind_some,Zj3 h,Option.bind_some,hq2]
      · rw [if_pos (by simp [hs2]),decide_eq_false hs2,Bool.false_and]
    · rw [decide_eq_false hs]
      simp [gd]
theorem Znk{f:Vector Int 64}(h:fU f):Zb7 f=some (ZfE f):=by
  unfold Zb7
  rw [ZmV h,Option.bind_some]
def Ze4(b:Bool)(i c:Int):List api_Flaw:=if b=true then [] else [api_Flaw.mk i c]
noncomputable def Zr5(f:Vector Int 64):List api_Flaw:=
  if ZbK f=true then((Ze4 (decide (wd f 0=Q9 (ZaI f))) 0 1++flL (ZjB f) 2 1 63)++Ze4 (decide (wd f 61 % 2048=Zco f 60)) 61 3)++Ze4 (decide (ckW f=ckS f 744)) 62 4
  else flL (ZaM f) 5 0 64
theorem ZeH(b:Bool)(i c:Int):(Ze4 b i c).length≤1∧((Ze4 b i c).length=0↔b=true):=by cases b<;>simp [Ze4]
theorem Zql{f:Vector Int 64}(h:fU f):ZdP f=some (Zr5 f):=by
  have hl1:=ZmT (body:=Zbp f) (ZaM f) 5 (a:=0) (b:=64) (by decide) [] (by decide) (by decide) (fun l k hl _ hk=>by
    unfold Zbp ZaM
    rw [if_pos (by simp;omega),Qf f hk,Option.bind_some,ZY (by omega) (by omega)]
    by_cases hw:4095<wd f k
    · rw [if_pos (by simpa using hw),if_neg (by simpa using hw),Xk (by simp;omega),Option.bind_some]
    · rw [if_neg (by simpa using hw),if_pos (by simpa using hw)]) (fun l=>by unfold Zbp;rw [if_neg (by decide)])
  unfold ZdP
  have e0:(([]:List api_Flaw),(0:Int))=([],((0:Nat):Int)):=rfl
  rw [e0,hl1,Option.bind_some,Z8,List.nil_append,Nat.sub_zero]
  have hz:=ZkX (ZaM f) 5 0 64
  unfold Zr5
  cases hn:ZbK f
  · have: ¬(flL (ZaM f) 5 0 64).length=0:=fun hc=>by rw [hz.1 hc |>fun e=>(show ZbK f=true from e)] at hn;cases hn
    rw [if_pos (by simp only [decide_eq_true_eq];omega),if_neg (by decide)]
  · have hz0:(flL (ZaM f) 5 0 64).length=0:=hz.2 hn
    have hnil:flL (ZaM f) 5 0 64= []:=List.length_eq_zero_iff.1 hz0
    have hnb:=ZiB f
    have v0:ZA f 0=some (wd f 0):=Qf f (i:=0) (by decide)
    have v61:ZA f 61=some (wd f 61):=Qf f (i:=61) (by decide)
    have v62:ZA f 62=some (wd f 62):=Qf f (i:=62) (by decide)
    have v63:ZA f 63=some (wd f 63):=Qf f (i:=63) (by decide)
    have w0:=h 0
    have w61:=h 61
    have w62:=h 62
    have w63:=h 63
    rw [hnil,if_neg (by decide),v0,Option.bind_some,(ZkD h).2,Option.bind_some,Zi0 hnb.1,Option.bind_some,ZY (z:=wd f 0) (by omega) (by omega)]
    have s1:(if(!decide (wd f 0=Q9 (ZaI f)))=true then(app ([]:List api_Flaw) ([(api_Flaw.mk 0 1)]:List api_Flaw)).bind fun l2=>some l2 else some [])=some (Ze4 (decide (wd f 0=Q9 (ZaI f))) 0 1):=by
      by_cases hs:wd f 0=Q9 (ZaI f)
      · simp [hs,Ze4]
      · rw [Xk (by simp)];simp [hs,Ze4]
    rw [s1,Option.bind_some,Z8]
    have hl2:=ZmT (body:=Zbr f) (ZjB f) 2 (a:=1) (b:=64) (by decide) (Ze4 (decide (wd f 0=Q9 (ZaI f))) 0 1) (by have:=(ZeH (decide (wd f 0=Q9 (ZaI f))) 0 1).1;omega) (by decide) (fun l k hl _ hk=>by
      unfold Zbr ZjB
      have hw:=h k
      rw [if_pos (by simp;omega),Qf f hk,Option.bind_some,ZY (z:=wd f k) (by omega) (by omega),(Zjf ⟨hw.1,Zj0 hn k hk⟩).2,Option.bind_some,ZY (by omega) (by omega)]
      cases ZbZ (wd f k)
      · rw [if_pos (by decide),Xk (by simp;omega),Option.bind_some];rfl
      · rfl) (fun l=>by unfold Zbr;rw [if_neg (by decide)])
    have e1:(1:Int)=((1:Nat):Int):=rfl
    have e2:(Ze4 (decide (wd f 0=Q9 (ZaI f))) 0 1,(1:Int))=(Ze4 (decide (wd f 0=Q9 (ZaI f))) 0 1,((1:Nat):Int)):=rfl
    rw [e2,hl2,Option.bind_some,Z8,show 64-1=63 from rfl]
    have b1:=(ZeH (decide (wd f 0=Q9 (ZaI f))) 0 1).1
    have b2:=Zkt (ZjB f) 2 1 63
    have b3:=(ZeH (decide (wd f 61 % 2048=Zco f 60)) 61 3).1
    generalize hX:Ze4 (decide (wd f 0=Q9 (ZaI f))) 0 1++flL (ZjB f) 2 1 63=X
    have bX:X.length≤64:=by rw [←hX,List.length_append];omega
    rw [v61,Option.bind_some,ZY (z:=wd f 61) (by omega) (by omega),ZeI w61.1 _ (by decide),Option.bind_some,(ZkS h).2,Option.bind_some]
    have s2:(if(!decide (wd f 61 % 2048=Zco f 60))=true then(app X ([(api_Flaw.mk 61 3)]:List api_Flaw)).bind fun l4=>some l4 else some X)=some (X++Ze4 (decide (wd f 61 % 2048=Zco f 60)) 61 3):=by
      by_cases hs:wd f 61 % 2048=Zco f 60
      · simp [hs,Ze4]
      · rw [Xk (by simp;omega)];simp [hs,Ze4]
    rw [s2,Option.bind_some,Z8]
    generalize hW:X++Ze4 (decide (wd f 61 % 2048=Zco f 60)) 61 3=W
    have bW:W.length≤65:=by rw [←hW,List.length_append];omega
    rw [v62,Option.bind_some,ZY (z:=wd f 62) (by omega) (by omega),ZeI w62.1 _ (by decide),Option.bind_some,v63,Option.bind_some,ZY (z:=wd f 63) (by omega) (by omega),ZeI w63.1 _ (by decide),Option.bind_some,Zo5 h,Option.bind_some]
    rw [ZY (z:=wd f 62 % 2048*2048) (by omega) (by omega),ZY (z:=wd f 62 % 2048*2048+wd f 63 % 2048) (by omega) (by omega)]
    unfold ckW
    by_cases hs:wd f 62 % 2048*2048+wd f 63 % 2048=ckS f 744
    · simp [hs,Ze4]
    · rw [Xk (by simp;omega)];simp [hs,Ze4]
theorem Zi9{f:Vector Int 64}(h:fU f):ZbV f=some (ZfE f):=by
  unfold ZbV
  rw [Zql h,Option.bind_some]
  congr 1
  unfold Zr5 ZfE
  cases hn:ZbK f
  · have hz:=ZkX (ZaM f) 5 0 64
    have: ¬(flL (ZaM f) 5 0 64).length=0:=fun hc=>by rw [hz.1 hc |>fun e=>(show ZbK f=true from e)] at hn;cases hn
    rw [if_neg (by decide),Bool.false_and,decide_eq_false_iff_not];omega
  · rw [if_pos rfl,Bool.true_and,Bool.eq_iff_iff,decide_eq_true_eq]
    simp only [List.length_append,Bool.and_eq_true]
    have b1:=(ZeH (decide (wd f 0=Q9 (ZaI f))) 0 1).2
    have b2:=ZkX (ZjB f) 2 1 63
    have b3:=(ZeH (decide (wd f 61 % 2048=Zco f 60)) 61 3).2
    have b4:=(ZeH (decide (ckW f=ckS f 744)) 62 4).2
    rw [←b1,←b2,←b3,←b4]
    omega
end Go.Vx

namespace Go.Vx
open Go Go.RowKit
noncomputable def Zd9(f:Vector Int 64):Int×Bool:=if(ZbZ (wd f 1)&&ZbZ (wd f 2))=true then(ZaI f,true) else(0,false)
theorem Zfs{f:Vector Int 64}(h:fU f)(h1:wd f 1≤4095)(h2:wd f 2≤4095):Zan f=some (Zd9 f)∧Zag f=some (Zd9 f):=by
  have w1:=h 1
  have w2:=h 2
  have v1:ZA f 1=some (wd f 1):=Qf f (i:=1) (by decide)
  have v2:ZA f 2=some (wd f 2):=Qf f (i:=2) (by decide)
  obtain⟨o1,o1'⟩:=Zjf (x:=wd f 1) ⟨w1.1,h1⟩
  obtain⟨o2,o2'⟩:=Zjf (x:=wd f 2) ⟨w2.1,h2⟩
  obtain⟨n1,n2⟩:=ZkD h
  have right: ∀ x:Int,0≤x→x≤4095→Zci x=some (ZbZ x)→JW x=some (ZbZ x):=fun x a b e=>by
    unfold JW
    rw [decide_eq_true b,ZcJ,ZY (by omega) (by omega),e,Option.bind_some,Bool.true_and]
  have r1:=right _ w1.1 h1 o1'
  have r2:=right _ w2.1 h2 o2'
  unfold Zan Zag Zd9
  rw [v1,v2,Option.bind_some,Option.bind_some,o1,r1,Option.bind_some,Option.bind_some,n1,n2]
  generalize ZaI f=n
  cases ZbZ (wd f 1)
  · exact⟨rfl,rfl⟩
  · simp only [Bool.not_true,Zdj,show(false==false)=true from rfl,Option.bind_some,o2,r2]
    cases ZbZ (wd f 2)
    · exact⟨rfl,rfl⟩
    · exact⟨rfl,rfl⟩
end Go.Vx

namespace Go.Vx
open Go Go.RowKit
def pk(Z:List Int):List Int:=(List.range ((Z.length+1)/2)).map fun k=>16*Z.getD (2*k) 0+Z.getD (2*k+1) 0
theorem ZfW{Z:List Int}(h:hL Z)(k:Nat):0≤Z.getD k 0∧Z.getD k 0≤15:=by
  rw [List.getD_eq_getElem?_getD]
  cases hq:Z[k]? with
  |none=>simp
  |some x=>exact h x (List.mem_of_getElem? hq)
end Go.Vx

namespace Go.Vx
open Go Go.RowKit
theorem ZlF:(List.range 256).all (fun n=>decide (XF .u8 (n:Int) 240=((n/16*16:Nat):Int)))=true:=by decide+kernel
theorem ZpY{x:Int}(h:0≤x∧x≤255):XF .u8 x 240=x/16*16:=by
  have:=List.all_eq_true.1 ZlF x.toNat (List.mem_range.2 (by omega))
  simp only [decide_eq_true_eq] at this
  rw [show((x.toNat:Nat):Int)=x by omega] at this
  rw [this];omega
def Zdx(H:List Int)(f t:Nat):List Int:=(if f % 2=1 then [0] else [])++(H.take t).drop f
theorem ZiJ{H:List Int}{f t:Nat}(h1:f≤t)(h2:t≤H.length):(Zdx H f t).length=f % 2+(t-f):=by
  unfold Zdx
  rw [List.length_append,List.length_drop,List.length_take]
  split<;>simp<;>omega
theorem Zi7{H:List Int}{f t:Nat}(j:Nat):(Zdx H f t).getD j 0=if f % 2=1∧j=0 then 0 else if 2*(f/2)+j<t then H.getD (2*(f/2)+j) 0 else 0:=by
  unfold Zdx
  by_cases ha:f % 2=1
  · rw [if_pos ha]
    cases j with
    |zero=>simp [ha]
    |succ j=>
      rw [if_neg (by omega)]
      simp only [List.singleton_append,List.getD_cons_succ]
      rw [List.getD_eq_getElem?_getD,List.getElem?_drop,List.getElem?_take]
      have e:f+j=2*(f/2)+(j+1):=by omega
      rw [e]
      split<;>simp [List.getD_eq_getElem?_getD]
  · rw [if_neg ha,if_neg (by omega)]
    simp only [List.nil_append]
    rw [List.getD_eq_getElem?_getD,List.getElem?_drop,List.getElem?_take]
    have e:f+j=2*(f/2)+j:=by omega
    rw [e]
    split<;>simp [List.getD_eq_getElem?_getD]
theorem Zrj{n:Nat}(h:n≤10000000):quo .i64 (n:Int) 2=some ((n/2:Nat):Int):=by
  unfold quo
  rw [if_neg (by decide),Int.tdiv_eq_ediv_of_nonneg (by omega)]
  have:(n:Int)/2=((n/2:Nat):Int):=by omega
  rw [this]
  exact congrArg some (ZY (by omega) (by omega))
theorem Zri{n:Nat}:rem (n:Int) 2=some ((n % 2:Nat):Int):=by
  unfold rem
  rw [if_neg (by decide),Int.tmod_eq_emod_of_nonneg (by omega)]
  rfl
theorem ZrZ{α:Type}{l:List α}{a b:Nat}(h1:a≤b)(h2:b≤l.length):slc l (a:Int) (b:Int)=some ((l.take b).drop a):=by
  unfold slc
  rw [if_pos (by omega)]
  simp
theorem ZsS{b:List Int}(hu:u8L b)(hl:b.length≤4000000){f t:Nat}(hft:f<t)(ht:t≤2*b.length):
    Zb3 b (f:Int) (t:Int)=some ⟨pk (Zdx (hvB b) f t),decide (f % 2=1)⟩:=by
  have hq:f/2<(t+1)/2:=by omega
  have hq2:(t+1)/2≤b.length:=by omega
  obtain⟨l,hldef⟩: ∃ l,l=(b.take ((t+1)/2)).drop (f/2):=⟨_,rfl⟩
  have hlen:l.length=(t+1)/2-f/2:=by rw [hldef,List.length_drop,List.length_take];omega
  have hget: ∀ k,k<l.length→l[k]?=b[f/2+k]?:=fun k hk=>by rw [hldef,List.getElem?_drop,List.getElem?_take,if_pos (by omega)]
  have hH: ∀ m x,b[m]?=some x→(hvB b).getD (2*m) 0=x/16∧(hvB b).getD (2*m+1) 0=x % 16:=fun m x hx=>by
    obtain⟨g1,g2⟩:=Znl hx
    exact⟨XX g1,XX g2⟩
  have hpl:(pk (Zdx (hvB b) f t)).length=l.length:=by
    unfold pk
    rw [List.length_map,List.length_range,ZiJ (by omega) (by rw [ZeR];omega),hlen];omega
  have hpk: ∀ k x,k<l.length→b[f/2+k]?=some x→(pk (Zdx (hvB b) f t))[k]?=some (16*(if f % 2=1∧k=0 then 0 else x/16)+(if 2*(f/2+k)+1<t then x % 16 else 0)):=fun k x hk hx=>by
    obtain⟨g1,g2⟩:=hH _ _ hx
    unfold pk
    rw [List.getElem?_map,List.getElem?_range (by rw [ZiJ (by omega) (by rw [ZeR];omega)];omega),Option.map_some]
    rw [Zi7,Zi7]
    have e1:2*(f/2)+2*k=2*(f/2+k):=by omega
    have e2:2*(f/2)+(2*k+1)=2*(f/2+k)+1:=by omega
    rw [e1,e2,g1,g2,if_neg (show ¬(f % 2=1∧2*k+1=0) by omega)]
    rw [if_pos (show 2*(f/2+k)<t by omega)]
    have e3:(f % 2=1∧2*k=0)↔(f % 2=1∧k=0):=by omega
    simp only [e3]
  obtain⟨x0,hx0⟩:=ZF (xs:=l) (k:=0) (by omega)
  have hb0:b[f/2+0]?=some x0:=by rw [←hget 0 (by omega)];exact hx0
  have hx0b:=hu x0 (List.mem_of_getElem? hb0)
  obtain⟨xl,hxl⟩:=ZF (xs:=l) (k:=l.length-1) (by omega)
  have hbl:b[f/2+(l.length-1)]?=some xl:=by rw [←hget _ (by omega)];exact hxl
  have hxlb:=hu xl (List.mem_of_getElem? hbl)
  unfold Zb3
  rw [if_neg (by simp;omega),Zrj (by omega),Option.bind_some]
  have e1:i64 ((t:Int)+1)=((t+1:Nat):Int):=by rw [ZY (by omega) (by omega)];push_cast;rfl
  rw [e1,Zrj (by omega),Option.bind_some,ZrZ (by omega) hq2,←hldef,Option.bind_some,Xk (by simp;omega),Option.bind_some,Zri,Option.bind_some,List.nil_append]
  obtain⟨l2,hl2⟩: ∃ l2,l2=(if f % 2=1 then l.set 0 (x0 % 16) else l):=⟨_,rfl⟩
  have hl2len:l2.length=l.length:=by rw [hl2];split<;>simp
  have step1:((if(decide (((f % 2:Nat):Int)=1))=true then
  (idx l 0).bind fun x=>
  (idx l 0).bind fun x2=>
  some (l.set (Int.toNat 0) (XF .u8 x 15))
  else
  some l):Option (((List Int))))=some l2:=by
    have ei:idx l 0=some x0:=Zw (k:=0) hx0
    rw [hl2]
    by_cases ha:f % 2=1
    · rw [if_pos (by simp;omega),if_pos ha,ei,Option.bind_some,Option.bind_some,Zmm hx0b];rfl
    · rw [if_neg (by simp;omega),if_neg ha]
  rw [step1,Option.bind_some,Z8,Zri,Option.bind_some]
  have ef:decide (((f % 2:Nat):Int)=1)=decide (f % 2=1):=by rw [decide_eq_decide];omega
  rw [ef]
  have hget2: ∀ k x,k<l.length→b[f/2+k]?=some x→l2[k]?=some (if f % 2=1∧k=0 then x % 16 else x):=fun k x hk hx=>by
    rw [hl2]
    by_cases ha:f % 2=1
    · rw [if_pos ha]
      cases k with
      |zero=>
        rw [hb0] at hx;cases hx
        rw [List.getElem?_set_self (by omega),if_pos ⟨ha,rfl⟩]
      |succ k=>rw [List.getElem?_set_ne (by omega),if_neg (by omega),hget _ hk,hx]
    · rw [if_neg ha,if_neg (fun h=>ha h.1),hget _ hk,hx]
  by_cases hb:t % 2=1
  · rw [if_pos (by simp;omega)]
    have ei:i64 ((l2.length:Int)-1)=((l.length-1:Nat):Int):=by rw [hl2len,ZY (by omega) (by omega)];omega
    have hne: ¬(f % 2=1∧l.length-1=0):=by omega
    have hl2l:l2[l.length-1]?=some xl:=by rw [hget2 _ xl (by omega) hbl,if_neg hne]
    rw [ei,Zw hl2l,Option.bind_some,Option.bind_some,ZpY hxlb,Int.toNat_natCast]
    congr 2
    refine List.ext_getElem? fun k=> ?_
    rcases Nat.lt_or_ge k l.length with hk |hk
    · obtain⟨x,hx⟩:=ZF (xs:=b) (k:=f/2+k) (by omega)
      have hxb:=hu x (List.mem_of_getElem? hx)
      rw [hpk k x hk hx]
      by_cases hkl:k=l.length-1
      · subst hkl
        rw [hbl] at hx;cases hx
        rw [List.getElem?_set_self (by omega),if_neg hne,if_neg (by omega)]
        congr 1;omega
      · rw [List.getElem?_set_ne (by omega),hget2 k x hk hx,if_pos (show 2*(f/2+k)+1<t by omega)]
        congr 1
        split<;>omega
    · rw [List.getElem?_eq_none (by simp;omega),List.getElem?_eq_none (by omega)]
  · rw [if_neg (by simp;omega)]
    congr 2
    refine List.ext_getElem? fun k=> ?_
    rcases Nat.lt_or_ge k l.length with hk |hk
    · obtain⟨x,hx⟩:=ZF (xs:=b) (k:=f/2+k) (by omega)
      have hxb:=hu x (List.mem_of_getElem? hx)
      rw [hpk k x hk hx,hget2 k x hk hx,if_pos (show 2*(f/2+k)+1<t by omega)]
      congr 1
      split<;>omega
    · rw [List.getElem?_eq_none (by omega),List.getElem?_eq_none (by omega)]
end Go.Vx

namespace Go.Vx
open Go Go.RowKit
def ZsF{ε ρ:Type}(A:ε→ρ)(Z:ρ):Option ε→ρ
  |some e=>A e
  |none=>Z
theorem ZhX{τ ρ ε:Type}{body:τ→Option (τ ⊕ ρ)}(S:Nat→τ)(P:Nat→Option ε)(A:ε→ρ)(Z:ρ){b:Nat}
    (hstep: ∀ k,k<b→(∃ e,P k=some e∧body (S k)=some (.inr (A e)))∨(P k=none∧body (S k)=some (.inl (S (k+1))))) (hend:body (S b)=some (.inr Z)):
    loop body (S 0)=some (ZsF A Z ((List.range' 0 b).findSome? P)):=by
  have key: ∀ n k,k+n=b→loop body (S k)=some (ZsF A Z ((List.range' k n).findSome? P)):=by
    intro n
    induction n with
    |zero=>
      intro k hk
      obtain rfl:k=b:=by omega
      rw [Zei,hend];rfl
    |succ n ih=>
      intro k hk
      rw [Zei,List.range'_succ,List.findSome?_cons]
      rcases hstep k (by omega) with ⟨e,h1,h2⟩ | ⟨h1,h2⟩
      · rw [h1,h2];rfl
      · rw [h1,h2]
        exact ih (k+1) (by omega)
  exact key b 0 (by omega)
theorem Zgu{ε:Type}{P:Nat→Option ε}{b:Nat}(h:(List.range' 0 b).findSome? P=none)(k:Nat)(hk:k<b):P k=none:=
  List.findSome?_eq_none_iff.1 h k (List.mem_range'.2 ⟨k,hk,by omega⟩)
theorem Zml(v:Vector Int 64)(g:Int→Bool):v.toList.any g=true↔ ∃ i,i<64∧g (wd v i)=true:=by
  rw [List.any_eq_true]
  constructor
  · rintro⟨x,hx,hg⟩
    obtain⟨i,hi⟩:=List.getElem?_of_mem hx
    refine⟨i,by have:=(List.getElem?_eq_some_iff.1 hi).1;simpa using this,?_⟩
    unfold wd
    rw [XX hi];exact hg
  · rintro⟨i,hi,hg⟩
    obtain⟨x,hx⟩:=ZF (xs:=v.toList) (k:=i) (by simp;omega)
    unfold wd at hg
    rw [XX hx] at hg
    exact⟨x,List.mem_of_getElem? hx,hg⟩
theorem Zkb(s:List Int)(hs:s.length≤1000000)(g:Int→Bool):QE s (fun z0=>some (g z0))=some (s.any g):=by
  have:=ZhX (body:=t1 (QF s (fun z0=>some (g z0)))) (fun k=>(k:Int)) (fun k=>if g (s.getD k 0)=true then some (k:Int) else none) (fun e=>(.inl e:Int ⊕ Unit)) (.inr ()) (b:=s.length) (fun k hk=>by
    obtain⟨x,hx⟩:=ZF hk
    have eb:QF s (fun z0=>some (g z0)) (k:Int)=if g x=true then some (.inr (.inl (k:Int))) else some (.inl ((k:Int)+1)):=by
      unfold QF
      rw [if_pos (by simp;omega),Zw hx,Option.bind_some,Option.bind_some,ZY (by omega) (by omega)]
    rw [Z8,eb,XX hx]
    by_cases hg:g x=true
    · exact .inl ⟨_,by rw [if_pos hg],by rw [if_pos hg]⟩
    · exact .inr ⟨by rw [if_neg hg],by rw [if_neg hg];push_cast;rfl⟩) (by
    rw [Z8]
    unfold QF
    rw [if_neg (by simp)])
  have e0:(0:Int)=((0:Nat):Int):=rfl
  unfold QE X0
  rw [e0,this,Option.bind_some]
  cases hf:(List.range' 0 s.length).findSome? (fun k=>if g (s.getD k 0)=true then some (k:Int) else none) with
  |none=>
    show(some (-1:Int)).bind _=_
    rw [Option.bind_some]
    have:s.any g=false:=by
      rw [List.any_eq_false]
      intro x hx hg
      obtain⟨i,hi⟩:=List.getElem?_of_mem hx
      have:=Zgu hf i (List.getElem?_eq_some_iff.1 hi).1
      rw [XX hi,if_pos hg] at this
      cases this
    rw [this];rfl
  |some e=>
    show(some (e:Int)).bind _=_
    rw [Option.bind_some]
    obtain⟨k,hk,hke⟩:=List.exists_of_findSome?_eq_some hf
    have hk2:k<s.length:=by obtain⟨j,hj,rfl⟩:=List.mem_range'.1 hk;omega
    obtain⟨x,hx⟩:=ZF hk2
    split at hke
    · rename_i hg
      cases hke
      rw [XX hx] at hg
      have:s.any g=true:=List.any_eq_true.2 ⟨x,List.mem_of_getElem? hx,hg⟩
      rw [this,decide_eq_true (by omega)]
    · cases hke
theorem Zrb(v:Vector Int 64):slc v.toList 0 (64:Int)=some v.toList:=by
  have:=ZrZ (l:=v.toList) (a:=0) (b:=64) (by omega) (by simp)
  rw [show((64:Nat):Int)=64 from rfl,show((0:Nat):Int)=0 from rfl] at this
  rw [this,List.drop_zero,List.take_of_length_le (by simp)]
theorem ZrB(r:api_Rest)(a b:Int):Zcc r a b=some (r.States.toList.any fun s=>decide (s=a) || decide (s=b)):=by
  unfold Zcc
  rw [Zrb,Option.bind_some]
  have:=Zkb r.States.toList (by simp) (fun s=>decide (s=a) || decide (s=b))
  unfold Zcb
  rw [this];rfl
theorem Zmw(r:api_Rest)(a:Int):Zai r a=some (!r.States.toList.any fun s=> !decide (s=a)):=by
  unfold Zai
  rw [Zrb,Option.bind_some]
  have:=Zkb r.States.toList (by simp) (fun s=> !decide (s=a))
  unfold ZcU
  rw [this];rfl
noncomputable def Zl9(f:Vector Int 64)(n:Int):Bool:=ZfE f&&decide ((Zd9 f).1=n)
theorem Zj5{f:Vector Int 64}(h:fU f)(h1:wd f 1≤4095)(h2:wd f 2≤4095)(n:Int):Je f n=some (Zl9 f n):=by
  unfold Je
  rw [(Zfs h h1 h2).1,Option.bind_some,Znk h,Option.bind_some];rfl
theorem ZgK{f:Vector Int 64}(h:fU f)(h1:wd f 1≤4095)(h2:wd f 2≤4095):JP f=some (Zd9 f).1:=by
  unfold JP
  rw [(Zfs h h1 h2).2,Option.bind_some]
end Go.Vx

namespace Go.Vx
open Go Go.RowKit
theorem Xj{σ ρ:Type}{body:σ→Int→Option ((σ×Int) ⊕ ρ)}{N:Nat}(I:Nat→σ→Prop)(Q:ρ→Prop)
    (hstep: ∀ (k:Nat) s,k<N→I k s→(∃ s',body s (k:Int)=some (.inl (s',(k:Int)+1))∧I (k+1) s')∨ ∃ r,body s (k:Int)=some (.inr r)∧Q r)
    (hend: ∀ s,I N s→ ∃ r,body s (N:Int)=some (.inr r)∧Q r) {s0:σ} (h0:I 0 s0): ∃ r,loop (t2 body) (s0,0)=some r∧Q r:=by
  refine ZbE (body:=t2 body) (fun p=> ∃ k:Nat,p.2=k∧k≤N∧I k p.1) (fun p=>N-p.2.toNat) Q ?_ (s0,0) ⟨0,rfl,Nat.zero_le _,h0⟩
  rintro⟨s,i⟩ ⟨k,hi,hk,hI⟩
  simp only at hi hI
  subst hi
  simp only [Int.toNat_natCast,QG]
  rcases Nat.lt_or_ge k N with h |h
  · rcases hstep k s h hI with ⟨s',h1,h2⟩ | ⟨r,h1,h2⟩
    · exact .inl ⟨_,h1,⟨k+1,by push_cast;rfl,h,h2⟩,by simp only;omega⟩
    · exact .inr ⟨r,h1,h2⟩
  · have:k=N:=by omega
    subst this
    exact .inr (hend s hI)
theorem Zdb{α β ρ:Type}{body:α→β→Int→Option ((α×β×Int) ⊕ ρ)}{N:Nat}(I:Nat→α→β→Prop)(Q:ρ→Prop)
    (hstep: ∀ (k:Nat) a b,k<N→I k a b→(∃ a' b',body a b (k:Int)=some (.inl (a',b',(k:Int)+1))∧I (k+1) a' b')∨ ∃ r,body a b (k:Int)=some (.inr r)∧Q r)
    (hend: ∀ a b,I N a b→ ∃ r,body a b (N:Int)=some (.inr r)∧Q r) {a0:α} {b0:β} (h0:I 0 a0 b0): ∃ r,loop (t3 body) (a0,b0,0)=some r∧Q r:=by
  refine ZbE (body:=t3 body) (fun p=> ∃ k:Nat,p.2.2=k∧k≤N∧I k p.1 p.2.1) (fun p=>N-p.2.2.toNat) Q ?_ (a0,b0,0) ⟨0,rfl,Nat.zero_le _,h0⟩
  rintro⟨a,b,i⟩ ⟨k,hi,hk,hI⟩
  simp only at hi hI
  subst hi
  simp only [Int.toNat_natCast,Zef]
  rcases Nat.lt_or_ge k N with h |h
  · rcases hstep k a b h hI with ⟨a',b',h1,h2⟩ | ⟨r,h1,h2⟩
    · exact .inl ⟨_,h1,⟨k+1,by push_cast;rfl,h,h2⟩,by simp only;omega⟩
    · exact .inr ⟨r,h1,h2⟩
  · have:k=N:=by omega
    subst this
    exact .inr (hend a b hI)
theorem Zm4{ρ:Type}{body:Int→Option (Int ⊕ ρ)}{N:Nat}(I:Nat→Prop)(Q:ρ→Prop)
    (hstep: ∀ k:Nat,k<N→I k→(body (k:Int)=some (.inl ((k:Int)+1))∧I (k+1))∨ ∃ r,body (k:Int)=some (.inr r)∧Q r)
    (hend:I N→ ∃ r,body (N:Int)=some (.inr r)∧Q r) (h0:I 0): ∃ r,loop (t1 body) 0=some r∧Q r:=by
  refine ZbE (body:=t1 body) (fun p=> ∃ k:Nat,p=k∧k≤N∧I k) (fun p=>N-p.toNat) Q ?_ 0 ⟨0,rfl,Nat.zero_le _,h0⟩
  rintro i ⟨k,hi,hk,hI⟩
  subst hi
  simp only [Int.toNat_natCast,Z8]
  rcases Nat.lt_or_ge k N with h |h
  · rcases hstep k h hI with ⟨h1,h2⟩ | ⟨r,h1,h2⟩
    · exact .inl ⟨_,h1,⟨k+1,by push_cast;rfl,h,h2⟩,by omega⟩
    · exact .inr ⟨r,h1,h2⟩
  · have:k=N:=by omega
    subst this
    exact .inr (hend hI)
theorem Zqp{α:Type}{o:List α}{at_:Nat}(z:α)(h:at_≤o.length)(n:α):
    (cpy (o++ [z]) (at_+1) ((o.length+1)-(at_+1)) at_ ((o.length+1)-at_)).set at_ n=o.take at_++n::o.drop at_:=by
  have hl:(o++ [z]).length=o.length+1:=by simp
  have h1:(at_+1)+((o.length+1)-(at_+1))≤(o++ [z]).length:=by omega
  have h2:at_+((o.length+1)-at_)≤(o++ [z]).length:=by omega
  refine List.ext_getElem? fun i=> ?_
  by_cases hi:i<o.length+1
  · by_cases hia:i=at_
    · subst hia
      rw [List.getElem?_set_self (by rw [ZiD h1 h2];omega),List.getElem?_append_right (by simp;omega)]
      simp [Nat.min_eq_left h]
    · rw [List.getElem?_set_ne (Ne.symm hia),ZqT h1 h2 (by omega)]
      by_cases hlt:i<at_
      · rw [if_neg (by omega),List.getElem?_append_left (by omega),List.getElem?_append_left (by simp;omega),List.getElem?_take_of_lt hlt]
      · rw [if_pos (by omega),List.getElem?_append_left (by omega),List.getElem?_append_right (by simp;omega)]
        have e:i-(o.take at_).length=(i-at_-1)+1:=by simp;omega
        rw [e,List.getElem?_cons_succ,List.getElem?_drop]
        congr 1
  · rw [List.getElem?_eq_none (by rw [List.length_set,ZiD h1 h2];omega),List.getElem?_eq_none (by simp;omega)]
theorem Zo0{o:List Int}{at_:Nat}(h:at_≤o.length)(n:Int):
    (cpy (o++ [0]) (at_+1) ((o.length+1)-(at_+1)) at_ ((o.length+1)-at_)).set at_ n=o.take at_++n::o.drop at_:=Zqp 0 h n
end Go.Vx
