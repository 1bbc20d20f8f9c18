/- A text of the proof: a verified executor of the program form, or the contracts of the functions that the law reaches. -/
import Derived.Test.YtgohgnaapbpggaaGreatDoorShT
import Derived.Test.YtgohgnaapbpggaaGreatDoorVD
import Derived.Test.YtgohgnaapbpggaaGreatDoorShLib
set_option linter.all false
namespace Go.Vx
open Go Go.RowKit
theorem lnb{α β:Type}{x:Option α}{f:α→Option β}{r:β}(h:x.bind f=some r): ∃ a,x=some a∧f a=some r:=Option.bind_eq_some_iff.1 h
theorem JP{s:List Int}{at_:Int}{data:List Int}{power:Int}{r:Int×Bool×List Int}(h:QM s at_ data power=some r):r.2.2.length=s.length:=by
  unfold QM at h
  obtain⟨q,hq,h⟩:=lnb h
  have hQ:Sum.elim (fun q:Int×Bool×List Int=>q.2.2.length=s.length) (fun q:List Int×Int=>q.1.length=s.length) q:=by
    refine Zai (body:=t3 (QZ at_ data)) (fun x=>x.1.length=s.length) (fun q=>Sum.elim (fun q:Int×Bool×List Int=>q.2.2.length=s.length) (fun q:List Int×Int=>q.1.length=s.length) q) ?_ ?_ rfl hq
    · rintro⟨o,p,i⟩ s' hs hb
      simp only [Zc5] at hb hs
      unfold QZ at hb
      split at hb
      · obtain⟨x,_,hb⟩:=lnb hb
        split at hb
        · obtain⟨_,_,hb⟩:=lnb hb
          obtain⟨_,_,hb⟩:=lnb hb
          cases hb
        · obtain⟨_,_,hb⟩:=lnb hb
          obtain⟨_,_,hb⟩:=lnb hb
          cases hb
          simpa using hs
      · cases hb
    · rintro⟨o,p,i⟩ s' hs hb
      simp only [Zc5] at hb hs
      unfold QZ at hb
      split at hb
      · obtain⟨x,_,hb⟩:=lnb hb
        split at hb
        · obtain⟨_,_,hb⟩:=lnb hb
          obtain⟨_,_,hb⟩:=lnb hb
          cases hb
          simpa using hs
        · obtain⟨_,_,hb⟩:=lnb hb
          obtain⟨_,_,hb⟩:=lnb hb
          cases hb
      · cases hb;exact hs
  cases q with
  |inl q=>cases h;exact hQ
  |inr q=>cases h;exact hQ
theorem ZhO{s:List Int}{power:Int}{r:Int×Bool×List Int}(h:Xm s power=some r):r.2.2.length=s.length:=by
  unfold Xm at h
  split at h
  · obtain⟨q,_,h⟩:=lnb h
    obtain⟨_,_,h⟩:=lnb h
    obtain⟨o,ho,h⟩:=lnb h
    cases h
    refine Zai (body:=t2 (QH q)) (fun x=>x.1.length=s.length) (fun o=>o.length=s.length) ?_ ?_ rfl ho
    · rintro⟨o,i⟩ s' hs hb
      simp only [Q1] at hb hs
      unfold QH at hb
      split at hb
      · obtain⟨_,_,hb⟩:=lnb hb
        obtain⟨_,_,hb⟩:=lnb hb
        cases hb
        simpa using hs
      · cases hb
    · rintro⟨o,i⟩ s' hs hb
      simp only [Q1] at hb hs
      unfold QH at hb
      split at hb
      · obtain⟨_,_,hb⟩:=lnb hb
        obtain⟨_,_,hb⟩:=lnb hb
        cases hb
      · cases hb;exact hs
  · obtain⟨o,ho,h⟩:=lnb h
    cases h
    refine Zai (body:=t2 (QG s)) (fun x=>x.1.length=s.length) (fun o=>o.length=s.length) ?_ ?_ rfl ho
    · rintro⟨o,i⟩ s' hs hb
      simp only [Q1] at hb hs
      unfold QG at hb
      split at hb
      · obtain⟨_,_,hb⟩:=lnb hb
        cases hb
        simpa using hs
      · cases hb
    · rintro⟨o,i⟩ s' hs hb
      simp only [Q1] at hb hs
      unfold QG at hb
      split at hb
      · obtain⟨_,_,hb⟩:=lnb hb
        cases hb
      · cases hb;exact hs
theorem QQ{data:List Int}{a b:Int}{cmp:Int→Int→Option Int}{r:List Int}(h:ZE data a b cmp=some r):r.length=data.length:=by
  unfold ZE at h
  refine Zai (body:=t2 (Zx a b cmp)) (fun x=>x.1.length=data.length) (fun o=>o.length=data.length) ?_ ?_ rfl h
  · rintro⟨o,i⟩ s' hs hb
    simp only [Q1] at hb hs
    unfold Zx at hb
    split at hb
    · obtain⟨o2,h2,hb⟩:=lnb hb
      cases hb
      refine Zai (body:=t2 (ZC a cmp)) (fun x=>x.1.length=data.length) (fun o=>o.length=data.length) ?_ ?_ hs h2
      · rintro⟨o,j⟩ s' hs hb
        simp only [Q1] at hb hs
        unfold ZC at hb
        obtain⟨_,_,hb⟩:=lnb hb
        obtain⟨_,_,hb⟩:=lnb hb
        obtain⟨_,_,hb⟩:=lnb hb
        split at hb
        · obtain⟨_,_,hb⟩:=lnb hb
          obtain⟨_,_,hb⟩:=lnb hb
          obtain⟨_,_,hb⟩:=lnb hb
          obtain⟨_,_,hb⟩:=lnb hb
          cases hb
          simpa using hs
        · cases hb
      · rintro⟨o,j⟩ s' hs hb
        simp only [Q1] at hb hs
        unfold ZC at hb
        obtain⟨_,_,hb⟩:=lnb hb
        obtain⟨_,_,hb⟩:=lnb hb
        obtain⟨_,_,hb⟩:=lnb hb
        split at hb
        · obtain⟨_,_,hb⟩:=lnb hb
          obtain⟨_,_,hb⟩:=lnb hb
          obtain⟨_,_,hb⟩:=lnb hb
          obtain⟨_,_,hb⟩:=lnb hb
          cases hb
        · cases hb;exact hs
    · cases hb
  · rintro⟨o,i⟩ s' hs hb
    simp only [Q1] at hb hs
    unfold Zx at hb
    split at hb
    · obtain⟨o2,h2,hb⟩:=lnb hb
      cases hb
    · cases hb;exact hs
theorem QJ{data:List Int}{a b n:Int}{cmp:Int→Int→Option Int}{r:List Int}(h:ZU data a b n cmp=some r):r.length=data.length:=by
  unfold ZU at h
  refine Zai (body:=t2 (Qa a b n)) (fun x=>x.1.length=data.length) (fun o=>o.length=data.length) ?_ ?_ rfl h
  · rintro⟨o,i⟩ s' hs hb
    simp only [Q1] at hb hs
    unfold Qa at hb
    split at hb
    · obtain⟨_,_,hb⟩:=lnb hb
      obtain⟨_,_,hb⟩:=lnb hb
      obtain⟨_,_,hb⟩:=lnb hb
      obtain⟨_,_,hb⟩:=lnb hb
      cases hb
      simpa using hs
    · cases hb
  · rintro⟨o,i⟩ s' hs hb
    simp only [Q1] at hb hs
    unfold Qa at hb
    split at hb
    · obtain⟨_,_,hb⟩:=lnb hb
      obtain⟨_,_,hb⟩:=lnb hb
      obtain⟨_,_,hb⟩:=lnb hb
      obtain⟨_,_,hb⟩:=lnb hb
      cases hb
    · cases hb;exact hs
theorem Zbs{data:List Int}{a m b:Int}{cmp:Int→Int→Option Int}{r:List Int}(h:Qo data a m b cmp=some r):r.length=data.length:=by
  unfold Qo at h
  obtain⟨⟨o,i⟩,ho,h⟩:=lnb h
  simp only [Q1] at h
  obtain⟨y,hy,h⟩:=lnb h
  cases h
  refine(QJ hy).trans ?_
  refine Zai (body:=t3 (Qn m cmp)) (fun x=>x.1.length=data.length) (fun o=>o.1.length=data.length) ?_ ?_ rfl ho
  · rintro⟨o,i,j⟩ s' hs hb
    simp only [Zc5] at hb hs
    unfold Qn at hb
    split at hb
    · split at hb
      · obtain⟨z,hz,hb⟩:=lnb hb
        cases hb
        exact(QJ hz).trans hs
      · obtain⟨z,hz,hb⟩:=lnb hb
        cases hb
        exact(QJ hz).trans hs
    · cases hb
  · rintro⟨o,i,j⟩ s' hs hb
    simp only [Zc5] at hb hs
    unfold Qn at hb
    split at hb
    · split at hb
      · obtain⟨z,hz,hb⟩:=lnb hb
        cases hb
      · obtain⟨z,hz,hb⟩:=lnb hb
        cases hb
    · cases hb;exact hs
theorem Zpy{rec_:List Int→Int→Int→Int→(Int→Int→Option Int)→Option (List Int)}{data:List Int}{a m b:Int}{cmp:Int→Int→Option Int}{r:List Int}
    (hr: ∀ {data:List Int} {a m b:Int} {cmp:Int→Int→Option Int} {r:List Int},rec_ data a m b cmp=some r→r.length=data.length) (h:Qg rec_ data a m b cmp=some r):r.length=data.length:=by
  unfold Qg at h
  split at h
  · obtain⟨i,_,h⟩:=lnb h
    simp only [Xv] at h
    obtain⟨o,ho,h⟩:=lnb h
    cases h
    refine Zai (body:=t2 (ZV i)) (fun x=>x.1.length=data.length) (fun o=>o.length=data.length) ?_ ?_ rfl ho
    · rintro⟨o,k⟩ s' hs hb
      simp only [Q1] at hb hs
      unfold ZV at hb
      split at hb
      · obtain⟨_,_,hb⟩:=lnb hb
        obtain⟨_,_,hb⟩:=lnb hb
        obtain⟨_,_,hb⟩:=lnb hb
        obtain⟨_,_,hb⟩:=lnb hb
        cases hb
        simpa using hs
      · cases hb
    · rintro⟨o,k⟩ s' hs hb
      simp only [Q1] at hb hs
      unfold ZV at hb
      split at hb
      · obtain⟨_,_,hb⟩:=lnb hb
        obtain⟨_,_,hb⟩:=lnb hb
        obtain⟨_,_,hb⟩:=lnb hb
        obtain⟨_,_,hb⟩:=lnb hb
        cases hb
      · cases hb;exact hs
  · split at h
    · obtain⟨i,_,h⟩:=lnb h
      simp only [Xv] at h
      obtain⟨o,ho,h⟩:=lnb h
      cases h
      refine Zai (body:=t2 (ZX i)) (fun x=>x.1.length=data.length) (fun o=>o.length=data.length) ?_ ?_ rfl ho
      · rintro⟨o,k⟩ s' hs hb
        simp only [Q1] at hb hs
        unfold ZX at hb
        split at hb
        · obtain⟨_,_,hb⟩:=lnb hb
          obtain⟨_,_,hb⟩:=lnb hb
          obtain⟨_,_,hb⟩:=lnb hb
          obtain⟨_,_,hb⟩:=lnb hb
          cases hb
          simpa using hs
        · cases hb
      · rintro⟨o,k⟩ s' hs hb
        simp only [Q1] at hb hs
        unfold ZX at hb
        split at hb
        · obtain⟨_,_,hb⟩:=lnb hb
          obtain⟨_,_,hb⟩:=lnb hb
          obtain⟨_,_,hb⟩:=lnb hb
          obtain⟨_,_,hb⟩:=lnb hb
          cases hb
        · cases hb;exact hs
    · obtain⟨q3,_,h⟩:=lnb h
      obtain⟨⟨st,rr⟩,_,h⟩:=lnb h
      simp only [Q1] at h
      obtain⟨s2,_,h⟩:=lnb h
      simp only [Xv] at h
      obtain⟨o5,h5,h⟩:=lnb h
      simp only [Xv] at h
      obtain⟨o6,h6,h⟩:=lnb h
      simp only [Xv] at h
      have l5:o5.length=data.length:=by
        split at h5
        · obtain⟨z,hz,h5⟩:=lnb h5
          cases h5
          exact Zbs hz
        · cases h5;rfl
      have l6:o6.length=data.length:=by
        split at h6
        · obtain⟨z,hz,h6⟩:=lnb h6
          cases h6
          exact(hr hz).trans l5
        · cases h6;exact l5
      split at h
      · obtain⟨z,hz,h⟩:=lnb h
        cases h
        exact(hr hz).trans l6
      · cases h;exact l6
theorem QN{n_:Nat}{data:List Int}{a m b:Int}{cmp:Int→Int→Option Int}{r:List Int}(h:ZQ n_ data a m b cmp=some r):r.length=data.length:=by
  induction n_ generalizing data a m b cmp r with
  |zero=>cases h
  |succ n ih=>exact Zpy (rec_:=ZQ n) (fun h=>ih h) h
theorem ZeL{data:List Int}{n:Int}{cmp:Int→Int→Option Int}{r:List Int}(hy:Qp data n cmp=some r):r.length=data.length:=by
  unfold Qp at hy
  obtain⟨⟨o,a⟩,ho,hy⟩:=lnb hy
  simp only [Q1] at hy
  obtain⟨y2,hy2,hy⟩:=lnb hy
  have h1:o.length=data.length:=by
    refine Zai (body:=t3 (ZT n cmp)) (fun s=>s.1.length=data.length) (fun q=>q.1.length=data.length) ?_ ?_ rfl ho
    · rintro⟨o,a,b⟩ s' hs hb
      simp only [Zc5] at hb hs
      unfold ZT at hb
      split at hb
      · obtain⟨z,hz,hb⟩:=lnb hb
        cases hb
        exact(QQ hz).trans hs
      · cases hb
    · rintro⟨o,a,b⟩ s' hs hb
      simp only [Zc5] at hb hs
      unfold ZT at hb
      split at hb
      · obtain⟨z,hz,hb⟩:=lnb hb
        cases hb
      · cases hb;exact hs
  have h2:y2.length=data.length:=(QQ hy2).trans h1
  have inner: ∀ (bs:Int) (s:List Int) (q:List Int×Int),s.length=data.length→loop (t3 (ZN n cmp bs)) (s,0,i64 (2*bs))=some q→q.1.length=data.length:=by
    intro bs s q hs hq
    refine Zai (body:=t3 (ZN n cmp bs)) (fun s=>s.1.length=data.length) (fun q=>q.1.length=data.length) ?_ ?_ hs hq
    · rintro⟨o,a,b⟩ s' hs hb
      simp only [Zc5] at hb hs
      unfold ZN at hb
      split at hb
      · obtain⟨z,hz,hb⟩:=lnb hb
        cases hb
        exact(QN hz).trans hs
      · cases hb
    · rintro⟨o,a,b⟩ s' hs hb
      simp only [Zc5] at hb hs
      unfold ZN at hb
      split at hb
      · obtain⟨z,hz,hb⟩:=lnb hb
        cases hb
      · cases hb;exact hs
  refine Zai (body:=t2 (ZM n cmp)) (fun s=>s.1.length=data.length) (fun q=>q.length=data.length) ?_ ?_ h2 hy
  · rintro⟨o,bs⟩ s' hs hb
    simp only [Q1] at hb hs
    unfold ZM at hb
    split at hb
    · obtain⟨⟨o4,a3⟩,h4,hb⟩:=lnb hb
      simp only [Q1] at hb
      have l4:=inner bs o _ hs h4
      split at hb
      · obtain⟨z,hz,hb⟩:=lnb hb
        cases hb
        exact(QN hz).trans l4
      · cases hb;exact l4
    · cases hb
  · rintro⟨o,bs⟩ s' hs hb
    simp only [Q1] at hb hs
    unfold ZM at hb
    split at hb
    · obtain⟨⟨o4,a3⟩,h4,hb⟩:=lnb hb
      simp only [Q1] at hb
      split at hb
      · obtain⟨z,hz,hb⟩:=lnb hb
        cases hb
      · cases hb
    · cases hb;exact hs
theorem Zdr{x:List Int}{cmp:Int→Int→Option Int}{r:List Int}(h:ZW x cmp=some r):r.length=x.length:=by
  unfold ZW at h
  obtain⟨y,hy,h⟩:=lnb h
  cases h
  exact ZeL hy
end Go.Vx

namespace Go.Vx
open Go Go.RowKit
theorem Zgg{σ ρ:Type}{body:σ→Option (σ ⊕ ρ)}{s s':σ}{r:ρ}(h:body s=some (.inl s'))(k:loop body s'=some r):loop body s=some r:=by
  rw [ZfE,h];exact k
theorem Zdt{σ ρ:Type}{body:σ→Option (σ ⊕ ρ)}{s:σ}{r:ρ}(h:body s=some (.inr r)):loop body s=some r:=by
  rw [ZfE,h];rfl
theorem Zml{body:Int→Int→Option ((Int×Int) ⊕ Int)}(P:Nat→Bool){lo hi:Nat}(hle:lo≤hi)
    (hst: ∀ i j:Nat,lo≤i→i<j→j≤hi→body i j=some (.inl (if P ((i+j)/2)=true then((((i+j)/2+1:Nat):Int),(j:Int)) else((i:Int),(((i+j)/2:Nat):Int)))))
    (hend: ∀ i:Nat,lo≤i→i≤hi→body i i=some (.inr (i:Int))):
    ∃ s,lo≤s∧s≤hi∧loop (t2 body) ((lo:Int),(hi:Int))=some (s:Int)∧(lo<s→P (s-1)=true)∧(s<hi→P s=false):=by
  suffices H: ∀ n i j:Nat,j-i=n→lo≤i→i≤j→j≤hi→(lo<i→P (i-1)=true)→(j<hi→P j=false)→
      ∃ s,lo≤s∧s≤hi∧loop (t2 body) ((i:Int),(j:Int))=some (s:Int)∧(lo<s→P (s-1)=true)∧(s<hi→P s=false) from
    H _ lo hi rfl (Nat.le_refl _) hle (Nat.le_refl _) (fun h=>absurd h (Nat.lt_irrefl _)) (fun h=>absurd h (Nat.lt_irrefl _))
  intro n
  induction n using Nat.strongRecOn with
  |_ n ih=>
    intro i j hn h1 h2 h3 h4 h5
    rcases Nat.lt_or_ge i j with h |h
    · by_cases hP:P ((i+j)/2)=true
      · obtain⟨s,a1,a2,a3,a4,a5⟩:=ih (j-((i+j)/2+1)) (by omega) ((i+j)/2+1) j rfl (by omega) (by omega) h3 (fun _=>by simpa using hP) h5
        exact⟨s,a1,a2,Zgg (by simp only [Q1];rw [hst i j h1 h h3,pG hP]) a3,a4,a5⟩
      · obtain⟨s,a1,a2,a3,a4,a5⟩:=ih ((i+j)/2-i) (by omega) i ((i+j)/2) rfl h1 (by omega) (by omega) h4 (fun _=>by simpa using hP)
        exact⟨s,a1,a2,Zgg (by simp only [Q1];rw [hst i j h1 h h3,nG hP]) a3,a4,a5⟩
    · have:i=j:=by omega
      subst this
      exact⟨i,h1,h3,Zdt (by simp only [Q1];exact hend i h1 h3),h4,h5⟩
def LtK(key:Int→Int)(x y:Int):Prop:=key x<key y∨(key x=key y∧x<y)
theorem LtK.trans{key:Int→Int}{x y z:Int}(h:LtK key x y)(h2:LtK key y z):LtK key x z:=by unfold LtK at*;omega
theorem LtK.of_not{key:Int→Int}{x y:Int}(h: ¬LtK key x y)(hne:x≠y):LtK key y x:=by unfold LtK at*;omega
theorem LtK.of_lt{key:Int→Int}{x y:Int}(h:y<x):LtK key x y↔key x<key y:=by unfold LtK;omega
abbrev Srt(key:Int→Int)(l:List Int):Prop:=l.Pairwise (LtK key)
theorem Srt.app{key:Int→Int}{l m:List Int}(hl:Srt key l)(hm:Srt key m)(h: ∀ x∈l,∀ y∈m,LtK key x y):Srt key (l++m):=List.pairwise_append.2 ⟨hl,hm,h⟩
theorem Srt.fst{key:Int→Int}{l m:List Int}(h:Srt key (l++m)):Srt key l:=(List.pairwise_append.1 h).1
theorem Srt.snd{key:Int→Int}{l m:List Int}(h:Srt key (l++m)):Srt key m:=(List.pairwise_append.1 h).2.1
theorem Srt.mid{key:Int→Int}{l m:List Int}(h:Srt key (l++m)): ∀ x∈l,∀ y∈m,LtK key x y:=(List.pairwise_append.1 h).2.2
theorem below{key:Int→Int}{l m:List Int}{x y:Int}(hl:Srt key (l++ [x]))(hm:Srt key (y::m))(h:LtK key x y): ∀ a∈l++ [x],∀ b∈y::m,LtK key a b:=by
  have h1: ∀ a∈l++ [x],a=x∨LtK key a x:=by
    intro a ha
    rcases List.mem_append.1 ha with q |q
    · exact .inr (hl.mid a q x (List.mem_singleton.2 rfl))
    · exact .inl (List.mem_singleton.1 q)
  have h2: ∀ b∈y::m,b=y∨LtK key y b:=by
    intro b hb
    rcases List.mem_cons.1 hb with q |q
    · exact .inl q
    · exact .inr ((List.pairwise_cons.1 hm).1 b q)
  intro a ha b hb
  rcases h1 a ha with rfl |q<;>rcases h2 b hb with rfl |q2
  · exact h
  · exact h.trans q2
  · exact q.trans h
  · exact q.trans (h.trans q2)
theorem ZpX{α:Type}{l:List α}(h:l≠ []): ∃ m x,l=m++ [x]:=by
  rcases List.eq_nil_or_concat l with rfl | ⟨l',x,rfl⟩
  · exact absurd rfl h
  · exact⟨l',x,List.concat_eq_append ..⟩
theorem ZhC{key:Int→Int}{l m:List Int}(hl:Srt key l)(hm:Srt key m)(h: ∀ x y,l.getLast?=some x→m.head?=some y→LtK key x y): ∀ a∈l,∀ b∈m,LtK key a b:=by
  rcases List.eq_nil_or_concat l with rfl | ⟨l',x,rfl⟩
  · intro a ha;cases ha
  · cases m with
    |nil=>intro a _ b hb;cases hb
    |cons y m=>
      rw [List.concat_eq_append] at hl h ⊢
      exact below hl hm (h x y (by simp) rfl)
theorem ZrO{α:Type}{L X R:List α}{i:Nat}(h:i<X.length):(L++X++R)[L.length+i]?=X[i]?:=by
  rw [List.append_assoc,List.getElem?_append_right (by omega),List.getElem?_append_left (by omega)]
  congr 1;omega
theorem ZpN{α:Type}{L R:List α}{x y:α}:(L++x::R).set L.length y=L++y::R:=by
  rw [List.set_append,nG (Nat.lt_irrefl _),Nat.sub_self];rfl
end Go.Vx

namespace Go.Vx
open Go Go.RowKit
theorem Zkg{L M R:List Int}{x y:Int}:((L++x::M++y::R).set L.length y).set (L.length+1+M.length) x=L++y::M++x::R:=by
  have h1:(L++x::M++y::R).set L.length y=L++y::M++y::R:=by
    rw [List.append_assoc,List.cons_append,ZpN,List.append_assoc,List.cons_append]
  have h2:(L++y::M).length=L.length+1+M.length:=by simp;omega
  rw [h1,←h2,ZpN]
theorem Zs1{body:List Int→Int→Option ((List Int×Int) ⊕ List Int)}{n a b:Nat}
    (hst: ∀ (L M R:List Int) (x y:Int) (i:Nat),i<n→L.length=a+i→L.length+1+M.length=b+i→body (L++x::M++y::R) i=some (.inl (L++y::M++x::R,(i:Int)+1)))
    (hend: ∀ d,body d n=some (.inr d)):
    ∀ (A B L M R:List Int) (i:Nat),A.length=B.length→i+A.length=n→L.length=a+i→L.length+A.length+M.length=b+i→
      loop (t2 body) (L++A++M++B++R,(i:Int))=some (L++B++M++A++R):=by
  intro A
  induction A with
  |nil=>
    intro B L M R i h1 h2 h3 h4
    have:B= []:=List.length_eq_zero_iff.1 h1.symm
    subst this
    simp only [List.length_nil,Nat.add_zero] at h2
    subst h2
    exact Zdt (by simp only [Q1];exact hend _)
  |cons x A ih=>
    intro B L M R i h1 h2 h3 h4
    cases B with
    |nil=>cases h1
    |cons y B=>
      simp only [List.length_cons] at h1 h2 h4
      have e:=hst L (A++M) (B++R) x y i (by omega) h3 (by rw [List.length_append];omega)
      have k:=ih B (L++ [y]) (M++ [x]) R (i+1) (by omega) (by omega) (by simp;omega) (by simp;omega)
      refine Zgg (s':=(L++ [y]++A++(M++ [x])++B++R,((i+1:Nat):Int))) ?_ ?_
      · simp only [Q1]
        rw [show L++x::A++M++y::B++R=L++x::(A++M)++y::(B++R) by simp,e]
        simp
      · rw [k];simp
theorem ZsS{body:List Int→Int→Option ((List Int×Int) ⊕ List Int)}{e:Nat}
    (hst: ∀ (L R:List Int) (x y:Int),L.length<e→body (L++x::y::R) L.length=some (.inl (L++y::x::R,(L.length:Int)+1)))
    (hend: ∀ d,body d e=some (.inr d)):
    ∀ (A L R:List Int) (x:Int),L.length+A.length=e→loop (t2 body) (L++x::(A++R),(L.length:Int))=some (L++A++x::R):=by
  intro A
  induction A with
  |nil=>
    intro L R x h
    simp only [List.length_nil,Nat.add_zero] at h
    rw [List.append_nil]
    exact Zdt (by simp only [Q1];rw [h];exact hend _)
  |cons y A ih=>
    intro L R x h
    simp only [List.length_cons] at h
    have k:=ih (L++ [y]) R x (by simp;omega)
    refine Zgg (s':=(L++ [y]++x::(A++R),(((L++ [y]).length:Nat):Int))) ?_ ?_
    · simp only [Q1]
      rw [List.cons_append,hst L (A++R) x y (by omega)]
      simp
    · rw [k];simp
theorem ZsI{body:List Int→Int→Option ((List Int×Int) ⊕ List Int)}{e N:Nat}
    (hst: ∀ (L R:List Int) (x y:Int),e<L.length+1→L.length<N→body (L++x::y::R) ((L.length:Int)+1)=some (.inl (L++y::x::R,(L.length:Int))))
    (hend: ∀ d,body d e=some (.inr d)):
    ∀ (n:Nat) (A L R:List Int) (y:Int),A.length=n→L.length=e→L.length+A.length≤N→loop (t2 body) (L++A++y::R,(L.length:Int)+A.length)=some (L++y::(A++R)):=by
  intro n
  induction n with
  |zero=>
    intro A L R y hn h hN
    have:A= []:=List.length_eq_zero_iff.1 hn
    subst this
    rw [List.append_nil]
    exact Zdt (by simp only [Q1,List.length_nil];rw [h];simpa using hend _)
  |succ n ih=>
    intro A L R y hn h hN
    obtain⟨A,x,rfl⟩:=ZpX (l:=A) (by intro q;rw [q] at hn;cases hn)
    have hA:A.length=n:=by simpa using hn
    rw [List.length_append] at hN
    simp only [List.length_cons,List.length_nil] at hN
    have k:=ih A L (x::R) y hA h (by omega)
    refine Zgg (s':=(L++A++y::x::R,(L.length:Int)+A.length)) ?_ ?_
    · simp only [Q1]
      have:=hst (L++A) R x y (by simp;omega) (by rw [List.length_append];omega)
      rw [show L++(A++ [x])++y::R=L++A++x::y::R by simp]
      rw [List.length_append] at this
      simp only [List.length_append,List.length_cons,List.length_nil]
      rw [show(L.length:Int)+((A.length+(0+1):Nat):Int)=((L.length+A.length:Nat):Int)+1 by omega,this]
      rw [show((L.length+A.length:Nat):Int)=(L.length:Int)+A.length by omega]
    · rw [k];simp
end Go.Vx

namespace Go.Vx
open Go Go.RowKit
theorem Ztn{body:List Int→Int→Int→Option ((List Int×Int×Int) ⊕ (List Int×Int))}{sr:List Int→Int→Int→Int→Option (List Int)}{m N:Nat}
    (hsr: ∀ (L A M B R:List Int),A.length=B.length→L.length+A.length+M.length+B.length+R.length=N→sr (L++A++M++B++R) (L.length:Int) ((L.length+A.length+M.length:Nat):Int) (A.length:Int)=some (L++B++M++A++R))
    (hb: ∀ (o:List Int) (i j:Nat),i≤m→m+j≤N→body o i j=if i=j then some (.inr (o,(i:Int))) else if j<i then(sr o ((m-i:Nat):Int) (m:Int) (j:Int)).bind fun y=>some (.inl (y,((i-j:Nat):Int),(j:Int)))
      else(sr o ((m-i:Nat):Int) ((m+j-i:Nat):Int) (i:Int)).bind fun y=>some (.inl (y,(i:Int),((j-i:Nat):Int)))):
    ∀ (n:Nat) (X Y L R:List Int),X.length+Y.length=n→X≠ []→Y≠ []→L.length+X.length=m→L.length+X.length+Y.length+R.length=N→
      ∃ (o':List Int) (i':Nat),loop (t3 body) (L++X++Y++R,(X.length:Int),(Y.length:Int))=some (o',(i':Int))∧i'≤m∧sr o' ((m-i':Nat):Int) (m:Int) (i':Int)=some (L++Y++X++R):=by
  intro n
  induction n using Nat.strongRecOn with
  |_ n ih=>
    intro X Y L R hn hX hY hm hN
    have pX:=List.length_pos_iff.2 hX
    have pY:=List.length_pos_iff.2 hY
    have hb':=hb (L++X++Y++R) X.length Y.length (by omega) (by omega)
    rcases Nat.lt_trichotomy X.length Y.length with h |h |h
    · rw [nG (by omega),nG (by omega)] at hb'
      have e1:(Y.take (Y.length-X.length)).length=Y.length-X.length:=by rw [List.length_take];omega
      have e2:(Y.drop (Y.length-X.length)).length=X.length:=by rw [List.length_drop];omega
      have hs:=hsr L X (Y.take (Y.length-X.length)) (Y.drop (Y.length-X.length)) R e2.symm (by omega)
      rw [e1] at hs
      rw [show L++X++Y.take (Y.length-X.length)++Y.drop (Y.length-X.length)++R=L++X++Y++R by rw [List.append_assoc (L++X),List.take_append_drop],
        show(L.length:Int)=((m-X.length:Nat):Int) by omega,show L.length+X.length+(Y.length-X.length)=m+Y.length-X.length by omega] at hs
      rw [hs,oB] at hb'
      obtain⟨o',i',h1,h2,h3⟩:=ih Y.length (by omega) (Y.drop (Y.length-X.length)) (Y.take (Y.length-X.length)) L (X++R) (by omega) (by intro q;rw [q] at e2;simp at e2;omega) (by intro q;rw [q] at e1;simp at e1;omega) (by omega) (by rw [List.length_append];omega)
      refine⟨o',i',Zgg (by simp only [Zc5];exact hb') ?_,h2,?_⟩
      · rw [e1,e2] at h1
        rw [←h1];congr 2;simp
      · rw [h3];congr 1
        rw [List.append_assoc L,List.take_append_drop];simp
    · rw [pG h] at hb'
      refine⟨L++X++Y++R,X.length,Zdt (by simp only [Zc5];exact hb'),by omega,?_⟩
      have hs:=hsr L X [] Y R h (by simp;omega)
      simp only [List.append_nil,List.length_nil,Nat.add_zero] at hs
      rw [show((m-X.length:Nat):Int)=(L.length:Int) by omega,show(m:Int)=((L.length+X.length:Nat):Int) by omega]
      exact hs
    · rw [nG (by omega),pG h] at hb'
      have e1:(X.take Y.length).length=Y.length:=by rw [List.length_take];omega
      have e2:(X.drop Y.length).length=X.length-Y.length:=by rw [List.length_drop]
      have hs:=hsr L (X.take Y.length) (X.drop Y.length) Y R e1 (by omega)
      rw [e1,e2] at hs
      rw [show L++X.take Y.length++X.drop Y.length++Y++R=L++X++Y++R by rw [List.append_assoc L,List.take_append_drop],
        show(L.length:Int)=((m-X.length:Nat):Int) by omega,show L.length+Y.length+(X.length-Y.length)=m by omega] at hs
      rw [hs,oB] at hb'
      obtain⟨o',i',h1,h2,h3⟩:=ih X.length (by omega) (X.drop Y.length) (X.take Y.length) (L++Y) R (by omega) (by intro q;rw [q] at e2;simp at e2;omega) (by intro q;rw [q] at e1;simp at e1;omega) (by rw [List.length_append];omega) (by rw [List.length_append];omega)
      refine⟨o',i',Zgg (by simp only [Zc5];exact hb') ?_,h2,?_⟩
      · rw [e1,e2] at h1;exact h1
      · rw [h3];congr 1
        rw [List.append_assoc (L++Y),List.take_append_drop]
theorem ZrX{key:Int→Int}{X Y:List Int}{a m b s:Nat}(ha:a+X.length=m)(hb:m+Y.length=b)(hX:Srt key X)(hY:Srt key Y)(mid:Nat)(hmid:mid=(a+b)/2)
    (lo hi:Nat) (hlo:lo=if mid<m then mid+m-b else a) (hhi:hi=if mid<m then mid else m) (h1:lo≤s) (h2:s≤hi)
    (p1:lo<s→ ∀ x y,X[s-1-a]?=some x→Y[mid-s]?=some y→LtK key x y) (p2:s<hi→ ∀ x y,X[s-a]?=some x→Y[mid-s-1]?=some y→LtK key y x):
    (∀ x∈X.take (s-a),∀ y∈Y.drop (mid-s),LtK key x y)∧(∀ y∈Y.take (mid-s),∀ x∈X.drop (s-a),LtK key y x):=by
  have hsX:Srt key (X.take (s-a)):=hX.sublist (List.take_sublist ..)
  have hdX:Srt key (X.drop (s-a)):=hX.sublist (List.drop_sublist ..)
  have hsY:Srt key (Y.take (mid-s)):=hY.sublist (List.take_sublist ..)
  have hdY:Srt key (Y.drop (mid-s)):=hY.sublist (List.drop_sublist ..)
  constructor
  · refine ZhC hsX hdY fun x y hx hy=> ?_
    rw [List.head?_drop] at hy
    rw [List.getLast?_eq_getElem?,List.length_take] at hx
    have l1:=(List.getElem?_eq_some_iff.1 hy).1
    have l2:=(List.getElem?_eq_some_iff.1 hx).1
    rw [List.length_take] at l2
    have hl:lo<s:=by
      split at hlo<;>omega
    rw [List.getElem?_take_of_lt (by omega)] at hx
    refine p1 hl x y ?_ hy
    rw [←hx];congr 1
    split at hhi<;>omega
  · refine ZhC hsY hdX fun x y hx hy=> ?_
    rw [List.head?_drop] at hy
    rw [List.getLast?_eq_getElem?,List.length_take] at hx
    have l1:=(List.getElem?_eq_some_iff.1 hy).1
    have l2:=(List.getElem?_eq_some_iff.1 hx).1
    rw [List.length_take] at l2
    have hl:s<hi:=by
      split at hhi<;>omega
    rw [List.getElem?_take_of_lt (by omega)] at hx
    refine p2 hl y x hy ?_
    rw [←hx];congr 1
    split at hlo<;>omega
end Go.Vx

namespace Go.Vx
open Go Go.RowKit
theorem Ztx{key:Int→Int}{D:Int→Prop}{body:List Int→Int→Option ((List Int×Int) ⊕ List Int)}{a N:Nat}
    (hst: ∀ (P Q:List Int) (x y:Int),D x→D y→a≤P.length→P.length<N→body (P++y::x::Q) ((P.length:Int)+1)=some (if key x<key y then .inl (P++x::y::Q,(P.length:Int)) else .inr (P++y::x::Q)))
    (hend: ∀ d,body d a=some (.inr d)) {L:List Int} (hL:L.length=a) (R:List Int) {x:Int} (hx:D x):
    ∀ (n:Nat) (S1 S2:List Int),S1.length=n→L.length+S1.length≤N→Srt key (S1++S2)→(∀ y∈S1,D y∧y<x)→(∀ z∈S2,LtK key x z)→
      ∃ S',loop (t2 body) (L++S1++x::(S2++R),((L.length+S1.length:Nat):Int))=some (L++S'++R)∧S'.Perm (S1++x::S2)∧Srt key S':=by
  intro n
  induction n with
  |zero=>
    intro S1 S2 hn hN hs h1 h2
    have:S1= []:=List.length_eq_zero_iff.1 hn
    subst this
    refine⟨x::S2,Zdt ?_,by simp,List.pairwise_cons.2 ⟨h2,hs⟩⟩
    simp only [Q1,List.append_nil,List.length_nil,Nat.add_zero]
    rw [hL,hend];simp
  |succ n ih=>
    intro S1 S2 hn hN hs h1 h2
    obtain⟨S1,y,rfl⟩:=ZpX (l:=S1) (by intro q;rw [q] at hn;cases hn)
    have hy:=h1 y (by simp)
    rw [List.length_append] at hN
    simp only [List.length_cons,List.length_nil] at hN
    have e:=hst (L++S1) (S2++R) x y hx hy.1 (by simp;omega) (by rw [List.length_append];omega)
    have ee:L++(S1++ [y])++x::(S2++R)=L++S1++y::x::(S2++R):=by simp
    have el:((L.length+(S1++ [y]).length:Nat):Int)=(((L++S1).length:Nat):Int)+1:=by simp;omega
    rw [ee,el]
    by_cases hk:key x<key y
    · rw [pG hk] at e
      obtain⟨S',k1,k2,k3⟩:=ih S1 (y::S2) (by simpa using hn) (by omega) (by simpa using hs) (fun z hz=>h1 z (by simp [hz])) (fun z hz=>by
        rcases List.mem_cons.1 hz with rfl |q
        · exact .inl hk
        · exact h2 z q)
      refine⟨S',Zgg (by simp only [Q1];exact e) ?_,k2.trans ?_,k3⟩
      · rw [List.length_append];exact k1
      · simp only [List.append_assoc,List.cons_append,List.nil_append]
        exact List.Perm.append_left _ (List.Perm.swap ..)
    · rw [nG hk] at e
      refine⟨S1++ [y]++x::S2,Zdt (by simp only [Q1];rw [e];simp),.refl _,?_⟩
      have hyx:LtK key y x:=LtK.of_not (fun q=>hk ((LtK.of_lt hy.2).1 q)) (by omega)
      have hs1:=hs.fst
      refine hs1.app (List.pairwise_cons.2 ⟨h2,hs.snd⟩) fun p hp q hq=> ?_
      have hpx:LtK key p x:=by
        rcases List.mem_append.1 hp with w |w
        · exact(hs1.mid p w y (by simp)).trans hyx
        · rw [List.mem_singleton.1 w];exact hyx
      rcases List.mem_cons.1 hq with rfl |w
      · exact hpx
      · exact hpx.trans (h2 q w)
theorem Zte{key:Int→Int}{D:Int→Prop}{body1 body2:List Int→Int→Option ((List Int×Int) ⊕ List Int)}{a b:Nat}
    (hst: ∀ (P Q:List Int) (x y:Int),D x→D y→a≤P.length→P.length<b→body2 (P++y::x::Q) ((P.length:Int)+1)=some (if key x<key y then .inl (P++x::y::Q,(P.length:Int)) else .inr (P++y::x::Q)))
    (hend: ∀ d,body2 d a=some (.inr d))
    (h1: ∀ o (i:Nat),i<b→body1 o i=(loop (t2 body2) (o,(i:Int))).bind (fun o2=>some (.inl (o2,(i:Int)+1))))
    (h2: ∀ o (i:Nat),b≤i→body1 o i=some (.inr o)) {L:List Int} (hL:L.length=a) (R:List Int):
    ∀ (T S:List Int),L.length+S.length+T.length=b→Srt key S→(∀ y∈S++T,D y)→(∀ x∈S,∀ y∈T,x<y)→T.Pairwise (· < ·)→
      ∃ S',loop (t2 body1) (L++S++(T++R),((L.length+S.length:Nat):Int))=some (L++S'++R)∧S'.Perm (S++T)∧Srt key S':=by
  intro T
  induction T with
  |nil=>
    intro S hb hs hD _ _
    refine⟨S,Zdt ?_,by simp,hs⟩
    simp only [Q1]
    rw [h2 _ _ (by simp at hb;omega)];simp
  |cons x T ih=>
    intro S hb hs hD hlt hT
    simp only [List.length_cons] at hb
    obtain⟨S',k1,k2,k3⟩:=Ztx (D:=D) hst hend hL (T++R) (hD x (by simp)) S.length S [] rfl (by omega) (by simpa using hs) (fun y hy=>⟨hD y (by simp [hy]),hlt y hy x (by simp)⟩) (fun z hz=>by cases hz)
    have hT':=List.pairwise_cons.1 hT
    have hl:S'.length=S.length+1:=by rw [k2.length_eq];simp
    have hm: ∀ y,y∈S'→y∈S∨y=x:=fun y hy=>by have:=k2.mem_iff.1 hy;simpa using this
    obtain⟨S'',m1,m2,m3⟩:=ih S' (by omega) k3 (fun y hy=>by
      rcases List.mem_append.1 hy with q |q
      · rcases hm y q with q |rfl
        · exact hD y (by simp [q])
        · exact hD y (by simp)
      · exact hD y (by simp [q])) (fun y hy z hz=>by
      rcases hm y hy with q |rfl
      · exact hlt y q z (by simp [hz])
      · exact hT'.1 z hz) hT'.2
    refine⟨S'',Zgg (s':=(L++S'++(T++R),((L.length+S'.length:Nat):Int))) ?_ m1,m2.trans ?_,m3⟩
    · simp only [Q1]
      rw [h1 _ _ (by omega),List.cons_append,show L++S++x::(T++R)=L++S++x::([]++(T++R)) by simp,k1,oB]
      congr 3;omega
    · refine(k2.append_right T).trans ?_
      simp
inductive Bl (key:Int→Int) (s:Nat):List Int→Prop
  |last (l):l.length≤s→Srt key l→Bl key s l
  |cons (B r):B.length=s→Srt key B→(∀ x∈B,∀ y∈r,x<y)→Bl key s r→Bl key s (B++r)
theorem ZsP{key:Int→Int}{D:Int→Prop}{sm:List Int→Int→Int→Int→Option (List Int)}{s n:Nat}(hs0:0<s)
    (hsm: ∀ L X Y R:List Int,X≠ []→Y≠ []→L.length+X.length+Y.length+R.length=n→Srt key X→Srt key Y→(∀ x∈X,∀ y∈Y,x<y)→(∀ x∈X++Y,D x)→
      ∃ Z,sm (L++X++Y++R) (L.length:Int) ((L.length+X.length:Nat):Int) ((L.length+X.length+Y.length:Nat):Int)=some (L++Z++R)∧Z.Perm (X++Y)∧Srt key Z)
    {body:List Int→Int→Int→Option ((List Int×Int×Int) ⊕ (List Int×Int))}
    (hb: ∀ o (a:Nat),a≤n→body o a ((a+2*s:Nat):Int)=if a+2*s≤n then(sm o (a:Int) ((a+s:Nat):Int) ((a+2*s:Nat):Int)).bind fun y=>some (.inl (y,((a+2*s:Nat):Int),((a+2*s+2*s:Nat):Int))) else some (.inr (o,(a:Int)))):
    ∀ (k:Nat) (L l:List Int),l.length=k→L.length+l.length=n→Bl key s l→(∀ x∈l,D x)→
      ∃ (o:List Int) (a:Nat) (l':List Int),loop (t3 body) (L++l,(L.length:Int),((L.length+2*s:Nat):Int))=some (o,(a:Int))∧
        a≤n∧(if a+s<n then sm o (a:Int) ((a+s:Nat):Int) (n:Int) else some o)=some (L++l')∧l'.Perm l∧Bl key (2*s) l':=by
  intro k
  induction k using Nat.strongRecOn with
  |_ k ih=>
    intro L l hk hn hB hD
    rcases Nat.lt_or_ge l.length (2*s) with h |h
    · have hex:loop (t3 body) (L++l,(L.length:Int),((L.length+2*s:Nat):Int))=some (L++l,(L.length:Int)):=Zdt (by
        simp only [Zc5]
        rw [hb _ _ (by omega),nG (by omega)])
      refine⟨L++l,L.length,?_⟩
      cases hB with
      |last _ h1 h2=>
        exact⟨l,hex,by omega,by rw [nG (by omega)],.refl _,.last l (by omega) h2⟩
      |cons B r h1 h2 h3 h4=>
        rw [List.length_append] at h hn
        have hr:Srt key r:=by
          cases h4 with
          |last _ q1 q2=>exact q2
          |cons B' r' q1 q2 q3 q4=>
            rw [List.length_append] at h
            omega
        by_cases he:r= []
        · subst he
          exact⟨B++ [],hex,by omega,by rw [nG (by simp at hn;omega)],.refl _,.last _ (by simp;omega) (by simpa using h2)⟩
        · have pr:=List.length_pos_iff.2 he
          obtain⟨Z,e1,e2,e3⟩:=hsm L B r [] (by intro q;rw [q] at h1;simp at h1;omega) he (by simp;omega) h2 hr h3 hD
          refine⟨Z,hex,by omega,?_,e2,.last _ (by rw [e2.length_eq,List.length_append];omega) e3⟩
          rw [pG (by omega)]
          simp only [List.append_nil] at e1
          rw [h1,show L.length+s+r.length=n by omega] at e1
          rw [←List.append_assoc];exact e1
    · cases hB with
      |last _ h1 h2=>omega
      |cons B r h1 h2 h3 h4=>
        rw [List.length_append] at h hn hk
        have key2: ∃ B2 r2,r=B2++r2∧B2.length=s∧Srt key B2∧(∀ x∈B2,∀ y∈r2,x<y)∧Bl key s r2:=by
          cases h4 with
          |last _ q1 q2=>exact⟨r,[],by simp,by omega,q2,(fun x _ y hy=>by cases hy),Bl.last [] (by simp) List.Pairwise.nil⟩
          |cons B' r' q1 q2 q3 q4=>exact⟨B',r',rfl,q1,q2,q3,q4⟩
        obtain⟨B2,r2,rfl,g1,g2,g3,g4⟩:=key2
        rw [List.length_append] at h hn hk
        obtain⟨Z,e1,e2,e3⟩:=hsm L B B2 r2 (by intro q;rw [q] at h1;simp at h1;omega) (by intro q;rw [q] at g1;simp at g1;omega) (by omega) h2 g2 (fun x hx y hy=>h3 x hx y (by simp [hy])) (fun x hx=>hD x (by
          rcases List.mem_append.1 hx with q |q<;>simp [q]))
        have hZ:Z.length=2*s:=by rw [e2.length_eq,List.length_append];omega
        obtain⟨o,a,l',f1,fa,f2,f3,f4⟩:=ih r2.length (by omega) (L++Z) r2 rfl (by rw [List.length_append];omega) g4 (fun x hx=>hD x (by simp [hx]))
        refine⟨o,a,Z++l',?_,fa,by rw [f2];simp,?_,?_⟩
        · refine Zgg (s':=(L++Z++r2,(((L++Z).length:Nat):Int),(((L++Z).length+2*s:Nat):Int))) ?_ f1
          simp only [Zc5]
          rw [hb _ _ (by omega),pG (by omega)]
          rw [h1,g1,show L.length+s+s=L.length+2*s by omega] at e1
          rw [show L++(B++(B2++r2))=L++B++B2++r2 by simp,e1,oB,List.length_append,hZ]
        · rw [←List.append_assoc]
          exact e2.append f3
        · refine .cons Z l' hZ e3 (fun x hx y hy=> ?_) f4
          have hy':=f3.mem_iff.1 hy
          rcases List.mem_append.1 (e2.mem_iff.1 hx) with q |q
          · exact h3 x q y (by simp [hy'])
          · exact g3 x q y hy'
end Go.Vx

namespace Go.Vx
open Go Go.RowKit
theorem ZtM{key:Int→Int}{D:Int→Prop}{ins:List Int→Int→Int→Option (List Int)}{s n:Nat}(hs0:0<s)
    (hin: ∀ L X R:List Int,L.length+X.length+R.length=n→X.Pairwise (· < ·)→(∀ x∈X,D x)→
      ∃ Z,ins (L++X++R) (L.length:Int) ((L.length+X.length:Nat):Int)=some (L++Z++R)∧Z.Perm X∧Srt key Z)
    {body:List Int→Int→Int→Option ((List Int×Int×Int) ⊕ (List Int×Int))}
    (hb: ∀ o (a:Nat),a≤n→body o a ((a+s:Nat):Int)=if a+s≤n then(ins o (a:Int) ((a+s:Nat):Int)).bind fun y=>some (.inl (y,((a+s:Nat):Int),((a+s+s:Nat):Int))) else some (.inr (o,(a:Int)))):
    ∀ (k:Nat) (L l:List Int),l.length=k→L.length+l.length=n→l.Pairwise (· < ·)→(∀ x∈l,D x)→
      ∃ (o:List Int) (a:Nat) (l':List Int),loop (t3 body) (L++l,(L.length:Int),((L.length+s:Nat):Int))=some (o,(a:Int))∧ins o (a:Int) (n:Int)=some (L++l')∧l'.Perm l∧Bl key s l':=by
  intro k
  induction k using Nat.strongRecOn with
  |_ k ih=>
    intro L l hk hn hl hD
    rcases Nat.lt_or_ge l.length s with h |h
    · obtain⟨Z,e1,e2,e3⟩:=hin L l [] (by simpa using hn) hl hD
      rw [List.append_nil,List.append_nil,hn] at e1
      refine⟨L++l,L.length,Z,Zdt (by simp only [Zc5];rw [hb _ _ (by omega),nG (by omega)]),e1,e2,.last Z (by rw [e2.length_eq];omega) e3⟩
    · have ht:(l.take s).length=s:=by rw [List.length_take];omega
      have hd:(l.drop s).length=l.length-s:=List.length_drop ..
      have hp:=hl
      rw [←List.take_append_drop s l] at hp
      obtain⟨hp1,hp2,hp3⟩:=List.pairwise_append.1 hp
      obtain⟨Z,e1,e2,e3⟩:=hin L (l.take s) (l.drop s) (by omega) hp1 (fun x hx=>hD x (List.mem_of_mem_take hx))
      have hZ:Z.length=s:=by rw [e2.length_eq];omega
      obtain⟨o,a,l',f1,f2,f3,f4⟩:=ih (l.drop s).length (by omega) (L++Z) (l.drop s) rfl (by rw [List.length_append];omega) hp2 (fun x hx=>hD x (List.mem_of_mem_drop hx))
      refine⟨o,a,Z++l',?_,by rw [f2];simp,?_,?_⟩
      · refine Zgg (s':=(L++Z++l.drop s,(((L++Z).length:Nat):Int),(((L++Z).length+s:Nat):Int))) ?_ f1
        simp only [Zc5]
        rw [hb _ _ (by omega),pG (by omega)]
        rw [ht,List.append_assoc,List.take_append_drop] at e1
        rw [e1,oB,List.length_append,hZ]
      · have:=e2.append f3
        rw [List.take_append_drop] at this
        exact this
      · refine .cons Z l' hZ e3 (fun x hx y hy=> ?_) f4
        exact hp3 x (e2.mem_iff.1 hx) y (f3.mem_iff.1 hy)
theorem Bl.one{key:Int→Int}{s:Nat}{l:List Int}(h:Bl key s l)(hl:l.length≤s):Srt key l:=by
  cases h with
  |last _ h1 h2=>exact h2
  |cons B r h1 h2 h3 h4=>
    rw [List.length_append] at hl
    have:r= []:=List.length_eq_zero_iff.1 (by omega)
    subst this
    simpa using h2
theorem ZtH{key:Int→Int}{D:Int→Prop}{n:Nat}{body:List Int→Int→Option ((List Int×Int) ⊕ List Int)}
    (hb: ∀ (o:List Int) (s:Nat),0<s→s≤2*n+20→o.length=n→Bl key s o→(∀ x∈o,D x)→if s<n then ∃ o',body o s=some (.inl (o',((2*s:Nat):Int)))∧o'.Perm o∧Bl key (2*s) o' else body o s=some (.inr o)):
    ∀ (k:Nat) (o:List Int) (s:Nat),n-s=k→0<s→s≤2*n+20→o.length=n→Bl key s o→(∀ x∈o,D x)→ ∃ o',loop (t2 body) (o,(s:Int))=some o'∧o'.Perm o∧Srt key o':=by
  intro k
  induction k using Nat.strongRecOn with
  |_ k ih=>
    intro o s hk h0 h2 hn hB hD
    have e:=hb o s h0 h2 hn hB hD
    split at e
    · obtain⟨o',e1,e2,e3⟩:=e
      obtain⟨o'',f1,f2,f3⟩:=ih (n-2*s) (by omega) o' (2*s) rfl (by omega) (by omega) (by rw [e2.length_eq];exact hn) e3 (fun x hx=>hD x (e2.mem_iff.1 hx))
      exact⟨o'',Zgg (by simp only [Q1];exact e1) f1,f2.trans e2,f3⟩
    · exact⟨o,Zdt (by simp only [Q1];exact e),.refl _,hB.one (by omega)⟩
theorem Zkt{key:Int→Int}: ∀ {l m:List Int},l.Perm m→Srt key l→Srt key m→l=m
  | [],m,h,_,_=>h.nil_eq
  |x::l,m,h,h1,h2=>by
    cases m with
    |nil=>exact absurd h.length_eq (by simp)
    |cons y m=>
      have a1:=List.pairwise_cons.1 h1
      have a2:=List.pairwise_cons.1 h2
      have e:x=y:=by
        have hx:=h.mem_iff.1 (List.mem_cons_self ..)
        have hy:=h.mem_iff.2 (List.mem_cons_self ..)
        rcases List.mem_cons.1 hx with q |q
        · exact q
        · rcases List.mem_cons.1 hy with q2 |q2
          · exact q2.symm
          · have c1:=a2.1 x q
            have c2:=a1.1 y q2
            unfold LtK at c1 c2;omega
      subst e
      rw [Zkt (List.Perm.cons_inv h) a1.2 a2.2]
end Go.Vx

namespace Go.Vx
open Go Go.RowKit
theorem Zr{z:Int}(h1: -9223372036854775808≤z)(h2:z≤9223372036854775807):IntKind.i64.wrap z=z:=w64 h1 h2
theorem ZrH{z:Int}(h1:0≤z)(h2:z<18446744073709551616):IntKind.u64.wrap z=z:=Ztr h1 h2
@[simp] theorem ZrY {α:Type} {d:α} {o:Option α}:gd true d o=o:=rfl
@[simp] theorem ZtQ {α:Type} {d:α} {o:Option α}:gd false d o=some d:=rfl
@[simp] theorem Zpj {α:Type} {d:α} {o:Option α}:gd (true==true) d o=o:=rfl
theorem Zs{α:Type}{xs:List α}{k:Nat}{x:α}(h:xs[k]?=some x):idx xs (k:Int)=some x:=by simp [idx,h]
theorem ZlA{α:Type}{xs:List α}{k:Nat}{x:α}(h:xs[k]?=some x):(k:Int)<(xs.length:Int):=by
  have:=(List.getElem?_eq_some_iff.1 h).1;omega
theorem Za5{α:Type}{xs:List α}{k:Nat}(h:k<xs.length): ∃ x,xs[k]?=some x:=⟨xs[k],List.getElem?_eq_getElem h⟩
theorem ZbT{α:Type}{xs:List α}{k:Nat}{x:α}(h:xs[k]?=some x):xs.drop k=x::xs.drop (k+1):=by
  obtain⟨hk,rfl⟩:=List.getElem?_eq_some_iff.1 h
  exact List.drop_eq_getElem_cons hk
theorem Zfd{α:Type}{xs ys:List α}(h:xs.length+ys.length≤4294967296):app xs ys=some (xs++ys):=by unfold app apz;rw [pG (by omega)]
section loops
variable {σ ρ:Type}
theorem ZfL{body:σ→Option (σ ⊕ ρ)}(I:σ→Prop)(μ:σ→Nat)(F:σ→ρ)(step: ∀ s,I s→(∃ s',body s=some (.inl s')∧I s'∧μ s'<μ s∧F s=F s')∨body s=some (.inr (F s))):
    ∀ s,I s→loop body s=some (F s):=by
  intro s hs
  obtain⟨r,h1,h2⟩:=Ze4 (body:=body) (fun s'=>I s'∧F s=F s') μ (fun r=>r=F s) (fun s' ⟨h1,h2⟩=>by
    rcases step s' h1 with ⟨s2,e1,e2,e3,e4⟩ |e
    · exact .inl ⟨s2,e1,⟨e2,h2.trans e4⟩,e3⟩
    · exact .inr ⟨_,e,h2.symm⟩) s ⟨hs,rfl⟩
  rw [h1,h2]
variable {α:Type} {xs:List α}
theorem ZkL{body:Int→Option (Int ⊕ ρ)}(F:Nat→ρ)
    (hstep: ∀ (k:Nat) x,xs[k]?=some x→(body k=some (.inl ((k:Int)+1))∧F k=F (k+1))∨body k=some (.inr (F k)))
    (hend:body xs.length=some (.inr (F xs.length))):loop (t1 body) 0=some (F 0):=by
  refine ZfL (body:=t1 body) (fun i=> ∃ k:Nat,i=k∧k≤xs.length) (fun i=>xs.length-i.toNat) (fun i=>F i.toNat) ?_ 0 ⟨0,rfl,Nat.zero_le _⟩
  rintro i ⟨k,rfl,hk⟩
  simp only [Int.toNat_natCast,Xv]
  rcases Nat.lt_or_ge k xs.length with h |h
  · obtain⟨x,hx⟩:=Za5 h
    rcases hstep k x hx with ⟨h1,h2⟩ |h1
    · exact .inl ⟨_,h1,⟨k+1,by push_cast;rfl,h⟩,by omega,by rw [h2];rfl⟩
    · exact .inr h1
  · have:k=xs.length:=by omega
    subst this
    exact .inr hend
end loops
end Go.Vx

namespace Go.Vx
open Go Go.RowKit
section err
variable {α ε:Type}
def ZnT{ρ:Type}(A:ε→ρ)(Z:ρ):Option ε→ρ
  |some e=>A e
  |none=>Z
@[simp] theorem Zsf {ρ:Type} (A:ε→ρ) (Z:ρ) (e:ε):ZnT A Z (some e)=A e:=rfl
@[simp] theorem Zsm {ρ:Type} (A:ε→ρ) (Z:ρ):ZnT A Z none=Z:=rfl
def ZjQ(g:α→Option ε):List α→Option ε
  | []=>none
  |x::tl=>match g x with |some e=>some e |none=>ZjQ g tl
theorem Zow{ρ:Type}{xs:List α}(g:α→Option ε)(A:ε→ρ)(Z:ρ){body:Int→Option (Int ⊕ ρ)}
    (h: ∀ (k:Nat) x,xs[k]?=some x→body k=match g x with |some e=>some (.inr (A e)) |none=>some (.inl ((k:Int)+1)))
    (hend:body xs.length=some (.inr Z)):loop (t1 body) 0=some (ZnT A Z (ZjQ g xs)):=by
  refine ZkL (xs:=xs) (fun k=>ZnT A Z (ZjQ g (xs.drop k))) (fun k x hx=> ?_) ?_
  · rw [h k x hx,ZbT hx]
    simp only [ZjQ]
    cases hg:g x with
    |some e=>right;rfl
    |none=>left;exact⟨rfl,rfl⟩
  · rw [hend];simp [ZjQ]
end err
theorem Zmx{α β:Type}{xs:List α}{body:List β→Int→Option ((List β×Int) ⊕ (List β))}(g:α→β)
    (hstep: ∀ (k:Nat) x acc,xs[k]?=some x→acc.length=k→body acc k=some (.inl (acc++ [g x],(k:Int)+1)))
    (hend: ∀ acc,body acc xs.length=some (.inr acc)):loop (t2 body) ([],0)=some (xs.map g):=by
  refine(ZfL (body:=t2 body) (fun p=> ∃ k:Nat,p.2=k∧k≤xs.length∧p.1.length=k) (fun p=>xs.length-p.2.toNat) (fun p=>p.1++(xs.drop p.2.toNat).map g) ?_ ([],0) ⟨0,rfl,Nat.zero_le _,rfl⟩).trans (by simp)
  rintro⟨acc,i⟩ ⟨k,hi,hk,ha⟩
  simp only at hi ha
  subst hi
  simp only [Q1,Int.toNat_natCast]
  rcases Nat.lt_or_ge k xs.length with h |h
  · obtain⟨x,hx⟩:=Za5 h
    left
    refine⟨_,hstep k x acc hx ha,⟨k+1,by push_cast;rfl,h,by simp [ha]⟩,by simp only;omega,?_⟩
    rw [ZbT hx]
    simp
  · have:k=xs.length:=by omega
    subst this
    right
    rw [hend];simp
theorem Zp0{α:Type}{xs:List α}{body:List α→Int→Option ((List α×Int) ⊕ (List α))}(g:α→α)
    (hstep: ∀ (k:Nat) x acc,xs[k]?=some x→acc.length=xs.length→acc[k]?=some x→ ∃ acc',body acc k=some (.inl (acc',(k:Int)+1))∧acc'=acc.set k (g x))
    (hend: ∀ acc,body acc xs.length=some (.inr acc)):loop (t2 body) (xs,0)=some (xs.map g):=by
  refine(ZfL (body:=t2 body) (fun p=> ∃ k:Nat,p.2=k∧k≤xs.length∧p.1=(xs.take k).map g++xs.drop k) (fun p=>xs.length-p.2.toNat) (fun _=>xs.map g) ?_ (xs,0) ⟨0,rfl,Nat.zero_le _,by simp⟩)
  rintro⟨acc,i⟩ ⟨k,hi,hk,ha⟩
  simp only at hi ha
  subst hi
  simp only [Q1]
  rcases Nat.lt_or_ge k xs.length with h |h
  · obtain⟨x,hx⟩:=Za5 h
    left
    have hlen:acc.length=xs.length:=by rw [ha];simp;omega
    have hm:(xs.take k).length=k:=by simp;omega
    have hax:acc[k]?=some x:=by
      rw [ha,List.getElem?_append_right (by simp;omega)]
      simp [hm,hx,show min k xs.length=k by omega]
    obtain⟨acc',h1,h2⟩:=hstep k x acc hx hlen hax
    refine⟨_,h1,⟨k+1,by push_cast;rfl,h,?_⟩,by simp only;omega,trivial⟩
    simp only
    rw [h2,ha,ZbT hx]
    have e1:xs.take (k+1)=xs.take k++ [x]:=by
      rw [List.take_succ,hx];rfl
    rw [e1,List.map_append,List.set_append,nG (by simp;omega)]
    have:k-((xs.take k).map g).length=0:=by simp;omega
    rw [this]
    simp
  · have:k=xs.length:=by omega
    subst this
    right
    rw [hend,ha];simp
end Go.Vx

namespace Go.Vx
open Go Go.RowKit
def Xi{σ ρ:Type}(b:σ→Option (σ ⊕ ρ))(s:σ):Option ρ:=
  Nat.rec (motive:=fun _=>σ→Option ρ) (fun _=>none) (fun _ ih s=>match b s with |none=>none |some (.inl s')=>ih s' |some (.inr r)=>some r) 1000000 s
def Le{α:Type}(a b:Option α):Prop:= ∀ r,a=some r→b=some r
theorem Le.refl{α:Type}(a:Option α):Le a a:=fun _ h=>h
section
variable {α β γ δ ε ζ η θ ι κ σ ρ:Type}
theorem Le.bind{a b:Option α}{f g:α→Option β}(h:Le a b)(hf: ∀ x,Le (f x) (g x)):Le (a.bind f) (b.bind g):=by
  intro r hr
  cases ha:a with
  |none=>rw [ha] at hr;cases hr
  |some x=>rw [ha] at hr;rw [h x ha];exact hf x r hr
theorem Le.ite{c:Prop}[Decidable c]{a b a' b':Option α}(h1:Le a a')(h2:Le b b'):Le (if c then a else b) (if c then a' else b'):=by
  split
  · exact h1
  · exact h2
theorem Le.gd{g:Bool}{d:α}{a b:Option α}(h:Le a b):Le (gd g d a) (gd g d b):=by
  cases g
  · exact fun r hr=>hr
  · exact h
theorem Le.loop{b b':σ→Option (σ ⊕ ρ)}{s:σ}(h: ∀ s,Le (b s) (b' s)):Le (Xi b s) (loop b' s):=by
  have key: ∀ n s r,Nat.rec (motive:=fun _=>σ→Option ρ) (fun _=>none) (fun _ ih s=>match b s with |none=>none |some (.inl s')=>ih s' |some (.inr r)=>some r) n s=some r→Zbt b' n s=some r:=by
    intro n
    induction n with
    |zero=>intro s r hr;cases hr
    |succ n ih=>
      intro s r hr
      simp only at hr
      cases hb:b s with
      |none=>rw [hb] at hr;cases hr
      |some o=>
        rw [hb] at hr
        simp only [Zbt,h s o hb,oB]
        cases o with
        |inl s'=>exact ih s' r hr
        |inr r'=>exact hr
  intro r hr
  exact ZgI (key 1000000 s r hr)
theorem Le.t0{f g:Option κ}{p:Unit}(h:Le f g):Le (t0 f p) (t0 g p):=h
theorem Le.t1{f g:α→Option κ}{p:α}(h: ∀ a,Le (f a) (g a)):Le (t1 f p) (t1 g p):=h _
theorem Le.t2{f g:α→β→Option κ}{p:α×β}(h: ∀ a b,Le (f a b) (g a b)):Le (t2 f p) (t2 g p):=h _ _
theorem Le.t3{f g:α→β→γ→Option κ}{p:α×β×γ}(h: ∀ a b c,Le (f a b c) (g a b c)):Le (t3 f p) (t3 g p):=h _ _ _
theorem Le.t4{f g:α→β→γ→δ→Option κ}{p:α×β×γ×δ}(h: ∀ a b c d,Le (f a b c d) (g a b c d)):Le (t4 f p) (t4 g p):=h _ _ _ _
theorem Le.t5{f g:α→β→γ→δ→ε→Option κ}{p:α×β×γ×δ×ε}(h: ∀ a b c d e,Le (f a b c d e) (g a b c d e)):Le (t5 f p) (t5 g p):=h _ _ _ _ _
theorem Le.t6{f g:α→β→γ→δ→ε→ζ→Option κ}{p:α×β×γ×δ×ε×ζ}(h: ∀ a b c d e x,Le (f a b c d e x) (g a b c d e x)):Le (t6 f p) (t6 g p):=h _ _ _ _ _ _
theorem Le.t7{f g:α→β→γ→δ→ε→ζ→η→Option κ}{p:α×β×γ×δ×ε×ζ×η}(h: ∀ a b c d e x y,Le (f a b c d e x y) (g a b c d e x y)):Le (t7 f p) (t7 g p):=h _ _ _ _ _ _ _
theorem Le.t8{f g:α→β→γ→δ→ε→ζ→η→θ→Option κ}{p:α×β×γ×δ×ε×ζ×η×θ}(h: ∀ a b c d e x y z,Le (f a b c d e x y z) (g a b c d e x y z)):Le (t8 f p) (t8 g p):=h _ _ _ _ _ _ _ _
theorem Le.t9{ι:Type}{f g:α→β→γ→δ→ε→ζ→η→θ→ι→Option κ}{p:α×β×γ×δ×ε×ζ×η×θ×ι}(h: ∀ a b c d e x y z w,Le (f a b c d e x y z w) (g a b c d e x y z w)):Le (t9 f p) (t9 g p):=h _ _ _ _ _ _ _ _ _
theorem Le.elim{f f':α→Option κ}{g g':β→Option κ}{s:α ⊕ β}(h1: ∀ a,Le (f a) (f' a))(h2: ∀ b,Le (g b) (g' b)):Le (Sum.elim f g s) (Sum.elim f' g' s):=by
  cases s with
  |inl a=>exact h1 a
  |inr b=>exact h2 b
end
end Go.Vx

namespace Go.Vx
open Go Go.RowKit
def Zri:List Int→Option (List Int)
  | [x]=>some [x]
  |_=>none
theorem Zo5(xs:List Int):Le (Zri xs) (ZjC xs):=by
  intro r h
  match xs,h with
  | [x],h=>cases h;unfold ZjC;rw [pG (by simp),List.mergeSort_singleton]
end Go.Vx

namespace Go.Vx
noncomputable section
open Go Go.RowKit
set_option linter.unusedVariables false
def Zf0(data:List Int)(f2:Vector Int 64)(i:Int):Option (((Vector Int 64)×Int) ⊕ ((Vector Int 64)×Int) ⊕ ((Vector Int 64))):=
  if(decide (i<(data.length:Int)))=true then
  (idx data i).bind fun x3=>
  if((decide (x3<0)) || (decide (2047<x3)))=true then
  some (.inr (.inl ((#v[0,0,0,0,0,0,0,0,0,0,0,0,0,0,0,0,0,0,0,0,0,0,0,0,0,0,0,0,0,0,0,0,0,0,0,0,0,0,0,0,0,0,0,0,0,0,0,0,0,0,0,0,0,0,0,0,0,0,0,0,0,0,0,0]:Vector Int 64),9)))
  else
  (ZY f2 (i64 (3+i))).bind fun x4=>
  some (.inl ((ZaB f2 (i64 (3+i)) (u16 x3)),(i64 (i+1))))
  else
  some (.inr (.inr f2))
theorem ZkS(data:List Int)(f2:Vector Int 64)(i:Int):Le (Zf0 data f2 i) (ZfG data f2 i):=by
  unfold Zf0 ZfG
  with_reducible repeat' (first |exact Le.refl _ |apply Le.bind |apply Le.ite |intro _)
def Zf1(n2:Int)(ones2:Int):Option ((Int×Int) ⊕ (Int)):=
  if(decide (0<n2))=true then
  (rem n2 2).bind fun q=>
  (quo .i64 n2 2).bind fun q2=>
  some (.inl (q2,(i64 (ones2+q))))
  else
  some (.inr ones2)
theorem ZkU(n2:Int)(ones2:Int):Le (Zf1 n2 ones2) (ZfC n2 ones2):=by
  unfold Zf1 ZfC
  with_reducible repeat' (first |exact Le.refl _ |apply Le.bind |apply Le.ite |intro _)
def ZdD(n:Int):Option Bool:=
  ((Xi (t2 (Zf1)) (n,0)):Option ((Int))).bind (t1 fun(ones:Int)=>
  (rem ones 2).bind fun q3=>
  some (decide (q3=1)))
theorem ZjG(n:Int):Le (ZdD n) (Zdm n):=by
  unfold ZdD Zdm
  with_reducible repeat' (first |exact Le.refl _ |apply Le.bind |apply Le.loop |apply Le.t1 |apply Le.t2 |apply ZkU |intro _)
def ZcM(data:Int):Option Int:=
  (ZdD data).bind fun y=>
  if y=true then
  some data
  else
  some (i64 (data+2048))
theorem Zgn(data:Int):Le (ZcM data) (ZcK data):=by
  unfold ZcM ZcK
  with_reducible repeat' (first |exact Le.refl _ |apply Le.bind |apply Le.ite |apply ZjG |intro _)
def ZdS(f3:Vector Int 64)(i:Int):Option (((Vector Int 64)×Int) ⊕ ((Vector Int 64))):=
  if(decide (i≤60))=true then
  (ZY f3 i).bind fun x=>
  (rem (i64 x) 2048).bind fun q=>
  (ZcM q).bind fun y=>
  (ZY f3 i).bind fun x2=>
  some (.inl ((ZaB f3 i (u16 y)),(i64 (i+1))))
  else
  some (.inr f3)
theorem Ziw(f3:Vector Int 64)(i:Int):Le (ZdS f3 i) (Zdn f3 i):=by
  unfold ZdS Zdn
  with_reducible repeat' (first |exact Le.refl _ |apply Le.bind |apply Le.ite |apply Zgn |intro _)
def ZeA(f:Vector Int 64):Option Int:=
  (ZY f 1).bind fun x=>
  (rem (i64 x) 2048).bind fun q=>
  (ZY f 2).bind fun x2=>
  (rem (i64 x2) 2048).bind fun q2=>
  some (i64 (q+(i64 (q2*2048))))
theorem Zjg(f:Vector Int 64):Le (ZeA f) (Je f):=by
  unfold ZeA Je
  with_reducible repeat' (first |exact Le.refl _ |apply Le.bind |intro _)
def ZfQ(number:Int):Option Int:=
  (rem number 4).bind fun q=>
  (ZY (#v[583,1464,2631,3512]:Vector Int 4) q).bind fun x=>
  some x
theorem ZkK(number:Int):Le (ZfQ number) (ZaV number):=by
  unfold ZfQ ZaV
  with_reducible repeat' (first |exact Le.refl _ |apply Le.bind |intro _)
def ZfY(f:Vector Int 64)(x2:Int)(i:Int):Option ((Int×Int) ⊕ (Int)):=
  if(decide (i≤60))=true then
  (ZY f i).bind fun x3=>
  (rem (i64 x3) 2048).bind fun q=>
  some (.inl ((Zbv .i64 x2 q),(i64 (i+1))))
  else
  some (.inr x2)
theorem Zk4(f:Vector Int 64)(x2:Int)(i:Int):Le (ZfY f x2 i) (ZbJ f x2 i):=by
  unfold ZfY ZbJ
  with_reducible repeat' (first |exact Le.refl _ |apply Le.bind |apply Le.ite |intro _)
def Zil(f:Vector Int 64):Option Int:=
  ((Xi (t2 (ZfY f)) (0,1)):Option ((Int))).bind (t1 fun(x:Int)=>
  some x)
theorem Zmn(f:Vector Int 64):Le (Zil f) (Zel f):=by
  unfold Zil Zel
  with_reducible repeat' (first |exact Le.refl _ |apply Le.bind |apply Le.loop |apply Le.t1 |apply Le.t2 |apply Zk4 |intro _)
def Zew(f:Vector Int 64)(rest2:Int)(i:Int):Option ((Int×Int) ⊕ (Int)):=
  if(decide (i<766))=true then
  ((if(decide (i<744))=true then
  (quo .i64 i 12).bind fun q=>
  (ZY f q).bind fun x=>
  (rem i 12).bind fun q2=>
  (shr .i64 (i64 x) (i64 (11-q2))).bind fun q3=>
  some (QD .i64 q3 1)
  else
  some 0):Option ((Int))).bind (t1 fun(bit:Int)=>
  if(decide (4194304≤(i64 ((i64 (rest2*2))+bit))))=true then
  some (.inl ((Zbv .i64 (i64 ((i64 (rest2*2))+bit)) 6291471),(i64 (i+1))))
  else
  some (.inl ((i64 ((i64 (rest2*2))+bit)),(i64 (i+1)))))
  else
  some (.inr rest2)
theorem Zjn(f:Vector Int 64)(rest2:Int)(i:Int):Le (Zew f rest2 i) (Zaw f rest2 i):=by
  unfold Zew Zaw
  with_reducible repeat' (first |exact Le.refl _ |apply Le.bind |apply Le.ite |apply Le.t1 |intro _)
def Zgy(f:Vector Int 64):Option Int:=
  ((Xi (t2 (Zew f)) (0,0)):Option ((Int))).bind (t1 fun(rest:Int)=>
  some rest)
theorem Zle(f:Vector Int 64):Le (Zgy f) (Zbx f):=by
  unfold Zgy Zbx
  with_reducible repeat' (first |exact Le.refl _ |apply Le.bind |apply Le.loop |apply Le.t1 |apply Le.t2 |apply Zjn |intro _)
def Ze1(f:Vector Int 64):Option (Vector Int 64):=
  (Zgy f).bind fun y=>
  (quo .i64 y 2048).bind fun q=>
  (ZcM q).bind fun y2=>
  (rem y 2048).bind fun q2=>
  (ZcM q2).bind fun y3=>
  (ZY f 62).bind fun x=>
  (ZY (ZaB f 62 (u16 y2)) 63).bind fun x2=>
  some (ZaB (ZaB f 62 (u16 y2)) 63 (u16 y3))
theorem ZjW(f:Vector Int 64):Le (Ze1 f) (Zdk f):=by
  unfold Ze1 Zdk
  with_reducible repeat' (first |exact Le.refl _ |apply Le.bind |apply Zle |apply Zgn |intro _)
def ZfR(f:Vector Int 64):Option (Vector Int 64):=
  ((Xi (t2 (ZdS)) (f,1)):Option (((Vector Int 64)))).bind (t1 fun(f2:Vector Int 64)=>
  (ZeA f2).bind fun y2=>
  (ZfQ y2).bind fun y3=>
  (ZY f2 0).bind fun x3=>
  (Zil (ZaB f2 0 (u16 y3))).bind fun y4=>
  (ZcM y4).bind fun y5=>
  (ZY (ZaB f2 0 (u16 y3)) 61).bind fun x4=>
  (Ze1 (ZaB (ZaB f2 0 (u16 y3)) 61 (u16 y5))).bind fun y6=>
  some y6)
theorem Zkp(f:Vector Int 64):Le (ZfR f) (Zec f):=by
  unfold ZfR Zec
  with_reducible repeat' (first |exact Le.refl _ |apply Le.bind |apply Le.loop |apply Le.t1 |apply Le.t2 |apply Ziw |apply Zjg |apply ZkK |apply Zmn |apply Zgn |apply ZjW |intro _)
def Zie(number:Int)(data:List Int):Option ((Vector Int 64)×Int):=
  if((decide (number<0)) || (decide (4194304≤number)))=true then
  some ((#v[0,0,0,0,0,0,0,0,0,0,0,0,0,0,0,0,0,0,0,0,0,0,0,0,0,0,0,0,0,0,0,0,0,0,0,0,0,0,0,0,0,0,0,0,0,0,0,0,0,0,0,0,0,0,0,0,0,0,0,0,0,0,0,0]:Vector Int 64),9)
  else
  if(!decide ((data.length:Int)=58))=true then
  some ((#v[0,0,0,0,0,0,0,0,0,0,0,0,0,0,0,0,0,0,0,0,0,0,0,0,0,0,0,0,0,0,0,0,0,0,0,0,0,0,0,0,0,0,0,0,0,0,0,0,0,0,0,0,0,0,0,0,0,0,0,0,0,0,0,0]:Vector Int 64),3)
  else
  (rem number 2048).bind fun q=>
  (quo .i64 number 2048).bind fun q2=>
  (ZY (#v[0,0,0,0,0,0,0,0,0,0,0,0,0,0,0,0,0,0,0,0,0,0,0,0,0,0,0,0,0,0,0,0,0,0,0,0,0,0,0,0,0,0,0,0,0,0,0,0,0,0,0,0,0,0,0,0,0,0,0,0,0,0,0,0]:Vector Int 64) 1).bind fun x=>
  (ZY (ZaB (#v[0,0,0,0,0,0,0,0,0,0,0,0,0,0,0,0,0,0,0,0,0,0,0,0,0,0,0,0,0,0,0,0,0,0,0,0,0,0,0,0,0,0,0,0,0,0,0,0,0,0,0,0,0,0,0,0,0,0,0,0,0,0,0,0]:Vector Int 64) 1 (u16 q)) 2).bind fun x2=>
  ((Xi (t2 (Zf0 data)) ((ZaB (ZaB (#v[0,0,0,0,0,0,0,0,0,0,0,0,0,0,0,0,0,0,0,0,0,0,0,0,0,0,0,0,0,0,0,0,0,0,0,0,0,0,0,0,0,0,0,0,0,0,0,0,0,0,0,0,0,0,0,0,0,0,0,0,0,0,0,0]:Vector Int 64) 1 (u16 q)) 2 (u16 q2)),0)):Option (((Vector Int 64)×Int) ⊕ ((Vector Int 64)))).bind (Sum.elim (fun q'=>some q') (t1 fun(f:Vector Int 64)=>
  (ZfR f).bind fun y=>
  some (y,0)))
theorem Zne(number:Int)(data:List Int):Le (Zie number data) (Zhw number data):=by
  unfold Zie Zhw
  with_reducible repeat' (first |exact Le.refl _ |apply Le.bind |apply Le.ite |apply Le.loop |apply Le.t1 |apply Le.t2 |apply Le.elim |apply ZkS |apply Zkp |intro _)
def QY(n:Int)(low:Int)(high:Int):Option Bool:=
  some ((decide (low≤n))&&(decide (n≤high)))
theorem JU(n:Int)(low:Int)(high:Int):Le (QY n low high) (QE n low high):=by
  unfold QY QE
  with_reducible repeat' (first |exact Le.refl _ |apply Le.bind |intro _)
def ZaW(slots:Int):Option Int:=
  some (i64 (16+(i64 (slots*97))))
theorem ZeJ(slots:Int):Le (ZaW slots) (XB slots):=by
  unfold ZaW XB
  with_reducible repeat' (first |exact Le.refl _ |apply Le.bind |intro _)
def Zgp(x:Int)(y:Int):Option (Int×Int):=
  (shr .u64 x 32).bind fun q=>
  (shr .u64 y 32).bind fun q2=>
  (shr .u64 (u64 ((QD .u64 x 4294967295)*(QD .u64 y 4294967295))) 32).bind fun q3=>
  (shr .u64 (u64 ((u64 (q*(QD .u64 y 4294967295)))+q3)) 32).bind fun q4=>
  (shr .u64 (u64 ((QD .u64 (u64 ((u64 (q*(QD .u64 y 4294967295)))+q3)) 4294967295)+(u64 ((QD .u64 x 4294967295)*q2)))) 32).bind fun q5=>
  some ((u64 ((u64 ((u64 (q*q2))+q4))+q5)),(u64 (x*y)))
theorem Zlf(x:Int)(y:Int):Le (Zgp x y) (Ze3 x y):=by
  unfold Zgp Ze3
  with_reducible repeat' (first |exact Le.refl _ |apply Le.bind |intro _)
def Zik(x:Int)(y:Int):Option (Int×Int):=
  (Zgp x y).bind fun y2=>
  some (y2.1,y2.2)
theorem ZmH(x:Int)(y:Int):Le (Zik x y) (Zhc x y):=by
  unfold Zik Zhc
  with_reducible repeat' (first |exact Le.refl _ |apply Le.bind |apply Zlf |intro _)
def JA(newslice2:List Int)(n:Int):Option (((List Int)×Int) ⊕ ((List Int))):=
  if(decide (n<(newslice2.length:Int)))=true then
  (slq newslice2 n (newslice2.length:Int)).bind fun u=>
  (slq newslice2 0 n).bind fun u2=>
  some (.inl ((cpy newslice2 n.toNat (Int.toNat ((newslice2.length:Int)-n)) (Int.toNat 0) (Int.toNat (n-0))),(i64 (n+((min (Int.toNat (n-0)) (Int.toNat ((newslice2.length:Int)-n)):Nat):Int)))))
  else
  some (.inr newslice2)
theorem Zej(newslice2:List Int)(n:Int):Le (JA newslice2 n) (XQ newslice2 n):=by
  unfold JA XQ
  with_reducible repeat' (first |exact Le.refl _ |apply Le.bind |apply Le.ite |intro _)
def Zag(x:List Int)(count:Int):Option (List Int):=
  if(decide (count<0))=true then
  none
  else
  (Zik (u64 (x.length:Int)) (u64 count)).bind fun y=>
  if((decide (0<y.1)) || (decide (9223372036854775807<y.2)))=true then
  none
  else
  (mks (i64 y.2) 0).bind fun l=>
  ((Xi (t2 (JA)) ((ZjU l x),((min x.length l.length:Nat):Int))):Option (((List Int)))).bind (t1 fun(newslice:List Int)=>
  some newslice)
theorem Zfm(x:List Int)(count:Int):Le (Zag x count) (XI x count):=by
  unfold Zag XI
  with_reducible repeat' (first |exact Le.refl _ |apply Le.bind |apply Le.ite |apply Le.loop |apply Le.t1 |apply Le.t2 |apply ZmH |apply Zej |intro _)
def Zca(sectors:Int)(slots:Int)(Sectors2:List (List Int))(i:Int):Option (((List (List Int))×Int) ⊕ ((List (List Int)))):=
  if(decide (i<sectors))=true then
  (((ZaW slots).bind fun y4=>
  (Zag ([255]:List Int) y4).bind fun y5=>
  (apz 24 Sectors2 [y5]).bind fun l3=>
  some l3):Option (((List (List Int))))).bind (t1 fun(Sectors3:List (List Int))=>
  some (.inl (Sectors3,(i64 (i+1)))))
  else
  some (.inr Sectors2)
theorem Zhp(sectors:Int)(slots:Int)(Sectors2:List (List Int))(i:Int):Le (Zca sectors slots Sectors2 i) (Zbr sectors slots Sectors2 i):=by
  unfold Zca Zbr
  with_reducible repeat' (first |exact Le.refl _ |apply Le.bind |apply Le.ite |apply Le.t1 |apply ZeJ |apply Zfm |intro _)
def ZdW(sectors:Int)(slots:Int)(limit:Int):Option (api_Memory×Int):=
  (QY sectors 2 64).bind fun y=>
  (gd ((!y)==false) false (QY slots 1 64)).bind fun y2=>
  (gd (((!y) || (!y2))==false) false (QY limit 1 1000000)).bind fun y3=>
  if(((!y) || (!y2)) || (!y3))=true then
  some ((api_Memory.mk 0 0 [] [] []),9)
  else
  (((mkz 8 sectors 0).bind fun l=>
  (mkz 1 sectors false).bind fun l2=>
  some (l,l2)):Option (((List Int)×(List Bool)))).bind (t2 fun(Wear:List Int) (Bad:List Bool)=>
  ((Xi (t2 (Zca sectors slots)) ([],0)):Option (((List (List Int))))).bind (t1 fun(Sectors:List (List Int))=>
  some ((api_Memory.mk slots limit Sectors Wear Bad),0)))
theorem Zi9(sectors:Int)(slots:Int)(limit:Int):Le (ZdW sectors slots limit) (Zby sectors slots limit):=by
  unfold ZdW Zby
  with_reducible repeat' (first |exact Le.refl _ |apply Le.bind |apply Le.ite |apply Le.gd |apply Le.loop |apply Le.t1 |apply Le.t2 |apply JU |apply Zhp |intro _)
def Zbj(m:api_Memory)(i:Int):Option ((Int) ⊕ (Int) ⊕ (Unit)):=
  if(decide (i<(m.Sectors.length:Int)))=true then
  (idx m.Sectors i).bind fun x=>
  (ZaW m.Slots).bind fun y4=>
  if(!decide ((x.length:Int)=y4))=true then
  some (.inr (.inl 3))
  else
  (idx m.Wear i).bind fun x2=>
  (QY x2 0 m.Limit).bind fun y5=>
  if(!y5)=true then
  some (.inr (.inl 9))
  else
  some (.inl (i64 (i+1)))
  else
  some (.inr (.inr ()))
theorem ZgA(m:api_Memory)(i:Int):Le (Zbj m i) (QF m i):=by
  unfold Zbj QF
  with_reducible repeat' (first |exact Le.refl _ |apply Le.bind |apply Le.ite |apply ZeJ |apply JU |intro _)
def ZcA(m:api_Memory):Option Int:=
  (QY m.Slots 1 64).bind fun y=>
  (gd ((!y)==false) false (QY m.Limit 1 1000000)).bind fun y2=>
  (gd (((!y) || (!y2))==false) false (QY (m.Sectors.length:Int) 2 64)).bind fun y3=>
  if(((!y) || (!y2)) || (!y3))=true then
  some 9
  else
  if((!decide ((m.Wear.length:Int)=(m.Sectors.length:Int))) || (!decide ((m.Bad.length:Int)=(m.Sectors.length:Int))))=true then
  some 2
  else
  ((Xi (t1 (Zbj m)) 0):Option ((Int) ⊕ (Unit))).bind (Sum.elim (fun q'=>some q') (t0 (some 0)))
theorem ZhQ(m:api_Memory):Le (ZcA m) (Xl m):=by
  unfold ZcA Xl
  with_reducible repeat' (first |exact Le.refl _ |apply Le.bind |apply Le.ite |apply Le.gd |apply Le.loop |apply Le.t0 |apply Le.t1 |apply Le.elim |apply JU |apply ZgA |intro _)
def ZcB(l:List api_Memory)(i:Int):Option ((Int) ⊕ (Int) ⊕ (Unit)):=
  if(decide (i<(l.length:Int)))=true then
  (idx l i).bind fun x=>
  (ZcA x).bind fun y2=>
  if(!decide (y2=0))=true then
  some (.inr (.inl y2))
  else
  some (.inl (i64 (i+1)))
  else
  some (.inr (.inr ()))
theorem ZhM(l:List api_Memory)(i:Int):Le (ZcB l i) (ring_checkAll_L1 l i):=by
  unfold ZcB ring_checkAll_L1
  with_reducible repeat' (first |exact Le.refl _ |apply Le.bind |apply Le.ite |apply ZhQ |intro _)
def Zcr(l:List api_Memory):Option Int:=
  (QY (l.length:Int) 1 8).bind fun y=>
  if(!y)=true then
  some 3
  else
  ((Xi (t1 (ZcB l)) 0):Option ((Int) ⊕ (Unit))).bind (Sum.elim (fun q'=>some q') (t0 (some 0)))
theorem Zgk(l:List api_Memory):Le (Zcr l) (JO l):=by
  unfold Zcr JO
  with_reducible repeat' (first |exact Le.refl _ |apply Le.bind |apply Le.ite |apply Le.loop |apply Le.t0 |apply Le.t1 |apply Le.elim |apply JU |apply ZhM |intro _)
def ZbM(m:api_Memory)(sectors2:List (List Int))(i:Int):Option (((List (List Int))×Int) ⊕ ((List (List Int)))):=
  if(decide (i<(m.Sectors.length:Int)))=true then
  (idx m.Sectors i).bind fun x=>
  (ZfU 1 x).bind fun y=>
  (apz 24 sectors2 [y]).bind fun l=>
  some (.inl (l,(i64 (i+1))))
  else
  some (.inr sectors2)
theorem ZgZ(m:api_Memory)(sectors2:List (List Int))(i:Int):Le (ZbM m sectors2 i) (Xz m sectors2 i):=by
  unfold ZbM Xz
  with_reducible repeat' (first |exact Le.refl _ |apply Le.bind |apply Le.ite |intro _)
def Zdb(m:api_Memory):Option api_Memory:=
  ((Xi (t2 (ZbM m)) ([],0)):Option (((List (List Int))))).bind (t1 fun(sectors:List (List Int))=>
  (ZfU 8 m.Wear).bind fun y2=>
  (ZfU 1 m.Bad).bind fun y3=>
  some (api_Memory.mk m.Slots m.Limit sectors y2 y3))
theorem Zh6(m:api_Memory):Le (Zdb m) (JF m):=by
  unfold Zdb JF
  with_reducible repeat' (first |exact Le.refl _ |apply Le.bind |apply Le.loop |apply Le.t1 |apply Le.t2 |apply ZgZ |intro _)
def Zda(l:List api_Memory)(out2:List api_Memory)(i:Int):Option (((List api_Memory)×Int) ⊕ ((List api_Memory))):=
  if(decide (i<(l.length:Int)))=true then
  (idx l i).bind fun x=>
  (Zdb x).bind fun y=>
  (apz 88 out2 [y]).bind fun l2=>
  some (.inl (l2,(i64 (i+1))))
  else
  some (.inr out2)
theorem Zim(l:List api_Memory)(out2:List api_Memory)(i:Int):Le (Zda l out2 i) (XX l out2 i):=by
  unfold Zda XX
  with_reducible repeat' (first |exact Le.refl _ |apply Le.bind |apply Le.ite |apply Zh6 |intro _)
def ZcV(l:List api_Memory):Option (List api_Memory):=
  ((Xi (t2 (Zda l)) ([],0)):Option (((List api_Memory)))).bind (t1 fun(out:List api_Memory)=>
  some out)
theorem ZgT(l:List api_Memory):Le (ZcV l) (Ji l):=by
  unfold ZcV Ji
  with_reducible repeat' (first |exact Le.refl _ |apply Le.bind |apply Le.loop |apply Le.t1 |apply Le.t2 |apply Zim |intro _)
def ZdT(sequence:Int)(out2:List Int)(shift:Int):Option (((List Int)×Int) ⊕ ((List Int))):=
  if(decide (0≤shift))=true then
  (shr .i64 sequence shift).bind fun q=>
  (apz 1 out2 ([(u8 q)]:List Int)).bind fun l=>
  some (.inl (l,(i64 (shift-8))))
  else
  some (.inr out2)
theorem ZiR(sequence:Int)(out2:List Int)(shift:Int):Le (ZdT sequence out2 shift) (XP sequence out2 shift):=by
  unfold ZdT XP
  with_reducible repeat' (first |exact Le.refl _ |apply Le.bind |apply Le.ite |intro _)
def ZdI(out:List Int)(out4:List Int)(i:Int):Option (((List Int)×Int) ⊕ ((List Int))):=
  if(decide (i<((Int.toNat (6-2):Nat):Int)))=true then
  (ck (decide ((0:Int)≤i)&&decide (i<((Int.toNat (6-2):Nat):Int)))).bind fun u2=>
  (idx out (2+i)).bind fun x2=>
  (apz 1 out4 ([(Zbv .u8 255 x2)]:List Int)).bind fun l2=>
  some (.inl (l2,(i64 (i+1))))
  else
  some (.inr out4)
theorem Ziv(out:List Int)(out4:List Int)(i:Int):Le (ZdI out out4 i) (XO out out4 i):=by
  unfold ZdI XO
  with_reducible repeat' (first |exact Le.refl _ |apply Le.bind |apply Le.ite |intro _)
def Zd6(sequence:Int):Option (List Int):=
  ((Xi (t2 (ZdT sequence)) (([79,66]:List Int),24)):Option (((List Int)))).bind (t1 fun(out:List Int)=>
  (((slp out 2 6).bind fun u=>
  Xi (t2 (ZdI out)) (out,0)):Option (((List Int)))).bind (t1 fun(out3:List Int)=>
  some out3))
theorem Zha(sequence:Int):Le (Zd6 sequence) (ZaU sequence):=by
  unfold Zd6 ZaU
  with_reducible repeat' (first |exact Le.refl _ |apply Le.bind |apply Le.loop |apply Le.t1 |apply Le.t2 |apply ZiR |apply Ziv |intro _)
def JN(s1:List Int)(s2:List Int)(i:Int):Option ((Int) ⊕ (Bool) ⊕ (Unit)):=
  if(decide (i<(s1.length:Int)))=true then
  (idx s1 i).bind fun x=>
  (idx s2 i).bind fun x2=>
  if(!decide (x=x2))=true then
  some (.inr (.inl false))
  else
  some (.inl (i64 (i+1)))
  else
  some (.inr (.inr ()))
theorem Zez(s1:List Int)(s2:List Int)(i:Int):Le (JN s1 s2 i) (QP s1 s2 i):=by
  unfold JN QP
  with_reducible repeat' (first |exact Le.refl _ |apply Le.bind |apply Le.ite |intro _)
def Zas(s1:List Int)(s2:List Int):Option Bool:=
  if(!decide ((s1.length:Int)=(s2.length:Int)))=true then
  some false
  else
  ((Xi (t1 (JN s1 s2)) 0):Option ((Bool) ⊕ (Unit))).bind (Sum.elim (fun q'=>some q') (t0 (some true)))
theorem Zfy(s1:List Int)(s2:List Int):Le (Zas s1 s2) (QS s1 s2):=by
  unfold Zas QS
  with_reducible repeat' (first |exact Le.refl _ |apply Le.bind |apply Le.ite |apply Le.loop |apply Le.t0 |apply Le.t1 |apply Le.elim |apply Zez |intro _)
def ZbI(s:List Int):Option (Int×Bool×Bool):=
  if(decide ((s.length:Int)<16))=true then
  some (0,false,false)
  else
  (slc s 0 16).bind fun l=>
  (tov 16 l).bind fun v=>
  (ZY v 2).bind fun x=>
  (shl .i64 (i64 x) 24).bind fun q=>
  (ZY v 3).bind fun x2=>
  (shl .i64 (i64 x2) 16).bind fun q2=>
  (ZY v 4).bind fun x3=>
  (shl .i64 (i64 x3) 8).bind fun q3=>
  (ZY v 5).bind fun x4=>
  (QY (bor .i64 (bor .i64 (bor .i64 q q2) q3) (i64 x4)) 1 1073741824).bind fun y=>
  (gd ((!y)==false) [] (slc v.toList 0 10)).bind fun l2=>
  (gd ((!y)==false) [] (Zd6 (bor .i64 (bor .i64 (bor .i64 q q2) q3) (i64 x4)))).bind fun y2=>
  (gd ((!y)==false) false (Zas l2 y2)).bind fun y3=>
  if((!y) || (!y3))=true then
  some (0,false,false)
  else
  (ZY v 10).bind fun x5=>
  some ((bor .i64 (bor .i64 (bor .i64 q q2) q3) (i64 x4)),(!decide (x5=255)),true)
theorem Zdp(s:List Int):Le (ZbI s) (ZaM s):=by
  unfold ZbI ZaM
  with_reducible repeat' (first |exact Le.refl _ |apply Le.bind |apply Le.ite |apply Le.gd |apply JU |apply Zha |apply Zfy |intro _)
def Zc8(m:api_Memory)(out2:List Int)(i:Int):Option (((List Int)×Int) ⊕ ((List Int))):=
  if(decide (i<(m.Sectors.length:Int)))=true then
  (idx m.Sectors i).bind fun x=>
  (ZbI x).bind fun y=>
  (gd (y.2.2==true) false (idx m.Bad i)).bind fun x2=>
  if(y.2.2&&(!x2))=true then
  (apz 8 out2 ([i]:List Int)).bind fun l=>
  some (.inl (l,(i64 (i+1))))
  else
  some (.inl (out2,(i64 (i+1))))
  else
  some (.inr out2)
theorem Zio(m:api_Memory)(out2:List Int)(i:Int):Le (Zc8 m out2 i) (JB m out2 i):=by
  unfold Zc8 JB
  with_reducible repeat' (first |exact Le.refl _ |apply Le.bind |apply Le.ite |apply Le.gd |apply Zdp |intro _)
def Xr(a:Int)(cmp:Int→Int→Option Int)(o3:List Int)(j:Int):Option (((List Int)×Int) ⊕ ((List Int))):=
  (gd ((decide (a<j))==true) 0 (idx o3 j)).bind fun x=>
  (gd ((decide (a<j))==true) 0 (idx o3 (i64 (j-1)))).bind fun x2=>
  (gd ((decide (a<j))==true) 0 (cmp x x2)).bind fun y=>
  if((decide (a<j))&&(decide (y<0)))=true then
  (idx o3 (i64 (j-1))).bind fun x3=>
  (idx o3 j).bind fun x4=>
  (idx o3 j).bind fun x5=>
  (idx (o3.set j.toNat x3) (i64 (j-1))).bind fun x6=>
  some (.inl (((o3.set j.toNat x3).set (i64 (j-1)).toNat x4),(i64 (j-1))))
  else
  some (.inr o3)
theorem Zb0(a:Int)(cmp:Int→Int→Option Int)(o3:List Int)(j:Int)(cmp':Int→Int→Option Int)(h_cmp: ∀ z0 z1,Le (cmp z0 z1) (cmp' z0 z1)):Le (Xr a cmp o3 j) (ZC a cmp' o3 j):=by
  unfold Xr ZC
  with_reducible repeat' (first |exact Le.refl _ |apply Le.bind |apply Le.ite |apply Le.gd |apply h_cmp |intro _)
def Xp(a:Int)(b:Int)(cmp:Int→Int→Option Int)(o:List Int)(i:Int):Option (((List Int)×Int) ⊕ ((List Int))):=
  if(decide (i<b))=true then
  ((Xi (t2 (Xr a cmp)) (o,i)):Option (((List Int)))).bind (t1 fun(o2:List Int)=>
  some (.inl (o2,(i64 (i+1)))))
  else
  some (.inr o)
theorem ZbV(a:Int)(b:Int)(cmp:Int→Int→Option Int)(o:List Int)(i:Int)(cmp':Int→Int→Option Int)(h_cmp: ∀ z0 z1,Le (cmp z0 z1) (cmp' z0 z1)):Le (Xp a b cmp o i) (Zx a b cmp' o i):=by
  unfold Xp Zx
  with_reducible repeat' (first |exact Le.refl _ |apply Le.bind |apply Le.ite |apply Le.loop |apply Le.t1 |apply Le.t2 |apply Zb0 |apply h_cmp |intro _)
def QW(data:List Int)(a:Int)(b:Int)(cmp:Int→Int→Option Int):Option (List Int):=
  Xi (t2 (Xp a b cmp)) (data,(i64 (a+1)))
theorem JQ(data:List Int)(a:Int)(b:Int)(cmp:Int→Int→Option Int)(cmp':Int→Int→Option Int)(h_cmp: ∀ z0 z1,Le (cmp z0 z1) (cmp' z0 z1)):Le (QW data a b cmp) (ZE data a b cmp'):=by
  unfold QW ZE
  with_reducible repeat' (first |exact Le.refl _ |apply Le.bind |apply Le.loop |apply Le.t2 |apply ZbV |apply h_cmp |intro _)
def Jj(n:Int)(cmp:Int→Int→Option Int)(o2:List Int)(a2:Int)(b:Int):Option (((List Int)×Int×Int) ⊕ ((List Int)×Int)):=
  if(decide (b≤n))=true then
  (QW o2 a2 b cmp).bind fun y=>
  some (.inl (y,b,(i64 (b+20))))
  else
  some (.inr (o2,a2))
theorem ZdN(n:Int)(cmp:Int→Int→Option Int)(o2:List Int)(a2:Int)(b:Int)(cmp':Int→Int→Option Int)(h_cmp: ∀ z0 z1,Le (cmp z0 z1) (cmp' z0 z1)):Le (Jj n cmp o2 a2 b) (ZT n cmp' o2 a2 b):=by
  unfold Jj ZT
  with_reducible repeat' (first |exact Le.refl _ |apply Le.bind |apply Le.ite |apply JQ |apply h_cmp |intro _)
def JH(n_:Nat):List Int→Int→Int→Int→(Int→Int→Option Int)→Option (List Int):=fun _ _ _ _ _=>none
theorem ZaR(n_:Nat){z0:List Int}{z1:Int}{z2:Int}{z3:Int}{z4:(Int→Int→Option Int)}{z4':(Int→Int→Option Int)}:Le (JH n_ z0 z1 z2 z3 z4) (ZQ n_ z0 z1 z2 z3 z4'):=fun r h=>by cases h
def Jm(n:Int)(cmp:Int→Int→Option Int)(blockSize:Int)(o5:List Int)(a4:Int)(b2:Int):Option (((List Int)×Int×Int) ⊕ ((List Int)×Int)):=
  if(decide (b2≤n))=true then
  (JH 100 o5 a4 (i64 (a4+blockSize)) b2 cmp).bind fun y3=>
  some (.inl (y3,b2,(i64 (b2+(i64 (2*blockSize))))))
  else
  some (.inr (o5,a4))
theorem ZdC(n:Int)(cmp:Int→Int→Option Int)(blockSize:Int)(o5:List Int)(a4:Int)(b2:Int)(cmp':Int→Int→Option Int)(h_cmp: ∀ z0 z1,Le (cmp z0 z1) (cmp' z0 z1)):Le (Jm n cmp blockSize o5 a4 b2) (ZN n cmp' blockSize o5 a4 b2):=by
  unfold Jm ZN
  with_reducible repeat' (first |exact Le.refl _ |apply Le.bind |apply Le.ite |apply ZaR |apply h_cmp |intro _)
def Jr(n:Int)(cmp:Int→Int→Option Int)(o3:List Int)(blockSize:Int):Option (((List Int)×Int) ⊕ ((List Int))):=
  if(decide (blockSize<n))=true then
  ((Xi (t3 (Jm n cmp blockSize)) (o3,0,(i64 (2*blockSize)))):Option (((List Int)×Int))).bind (t2 fun(o4:List Int) (a3:Int)=>
  if(decide ((i64 (a3+blockSize))<n))=true then
  (JH 100 o4 a3 (i64 (a3+blockSize)) n cmp).bind fun y4=>
  some (.inl (y4,(i64 (blockSize*2))))
  else
  some (.inl (o4,(i64 (blockSize*2)))))
  else
  some (.inr o3)
theorem ZdB(n:Int)(cmp:Int→Int→Option Int)(o3:List Int)(blockSize:Int)(cmp':Int→Int→Option Int)(h_cmp: ∀ z0 z1,Le (cmp z0 z1) (cmp' z0 z1)):Le (Jr n cmp o3 blockSize) (ZM n cmp' o3 blockSize):=by
  unfold Jr ZM
  with_reducible repeat' (first |exact Le.refl _ |apply Le.bind |apply Le.ite |apply Le.loop |apply Le.t2 |apply Le.t3 |apply ZdC |apply ZaR |apply h_cmp |intro _)
def J4(data:List Int)(n:Int)(cmp:Int→Int→Option Int):Option (List Int):=
  ((Xi (t3 (Jj n cmp)) (data,0,20)):Option (((List Int)×Int))).bind (t2 fun(o:List Int) (a:Int)=>
  (QW o a n cmp).bind fun y2=>
  Xi (t2 (Jr n cmp)) (y2,20))
theorem ZeN(data:List Int)(n:Int)(cmp:Int→Int→Option Int)(cmp':Int→Int→Option Int)(h_cmp: ∀ z0 z1,Le (cmp z0 z1) (cmp' z0 z1)):Le (J4 data n cmp) (Qp data n cmp'):=by
  unfold J4 Qp
  with_reducible repeat' (first |exact Le.refl _ |apply Le.bind |apply Le.loop |apply Le.t2 |apply Le.t3 |apply ZdN |apply JQ |apply ZdB |apply h_cmp |intro _)
def X5(x:List Int)(cmp:Int→Int→Option Int):Option (List Int):=
  (J4 x (x.length:Int) cmp).bind fun y=>
  some y
theorem Zdh(x:List Int)(cmp:Int→Int→Option Int)(cmp':Int→Int→Option Int)(h_cmp: ∀ z0 z1,Le (cmp z0 z1) (cmp' z0 z1)):Le (X5 x cmp) (ZW x cmp'):=by
  unfold X5 ZW
  with_reducible repeat' (first |exact Le.refl _ |apply Le.bind |apply ZeN |apply h_cmp |intro _)
def ZbY(i:Int)(c0:api_Memory):Option Int:=
  (idx c0.Sectors i).bind fun x=>
  (ZbI x).bind fun y=>
  some y.1
theorem ZiH(i:Int)(c0:api_Memory):Le (ZbY i c0) (Jn i c0):=by
  unfold ZbY Jn
  with_reducible repeat' (first |exact Le.refl _ |apply Le.bind |apply Zdp |intro _)
def ZdJ(a:Int)(b:Int)(k:api_Memory):Option Int:=
  (ZbY a k).bind fun y=>
  (ZbY b k).bind fun y2=>
  some (i64 (y-y2))
theorem ZiL(a:Int)(b:Int)(k:api_Memory):Le (ZdJ a b k) (Jq a b k):=by
  unfold ZdJ Jq
  with_reducible repeat' (first |exact Le.refl _ |apply Le.bind |apply ZiH |intro _)
def Zc9(m:api_Memory):Option (List Int):=
  ((Xi (t2 (Zc8 m)) ([],0)):Option (((List Int)))).bind (t1 fun(out:List Int)=>
  (X5 out (fun z0 z1=>ZdJ z0 z1 m)).bind fun y2=>
  some y2)
theorem ZgX(m:api_Memory):Le (Zc9 m) (XU m):=by
  unfold Zc9 XU
  with_reducible repeat' (first |exact Le.refl _ |apply Le.bind |apply Le.loop |apply Le.t1 |apply Le.t2 |apply Zio |apply Zdh |apply ZiL |intro _)
def Zd7(s:List Int)(i:Int):Option (Vector Int 97):=
  (slc s (i64 (16+(i64 (i*97)))) (i64 ((i64 (16+(i64 (i*97))))+97))).bind fun l=>
  (tov 97 l).bind fun v=>
  some v
theorem Zhr(s:List Int)(i:Int):Le (Zd7 s i) (ZaQ s i):=by
  unfold Zd7 ZaQ
  with_reducible repeat' (first |exact Le.refl _ |apply Le.bind |intro _)
def X0(s:List Int)(f:Int→Option Bool)(i:Int):Option ((Int) ⊕ (Int) ⊕ (Unit)):=
  if(decide (i<(s.length:Int)))=true then
  (idx s i).bind fun x=>
  (f x).bind fun y=>
  if y=true then
  some (.inr (.inl i))
  else
  some (.inl (i64 (i+1)))
  else
  some (.inr (.inr ()))
theorem Zc1(s:List Int)(f:Int→Option Bool)(i:Int)(f':Int→Option Bool)(h_f: ∀ z0,Le (f z0) (f' z0)):Le (X0 s f i) (Qe s f' i):=by
  unfold X0 Qe
  with_reducible repeat' (first |exact Le.refl _ |apply Le.bind |apply Le.ite |apply h_f |intro _)
def JE(s:List Int)(f:Int→Option Bool):Option Int:=
  ((Xi (t1 (X0 s f)) 0):Option ((Int) ⊕ (Unit))).bind (Sum.elim (fun q'=>some q') (t0 (some (-1))))
theorem Zeb(s:List Int)(f:Int→Option Bool)(f':Int→Option Bool)(h_f: ∀ z0,Le (f z0) (f' z0)):Le (JE s f) (QI s f'):=by
  unfold JE QI
  with_reducible repeat' (first |exact Le.refl _ |apply Le.bind |apply Le.loop |apply Le.t0 |apply Le.t1 |apply Le.elim |apply Zc1 |apply h_f |intro _)
def X4(s:List Int)(f:Int→Option Bool):Option Bool:=
  (JE s f).bind fun y=>
  some (decide (0≤y))
theorem ZcO(s:List Int)(f:Int→Option Bool)(f':Int→Option Bool)(h_f: ∀ z0,Le (f z0) (f' z0)):Le (X4 s f) (Qf s f'):=by
  unfold X4 Qf
  with_reducible repeat' (first |exact Le.refl _ |apply Le.bind |apply Zeb |apply h_f |intro _)
def ZdQ(b:Int):Option Bool:=
  some (!decide (b=255))
theorem ZiD(b:Int):Le (ZdQ b) (Jo b):=by
  unfold ZdQ Jo
  with_reducible repeat' (first |exact Le.refl _ |apply Le.bind |intro _)
def Zdq(p:Vector Int 97):Option Int:=
  (ZY p 96).bind fun x=>
  if(decide (x=0))=true then
  some 1
  else
  (slc p.toList 0 (97:Int)).bind fun l=>
  (X4 l (fun z0=>ZdQ z0)).bind fun y=>
  if y=true then
  some 2
  else
  some 0
theorem ZgV(p:Vector Int 97):Le (Zdq p) (Zap p):=by
  unfold Zdq Zap
  with_reducible repeat' (first |exact Le.refl _ |apply Le.bind |apply Le.ite |apply ZcO |apply ZiD |intro _)
def ZcH(m:api_Memory)(x:Int)(slot2:Int)(i:Int):Option ((Int×Int) ⊕ (Int)):=
  if(decide (i<m.Slots))=true then
  (idx m.Sectors x).bind fun x2=>
  (Zd7 x2 i).bind fun y2=>
  (Zdq y2).bind fun y3=>
  if(!decide (y3=0))=true then
  some (.inl ((i64 (i+1)),(i64 (i+1))))
  else
  some (.inl (slot2,(i64 (i+1))))
  else
  some (.inr slot2)
theorem ZhV(m:api_Memory)(x:Int)(slot2:Int)(i:Int):Le (ZcH m x slot2 i) (Xj m x slot2 i):=by
  unfold ZcH Xj
  with_reducible repeat' (first |exact Le.refl _ |apply Le.bind |apply Le.ite |apply Zhr |apply ZgV |intro _)
def Zev(m:api_Memory):Option ring_spot:=
  (Zc9 m).bind fun y=>
  if(decide ((y.length:Int)=0))=true then
  some (ring_spot.mk (-1) 0)
  else
  (idx y (i64 ((y.length:Int)-1))).bind fun x=>
  ((Xi (t2 (ZcH m x)) (0,0)):Option ((Int))).bind (t1 fun(slot:Int)=>
  some (ring_spot.mk x slot))
theorem Zjm(m:api_Memory):Le (Zev m) (Jf m):=by
  unfold Zev Jf
  with_reducible repeat' (first |exact Le.refl _ |apply Le.bind |apply Le.ite |apply Le.loop |apply Le.t1 |apply Le.t2 |apply ZgX |apply ZhV |intro _)
def Zey(y3:(List api_Memory))(spots2:List ring_spot)(frozen2:Bool)(i:Int):Option (((List ring_spot)×Bool×Int) ⊕ ((List ring_spot)×Bool)):=
  if(decide (i<(y3.length:Int)))=true then
  (idx y3 i).bind fun x=>
  (Zev x).bind fun y4=>
  (apz 16 spots2 ([y4]:List ring_spot)).bind fun l2=>
  if(decide (0≤y4.sector))=true then
  (idx x.Sectors y4.sector).bind fun x2=>
  (ZbI x2).bind fun y5=>
  some (.inl (l2,(frozen2 || y5.2.1),(i64 (i+1))))
  else
  some (.inl (l2,frozen2,(i64 (i+1))))
  else
  some (.inr (spots2,frozen2))
theorem Zjc(y3:(List api_Memory))(spots2:List ring_spot)(frozen2:Bool)(i:Int):Le (Zey y3 spots2 frozen2 i) (Zbd y3 spots2 frozen2 i):=by
  unfold Zey Zbd
  with_reducible repeat' (first |exact Le.refl _ |apply Le.bind |apply Le.ite |apply Zjm |apply Zdp |intro _)
def ZgC(l:List api_Memory)(copies:Int):Option ((Int) ⊕ (ring_Recorder×Int)):=
  (Zcr l).bind fun y=>
  if(!decide (y=0))=true then
  some (Sum.inl y)
  else
  (QY copies 1 (l.length:Int)).bind fun y2=>
  if(!y2)=true then
  some (Sum.inl 9)
  else
  (ZcV l).bind fun y3=>
  ((Xi (t3 (Zey y3)) ([],false,0)):Option (((List ring_spot)×Bool))).bind (t2 fun(spots:List ring_spot) (frozen:Bool)=>
  some (Sum.inr ((ring_Recorder.mk (ring_bank.mk y3 spots) copies frozen false 0 false),0)))
theorem Zlr(l:List api_Memory)(copies:Int):Le (ZgC l copies) (Jy l copies):=by
  unfold ZgC Jy
  with_reducible repeat' (first |exact Le.refl _ |apply Le.bind |apply Le.ite |apply Le.loop |apply Le.t2 |apply Le.t3 |apply Le.elim |apply Zgk |apply JU |apply ZgT |apply Zjc |intro _)
def ZbS(r_:ring_Recorder)(power:Int):Option Int:=
  if r_.stopped=true then
  some 15
  else
  if r_.frozen=true then
  some 11
  else
  (QY power 0 1000000000).bind fun y=>
  if(!y)=true then
  some 9
  else
  some 0
theorem Zg3(r_:ring_Recorder)(power:Int):Le (ZbS r_ power) (Xe r_ power):=by
  unfold ZbS Xe
  with_reducible repeat' (first |exact Le.refl _ |apply Le.bind |apply Le.ite |apply JU |intro _)
def ZdE(f:Vector Int 64)(out2:List api_Flaw)(i:Int):Option (((List api_Flaw)×Int) ⊕ ((List api_Flaw))):=
  if(decide (i<64))=true then
  (ZY f i).bind fun x=>
  if(decide (4095<x))=true then
  (app out2 ([(api_Flaw.mk i 5)]:List api_Flaw)).bind fun l=>
  some (.inl (l,(i64 (i+1))))
  else
  some (.inl (out2,(i64 (i+1))))
  else
  some (.inr out2)
theorem Zi5(f:Vector Int 64)(out2:List api_Flaw)(i:Int):Le (ZdE f out2 i) (J3 f out2 i):=by
  unfold ZdE J3
  with_reducible repeat' (first |exact Le.refl _ |apply Le.bind |apply Le.ite |intro _)
def Zal(w:Int):Option Int:=
  some (i64 (QD .u16 w 2047))
theorem Zf2(w:Int):Le (Zal w) (JC w):=by
  unfold Zal JC
  with_reducible repeat' (first |exact Le.refl _ |apply Le.bind |intro _)
def ZbU(f:Vector Int 64):Option Int:=
  (ZY f 1).bind fun x=>
  (Zal x).bind fun y=>
  (ZY f 2).bind fun x2=>
  (Zal x2).bind fun y2=>
  (shl .i64 y2 11).bind fun q=>
  some (bor .i64 y q)
theorem ZfM(f:Vector Int 64):Le (ZbU f) (Js f):=by
  unfold ZbU Js
  with_reducible repeat' (first |exact Le.refl _ |apply Le.bind |apply Zf2 |intro _)
def ZcE(x:Int):Option Int:=
  (shr .u16 x 8).bind fun q=>
  (Zos [0,1,1,2,1,2,2,3,1,2,2,3,2,3,3,4,1,2,2,3,2,3,3,4,2,3,3,4,3,4,4,5,1,2,2,3,2,3,3,4,2,3,3,4,3,4,4,5,2,3,3,4,3,4,4,5,3,4,4,5,4,5,5,6,1,2,2,3,2,3,3,4,2,3,3,4,3,4,4,5,2,3,3,4,3,4,4,5,3,4,4,5,4,5,5,6,2,3,3,4,3,4,4,5,3,4,4,5,4,5,5,6,3,4,4,5,4,5,5,6,4,5,5,6,5,6,6,7,1,2,2,3,2,3,3,4,2,3,3,4,3,4,4,5,2,3,3,4,3,4,4,5,3,4,4,5,4,5,5,6,2,3,3,4,3,4,4,5,3,4,4,5,4,5,5,6,3,4,4,5,4,5,5,6,4,5,5,6,5,6,6,7,2,3,3,4,3,4,4,5,3,4,4,5,4,5,5,6,3,4,4,5,4,5,5,6,4,5,5,6,5,6,6,7,3,4,4,5,4,5,5,6,4,5,5,6,5,6,6,7,4,5,5,6,5,6,6,7,5,6,6,7,6,7,7,8] q).bind fun b=>
  (Zos [0,1,1,2,1,2,2,3,1,2,2,3,2,3,3,4,1,2,2,3,2,3,3,4,2,3,3,4,3,4,4,5,1,2,2,3,2,3,3,4,2,3,3,4,3,4,4,5,2,3,3,4,3,4,4,5,3,4,4,5,4,5,5,6,1,2,2,3,2,3,3,4,2,3,3,4,3,4,4,5,2,3,3,4,3,4,4,5,3,4,4,5,4,5,5,6,2,3,3,4,3,4,4,5,3,4,4,5,4,5,5,6,3,4,4,5,4,5,5,6,4,5,5,6,5,6,6,7,1,2,2,3,2,3,3,4,2,3,3,4,3,4,4,5,2,3,3,4,3,4,4,5,3,4,4,5,4,5,5,6,2,3,3,4,3,4,4,5,3,4,4,5,4,5,5,6,3,4,4,5,4,5,5,6,4,5,5,6,5,6,6,7,2,3,3,4,3,4,4,5,3,4,4,5,4,5,5,6,3,4,4,5,4,5,5,6,4,5,5,6,5,6,6,7,3,4,4,5,4,5,5,6,4,5,5,6,5,6,6,7,4,5,5,6,5,6,6,7,5,6,6,7,6,7,7,8] (QD .u16 x 255)).bind fun b2=>
  some (i64 (u8 (b+b2)))
theorem ZhR(x:Int):Le (ZcE x) (ZaN x):=by
  unfold ZcE ZaN
  with_reducible repeat' (first |exact Le.refl _ |apply Le.bind |intro _)
def Zed(w:Int):Option Bool:=
  (gd ((decide (w≤4095))==true) 0 (ZcE w)).bind fun y=>
  (gd ((decide (w≤4095))==true) 0 (rem y 2)).bind fun q=>
  some ((decide (w≤4095))&&(decide (q=1)))
theorem Zi8(w:Int):Le (Zed w) (ZbW w):=by
  unfold Zed ZbW
  with_reducible repeat' (first |exact Le.refl _ |apply Le.bind |apply Le.gd |apply ZhR |intro _)
def ZdG(f:Vector Int 64)(out5:List api_Flaw)(i2:Int):Option (((List api_Flaw)×Int) ⊕ ((List api_Flaw))):=
  if(decide (i2<64))=true then
  (ZY f i2).bind fun x4=>
  (Zed x4).bind fun y2=>
  if(!y2)=true then
  (app out5 ([(api_Flaw.mk i2 2)]:List api_Flaw)).bind fun l3=>
  some (.inl (l3,(i64 (i2+1))))
  else
  some (.inl (out5,(i64 (i2+1))))
  else
  some (.inr out5)
theorem ZiC(f:Vector Int 64)(out5:List api_Flaw)(i2:Int):Le (ZdG f out5 i2) (JR f out5 i2):=by
  unfold ZdG JR
  with_reducible repeat' (first |exact Le.refl _ |apply Le.bind |apply Le.ite |apply Zi8 |intro _)
def ZdU(f:Vector Int 64)(n2:Int)(i:Int):Option ((Int×Int) ⊕ (Int)):=
  if(decide (i<60))=true then
  (ZY f (i64 (i+1))).bind fun x=>
  (Zal x).bind fun y=>
  some (.inl ((Zbv .i64 n2 y),(i64 (i+1))))
  else
  some (.inr n2)
theorem Zi0(f:Vector Int 64)(n2:Int)(i:Int):Le (ZdU f n2 i) (JY f n2 i):=by
  unfold ZdU JY
  with_reducible repeat' (first |exact Le.refl _ |apply Le.bind |apply Le.ite |apply Zf2 |intro _)
def ZfS(f:Vector Int 64):Option Int:=
  ((Xi (t2 (ZdU f)) (0,0)):Option ((Int))).bind (t1 fun(n:Int)=>
  some n)
theorem ZkY(f:Vector Int 64):Le (ZfS f) (ZbG f):=by
  unfold ZfS ZbG
  with_reducible repeat' (first |exact Le.refl _ |apply Le.bind |apply Le.loop |apply Le.t1 |apply Le.t2 |apply Zi0 |intro _)
def ZcC(f:Vector Int 64)(i:Int)(n4:Int)(k:Int):Option ((Int×Int) ⊕ (Int)):=
  if(decide (0≤k))=true then
  (shl .i64 n4 1).bind fun q=>
  (ZY f i).bind fun x=>
  (shr .u16 x k).bind fun q2=>
  if(!((!decide ((QD .i64 n4 2097152)=0))==(decide ((QD .u16 q2 1)=1))))=true then
  some (.inl ((Zbv .i64 (QD .i64 q 4194303) 2097167),(i64 (k-1))))
  else
  some (.inl ((QD .i64 q 4194303),(i64 (k-1))))
  else
  some (.inr n4)
theorem ZhS(f:Vector Int 64)(i:Int)(n4:Int)(k:Int):Le (ZcC f i n4 k) (XF f i n4 k):=by
  unfold ZcC XF
  with_reducible repeat' (first |exact Le.refl _ |apply Le.bind |apply Le.ite |intro _)
def ZcG(f:Vector Int 64)(n2:Int)(i:Int):Option ((Int×Int) ⊕ (Int)):=
  if(decide (i<62))=true then
  ((Xi (t2 (ZcC f i)) (n2,11)):Option ((Int))).bind (t1 fun(n3:Int)=>
  some (.inl (n3,(i64 (i+1)))))
  else
  some (.inr n2)
theorem ZhT(f:Vector Int 64)(n2:Int)(i:Int):Le (ZcG f n2 i) (Ja f n2 i):=by
  unfold ZcG Ja
  with_reducible repeat' (first |exact Le.refl _ |apply Le.bind |apply Le.ite |apply Le.loop |apply Le.t1 |apply Le.t2 |apply ZhS |intro _)
def Zex(f:Vector Int 64):Option Int:=
  ((Xi (t2 (ZcG f)) (0,0)):Option ((Int))).bind (t1 fun(n:Int)=>
  some n)
theorem Zjl(f:Vector Int 64):Le (Zex f) (Zav f):=by
  unfold Zex Zav
  with_reducible repeat' (first |exact Le.refl _ |apply Le.bind |apply Le.loop |apply Le.t1 |apply Le.t2 |apply ZhT |intro _)
def Zd1(f:Vector Int 64):Option (List api_Flaw):=
  ((Xi (t2 (ZdE f)) ([],0)):Option (((List api_Flaw)))).bind (t1 fun(out:List api_Flaw)=>
  if(decide (0<(out.length:Int)))=true then
  some out
  else
  (((ZY f 0).bind fun x2=>
  (ZbU f).bind fun y=>
  (rem y 4).bind fun q=>
  (ZY gv_frame_syncs q).bind fun x3=>
  if(!decide (x2=x3))=true then
  (app out ([(api_Flaw.mk 0 1)]:List api_Flaw)).bind fun l2=>
  some l2
  else
  some out):Option (((List api_Flaw)))).bind (t1 fun(out3:List api_Flaw)=>
  ((Xi (t2 (ZdG f)) (out3,1)):Option (((List api_Flaw)))).bind (t1 fun(out4:List api_Flaw)=>
  (((ZY f 61).bind fun x5=>
  (Zal x5).bind fun y3=>
  (ZfS f).bind fun y4=>
  if(!decide (y3=y4))=true then
  (app out4 ([(api_Flaw.mk 61 3)]:List api_Flaw)).bind fun l4=>
  some l4
  else
  some out4):Option (((List api_Flaw)))).bind (t1 fun(out6:List api_Flaw)=>
  (ZY f 62).bind fun x6=>
  (Zal x6).bind fun y5=>
  (shl .i64 y5 11).bind fun q2=>
  (ZY f 63).bind fun x7=>
  (Zal x7).bind fun y6=>
  (Zex f).bind fun y7=>
  if(!decide ((bor .i64 q2 y6)=y7))=true then
  (app out6 ([(api_Flaw.mk 62 4)]:List api_Flaw)).bind fun l5=>
  some l5
  else
  some out6))))
theorem Zhd(f:Vector Int 64):Le (Zd1 f) (ZaP f):=by
  unfold Zd1 ZaP
  with_reducible repeat' (first |exact Le.refl _ |apply Le.bind |apply Le.ite |apply Le.loop |apply Le.t1 |apply Le.t2 |apply Zi5 |apply ZfM |apply ZiC |apply Zf2 |apply ZkY |apply Zjl |intro _)
def Zdj(f:Vector Int 64):Option (Int×Bool):=
  (ZY f 1).bind fun x=>
  (Zed x).bind fun y=>
  (gd ((!y)==false) 0 (ZY f 2)).bind fun x2=>
  (gd ((!y)==false) false (Zed x2)).bind fun y2=>
  if((!y) || (!y2))=true then
  some (0,false)
  else
  (ZbU f).bind fun y3=>
  some (y3,true)
theorem ZgR(f:Vector Int 64):Le (Zdj f) (JJ f):=by
  unfold Zdj JJ
  with_reducible repeat' (first |exact Le.refl _ |apply Le.bind |apply Le.ite |apply Le.gd |apply Zi8 |apply ZfM |intro _)
def Zdf(number:Int)(memories:Int)(copies:Int)(out2:List Int)(i:Int):Option (((List Int)×Int) ⊕ ((List Int))):=
  if(decide (i<copies))=true then
  (rem (i64 (number+i)) memories).bind fun q=>
  (apz 8 out2 ([q]:List Int)).bind fun l=>
  some (.inl (l,(i64 (i+1))))
  else
  some (.inr out2)
theorem Zij(number:Int)(memories:Int)(copies:Int)(out2:List Int)(i:Int):Le (Zdf number memories copies out2 i) (ring_targets_L1 number memories copies out2 i):=by
  unfold Zdf ring_targets_L1
  with_reducible repeat' (first |exact Le.refl _ |apply Le.bind |apply Le.ite |intro _)
def Ze8(number:Int)(memories:Int)(copies:Int):Option (List Int):=
  ((Xi (t2 (Zdf number memories copies)) ([],0)):Option (((List Int)))).bind (t1 fun(out:List Int)=>
  some out)
theorem Zj1(number:Int)(memories:Int)(copies:Int):Le (Ze8 number memories copies) (Zak number memories copies):=by
  unfold Ze8 Zak
  with_reducible repeat' (first |exact Le.refl _ |apply Le.bind |apply Le.loop |apply Le.t1 |apply Le.t2 |apply Zij |intro _)
def J5(b:ring_bank)(k:Int):Option Bool:=
  (idx b.spots k).bind fun x=>
  (gd ((decide (x.sector<0))==false) (ring_spot.mk 0 0) (idx b.spots k)).bind fun x2=>
  (gd ((decide (x.sector<0))==false) (api_Memory.mk 0 0 [] [] []) (idx b.memories k)).bind fun x3=>
  some ((decide (x.sector<0)) || (decide (x2.slot=x3.Slots)))
theorem Zb6(b:ring_bank)(k:Int):Le (J5 b k) (QX b k):=by
  unfold J5 QX
  with_reducible repeat' (first |exact Le.refl _ |apply Le.bind |apply Le.gd |intro _)
def Zb3(b:ring_bank)(k:Int)(x:api_Memory)(i:Int):Option ((Int) ⊕ (Int) ⊕ (Unit)):=
  if(decide (i<(x.Sectors.length:Int)))=true then
  (idx b.spots k).bind fun x2=>
  (rem (i64 ((i64 (x2.sector+1))+i)) (x.Sectors.length:Int)).bind fun q=>
  (idx x.Bad q).bind fun x3=>
  (gd ((!x3)==true) 0 (idx x.Wear q)).bind fun x4=>
  if((!x3)&&(decide (x4<x.Limit)))=true then
  some (.inr (.inl q))
  else
  some (.inl (i64 (i+1)))
  else
  some (.inr (.inr ()))
theorem Zht(b:ring_bank)(k:Int)(x:api_Memory)(i:Int):Le (Zb3 b k x i) (XT b k x i):=by
  unfold Zb3 XT
  with_reducible repeat' (first |exact Le.refl _ |apply Le.bind |apply Le.ite |apply Le.gd |intro _)
def ZaL(b:ring_bank)(k:Int):Option Int:=
  (idx b.memories k).bind fun x=>
  ((Xi (t1 (Zb3 b k x)) 0):Option ((Int) ⊕ (Unit))).bind (Sum.elim (fun q'=>some q') (t0 (some (-1))))
theorem Zc0(b:ring_bank)(k:Int):Le (ZaL b k) (Xt b k):=by
  unfold ZaL Xt
  with_reducible repeat' (first |exact Le.refl _ |apply Le.bind |apply Le.loop |apply Le.t0 |apply Le.t1 |apply Le.elim |apply Zht |intro _)
def ZbP(b:ring_bank)(l:List Int)(i:Int):Option ((Int) ⊕ (Int) ⊕ (Unit)):=
  if(decide (i<(l.length:Int)))=true then
  (idx l i).bind fun x=>
  (J5 b x).bind fun y=>
  (gd (y==true) 0 (ZaL b x)).bind fun y2=>
  if(y&&(decide (y2<0)))=true then
  some (.inr (.inl 4))
  else
  some (.inl (i64 (i+1)))
  else
  some (.inr (.inr ()))
theorem Zg0(b:ring_bank)(l:List Int)(i:Int):Le (ZbP b l i) (X9 b l i):=by
  unfold ZbP X9
  with_reducible repeat' (first |exact Le.refl _ |apply Le.bind |apply Le.ite |apply Le.gd |apply Zb6 |apply Zc0 |intro _)
def ZaJ(sector:Int)(x:api_Memory)(most2:Int)(i:Int):Option ((Int×Int) ⊕ (Int)):=
  if(decide (i<(x.Sectors.length:Int)))=true then
  (idx x.Sectors i).bind fun x2=>
  (ZbI x2).bind fun y=>
  if(y.2.2&&(!decide (i=sector)))=true then
  some (.inl ((max most2 y.1),(i64 (i+1))))
  else
  some (.inl (most2,(i64 (i+1))))
  else
  some (.inr most2)
theorem ZfX(sector:Int)(x:api_Memory)(most2:Int)(i:Int):Le (ZaJ sector x most2 i) (Q4 sector x most2 i):=by
  unfold ZaJ Q4
  with_reducible repeat' (first |exact Le.refl _ |apply Le.bind |apply Le.ite |apply Zdp |intro _)
def Zam(b:ring_bank)(k:Int)(sector:Int):Option Int:=
  (((idx b.memories k).bind fun x=>
  Xi (t2 (ZaJ sector x)) (0,0)):Option ((Int))).bind (t1 fun(most:Int)=>
  some (i64 (most+1)))
theorem Zdy(b:ring_bank)(k:Int)(sector:Int):Le (Zam b k sector) (QR b k sector):=by
  unfold Zam QR
  with_reducible repeat' (first |exact Le.refl _ |apply Le.bind |apply Le.loop |apply Le.t1 |apply Le.t2 |apply ZfX |intro _)
def ZbQ(b:ring_bank)(l:List Int)(i2:Int):Option ((Int) ⊕ (Int) ⊕ (Unit)):=
  if(decide (i2<(l.length:Int)))=true then
  (idx l i2).bind fun x2=>
  (J5 b x2).bind fun y3=>
  (gd (y3==true) 0 (ZaL b x2)).bind fun y4=>
  (gd (y3==true) 0 (Zam b x2 y4)).bind fun y5=>
  if(y3&&(decide (1073741824<y5)))=true then
  some (.inr (.inl 3))
  else
  some (.inl (i64 (i2+1)))
  else
  some (.inr (.inr ()))
theorem Zg4(b:ring_bank)(l:List Int)(i2:Int):Le (ZbQ b l i2) (X8 b l i2):=by
  unfold ZbQ X8
  with_reducible repeat' (first |exact Le.refl _ |apply Le.bind |apply Le.ite |apply Le.gd |apply Zb6 |apply Zc0 |apply Zdy |intro _)
def ZcW(b:ring_bank)(l:List Int):Option Int:=
  ((Xi (t1 (ZbP b l)) 0):Option ((Int) ⊕ (Unit))).bind (Sum.elim (fun q'=>some q') (t0 (((Xi (t1 (ZbQ b l)) 0):Option ((Int) ⊕ (Unit))).bind (Sum.elim (fun q'=>some q') (t0 (some 0))))))
theorem Zic(b:ring_bank)(l:List Int):Le (ZcW b l) (JD b l):=by
  unfold ZcW JD
  with_reducible repeat' (first |exact Le.refl _ |apply Le.bind |apply Le.loop |apply Le.t0 |apply Le.t1 |apply Le.elim |apply Zg0 |apply Zg4 |intro _)
def Zeu(f:Vector Int 64)(i:Int):Option ((Int) ⊕ (Bool) ⊕ (Unit)):=
  if(decide (i<64))=true then
  (ZY f i).bind fun x=>
  if(decide (4095<x))=true then
  some (.inr (.inl true))
  else
  some (.inl (i64 (i+1)))
  else
  some (.inr (.inr ()))
theorem ZjB(f:Vector Int 64)(i:Int):Le (Zeu f i) (Zau f i):=by
  unfold Zeu Zau
  with_reducible repeat' (first |exact Le.refl _ |apply Le.bind |apply Le.ite |intro _)
def ZgE(f:Vector Int 64):Option Bool:=
  ((Xi (t1 (Zeu f)) 0):Option ((Bool) ⊕ (Unit))).bind (Sum.elim (fun q'=>some q') (t0 (some false)))
theorem Zlo(f:Vector Int 64):Le (ZgE f) (Zcx f):=by
  unfold ZgE Zcx
  with_reducible repeat' (first |exact Le.refl _ |apply Le.bind |apply Le.loop |apply Le.t0 |apply Le.t1 |apply Le.elim |apply ZjB |intro _)
def Zc3(p:Vector Int 96)(i:Int)(w:Int):Option (Vector Int 96):=
  (quo .i64 i 2).bind fun q=>
  (rem i 2).bind fun q2=>
  if(decide (q2=0))=true then
  (shr .u16 w 4).bind fun q3=>
  (ZY p (i64 ((i64 (q*3))+1))).bind fun x=>
  (ZY p (i64 (q*3))).bind fun x2=>
  (shl .u16 (QD .u16 w 15) 4).bind fun q4=>
  (ZY (ZaB p (i64 (q*3)) (u8 q3)) (i64 ((i64 (q*3))+1))).bind fun x3=>
  some (ZaB (ZaB p (i64 (q*3)) (u8 q3)) (i64 ((i64 (q*3))+1)) (bor .u8 (u8 q4) (QD .u8 x 15)))
  else
  (ZY p (i64 ((i64 (q*3))+1))).bind fun x4=>
  (shr .u16 w 8).bind fun q5=>
  (ZY p (i64 ((i64 (q*3))+1))).bind fun x5=>
  (ZY (ZaB p (i64 ((i64 (q*3))+1)) (bor .u8 (QD .u8 x4 240) (u8 q5))) (i64 ((i64 (q*3))+2))).bind fun x6=>
  some (ZaB (ZaB p (i64 ((i64 (q*3))+1)) (bor .u8 (QD .u8 x4 240) (u8 q5))) (i64 ((i64 (q*3))+2)) (u8 w))
theorem Zh5(p:Vector Int 96)(i:Int)(w:Int):Le (Zc3 p i w) (JI p i w):=by
  unfold Zc3 JI
  with_reducible repeat' (first |exact Le.refl _ |apply Le.bind |apply Le.ite |intro _)
def ZeD(f:Vector Int 64)(o:Vector Int 96)(i:Int):Option (((Vector Int 96)×Int) ⊕ ((Vector Int 96))):=
  if(decide (i<64))=true then
  (ZY f i).bind fun x=>
  (Zc3 o i x).bind fun y=>
  some (.inl (y,(i64 (i+1))))
  else
  some (.inr o)
theorem Zjq(f:Vector Int 64)(o:Vector Int 96)(i:Int):Le (ZeD f o i) (Zay f o i):=by
  unfold ZeD Zay
  with_reducible repeat' (first |exact Le.refl _ |apply Le.bind |apply Le.ite |apply Zh5 |intro _)
def ZgG(p:Vector Int 96)(f:Vector Int 64):Option (Vector Int 96):=
  Xi (t2 (ZeD f)) (p,0)
theorem Zlh(p:Vector Int 96)(f:Vector Int 64):Le (ZgG p f) (ZdR p f):=by
  unfold ZgG ZdR
  with_reducible repeat' (first |exact Le.refl _ |apply Le.bind |apply Le.loop |apply Le.t2 |apply Zjq |intro _)
def ZeB(f:Vector Int 64):Option ((List Int)×Int):=
  (ZgE f).bind fun y=>
  if y=true then
  some ([],9)
  else
  (ZgG (Vector.replicate 96 0) f).bind fun y2=>
  (slc y2.toList 0 (96:Int)).bind fun l=>
  some (l,0)
theorem Zji(f:Vector Int 64):Le (ZeB f) (Zaz f):=by
  unfold ZeB Zaz
  with_reducible repeat' (first |exact Le.refl _ |apply Le.bind |apply Le.ite |apply Zlo |apply Zlh |intro _)
def Zbi(q:Int)(o2:List Int)(i:Int):Option (((List Int)×Int) ⊕ ((List Int))):=
  if(decide (i<((Int.toNat (q-0):Nat):Int)))=true then
  (ck (decide ((0:Int)≤i)&&decide (i<((Int.toNat (q-0):Nat):Int)))).bind fun u2=>
  (idx o2 (0+i)).bind fun x2=>
  some (.inl ((o2.set (0+i).toNat 255),(i64 (i+1))))
  else
  some (.inr o2)
theorem Zgo(q:Int)(o2:List Int)(i:Int):Le (Zbi q o2 i) (QH q o2 i):=by
  unfold Zbi QH
  with_reducible repeat' (first |exact Le.refl _ |apply Le.bind |apply Le.ite |intro _)
def Zbl(s:List Int)(o4:List Int)(i2:Int):Option (((List Int)×Int) ⊕ ((List Int))):=
  if(decide (i2<(s.length:Int)))=true then
  (idx o4 i2).bind fun x3=>
  some (.inl ((o4.set i2.toNat 255),(i64 (i2+1))))
  else
  some (.inr o4)
theorem ZgB(s:List Int)(o4:List Int)(i2:Int):Le (Zbl s o4 i2) (QG s o4 i2):=by
  unfold Zbl QG
  with_reducible repeat' (first |exact Le.refl _ |apply Le.bind |apply Le.ite |intro _)
def ZcD(s:List Int)(power:Int):Option (Int×Bool×(List Int)):=
  if(decide (power=0))=true then
  (quo .i64 (s.length:Int) 2).bind fun q=>
  (slp s 0 q).bind fun u=>
  ((Xi (t2 (Zbi q)) (s,0)):Option (((List Int)))).bind (t1 fun(o:List Int)=>
  some ((max (i64 (power-1)) 0),(decide (0<power)),o))
  else
  ((Xi (t2 (Zbl s)) (s,0)):Option (((List Int)))).bind (t1 fun(o3:List Int)=>
  some ((max (i64 (power-1)) 0),(decide (0<power)),o3))
theorem ZhX(s:List Int)(power:Int):Le (ZcD s power) (Xm s power):=by
  unfold ZcD Xm
  with_reducible repeat' (first |exact Le.refl _ |apply Le.bind |apply Le.ite |apply Le.loop |apply Le.t1 |apply Le.t2 |apply Zgo |apply ZgB |intro _)
def ZcF(at_:Int)(data:List Int)(o2:List Int)(power3:Int)(i:Int):Option (((List Int)×Int×Int) ⊕ (Int×Bool×(List Int)) ⊕ ((List Int)×Int)):=
  if(decide (i<(data.length:Int)))=true then
  (idx data i).bind fun x=>
  if(decide (power3=0))=true then
  (idx o2 (i64 (at_+i))).bind fun x2=>
  (idx o2 (i64 (at_+i))).bind fun x3=>
  some (.inr (.inl (0,false,(o2.set (i64 (at_+i)).toNat (QD .u8 x2 (bor .u8 x 15))))))
  else
  (idx o2 (i64 (at_+i))).bind fun x4=>
  (idx o2 (i64 (at_+i))).bind fun x5=>
  some (.inl ((o2.set (i64 (at_+i)).toNat (QD .u8 x4 x)),(i64 (power3-1)),(i64 (i+1))))
  else
  some (.inr (.inr (o2,power3)))
theorem ZhU(at_:Int)(data:List Int)(o2:List Int)(power3:Int)(i:Int):Le (ZcF at_ data o2 power3 i) (QZ at_ data o2 power3 i):=by
  unfold ZcF QZ
  with_reducible repeat' (first |exact Le.refl _ |apply Le.bind |apply Le.ite |intro _)
def Zct(s:List Int)(at_:Int)(data:List Int)(power:Int):Option (Int×Bool×(List Int)):=
  ((Xi (t3 (ZcF at_ data)) (s,power,0)):Option ((Int×Bool×(List Int)) ⊕ ((List Int)×Int))).bind (Sum.elim (fun q'=>some q') (t2 fun(o:List Int) (power2:Int)=>
  some (power2,true,o)))
theorem Zgi(s:List Int)(at_:Int)(data:List Int)(power:Int):Le (Zct s at_ data power) (QM s at_ data power):=by
  unfold Zct QM
  with_reducible repeat' (first |exact Le.refl _ |apply Le.bind |apply Le.loop |apply Le.t2 |apply Le.t3 |apply Le.elim |apply ZhU |intro _)
def Zcb(b:ring_Recorder)(k:Int)(power:Int):Option (Int×Bool×ring_Recorder):=
  (idx b.bank.memories k).bind fun x=>
  (ZaL b.bank k).bind fun y=>
  (Zam b.bank k y).bind fun y2=>
  (idx x.Wear y).bind fun x2=>
  (idx x.Wear y).bind fun x3=>
  (idx x.Sectors y).bind fun x8=>
  (ZcD x8 power).bind fun y3=>
  if(!y3.2.1)=true then
  some (y3.1,false,(ring_Recorder.mk (ring_bank.mk ((b.bank.memories.set k.toNat (api_Memory.mk x.Slots x.Limit x.Sectors (x.Wear.set y.toNat (i64 (x2+1))) x.Bad)).set k.toNat (api_Memory.mk x.Slots x.Limit (x.Sectors.set y.toNat y3.2.2) (x.Wear.set y.toNat (i64 (x2+1))) x.Bad)) b.bank.spots) b.copies b.frozen b.stopped b.last b.some_))
  else
  (((idx ((b.bank.memories.set k.toNat (api_Memory.mk x.Slots x.Limit x.Sectors (x.Wear.set y.toNat (i64 (x2+1))) x.Bad)).set k.toNat (api_Memory.mk x.Slots x.Limit (x.Sectors.set y.toNat y3.2.2) (x.Wear.set y.toNat (i64 (x2+1))) x.Bad)) k).bind fun x14=>
  (idx x14.Sectors y).bind fun x15=>
  (idx x14.Sectors y).bind fun x16=>
  (Zd6 y2).bind fun y4=>
  (Zct x15 0 y4 y3.1).bind fun y5=>
  if y5.2.1=true then
  (idx b.bank.spots k).bind fun x22=>
  some ((((b.bank.memories.set k.toNat (api_Memory.mk x.Slots x.Limit x.Sectors (x.Wear.set y.toNat (i64 (x2+1))) x.Bad)).set k.toNat (api_Memory.mk x.Slots x.Limit (x.Sectors.set y.toNat y3.2.2) (x.Wear.set y.toNat (i64 (x2+1))) x.Bad)).set k.toNat (api_Memory.mk x14.Slots x14.Limit (x14.Sectors.set y.toNat y5.2.2) x14.Wear x14.Bad)),(b.bank.spots.set k.toNat (ring_spot.mk y 0)),y5.1,y5.2.1)
  else
  some ((((b.bank.memories.set k.toNat (api_Memory.mk x.Slots x.Limit x.Sectors (x.Wear.set y.toNat (i64 (x2+1))) x.Bad)).set k.toNat (api_Memory.mk x.Slots x.Limit (x.Sectors.set y.toNat y3.2.2) (x.Wear.set y.toNat (i64 (x2+1))) x.Bad)).set k.toNat (api_Memory.mk x14.Slots x14.Limit (x14.Sectors.set y.toNat y5.2.2) x14.Wear x14.Bad)),b.bank.spots,y5.1,y5.2.1)):Option (((List api_Memory)×(List ring_spot)×Int×Bool))).bind (t4 fun(memories:List api_Memory) (spots:List ring_spot) (power2:Int) (all:Bool)=>
  some (power2,all,(ring_Recorder.mk (ring_bank.mk memories spots) b.copies b.frozen b.stopped b.last b.some_)))
theorem Zhi(b:ring_Recorder)(k:Int)(power:Int):Le (Zcb b k power) (XS b k power):=by
  unfold Zcb XS
  with_reducible repeat' (first |exact Le.refl _ |apply Le.bind |apply Le.ite |apply Le.t4 |apply Zc0 |apply Zdy |apply ZhX |apply Zha |apply Zgi |intro _)
def Zc4(b:ring_Recorder)(k:Int)(data:List Int)(power:Int):Option (Int×Bool×ring_Recorder):=
  (((J5 b.bank k).bind fun y=>
  if y=true then
  (Zcb b k power).bind fun y2=>
  if(!y2.2.1)=true then
  some (.inl (y2.1,false,y2.2.2))
  else
  some (.inr (y2.2.2.bank.memories,y2.2.2.bank.spots,y2.2.2.copies,y2.2.2.frozen,y2.2.2.stopped,y2.2.2.last,y2.2.2.some_,y2.1))
  else
  some (.inr (b.bank.memories,b.bank.spots,b.copies,b.frozen,b.stopped,b.last,b.some_,power))):Option ((Int×Bool×ring_Recorder) ⊕ ((List api_Memory)×(List ring_spot)×Int×Bool×Bool×Int×Bool×Int))).bind (Sum.elim (fun q'=>some q') (t8 fun(memories:List api_Memory) (spots:List ring_spot) (copies:Int) (frozen:Bool) (stopped:Bool) (last:Int) (some_:Bool) (power2:Int)=>
  (idx spots k).bind fun x=>
  (idx memories k).bind fun x2=>
  (idx x2.Sectors x.sector).bind fun x3=>
  (idx memories k).bind fun x4=>
  (idx x2.Sectors x.sector).bind fun x5=>
  (apz 1 data ([0]:List Int)).bind fun l=>
  (Zct x3 (i64 (16+(i64 (x.slot*97)))) l power2).bind fun y3=>
  some (y3.1,y3.2.1,(ring_Recorder.mk (ring_bank.mk (memories.set k.toNat (api_Memory.mk x2.Slots x2.Limit (x2.Sectors.set x.sector.toNat y3.2.2) x2.Wear x2.Bad)) (spots.set k.toNat (ring_spot.mk x.sector (i64 (x.slot+1))))) copies frozen stopped last some_))))
theorem Zig(b:ring_Recorder)(k:Int)(data:List Int)(power:Int):Le (Zc4 b k data power) (Jz b k data power):=by
  unfold Zc4 Jz
  with_reducible repeat' (first |exact Le.refl _ |apply Le.bind |apply Le.ite |apply Le.t8 |apply Le.elim |apply Zb6 |apply Zhi |apply Zgi |intro _)
def Zah(y4:(List Int))(y6:(List Int)×Int)(memories2:List api_Memory)(spots2:List ring_spot)(copies2:Int)(frozen2:Bool)(stopped2:Bool)(last2:Int)(some_2:Bool)(power3:Int)(i:Int):Option (((List api_Memory)×(List ring_spot)×Int×Bool×Bool×Int×Bool×Int×Int) ⊕ (Int×Bool×Int×ring_Recorder) ⊕ ((List api_Memory)×(List ring_spot)×Int×Bool×Bool×Int×Bool×Int)):=
  if(decide (i<(y4.length:Int)))=true then
  (idx y4 i).bind fun x=>
  (slc y6.1 0 (y6.1.length:Int)).bind fun l=>
  (Zc4 (ring_Recorder.mk (ring_bank.mk memories2 spots2) copies2 frozen2 stopped2 last2 some_2) x l power3).bind fun y7=>
  if(!y7.2.1)=true then
  some (.inr (.inl (y7.1,false,0,(ring_Recorder.mk y7.2.2.bank y7.2.2.copies y7.2.2.frozen true y7.2.2.last y7.2.2.some_))))
  else
  some (.inl (y7.2.2.bank.memories,y7.2.2.bank.spots,y7.2.2.copies,y7.2.2.frozen,y7.2.2.stopped,y7.2.2.last,y7.2.2.some_,y7.1,(i64 (i+1))))
  else
  some (.inr (.inr (memories2,spots2,copies2,frozen2,stopped2,last2,some_2,power3)))
theorem Zfk(y4:(List Int))(y6:(List Int)×Int)(memories2:List api_Memory)(spots2:List ring_spot)(copies2:Int)(frozen2:Bool)(stopped2:Bool)(last2:Int)(some_2:Bool)(power3:Int)(i:Int):Le (Zah y4 y6 memories2 spots2 copies2 frozen2 stopped2 last2 some_2 power3 i) (Qw y4 y6 memories2 spots2 copies2 frozen2 stopped2 last2 some_2 power3 i):=by
  unfold Zah Qw
  with_reducible repeat' (first |exact Le.refl _ |apply Le.bind |apply Le.ite |apply Zig |intro _)
def ZaX(r_:ring_Recorder)(f:Vector Int 64)(power:Int):Option (Int×Bool×Int×ring_Recorder):=
  (ZbS r_ power).bind fun y=>
  if(!decide (y=0))=true then
  some (0,false,y,r_)
  else
  (Zd1 f).bind fun y2=>
  if(decide (0<(y2.length:Int)))=true then
  some (0,false,2,r_)
  else
  (Zdj f).bind fun y3=>
  (Ze8 y3.1 (r_.bank.memories.length:Int) r_.copies).bind fun y4=>
  (ZcW r_.bank y4).bind fun y5=>
  if(!decide (y5=0))=true then
  some (0,false,y5,r_)
  else
  (ZeB f).bind fun y6=>
  ((Xi (t9 (Zah y4 y6)) (r_.bank.memories,r_.bank.spots,r_.copies,r_.frozen,r_.stopped,r_.last,r_.some_,power,0)):Option ((Int×Bool×Int×ring_Recorder) ⊕ ((List api_Memory)×(List ring_spot)×Int×Bool×Bool×Int×Bool×Int))).bind (Sum.elim (fun q'=>some q') (t8 fun(memories:List api_Memory) (spots:List ring_spot) (copies:Int) (frozen:Bool) (stopped:Bool) (last:Int) (some_:Bool) (power2:Int)=>
  some (power2,true,0,(ring_Recorder.mk (ring_bank.mk memories spots) copies frozen stopped y3.1 true))))
theorem Zga(r_:ring_Recorder)(f:Vector Int 64)(power:Int):Le (ZaX r_ f power) (QB r_ f power):=by
  unfold ZaX QB
  with_reducible repeat' (first |exact Le.refl _ |apply Le.bind |apply Le.ite |apply Le.loop |apply Le.t8 |apply Le.t9 |apply Le.elim |apply Zg3 |apply Zhd |apply ZgR |apply Zj1 |apply Zic |apply Zji |apply Zfk |intro _)
def ZaA(r_:ring_Recorder):Option (List api_Memory):=
  (ZcV r_.bank.memories).bind fun y=>
  some y
theorem Zfz(r_:ring_Recorder):Le (ZaA r_) (Z6 r_):=by
  unfold ZaA Z6
  with_reducible repeat' (first |exact Le.refl _ |apply Le.bind |apply ZgT |intro _)
def Ze9(p:Vector Int 96)(i:Int):Option Int:=
  (quo .i64 i 2).bind fun q=>
  (rem i 2).bind fun q2=>
  if(decide (q2=0))=true then
  (ZY p (i64 (q*3))).bind fun x=>
  (shl .u16 (u16 x) 4).bind fun q3=>
  (ZY p (i64 ((i64 (q*3))+1))).bind fun x2=>
  (shr .u16 (u16 x2) 4).bind fun q4=>
  some (bor .u16 q3 q4)
  else
  (ZY p (i64 ((i64 (q*3))+1))).bind fun x3=>
  (shl .u16 (QD .u16 (u16 x3) 15) 8).bind fun q5=>
  (ZY p (i64 ((i64 (q*3))+2))).bind fun x4=>
  some (bor .u16 q5 (u16 x4))
theorem ZjX(p:Vector Int 96)(i:Int):Le (Ze9 p i) (Zdo p i):=by
  unfold Ze9 Zdo
  with_reducible repeat' (first |exact Le.refl _ |apply Le.bind |apply Le.ite |intro _)
def ZeE(p:Vector Int 96)(f2:Vector Int 64)(i:Int):Option (((Vector Int 64)×Int) ⊕ ((Vector Int 64))):=
  if(decide (i<64))=true then
  (Ze9 p i).bind fun y=>
  (ZY f2 i).bind fun x=>
  some (.inl ((ZaB f2 i y),(i64 (i+1))))
  else
  some (.inr f2)
theorem Zjh(p:Vector Int 96)(f2:Vector Int 64)(i:Int):Le (ZeE p f2 i) (Zd8 p f2 i):=by
  unfold ZeE Zd8
  with_reducible repeat' (first |exact Le.refl _ |apply Le.bind |apply Le.ite |apply ZjX |intro _)
def Zgv(p:Vector Int 96):Option (Vector Int 64):=
  ((Xi (t2 (ZeE p)) ((Vector.replicate 64 0),0)):Option (((Vector Int 64)))).bind (t1 fun(f:Vector Int 64)=>
  some f)
theorem Zlm(p:Vector Int 96):Le (Zgv p) (Zfa p):=by
  unfold Zgv Zfa
  with_reducible repeat' (first |exact Le.refl _ |apply Le.bind |apply Le.loop |apply Le.t1 |apply Le.t2 |apply Zjh |intro _)
def ZcU(b:List Int):Option ((Vector Int 64)×Int):=
  if(decide ((b.length:Int)<96))=true then
  some ((#v[0,0,0,0,0,0,0,0,0,0,0,0,0,0,0,0,0,0,0,0,0,0,0,0,0,0,0,0,0,0,0,0,0,0,0,0,0,0,0,0,0,0,0,0,0,0,0,0,0,0,0,0,0,0,0,0,0,0,0,0,0,0,0,0]:Vector Int 64),3)
  else
  (slc b 0 96).bind fun l=>
  (tov 96 l).bind fun v=>
  (Zgv v).bind fun y=>
  some (y,0)
theorem Zis(b:List Int):Le (ZcU b) (Za8 b):=by
  unfold ZcU Za8
  with_reducible repeat' (first |exact Le.refl _ |apply Le.bind |apply Le.ite |apply Zlm |intro _)
def Zc2(i:Int)(x:api_Memory)(x2:Int)(y3:Int×Bool×Bool)(out6:List api_Kept)(i3:Int):Option (((List api_Kept)×Int) ⊕ ((List api_Kept))):=
  if(decide (i3<x.Slots))=true then
  (idx x.Sectors x2).bind fun x4=>
  (Zd7 x4 i3).bind fun y4=>
  (Zdq y4).bind fun y5=>
  if(decide (y5=1))=true then
  (slc y4.toList 0 (97:Int)).bind fun l2=>
  (ZcU l2).bind fun y6=>
  (apz 160 out6 ([(api_Kept.mk i x2 y3.1 i3 y6.1)]:List api_Kept)).bind fun l3=>
  some (.inl (l3,(i64 (i3+1))))
  else
  some (.inl (out6,(i64 (i3+1))))
  else
  some (.inr out6)
theorem Ziq(i:Int)(x:api_Memory)(x2:Int)(y3:Int×Bool×Bool)(out6:List api_Kept)(i3:Int):Le (Zc2 i x x2 y3 out6 i3) (Zcv i x x2 y3 out6 i3):=by
  unfold Zc2 Zcv
  with_reducible repeat' (first |exact Le.refl _ |apply Le.bind |apply Le.ite |apply Zhr |apply ZgV |apply Zis |intro _)
def Zdc(i:Int)(x:api_Memory)(y2:(List Int))(out4:List api_Kept)(i2:Int):Option (((List api_Kept)×Int) ⊕ ((List api_Kept))):=
  if(decide (i2<(y2.length:Int)))=true then
  (((idx y2 i2).bind fun x2=>
  (idx x.Sectors x2).bind fun x3=>
  (ZbI x3).bind fun y3=>
  Xi (t2 (Zc2 i x x2 y3)) (out4,0)):Option (((List api_Kept)))).bind (t1 fun(out5:List api_Kept)=>
  some (.inl (out5,(i64 (i2+1)))))
  else
  some (.inr out4)
theorem Zih(i:Int)(x:api_Memory)(y2:(List Int))(out4:List api_Kept)(i2:Int):Le (Zdc i x y2 out4 i2) (Zcs i x y2 out4 i2):=by
  unfold Zdc Zcs
  with_reducible repeat' (first |exact Le.refl _ |apply Le.bind |apply Le.ite |apply Le.loop |apply Le.t1 |apply Le.t2 |apply Zdp |apply Ziq |intro _)
def ZcT(l:List api_Memory)(out2:List api_Kept)(i:Int):Option (((List api_Kept)×Int) ⊕ ((List api_Kept))):=
  if(decide (i<(l.length:Int)))=true then
  (((idx l i).bind fun x=>
  (Zc9 x).bind fun y2=>
  Xi (t2 (Zdc i x y2)) (out2,0)):Option (((List api_Kept)))).bind (t1 fun(out3:List api_Kept)=>
  some (.inl (out3,(i64 (i+1)))))
  else
  some (.inr out2)
theorem Zh9(l:List api_Memory)(out2:List api_Kept)(i:Int):Le (ZcT l out2 i) (Zcq l out2 i):=by
  unfold ZcT Zcq
  with_reducible repeat' (first |exact Le.refl _ |apply Le.bind |apply Le.ite |apply Le.loop |apply Le.t1 |apply Le.t2 |apply ZgX |apply Zih |intro _)
def Ze5(l:List api_Memory):Option ((List api_Kept)×Int):=
  (Zcr l).bind fun y=>
  if(!decide (y=0))=true then
  some ([],y)
  else
  ((Xi (t2 (ZcT l)) ([],0)):Option (((List api_Kept)))).bind (t1 fun(out:List api_Kept)=>
  some (out,0))
theorem Zj4(l:List api_Memory):Le (Ze5 l) (ZcR l):=by
  unfold Ze5 ZcR
  with_reducible repeat' (first |exact Le.refl _ |apply Le.bind |apply Le.ite |apply Le.loop |apply Le.t1 |apply Le.t2 |apply Zgk |apply Zh9 |intro _)
def ZdO(y:(List api_Kept)×Int)(best2:List (Int×api_Kept))(numbers2:List Int)(i:Int):Option (((List (Int×api_Kept))×(List Int)×Int) ⊕ ((List (Int×api_Kept))×(List Int))):=
  if(decide (i<(y.1.length:Int)))=true then
  (idx y.1 i).bind fun x=>
  (Zd1 x.Frame).bind fun y2=>
  if(decide (0<(y2.length:Int)))=true then
  some (.inl (best2,numbers2,(i64 (i+1))))
  else
  (Zdj x.Frame).bind fun y3=>
  (some (mget kqI best2 y3.1)).bind fun o=>
  ((if(!o.isSome)=true then
  (apz 8 numbers2 ([y3.1]:List Int)).bind fun l2=>
  some l2
  else
  some numbers2):Option (((List Int)))).bind (t1 fun(numbers3:List Int)=>
  if((!o.isSome) || (decide (((o.getD (api_Kept.mk 0 0 0 0 (Vector.replicate 64 0))).Sequence)<x.Sequence)))=true then
  some (.inl ((ZmR kqI best2 y3.1 x),numbers3,(i64 (i+1))))
  else
  some (.inl (best2,numbers3,(i64 (i+1)))))
  else
  some (.inr (best2,numbers2))
theorem ZiE(y:(List api_Kept)×Int)(best2:List (Int×api_Kept))(numbers2:List Int)(i:Int):Le (ZdO y best2 numbers2 i) (Zc7 y best2 numbers2 i):=by
  unfold ZdO Zc7
  with_reducible repeat' (first |exact Le.refl _ |apply Le.bind |apply Le.ite |apply Le.t1 |apply Zhd |apply ZgR |intro _)
def ZdV(best:List (Int×api_Kept))(y4:List Int)(out2:List (Vector Int 64))(i2:Int):Option (((List (Vector Int 64))×Int) ⊕ ((List (Vector Int 64)))):=
  if(decide (i2<(y4.length:Int)))=true then
  (idx y4 i2).bind fun x2=>
  (some ((mget kqI best x2).getD (api_Kept.mk 0 0 0 0 (Vector.replicate 64 0)))).bind fun o2=>
  (apz 128 out2 ([o2.Frame]:List (Vector Int 64))).bind fun l3=>
  some (.inl (l3,(i64 (i2+1))))
  else
  some (.inr out2)
theorem ZiG(best:List (Int×api_Kept))(y4:List Int)(out2:List (Vector Int 64))(i2:Int):Le (ZdV best y4 out2 i2) (ZcX best y4 out2 i2):=by
  unfold ZdV ZcX
  with_reducible repeat' (first |exact Le.refl _ |apply Le.bind |apply Le.ite |intro _)
def ZfW(l:List api_Memory):Option ((List (Vector Int 64))×Int):=
  (Ze5 l).bind fun y=>
  if(!decide (y.2=0))=true then
  some ([],y.2)
  else
  ((Xi (t3 (ZdO y)) (([]:List (Int×api_Kept)),[],0)):Option (((List (Int×api_Kept))×(List Int)))).bind (t2 fun(best:List (Int×api_Kept)) (numbers:List Int)=>
  (Zri numbers).bind fun y4=>
  ((Xi (t2 (ZdV best y4)) ([],0)):Option (((List (Vector Int 64))))).bind (t1 fun(out:List (Vector Int 64))=>
  some (out,0)))
theorem ZkN(l:List api_Memory):Le (ZfW l) (Zeh l):=by
  unfold ZfW Zeh
  with_reducible repeat' (first |exact Le.refl _ |apply Le.bind |apply Le.ite |apply Le.loop |apply Le.t1 |apply Le.t2 |apply Le.t3 |apply Zj4 |apply ZiE |apply ZiG |apply Zo5 |intro _)
def Zhq:Option Bool:=
  (mkz 8 58 0).bind fun l=>
  (Zie 4 l).bind fun y=>
  (ZdW 2 1 3).bind fun y2=>
  if(!decide (y2.2=0))=true then
  some false
  else
  (ZgC ([y2.1]:List api_Memory) 1).bind (Sum.elim (fun y3=>
  if(!decide (y3=0))=true then
  some false
  else
  none) (fun y3=>
  if(!decide (y3.2=0))=true then
  some false
  else
  (ZaX y3.1 y.1 109).bind fun y4=>
  (ZaA y4.2.2.2).bind fun y5=>
  (ZfW y5).bind fun y6=>
  (gd ((((((decide (y4.1=1))&&y4.2.1)&&(decide (y4.2.2.1=0)))&&(decide (y6.2=0)))&&(decide ((y6.1.length:Int)=1)))==true) (Vector.replicate 64 0) (idx y6.1 0)).bind fun x=>
  some ((((((decide (y4.1=1))&&y4.2.1)&&(decide (y4.2.2.1=0)))&&(decide (y6.2=0)))&&(decide ((y6.1.length:Int)=1)))&&(decide (x=y.1)))))
theorem Zl1:Le (Zhq) (Zbc):=by
  unfold Zhq Zbc
  with_reducible repeat' (first |exact Le.refl _ |apply Le.bind |apply Le.ite |apply Le.gd |apply Le.elim |apply Zne |apply Zi9 |apply Zlr |apply Zga |apply Zfz |apply ZkN |intro _)
end
end Go.Vx

namespace Go.Vx
open Go Go.RowKit
theorem Zsb:Zhq=some true:=by decide+kernel
theorem ZoZ:Zbc=some true:=Zl1 true Zsb
end Go.Vx

namespace Go.Vx
open Go Go.RowKit
theorem Zax{α:Type}{s:Nat}{xs ys:List α}(h:xs.length+ys.length≤140737488355328/s):apz s xs ys=some (xs++ys):=by unfold apz;rw [pG h]
theorem Zr4{α:Type}{s n:Nat}(h:n≤140737488355328/s)(z:α):mkz s (n:Int) z=some (List.replicate n z):=by
  unfold mkz;rw [pG ⟨by omega,by simpa using h⟩];simp
theorem ixr{n k x:Nat}(h:(List.range n)[k]?=some x):x=k∧k<n:=by
  have hl:=(List.getElem?_eq_some_iff.1 h).1
  rw [List.length_range] at hl
  rw [List.getElem?_range hl] at h
  cases h;exact⟨rfl,hl⟩
theorem Zqi{β:Type}{n:Nat}{body:List β→Int→Option ((List β×Int) ⊕ List β)}(g:Nat→β)
    (hstep: ∀ (k:Nat) acc,k<n→acc.length=k→body acc k=some (.inl (acc++ [g k],(k:Int)+1)))
    (hend: ∀ acc,body acc n=some (.inr acc)):loop (t2 body) ([],0)=some ((List.range n).map g):=
  Zmx g (fun k x acc hx ha=>by obtain⟨rfl,h⟩:=ixr hx;exact hstep _ acc h ha) (fun acc=>by rw [List.length_range];exact hend acc)
theorem Zkn{α:Type}[DecidableEq α]{a b:List α}{body:Int→Option (Int ⊕ (Bool ⊕ Unit))}(hl:a.length=b.length)
    (h: ∀ (k:Nat) x y,a[k]?=some x→b[k]?=some y→body k=if x=y then some (.inl ((k:Int)+1)) else some (.inr (.inl false)))
    (hend:body a.length=some (.inr (.inr ()))):loop (t1 body) 0=some (if a=b then .inr () else .inl false):=by
  refine(ZkL (xs:=a) (fun k=>if a.drop k=b.drop k then(.inr ():Bool ⊕ Unit) else .inl false) (fun k x hx=> ?_) ?_).trans (by simp)
  · have hk:=(List.getElem?_eq_some_iff.1 hx).1
    obtain⟨y,hy⟩:=Za5 (xs:=b) (k:=k) (by omega)
    rw [h k x y hx hy,ZbT hx,ZbT hy]
    by_cases e:x=y
    · left;subst e;refine⟨by rw [pG rfl],?_⟩
      simp
    · right;rw [nG e,nG (by simp [e])]
  · rw [hend,pG (by rw [List.drop_length,hl,List.drop_length])]
theorem eqI{a b:List Int}(ha:a.length≤9223372036854775807):Jp a b=some (decide (a=b)):=by
  unfold Jp
  by_cases hl:a.length=b.length
  · rw [nG (by simp [hl]),Zkn (a:=a) (b:=b) hl (fun k x y hx hy=> ?_) (by simp [Jx])]
    · by_cases e:a=b<;>simp [e]
    · have hlt:=ZlA hx
      simp only [Jx,hlt,decide_true,if_true,Zs hx,Zs hy,oB]
      rw [show i64 ((k:Int)+1)=(k:Int)+1 from Zr (by omega) (by omega)]
      by_cases e:x=y<;>simp [e]
  · rw [pG (by simpa using fun e=>hl (by omega))]
    rw [decide_eq_false (fun e=>hl (by rw [e]))]
theorem eqY{a b:List Int}(ha:a.length≤9223372036854775807):QS a b=some (decide (a=b)):=by
  unfold QS
  by_cases hl:a.length=b.length
  · rw [nG (by simp [hl]),Zkn (a:=a) (b:=b) hl (fun k x y hx hy=> ?_) (by simp [QP])]
    · by_cases e:a=b<;>simp [e]
    · have hlt:=ZlA hx
      simp only [QP,hlt,decide_true,if_true,Zs hx,Zs hy,oB]
      rw [show i64 ((k:Int)+1)=(k:Int)+1 from Zr (by omega) (by omega)]
      by_cases e:x=y<;>simp [e]
  · rw [pG (by simpa using fun e=>hl (by omega))]
    rw [decide_eq_false (fun e=>hl (by rw [e]))]
theorem eqB{a b:List Bool}(ha:a.length≤9223372036854775807):XW a b=some (decide (a=b)):=by
  unfold XW
  by_cases hl:a.length=b.length
  · rw [nG (by simp [hl]),Zkn (a:=a) (b:=b) hl (fun k x y hx hy=> ?_) (by simp [X6])]
    · by_cases e:a=b<;>simp [e]
    · have hlt:=ZlA hx
      simp only [X6,hlt,decide_true,if_true,Zs hx,Zs hy,oB]
      rw [show i64 ((k:Int)+1)=(k:Int)+1 from Zr (by omega) (by omega)]
      by_cases e:x=y<;>simp [e]
  · rw [pG (by simpa using fun e=>hl (by omega))]
    rw [decide_eq_false (fun e=>hl (by rw [e]))]
theorem eqF{a:List (List Int)}(ha:a.length≤9223372036854775807):Qm a a (fun z0 z1=>Zea z0 z1)=some true:=by
  unfold Qm
  rw [nG (by simp),Zkn (a:=a) (b:=a) rfl (fun k x y hx hy=> ?_) (by simp [Qz])]
  · simp
  · have hlt:=ZlA hx
    rw [hx] at hy;cases hy
    simp only [Qz,hlt,decide_true,if_true,Zs hx,oB,Zea]
    rw [show i64 ((k:Int)+1)=(k:Int)+1 from Zr (by omega) (by omega)]
    simp
theorem Zrz(m:api_Memory)(h1:m.Sectors.length≤9223372036854775807)(h2:m.Wear.length≤9223372036854775807)(h3:m.Bad.length≤9223372036854775807):JG m m=some true:=by
  unfold JG
  simp [eqF h1,eqI h2,eqB h3,gd]
theorem Zti{number memories copies:Int}(h1:0≤number∧number≤4194303)(h2:1≤memories∧memories≤8)(h3:1≤copies∧copies≤memories):
    loop (t2 (ring_targets_L1 number memories copies)) ([],0)=some ((List.range copies.toNat).map fun(k:Nat)=>(number+(k:Int)).tmod memories):=by
  refine Zqi (fun(k:Nat)=>(number+(k:Int)).tmod memories) (fun k acc hk ha=> ?_) (fun acc=> ?_)
  · unfold ring_targets_L1
    rw [pG (by simp;omega),show i64 (number+(k:Int))=number+k from Zr (by omega) (by omega),show i64 ((k:Int)+1)=(k:Int)+1 from Zr (by omega) (by omega)]
    unfold rem
    rw [nG (by omega),oB,Zax (by simp;omega)];rfl
  · unfold ring_targets_L1
    rw [nG (by simp;omega)]
theorem Zr1:Zcp=ring_targets_L1:=rfl
end Go.Vx

namespace Go.Vx
open Go Go.RowKit
theorem ZmU{n:Nat}(h:n≤140737488355328):Zem (n:Int)=some (List.replicate n 255):=by
  unfold Zem
  rw [Zr4 (by omega),oB]
  rw [Zp0 (xs:=List.replicate n (0:Int)) (fun _=>(255:Int)) (fun k x acc hx hl ha=> ?_) (fun acc=> ?_)]
  · simp
  · refine⟨_,?_,rfl⟩
    have hk:=ZlA hx
    unfold ZcZ
    rw [pG (by simpa using hk),Zs ha,oB]
    rw [List.length_replicate] at hk
    rw [show i64 ((k:Int)+1)=(k:Int)+1 from Zr (by omega) (by omega)];rfl
  · unfold ZcZ
    rw [nG (by simp)]
end Go.Vx
