/- A text of the proof: a verified executor of the program form, or the contracts of the functions that the law reaches. -/
import Derived.Test.YtailpehcgelmdaaGreatDoorPA
set_option linter.all false
namespace Go.Vx
open Go Go.RowKit
theorem Ze1{α:Type}{xs:List α}{k:Nat}{x:α}(h:xs[k]?=some x):xs.set k x=xs:=by
  apply List.ext_getElem?
  intro j
  rw [List.getElem?_set]
  split
  · subst_vars
    split
    · rename_i hlt;rw [h]
    · rw [List.getElem?_eq_none (by omega)]
  · rfl
theorem Zg7{s:api_PanelState}(hl:s.Memos.length≤1000)(ht: ∀ m∈s.Memos,m.Tape.length≤1000):Z2 s=some s:=by
  have h:loop (t2 (Qi s.Memos)) (s.Memos,0)=some s.Memos:=by
    refine ZaG (xs:=s.Memos) (body:=Qi s.Memos) (fun a _=>a=s.Memos) (fun _ _=>s.Memos) (fun a k x ha hx=> ?_) (fun a ha=> ?_) rfl
    · subst ha
      have hlt:=X4 hx
      have e1:i64 ((k:Int)+1)=(k:Int)+1:=Zz (by omega) (by omega)
      left
      refine⟨_,?_,rfl,rfl⟩
      simp only [Qi,hlt,decide_true,if_true,ZN hx,Option.bind_some,Zaz (show x.Tape.length≤4294967296 by have:=ht x (List.mem_of_getElem? hx);omega),Int.toNat_natCast,e1]
      rw [Ze1 (by exact hx)]
    · subst ha;simp [Qi]
  unfold Z2
  rw [Zaz (by omega)]
  simp only [Option.bind_some,h,t1]
theorem ZgF{p:api_Panel}(hl:p.Instruments.length≤1000)(ht: ∀ m∈p.Instruments,m.Zones.length≤1000):Xc p=some p:=by
  have h:loop (t2 (QC p.Instruments)) (p.Instruments,0)=some p.Instruments:=by
    refine ZaG (xs:=p.Instruments) (body:=QC p.Instruments) (fun a _=>a=p.Instruments) (fun _ _=>p.Instruments) (fun a k x ha hx=> ?_) (fun a ha=> ?_) rfl
    · subst ha
      have hlt:=X4 hx
      have e1:i64 ((k:Int)+1)=(k:Int)+1:=Zz (by omega) (by omega)
      left
      refine⟨_,?_,rfl,rfl⟩
      simp only [QC,hlt,decide_true,if_true,ZN hx,Option.bind_some,Zaz (show x.Zones.length≤4294967296 by have:=ht x (List.mem_of_getElem? hx);omega),Int.toNat_natCast,e1]
      rw [Ze1 (by exact hx)]
    · subst ha;simp [QC]
  unfold Xc
  rw [Zaz (by omega)]
  simp only [Option.bind_some,h,t1]
theorem Zgh{l:List api_Track}(hl:l.length≤1000)(ht: ∀ m∈l,m.Series.Samples.length≤100000):QY l=some l:=by
  have h:loop (t2 (Qv l)) (l,0)=some l:=by
    refine ZaG (xs:=l) (body:=Qv l) (fun a _=>a=l) (fun _ _=>l) (fun a k x ha hx=> ?_) (fun a ha=> ?_) rfl
    · subst ha
      have hlt:=X4 hx
      have e1:i64 ((k:Int)+1)=(k:Int)+1:=Zz (by omega) (by omega)
      left
      refine⟨_,?_,rfl,rfl⟩
      simp only [Qv,hlt,decide_true,if_true,ZN hx,Option.bind_some,Zaz (show x.Series.Samples.length≤4294967296 by have:=ht x (List.mem_of_getElem? hx);omega),Int.toNat_natCast,e1]
      rw [Ze1 (by exact hx)]
    · subst ha;simp [Qv]
  unfold QY
  rw [Zaz (by omega)]
  simp only [Option.bind_some,h,t1]
def Ris(ks:List Nat):Prop:=ks.Pairwise (· < ·)
theorem Za1{ks:List Nat}(h:Ris ks)(k:Nat):ks=ks.filter (· <k)++ks.filter (fun x=>decide (k≤x)):=by
  induction ks with
  |nil=>rfl
  |cons x t ih=>
    have h1:=List.pairwise_cons.1 h
    by_cases hx:x<k
    · rw [List.filter_cons_of_pos (by simpa using hx),List.filter_cons_of_neg (by simp;omega),List.cons_append,←ih h1.2]
    · have:t.filter (· <k)= []:=List.filter_eq_nil_iff.2 fun y hy=>by have:=h1.1 y hy;simp;omega
      have h2:t.filter (fun x=>decide (k≤x))=t:=List.filter_eq_self.2 fun y hy=>by have:=h1.1 y hy;simp;omega
      rw [List.filter_cons_of_neg (by simpa using hx),this,List.filter_cons_of_pos (by simp;omega),h2];rfl
theorem Zez{ks:List Nat}(h:Ris ks){k:Nat}(hk:k∈ks):ks.filter (fun x=>decide (k≤x))=k::ks.filter (fun x=>decide (k<x)):=by
  induction ks with
  |nil=>cases hk
  |cons x t ih=>
    have h1:=List.pairwise_cons.1 h
    rcases List.mem_cons.1 hk with rfl |hk
    · rw [List.filter_cons_of_pos (by simp),List.filter_cons_of_neg (by simp)]
      congr 1
      refine List.filter_congr fun y hy=> ?_
      have:=h1.1 y hy
      simp only [decide_eq_decide];omega
    · have:=h1.1 k hk
      rw [List.filter_cons_of_neg (by simp;omega),List.filter_cons_of_neg (by simp;omega),ih h1.2 hk]
theorem ZgM{ks:List Nat}{k:Nat}(hk:k∉ks):ks.filter (fun x=>decide (k≤x))=ks.filter (fun x=>decide (k<x)):=by
  refine List.filter_congr fun y hy=> ?_
  simp only [decide_eq_decide]
  constructor
  · intro h
    rcases Nat.lt_or_ge k y with h1 |h1
    · exact h1
    · have:k=y:=by omega
      subst this;exact absurd hy hk
  · intro h;omega
def kin(ks:List Nat)(k:Nat):List Nat:=ks.filter (· <k)++ [k]++ks.filter (fun x=>decide (k<x))
theorem Zjq{ks:List Nat}(h:Ris ks){k:Nat}(hk:k∈ks):kin ks k=ks:=by
  unfold kin
  rw [List.append_assoc,List.singleton_append,←Zez h hk,←Za1 h k]
theorem ZjW{ks:List Nat}(h:Ris ks)(k:Nat):Ris (kin ks k):=by
  unfold kin Ris
  refine List.pairwise_append.2 ⟨List.pairwise_append.2 ⟨h.filter _,by simp,fun a ha b hb=> ?_⟩,h.filter _,fun a ha b hb=> ?_⟩
  · have:=List.mem_filter.1 ha
    simp at hb this;omega
  · have h2:=List.mem_filter.1 hb
    simp only [decide_eq_true_eq] at h2
    rcases List.mem_append.1 ha with ha |ha
    · have:=List.mem_filter.1 ha
      simp at this;omega
    · simp at ha;omega
theorem ZjK{ks:List Nat}{k:Nat}{P:Nat→Prop}(h: ∀ x∈ks,P x)(hk:P k): ∀ x∈kin ks k,P x:=by
  intro x hx
  unfold kin at hx
  rcases List.mem_append.1 hx with hx |hx
  · rcases List.mem_append.1 hx with hx |hx
    · exact h x (List.mem_filter.1 hx).1
    · simp at hx;subst hx;exact hk
  · exact h x (List.mem_filter.1 hx).1
theorem Zf7{N:Nat}: ∀ (ks:List Nat) (m:Nat),Ris ks→(∀ x∈ks,m≤x∧x<N)→ks.length≤N-m
  | [],m,_,_=>by simp
  |x::t,m,h,hb=>by
    have h1:=List.pairwise_cons.1 h
    have:=Zf7 t (x+1) h1.2 (fun y hy=>⟨h1.1 y hy,(hb y (List.mem_cons_of_mem _ hy)).2⟩)
    have:=hb x (by simp)
    simp only [List.length_cons];omega
def stN(p:api_Panel)(l:List api_Track):Nat→api_PanelState
  |0=>st0 p
  |n+1=>ZgT p l (stN p l n)
theorem Zdt{p:api_Panel}{l:List api_Track}(hb:XI p l=0): ∀ n:Nat,n≤20000→Inv p (stN p l n) n
  |0,_=>Zjw (ZaF hb).1
  |n+1,h=>ZjP hb (Zdt hb n (by omega)) (by omega)
theorem Zc6{p:api_Panel}{l:List api_Track}(hb:XI p l=0){n:Nat}(h:n≤20000):(stN p l n).Frame=(n:Int)-1:=(Zdt hb n h).fr
theorem Zgk{p:api_Panel}{l:List api_Track}(hb:XI p l=0){n:Nat}(h:n≤20000):(stN p l n).Memos.length≤1000∧ ∀ m∈(stN p l n).Memos,m.Tape.length≤1000:=by
  obtain⟨b1,b2,b3⟩:=ZaF hb
  obtain⟨s1,s2,s3⟩:=ZbR.1 (Zdt hb n h).ok
  refine⟨by rw [s2];have:=Zbd b1;omega,fun m hm=> ?_⟩
  obtain⟨k,hk,e⟩:=List.getElem_of_mem hm
  have hm':(stN p l n).Memos[k]?=some m:=by rw [←e];exact List.getElem?_eq_getElem hk
  obtain⟨i,hi⟩:=QQ (xs:=p.Instruments) (k:=k) (by omega)
  have:=Zd5 (s3 k i m hi hm') (Za0 b1 (List.mem_of_getElem? hi))
  omega
theorem Zfp{p:api_Panel}{l:List api_Track}(hb:XI p l=0){n:Nat}(h:n≤20000):Z2 (stN p l n)=some (stN p l n):=Zg7 (Zgk hb h).1 (Zgk hb h).2
theorem Zjr{p:api_Panel}{l:List api_Track}(hb:XI p l=0){n:Nat}(h:n<20000):Xs p l (stN p l n)=some (stN p l (n+1)):=by
  rw [Zif hb (Zdt hb n (by omega)).ok (by rw [Zc6 hb (by omega)];omega)]
  rfl
theorem ZkS{p:api_Panel}{l:List api_Track}(hb:XI p l=0){ks:List Nat}(hr:Ris ks)(ha: ∀ x∈ks,1≤x∧x≤20000){k:Nat}(hk:k≤20000){r:panel_Replay}(hrk:r.kept=ks.map (stN p l)){f:Int}(hf:f=(k:Int)-1):
    ZQ r f=some (((ks.filter (· <k)).length:Int),decide (k∈ks)):=by
  have hlen:ks.length≤20000:=by have:=Zf7 (N:=20001) ks 1 hr (fun x hx=>⟨(ha x hx).1,by have:=(ha x hx).2;omega⟩);omega
  have hsp:=Za1 hr k
  have hcl:(ks.filter (· <k)).length≤ks.length:=List.length_filter_le ..
  have hcmp: ∀ (j:Nat) x,ks[j]?=some x→Qg (stN p l x) f=some ((x:Int)-k):=fun j x hx=>by
    have:=ha x (List.mem_of_getElem? hx)
    unfold Qg
    rw [Zc6 hb this.2,hf,show(x:Int)-1-((k:Int)-1)=(x:Int)-k by omega]
    exact congrArg some (Zz (by omega) (by omega))
  have hc1: ∀ (j:Nat) x,j<(ks.filter (· <k)).length→ks[j]?=some x→x<k:=fun j x hj hx=>by
    rw [hsp,List.getElem?_append_left hj] at hx
    simpa using (List.mem_filter.1 (List.mem_of_getElem? hx)).2
  have hc2: ∀ (j:Nat) x,(ks.filter (· <k)).length≤j→ks[j]?=some x→k≤x:=fun j x hj hx=>by
    rw [hsp,List.getElem?_append_right hj] at hx
    simpa using (List.mem_filter.1 (List.mem_of_getElem? hx)).2
  have hl:loop (t2 (Zs (ks.map (stN p l)) f (fun z0 z1=>Qg z0 z1))) (0,(ks.length:Int))=some (((ks.filter (· <k)).length:Nat):Int):=by
    refine Zbv ks.length (ks.filter (· <k)).length (fun k=>(k:Int)) hcl (by omega) (fun i j m hij hj hm=> ?_) (fun i=> ?_)
    · obtain⟨x,hx⟩:=QQ (xs:=ks) (k:=m) (by omega)
      have hxm:(ks.map (stN p l))[m]?=some (stN p l x):=by rw [List.getElem?_map,hx];rfl
      have h2:(i:Int)<j:=by omega
      have hm':shr .u64 (u64 (i64 ((i:Int)+j))) 1=some (m:Int):=by rw [Zj9 (by omega),hm]
      have hmi:i64 (m:Int)=m:=Zz (by omega) (by omega)
      simp only [Zs,h2,decide_true,if_true,hm',Option.bind_some,hmi,ZN hxm,hcmp m x hx]
      refine⟨fun h=> ?_,fun h=> ?_⟩
      · have:=hc1 m x h hx
        simp [show(x:Int)-k<0 by omega,Zz (show-9223372036854775808≤(m:Int)+1 by omega) (by omega)]
      · have:=hc2 m x h hx
        simp [show ¬(x:Int)-k<0 by omega]
    · simp [Zs]
  unfold ZQ ZB
  rw [hrk,List.length_map,hl]
  simp only [Option.bind_some,t1]
  rcases Nat.lt_or_ge (ks.filter (· <k)).length ks.length with h |h
  · obtain⟨x,hx⟩:=QQ h
    have hxm:(ks.map (stN p l))[(ks.filter (· <k)).length]?=some (stN p l x):=by rw [List.getElem?_map,hx];rfl
    have h':(((ks.filter (· <k)).length:Nat):Int)<ks.length:=by omega
    have hxk:x=k↔k∈ks:=by
      constructor
      · rintro rfl;exact List.mem_of_getElem? hx
      · intro hm
        have h3:=Zez hr hm
        have hx2:(ks.filter (· <k)++ks.filter (fun x=>decide (k≤x)))[(ks.filter (· <k)).length]?=some x:=by rw [←hsp];exact hx
        rw [List.getElem?_append_right (Nat.le_refl _),h3] at hx2
        simpa using hx2.symm
    simp only [h',decide_true,ZN hxm,Zj3,Option.bind_some,hcmp _ x hx,Bool.true_and,Option.some.injEq,Prod.mk.injEq,true_and,decide_eq_decide]
    rw [←hxk];omega
  · have h': ¬(((ks.filter (· <k)).length:Nat):Int)<ks.length:=by omega
    have hm:k∉ks:=fun hm=>by
      have h3:=Zez hr hm
      have:=congrArg List.length hsp
      rw [h3] at this
      simp at this;omega
    simp [gd,h',hm]
end Go.Vx

namespace Go.Vx
open Go Go.RowKit
def Zhd(keep:Int)(m:Nat)(ks:List Nat):List Nat:=if(m:Int).tmod keep=keep-1 then kin ks (m+1) else ks
def ZcT(keep:Int)(m:Nat):Nat→List Nat→List Nat
  |0,ks=>ks
  |j+1,ks=>Zhd keep (m+j) (ZcT keep m j ks)
def KS(ks:List Nat):Prop:=Ris ks∧ ∀ x∈ks,1≤x∧x≤20000
theorem Zjs{keep:Int}{m:Nat}{ks:List Nat}(h:KS ks)(hm:m<20000):KS (Zhd keep m ks):=by
  unfold Zhd
  split
  · exact⟨ZjW h.1 _,ZjK h.2 ⟨by omega,by omega⟩⟩
  · exact h
theorem Zgc{keep:Int}{m:Nat}{ks:List Nat}(h:KS ks): ∀ n:Nat,m+n≤20000→KS (ZcT keep m n ks)
  |0,_=>h
  |n+1,hn=>Zjs (Zgc h n (by omega)) (by omega)
theorem Zjh{ks:List Nat}(h:KS ks):ks.length≤20000:=by have:=Zf7 (N:=20001) ks 1 h.1 (fun x hx=>⟨(h.2 x hx).1,by have:=(h.2 x hx).2;omega⟩);omega
theorem Zie{p:api_Panel}{l:List api_Track}{ks:List Nat}(h:KS ks){k:Nat}(hk:k∉ks):
    ins (ks.map (stN p l)) ((ks.filter (· <k)).length:Int) [stN p l k]=some ((kin ks k).map (stN p l)):=by
  have hsp:=Za1 h.1 k
  have hl:=Zjh h
  have hcl:(ks.filter (· <k)).length≤ks.length:=List.length_filter_le ..
  unfold ins kin
  rw [if_pos ⟨by omega,by rw [List.length_map];omega,by rw [List.length_map];omega,rfl⟩,Int.toNat_natCast,←List.map_take,←List.map_drop]
  have e1:ks.take (ks.filter (· <k)).length=ks.filter (· <k):=by
    conv=>lhs;arg 2;rw [hsp]
    exact List.take_left' rfl
  have e2:ks.drop (ks.filter (· <k)).length=ks.filter (fun x=>decide (k<x)):=by
    rw [←ZgM hk]
    conv=>lhs;arg 2;rw [hsp]
    exact List.drop_left' rfl
  rw [e1,e2]
  simp
theorem Zj7{p:api_Panel}{l:List api_Track}(hb:XI p l=0){keep:Int}(hk:1≤keep∧keep≤1000){marks:List api_Bookmark}{ks:List Nat}(h:KS ks){m n:Nat}(hmn:m+n≤20000):
    loop (t3 (Z7 (panel_Replay.mk p l keep (stN p l m) (ks.map (stN p l)) marks) (n:Int))) (stN p l m,ks.map (stN p l),0)=
      some (panel_Replay.mk p l keep (stN p l (m+n)) ((ZcT keep m n ks).map (stN p l)) marks):=by
  refine Zbn (body:=t3 (Z7 (panel_Replay.mk p l keep (stN p l m) (ks.map (stN p l)) marks) (n:Int)))
    (fun s=> ∃ j:Nat,j≤n∧s=(stN p l (m+j),(ZcT keep m j ks).map (stN p l),(j:Int))) (fun s=>n-s.2.2.toNat) (fun _=>panel_Replay.mk p l keep (stN p l (m+n)) ((ZcT keep m n ks).map (stN p l)) marks) ?_ _ ⟨0,Nat.zero_le _,rfl⟩
  rintro s ⟨j,hj,rfl⟩
  have hks:=Zgc (keep:=keep) (m:=m) h j (by omega)
  rcases Nat.lt_or_ge j n with hlt |hge
  · left
    have e1:i64 ((j:Int)+1)=((j+1:Nat):Int):=by rw [show(j:Int)+1=((j+1:Nat):Int) by omega];exact Zz (by omega) (by omega)
    have e2:i64 (keep-1)=keep-1:=Zz (by omega) (by omega)
    have hfr:(stN p l (m+j+1)).Frame=((m+j:Nat):Int):=by rw [Zc6 hb (by omega)];omega
    have hadv:=Zjr (l:=l) hb (n:=m+j) (by omega)
    refine⟨(stN p l (m+(j+1)),(ZcT keep m (j+1) ks).map (stN p l),((j+1:Nat):Int)),?_,⟨j+1,hlt,rfl⟩,by simp only [Int.toNat_natCast];omega,rfl⟩
    have hlt':(j:Int)<n:=by omega
    have hrem:rem ((m+j:Nat):Int) keep=some (((m+j:Nat):Int).tmod keep):=by unfold rem;rw [if_neg (by omega)]
    simp only [Zg8,Z7,hlt',decide_true,if_true,hadv,Option.bind_some,hfr,hrem,e2]
    have hat:=fun(r:panel_Replay) (hr:r.kept=(ZcT keep m j ks).map (stN p l))=>ZkS (l:=l) hb hks.1 hks.2 (k:=m+j+1) (by omega) (r:=r) hr (f:=((m+j:Nat):Int)) (by omega)
    by_cases hq:((m+j:Nat):Int).tmod keep=keep-1
    · have ek:ZcT keep m (j+1) ks=kin (ZcT keep m j ks) (m+j+1):=by show Zhd keep (m+j) _=_;unfold Zhd;rw [if_pos hq]
      simp only [hq,decide_true,Bool.not_true,Bool.false_eq_true,if_false]
      rw [hat (panel_Replay.mk p l keep (stN p l (m+j+1)) ((ZcT keep m j ks).map (stN p l)) marks) rfl]
      simp only [Option.bind_some]
      by_cases hin:m+j+1∈ZcT keep m j ks
      · simp only [hin,decide_true,Bool.not_true,Bool.false_eq_true,if_false,Option.bind_some,Zg8,e1,ek,Zjq hks.1 hin]
        rw [←hfr];rfl
      · simp only [hin,decide_false,Bool.not_false,if_true,Zfp (l:=l) hb (show m+j+1≤20000 by omega),Option.bind_some,Zie hks hin,Zg8,e1,ek]
        rw [←hfr];rfl
    · have ek:ZcT keep m (j+1) ks=ZcT keep m j ks:=by show Zhd keep (m+j) _=_;unfold Zhd;rw [if_neg hq]
      simp only [hq,decide_false,Bool.not_false,if_true,Option.bind_some,Zg8,e1,ek]
      rw [←hfr];rfl
  · right
    have:j=n:=by omega
    subst this
    simp [Zg8,Z7]
def kb(ks:List Nat)(N:Nat):Nat:=((ks.filter (fun x=>decide (x≤N))).getLast?).getD 0
def sb(m:Nat)(ks:List Nat)(N:Nat):Nat:=if m≤N∧kb ks N<m then m else kb ks N
theorem Zkc{ks:List Nat}{N:Nat}:kb ks N≤N:=by
  unfold kb
  cases h:(ks.filter (fun x=>decide (x≤N))).getLast? with
  |none=>simp
  |some x=>have:=(List.mem_filter.1 (List.mem_of_getLast? h)).2;simpa using this
theorem Zj0{m:Nat}{ks:List Nat}{N:Nat}:sb m ks N≤N:=by
  unfold sb
  split
  · omega
  · exact Zkc
theorem ZjQ{ks:List Nat}(h:Ris ks)(N:Nat):(ks.filter (fun x=>decide (x≤N))).length=(ks.filter (· <N)).length+(if N∈ks then 1 else 0):=by
  have h1:=Za1 h (N+1)
  have h2:=Za1 h N
  have e:ks.filter (fun x=>decide (x<N+1))=ks.filter (fun x=>decide (x≤N)):=List.filter_congr fun y _=>by simp only [decide_eq_decide];omega
  have e':ks.filter (fun x=>decide (N+1≤x))=ks.filter (fun x=>decide (N<x)):=List.filter_congr fun y _=>by simp only [decide_eq_decide];omega
  rw [e,e'] at h1
  have l1:=congrArg List.length h1
  have l2:=congrArg List.length h2
  rw [List.length_append] at l1 l2
  by_cases hm:N∈ks
  · rw [Zez h hm] at l2
    simp only [List.length_cons] at l2
    rw [if_pos hm];omega
  · rw [ZgM hm] at l2
    rw [if_neg hm];omega
theorem ZhP{p:api_Panel}{l:List api_Track}(hb:XI p l=0){a b N:Nat}(ha:a≤20000)(hbb:b≤20000){f:Int}(hf:f=(N:Int)-1):
    Qf (stN p l a) f (stN p l b)=some (stN p l (if a≤N∧b<a then a else b)):=by
  unfold Qf
  rw [Zc6 hb ha,Zc6 hb hbb,hf]
  by_cases h:a≤N∧b<a
  · have h1:(a:Int)-1≤(N:Int)-1:=by omega
    have h2:(b:Int)-1<(a:Int)-1:=by omega
    simp [h1,h2,Zfp (l:=l) hb ha,h]
  · rw [if_neg h,if_neg]
    intro hc
    simp only [Bool.and_eq_true,decide_eq_true_eq] at hc
    omega
theorem Ziv{p:api_Panel}{l:List api_Track}(hb:XI p l=0){keep:Int}(hk:1≤keep∧keep≤1000){marks:List api_Bookmark}{ks:List Nat}(h:KS ks){m N:Nat}(hm:m≤20000)(hN:N≤20000){f:Int}(hf:f=(N:Int)-1):
    ZK (panel_Replay.mk p l keep (stN p l m) (ks.map (stN p l)) marks) f=
      some (((N-sb m ks N:Nat):Int),0,panel_Replay.mk p l keep (stN p l N) ((ZcT keep (sb m ks N) (N-sb m ks N) ks).map (stN p l)) marks):=by
  have hw:ZC f (-1) 19999=some true:=by unfold ZC;rw [hf];congr 1;simp only [Bool.and_eq_true,decide_eq_true_eq];omega
  have hlp:=Zbd (ZaF hb).1
  have hfi:QV p=some (stN p l 0):=by unfold QV;rw [ZiP (by omega)];rfl
  have hlen:=Zjh h
  have hbl:sb m ks N≤N:=Zj0
  have hc:=ZjQ h.1 N
  have hat:=ZkS (l:=l) hb h.1 h.2 (k:=N) hN (r:=panel_Replay.mk p l keep (stN p l m) (ks.map (stN p l)) marks) rfl hf
  have hcl:(ks.filter (· <N)).length≤ks.length:=List.length_filter_le ..
  have hi:((if decide (N∈ks)=true then some (i64 (((ks.filter (· <N)).length:Int)+1)) else some ((ks.filter (· <N)).length:Int)):Option Int)=some (((ks.filter (fun x=>decide (x≤N))).length:Nat):Int):=by
    rw [hc]
    by_cases hin:N∈ks
    · simp only [hin,decide_true,if_true]
      rw [show(((ks.filter (· <N)).length:Nat):Int)+1=(((ks.filter (· <N)).length+1:Nat):Int) by omega]
      exact congrArg some (Zz (by omega) (by omega))
    · simp [hin]
  have hbest:((if decide (0<(((ks.filter (fun x=>decide (x≤N))).length:Nat):Int))=true then
      (idx (ks.map (stN p l)) (i64 ((((ks.filter (fun x=>decide (x≤N))).length:Nat):Int)-1))).bind fun x=>(Qf x f (stN p l 0)).bind fun y4=>some (y4.Frame,y4.Memos)
      else some ((stN p l 0).Frame,(stN p l 0).Memos)):Option (Int×List api_Memo))=some ((stN p l (kb ks N)).Frame,(stN p l (kb ks N)).Memos):=by
    have hsp:=Za1 h.1 (N+1)
    have e:ks.filter (fun x=>decide (x<N+1))=ks.filter (fun x=>decide (x≤N)):=List.filter_congr fun y _=>by simp only [decide_eq_decide];omega
    rw [e] at hsp
    cases hL:(ks.filter (fun x=>decide (x≤N))).getLast? with
    |none=>
      have h0:ks.filter (fun x=>decide (x≤N))= []:=List.getLast?_eq_none_iff.1 hL
      have hkb:kb ks N=0:=by unfold kb;rw [hL];rfl
      rw [hkb,h0];rfl
    |some x=>
      have hkb:kb ks N=x:=by unfold kb;rw [hL];rfl
      have hxm:=List.mem_filter.1 (List.mem_of_getLast? hL)
      have hx1:=h.2 x hxm.1
      have hxN:x≤N:=by simpa using hxm.2
      have hpos:0<(ks.filter (fun x=>decide (x≤N))).length:=List.length_pos_of_mem (List.mem_of_getLast? hL)
      have hle:(ks.filter (fun x=>decide (x≤N))).length≤ks.length:=List.length_filter_le ..
      have hix:(ks.map (stN p l))[(ks.filter (fun x=>decide (x≤N))).length-1]?=some (stN p l x):=by
        rw [List.getElem?_map]
        have:ks[(ks.filter (fun x=>decide (x≤N))).length-1]?=some x:=by
          conv=>lhs;arg 1;rw [hsp]
          rw [List.getElem?_append_left (by omega),←List.getLast?_eq_getElem?]
          exact hL
        rw [this];rfl
      have ei:i64 ((((ks.filter (fun x=>decide (x≤N))).length:Nat):Int)-1)=(((ks.filter (fun x=>decide (x≤N))).length-1:Nat):Int):=by
        rw [show(((ks.filter (fun x=>decide (x≤N))).length:Nat):Int)-1=(((ks.filter (fun x=>decide (x≤N))).length-1:Nat):Int) by omega]
        exact Zz (by omega) (by omega)
      rw [if_pos (by simpa using (show(0:Int)<(((ks.filter (fun x=>decide (x≤N))).length:Nat):Int) by omega)),ei,ZN hix]
      simp only [Option.bind_some,ZhP (l:=l) hb (show x≤20000 by omega) (show 0≤20000 by omega) hf,hkb]
      rw [if_pos ⟨hxN,by omega⟩]
  unfold ZK
  rw [hw]
  simp only [Option.bind_some,Bool.not_true,Bool.false_eq_true,if_false]
  rw [hfi,hat]
  simp only [Option.bind_some]
  rw [hi]
  simp only [Option.bind_some,t1]
  rw [hbest]
  simp only [Option.bind_some,ZdE]
  have hs2:=ZhP (l:=l) hb (a:=m) (b:=kb ks N) (N:=N) hm (Nat.le_trans Zkc hN) hf
  have:api_PanelState.mk (stN p l (kb ks N)).Frame (stN p l (kb ks N)).Memos=stN p l (kb ks N):=rfl
  rw [this,hs2]
  simp only [Option.bind_some]
  change ((panel_Replay_advance (panel_Replay.mk p l keep (stN p l (sb m ks N)) (ks.map (stN p l)) marks) (i64 (f-(stN p l (sb m ks N)).Frame))).bind fun y6=>some (i64 (f-(stN p l (sb m ks N)).Frame),0,y6))=_
  have en:i64 (f-(stN p l (sb m ks N)).Frame)=((N-sb m ks N:Nat):Int):=by
    rw [Zc6 hb (Nat.le_trans hbl hN),hf,show(N:Int)-1-(((sb m ks N:Nat):Int)-1)=((N-sb m ks N:Nat):Int) by omega]
    exact Zz (by omega) (by omega)
  rw [en]
  unfold panel_Replay_advance
  rw [Zj7 hb hk h (by omega),Option.bind_some,show sb m ks N+(N-sb m ks N)=N by omega]
end Go.Vx

namespace Go.Vx
open Go Go.RowKit
theorem Zhs{i:api_Instrument}(h:JO i=0):i.Zones.length≤1000:=by
  by_cases h2:i.Kind=2
  · have:=((ZeT h).2.2 h2).zones;omega
  · unfold JO at h
    split at h
    · cases h
    split at h
    · cases h
    split at h
    · cases h
    rename_i hu
    simp only [unV,Bool.or_eq_true,Bool.and_eq_true,not_or] at hu
    have:=hu.1.1.1.2
    by_cases e:i.Zones.length≤1000
    · exact e
    · exact absurd ⟨.inr (by simp;omega),by simp [h2]⟩ this
theorem ZiZ{p:api_Panel}{l:List api_Track}{keep:Int}(hk:1≤keep∧keep≤1000):
    QZ p l keep=some (if XI p l=0 then Sum.inr (panel_Replay.mk p l keep (stN p l 0) [] [],0) else Sum.inl (XI p l)):=by
  unfold QZ
  rw [ZgE]
  simp only [Option.bind_some]
  by_cases hb:XI p l=0
  · obtain⟨b1,b2,b3⟩:=ZaF hb
    have hw:ZC keep 1 1000=some true:=by unfold ZC;congr 1;simp only [Bool.and_eq_true,decide_eq_true_eq];omega
    have hlp:=Zbd b1
    have hfi:QV p=some (stN p l 0):=by unfold QV;rw [ZiP (by omega)];rfl
    have hcp:Xc p=some p:=ZgF (by omega) fun m hm=>Zhs (Za0 b1 hm)
    have hct:QY l=some l:=Zgh (by have:=ZeF b2;omega) fun t ht=>by have:=(ZeR (ZgD b2 ht).1).len;omega
    simp only [hb,decide_true,Bool.not_true,Bool.false_eq_true,if_false,hw,Option.bind_some,hcp,hct,hfi,if_true]
  · simp [hb]
end Go.Vx

namespace Go.Vx
open Go Go.RowKit
theorem ZiY:ZcD=some true:=by decide+kernel
theorem ZiS:Za3=some true:=Zf0 true ZiY
theorem Zkd{p:api_Panel}{l:List api_Track}(keep:Int)(hb:XI p l≠0):QZ p l keep=some (Sum.inl (XI p l)):=by
  unfold QZ
  rw [ZgE]
  simp [hb]
theorem Zlj{p:api_Panel}{l:List api_Track}{keep:Int}(hb:XI p l=0)(hk: ¬(1≤keep∧keep≤1000)):QZ p l keep=some (Sum.inl 9):=by
  unfold QZ
  rw [ZgE]
  have hw:ZC keep 1 1000=some false:=by
    unfold ZC;congr 1;rw [Bool.and_eq_false_iff]
    simp only [decide_eq_false_iff_not];omega
  simp [hb,hw]
theorem ZiN{r:panel_Replay}{f:Int}(h: ¬(-1≤f∧f≤19999)):ZK r f=some (0,9,r):=by
  have hw:ZC f (-1) 19999=some false:=by
    unfold ZC;congr 1;rw [Bool.and_eq_false_iff]
    simp only [decide_eq_false_iff_not];omega
  unfold ZK;rw [hw];rfl
theorem Zlg{p:api_Panel}{l:List api_Track}(hb:XI p l=0){keep:Int}(hk:1≤keep∧keep≤1000){way:List Int}(hw:way.length≤9223372036854775807):
    ∃ r,loop (t7 (ZV way)) (p,l,keep,stN p l 0,[],[],0)=some r∧
      (r= .inl true∨ ∃ (m:Nat) (ks:List Nat),m≤20000∧KS ks∧r= .inr (p,l,keep,stN p l m,ks.map (stN p l),[])):=by
  refine Zg5 (body:=t7 (ZV way)) (fun s=> ∃ (j m:Nat) (ks:List Nat),j≤way.length∧m≤20000∧KS ks∧s=(p,l,keep,stN p l m,ks.map (stN p l),[],(j:Int)))
    (fun s=>way.length-s.2.2.2.2.2.2.toNat) (fun r=>r= .inl true∨ ∃ (m:Nat) (ks:List Nat),m≤20000∧KS ks∧r= .inr (p,l,keep,stN p l m,ks.map (stN p l),[])) ?_ _
    ⟨0,0,[],Nat.zero_le _,Nat.zero_le _,⟨.nil,fun x hx=>by cases hx⟩,rfl⟩
  rintro s ⟨j,m,ks,hj,hm,hks,rfl⟩
  rcases Nat.lt_or_ge j way.length with hlt |hge
  · obtain⟨x,hx⟩:=QQ hlt
    have hlt':(j:Int)<way.length:=by omega
    have e1:i64 ((j:Int)+1)=((j+1:Nat):Int):=by rw [show(j:Int)+1=((j+1:Nat):Int) by omega];exact Zz (by omega) (by omega)
    by_cases h5:500<x
    · right
      exact⟨_,by simp only [ZhF,ZV,hlt',decide_true,if_true,ZN hx,Option.bind_some,h5],.inl rfl⟩
    · left
      by_cases hr: -1≤x∧x≤19999
      · obtain⟨N,hN⟩:=Int.eq_ofNat_of_zero_le (show 0≤x+1 by omega)
        have hs:=Ziv (p:=p) (l:=l) hb (keep:=keep) hk (marks:= []) hks (m:=m) (N:=N) hm (by omega) (f:=x) (by omega)
        refine⟨(p,l,keep,stN p l N,(ZcT keep (sb m ks N) (N-sb m ks N) ks).map (stN p l),[],((j+1:Nat):Int)),?_,⟨j+1,N,_,hlt,by omega,Zgc hks _ (by have:=Zj0 (m:=m) (ks:=ks) (N:=N);omega),rfl⟩,by simp only [Int.toNat_natCast];omega⟩
        simp only [ZhF,ZV,hlt',decide_true,if_true,ZN hx,Option.bind_some,h5,decide_false,Bool.false_eq_true,if_false,hs,e1]
      · refine⟨(p,l,keep,stN p l m,ks.map (stN p l),[],((j+1:Nat):Int)),?_,⟨j+1,m,ks,hlt,hm,hks,rfl⟩,by simp only [Int.toNat_natCast];omega⟩
        simp only [ZhF,ZV,hlt',decide_true,if_true,ZN hx,Option.bind_some,h5,decide_false,Bool.false_eq_true,if_false,ZiN hr,e1]
  · right
    have:j=way.length:=by omega
    subst this
    exact⟨_,by simp [ZhF,ZV],.inr ⟨m,ks,hm,hks,rfl⟩⟩
theorem Zhh{s:api_PanelState}(hl:s.Memos.length≤1000)(ht: ∀ m∈s.Memos,m.Tape.length≤1000):Jd s s=some true:=by
  have h:loop (t1 (QJ s s)) 0=some (Sum.inr ()):=by
    refine ZbQ (xs:=s.Memos) (body:=QJ s s) (fun _=>Sum.inr ()) (fun k x hx=> ?_) (by simp [QJ])
    have hlt:=X4 hx
    have e3:i64 ((k:Int)+1)=(k:Int)+1:=Zz (by omega) (by omega)
    left
    refine⟨?_,rfl⟩
    simp [QJ,hlt,ZN hx,Zim (show x.Tape.length≤1000000 by have:=ht x (List.mem_of_getElem? hx);omega),e3]
  unfold Jd
  simp [h,t0]
theorem Zjl:QK=panel_Replay_advance:=rfl
theorem ZkF{p:api_Panel}{l:List api_Track}(hb:XI p l=0){N:Nat}(hN:N≤20000):
    ∃ ks,QG (panel_Replay.mk p l 1000 (stN p l 0) [] []) (N:Int)=some (0,panel_Replay.mk p l 1000 (stN p l N) ks []):=by
  refine⟨(ZcT 1000 0 N []).map (stN p l),?_⟩
  unfold QG
  have h:=Zj7 (p:=p) (l:=l) hb (keep:=1000) (by decide) (marks:= []) (ks:= []) ⟨.nil,fun x hx=>by cases hx⟩ (m:=0) (n:=N) (by omega)
  have e:(stN p l 0).Frame= -1:=rfl
  have e2:i64 (19999-(-1))=20000:=Zz (by omega) (by omega)
  simp only [e,e2]
  rw [if_neg (by simp;omega),Zjl]
  unfold panel_Replay_advance
  simp only [List.map_nil,Nat.zero_add] at h
  rw [h];rfl
theorem Zia(p:api_Panel)(l:List api_Track)(keep:Int)(way:List Int)(frame:Int)(hw:way.length≤9223372036854775807):Xg p l keep way frame=some true:=by
  unfold Xg
  rw [ZiS]
  simp only [Option.bind_some,Bool.not_true,Bool.false_eq_true,if_false]
  by_cases hb:XI p l=0
  · by_cases hk:1≤keep∧keep≤1000
    · rw [ZiZ hk,ZiZ (keep:=1000) (by decide),if_pos hb,if_pos hb]
      simp only [Option.bind_some,Sum.elim_inr,decide_true,Bool.not_true,Bool.false_or]
      by_cases hf:frame<0∨500<frame
      · rw [if_pos (by simpa using hf)]
      · rw [if_neg (by simpa using hf)]
        obtain⟨r,hr,hq⟩:=Zlg (p:=p) (l:=l) hb hk hw
        rw [hr]
        rcases hq with rfl | ⟨m,ks,hm,hks,rfl⟩
        · rfl
        · obtain⟨N,hN⟩:=Int.eq_ofNat_of_zero_le (show 0≤frame+1 by omega)
          have hs:=Ziv (p:=p) (l:=l) hb (keep:=keep) hk (marks:= []) hks (m:=m) (N:=N) hm (by omega) (f:=frame) (by omega)
          obtain⟨ks2,hst⟩:=ZkF (p:=p) (l:=l) hb (N:=N) (by omega)
          have e1:i64 (frame+1)=(N:Int):=by rw [hN];exact Zz (by omega) (by omega)
          have hfr:(stN p l N).Frame=frame:=by rw [Zc6 hb (by omega)];omega
          have hok:=(Zdt (l:=l) hb N (by omega)).ok
          have hcp:=Zfp (l:=l) hb (n:=N) (by omega)
          have hsm:=Zhh (Zgk (l:=l) hb (n:=N) (by omega)).1 (Zgk (l:=l) hb (n:=N) (by omega)).2
          have hlp:=Zbd (ZaF hb).1
          have hfe:=Zic (l:=(List.range p.Instruments.length).map (fcV p l (stN p l N))) (by simp;omega)
          simp only [Option.bind_some,Sum.elim_inr,Zk4,hs,decide_true,Bool.not_true,Bool.false_eq_true,if_false,e1,hst,Q1,hfr,beq_self_eq_true,if_true,Bool.true_and,Q2,(ZjV hb hok).1,
            ZjA,hfe,Q0,hcp,hsm]
    · rw [Zlj hb hk,ZiZ (keep:=1000) (by decide),if_pos hb]
      simp
  · rw [Zkd keep hb,Zkd 1000 hb]
    simp [hb]
end Go.Vx
namespace Go.Vx
open Go Go.RowKit
theorem Zhw(p:api_Panel)(l:List api_Track)(keep:Int)(way:List Int)(frame:Int)(hw:wfL (wfI .i64) way):Xg p l keep way frame=some true:=Zia p l keep way frame hw.1
end Go.Vx
