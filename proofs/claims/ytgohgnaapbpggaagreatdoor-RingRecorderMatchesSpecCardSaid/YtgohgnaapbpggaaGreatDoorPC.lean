/- A text of the proof: a verified executor of the program form, or the contracts of the functions that the law reaches. -/
import Derived.Test.YtgohgnaapbpggaaGreatDoorPB
set_option linter.all false
namespace Go.Vx
open Go Go.RowKit
theorem ZrV:Zd0=ring_checkAll_L1:=by
  funext l i
  unfold Zd0 ring_checkAll_L1
  simp only [ZrN]
theorem Zs2(l:List api_Memory): ∃ c,JO l=some c∧Ze7 l=some c∧(c=0→(1≤l.length∧l.length≤8)∧ ∀ m∈l,MemOK m)∧(((1≤l.length∧l.length≤8)∧ ∀ m∈l,MemOK m)→c=0):=by
  unfold JO Ze7
  rw [Zeg,ZrV]
  simp only [oB]
  by_cases h:1≤l.length∧l.length≤8
  · have a1:((1:Int)≤(l.length:Int)):=by omega
    have a2:((l.length:Int)≤8):=by omega
    have a3: ¬((l.length:Int)=0):=by omega
    have a4: ¬(8<(l.length:Int)):=by omega
    simp only [decide_eq_true a1,decide_eq_true a2,decide_eq_false a3,decide_eq_false a4,Bool.and_self,Bool.not_true,Bool.or_self,Bool.false_eq_true,if_false]
    obtain⟨r,h1,h2⟩:=Zkh (body:=ring_checkAll_L1 l) (N:=l.length) (fun k=> ∀ j,j<k→ ∀ m,l[j]?=some m→MemOK m)
      (fun r=>(∃ e,r= .inl e∧e≠0∧ ¬ ∀ m∈l,MemOK m)∨(r= .inr ()∧ ∀ m∈l,MemOK m)) (fun k hk hI=>by
        obtain⟨m,hm⟩:=Za5 hk
        obtain⟨c,c1,c2,c3⟩:=Zsw m
        unfold ring_checkAll_L1
        rw [pG (by simpa using hk),Zs hm,oB,c1,oB,show i64 ((k:Int)+1)=(k:Int)+1 from Zr (by omega) (by omega)]
        by_cases q:c=0
        · left
          refine⟨by rw [nG (by simp [q])],fun j hj m' hm'=> ?_⟩
          by_cases e:j=k
          · subst e;rw [hm] at hm';cases hm';exact c2 q
          · exact hI j (by omega) m' hm'
        · right
          exact⟨_,by rw [pG (by simp [q])],.inl ⟨c,rfl,q,fun w=>q (c3 (w m (List.mem_of_getElem? hm)))⟩⟩) (fun hI=>⟨.inr (),by unfold ring_checkAll_L1;rw [nG (by simp)],.inr ⟨rfl,fun m hm=>by
        obtain⟨j,hj,e⟩:=List.getElem_of_mem hm
        exact hI j hj m (by rw [List.getElem?_eq_getElem hj,e])⟩⟩) (fun j hj=>absurd hj (Nat.not_lt_zero _))
    rw [h1]
    rcases h2 with ⟨e,rfl,he,hno⟩ | ⟨rfl,hall⟩
    · exact⟨e,rfl,rfl,fun q=>absurd q he,fun w=>absurd w.2 hno⟩
    · exact⟨0,rfl,rfl,fun _=>⟨h,hall⟩,fun _=>rfl⟩
  · have a1:(decide ((1:Int)≤(l.length:Int))&&decide ((l.length:Int)≤8))=false:=by simp;omega
    have a2:(decide ((l.length:Int)=0) || decide (8<(l.length:Int)))=true:=by rw [Bool.or_eq_true,decide_eq_true_eq,decide_eq_true_eq];omega
    rw [a1,a2]
    exact⟨3,by simp,by simp,fun q=>by simp at q,fun w=>absurd w.1 h⟩
noncomputable def ZgL(m:api_Memory):List Int:=(XU m).getD []
theorem Zn4{m:api_Memory}(hm:memR m)(ok:MemOK m):XU m=some (ZgL m)∧ZaT m=some (ZgL m)∧(ZgL m).Perm (hdM m m.Sectors.length)∧Srt (Zfj m) (ZgL m):=by
  obtain⟨l,a1,a2,a3,a4⟩:=ZqX hm ok.n.2 ok.bad
  have:ZgL m=l:=by unfold ZgL;rw [a1];rfl
  rw [this]
  exact⟨a1,a2,a3,a4⟩
theorem Zn2{m:api_Memory}(hm:memR m)(ok:MemOK m):(ZgL m).length≤64∧ ∀ i∈ZgL m,0≤i∧i<m.Sectors.length:=by
  obtain⟨_,_,p,_⟩:=Zn4 hm ok
  refine⟨by rw [p.length_eq];have:=ZiQ m m.Sectors.length;have:=ok.n;omega,fun i hi=>ZkT m _ i (p.mem_iff.1 hi)⟩
def frV(s:List Int)(j:Nat):Vector Int 64:=Znr (ZjH (slotL s j))
def Zn9(m:api_Memory)(mi i:Int):List api_Kept:=(List.range m.Slots.toNat).flatMap fun j=>if stV (slotL (m.Sectors.getD i.toNat []) j)=1 then [api_Kept.mk mi i (XZ (m.Sectors.getD i.toNat [])).1 (j:Int) (frV (m.Sectors.getD i.toNat []) j)] else []
def dfM:api_Memory:=⟨0,0,[],[],[]⟩
noncomputable def keptM(m:api_Memory)(mi:Int):List api_Kept:=(ZgL m).flatMap (Zn9 m mi)
theorem row_bd{m:api_Memory}(ok:MemOK m){i:Nat}(hi:i<m.Sectors.length){j:Nat}(hj:(j:Int)<m.Slots):(m.Sectors.getD i []).length≤7000∧16+j*97+97≤(m.Sectors.getD i []).length:=by
  have h:=ok.row _ (getD_memL hi)
  have:=ok.slots
  omega
where
  getD_memL {α:Type} {l:List (List α)} {i:Nat} (h:i<l.length):l.getD i []∈l:=by
    rw [gQ,List.getElem?_eq_getElem h];exact List.getElem_mem h
theorem ZmK{l:List api_Memory}{k:Nat}(h:k<l.length):l.getD k dfM∈l∧l[k]?=some (l.getD k dfM):=by
  rw [gQ,List.getElem?_eq_getElem h]
  exact⟨List.getElem_mem h,rfl⟩
end Go.Vx

namespace Go.Vx
open Go Go.RowKit
def fN(f:Vector Int 64):Prop:= ∀ i,0≤wd f i∧wd f i≤4095
theorem fN.u{f:Vector Int 64}(h:fN f):fU f:=fun i=>⟨(h i).1,by have:=(h i).2;omega⟩
theorem ZoU{m:api_Memory}{mi i:Int}{x:api_Kept}(h:x∈Zn9 m mi i): ∃ j:Nat,(j:Int)<m.Slots∧stV (slotL (m.Sectors.getD i.toNat []) j)=1∧x=⟨mi,i,(XZ (m.Sectors.getD i.toNat [])).1,j,frV (m.Sectors.getD i.toNat []) j⟩:=by
  unfold Zn9 at h
  obtain⟨j,hj,hx⟩:=List.mem_flatMap.1 h
  split at hx
  · rename_i q
    exact⟨j,by have:=List.mem_range.1 hj;omega,q,List.mem_singleton.1 hx⟩
  · cases hx
noncomputable def nmK(x:api_Kept):Int:=(Znb x.Frame).1
structure FrI (R:List api_Kept) (M:List (Int×api_Kept)) (N:List Int):Prop where
  srt:R.Pairwise fun a b=>nmK a<nmK b
  prm:N.Perm (R.map nmK)
  get: ∀ x∈R,mget kqI M (nmK x)=some x
  non: ∀ n,(∀ x∈R,nmK x≠n)→mget kqI M n=none
  num: ∀ x∈R,fN x.Frame
end Go.Vx

namespace Go.Vx
open Go Go.RowKit
theorem ZqU{m:api_Memory}(hm:Zd5 m):memR m:=fun s hs x hx=>by
  have:=(hm.2.2.1.2 s hs).2 x hx
  have:=(by simpa [wfI,Lit.wf] using this:IntKind.u8.min≤x∧x≤IntKind.u8.max)
  exact⟨this.1,this.2⟩
end Go.Vx

namespace Go.Vx
open Go Go.RowKit
theorem ZlO{l:List api_Memory}(hl:l.length≤8)(hO: ∀ m∈l,MemOK m):Ji l=some l:=by
  unfold Ji
  obtain⟨r,h1,h2⟩:=Zd2 (body:=XX l) (s0:= []) (N:=l.length) (fun k acc=>acc=l.take k) (fun r=>r=l) (fun k acc hk hI=> .inl (by
      obtain⟨m,hm⟩:=Za5 hk
      subst hI
      refine⟨l.take k++ [m],?_,by rw [List.take_succ,hm];rfl⟩
      unfold XX
      rw [pG (by simpa using hk),Zs hm,oB,Zr3 (hO m (List.mem_of_getElem? hm)),oB,Zax (by simp;omega),oB,show i64 ((k:Int)+1)=(k:Int)+1 from Zr (by omega) (by omega)])) (fun acc hI=>⟨acc,by unfold XX;rw [nG (by simp)],by rw [hI,List.take_length]⟩) rfl
  rw [h1,h2];rfl
structure SpotOK (m:api_Memory) (s:ring_spot):Prop where
  sec:(s.sector= -1∧s.slot=0)∨(0≤s.sector∧s.sector<m.Sectors.length)
  slot:0≤s.slot∧s.slot≤m.Slots
  /-- the slots from there on are free -/
  free:0≤s.sector→ ∀ j:Nat,s.slot≤j→(j:Int)<m.Slots→slotL (m.Sectors.getD s.sector.toNat []) j=List.replicate 97 255
def dfS:ring_spot:=⟨0,0⟩
structure BankI (b:ring_bank):Prop where
  n:1≤b.memories.length∧b.memories.length≤8
  ok: ∀ m∈b.memories,MemOK m
  u8: ∀ m∈b.memories,memR m
  len:b.spots.length=b.memories.length
  at_: ∀ k,k<b.memories.length→SpotOK (b.memories.getD k dfM) (b.spots.getD k dfS)
structure RecI (r:ring_Recorder):Prop where
  bank:BankI r.bank
  cp:1≤r.copies∧r.copies≤r.bank.memories.length
theorem Zqk{l:List Int}(hl:l.length=97):stV l=0↔l=List.replicate 97 255:=by
  constructor
  · intro h
    unfold stV at h
    split at h
    · cases h
    · split at h
      · cases h
      · rename_i q
        rw [List.eq_replicate_iff]
        refine⟨hl,fun x hx=> ?_⟩
        have:l.any (fun x=> !decide (x=255))=false:=by simpa using q
        rw [List.any_eq_false] at this
        simpa using this x hx
  · rintro rfl
    decide
theorem Zns{m:api_Memory}(hm:memR m)(ok:MemOK m): ∃ s,Jf m=some s∧SpotOK m s:=by
  unfold Jf
  obtain⟨h1,h2,h3,h4⟩:=Zn4 hm ok
  obtain⟨l1,l2⟩:=Zn2 hm ok
  rw [h1,oB]
  by_cases h:(ZgL m).length=0
  · rw [pG (by rw [decide_eq_true_eq];omega)]
    exact⟨_,rfl,.inl ⟨rfl,rfl⟩,⟨Int.le_refl _,by have:=ok.slots;simp only;omega⟩,fun q=>by simp at q⟩
  · rw [nG (by rw [decide_eq_true_eq];omega),show i64 (((ZgL m).length:Int)-1)=(((ZgL m).length-1:Nat):Int) from(Zr (by omega) (by omega)).trans (by omega),Zs (XG (by omega) 0),oB]
    have hb:=l2 _ (Zbz (X:=ZgL m) (t:=(ZgL m).length-1) (by omega))
    obtain⟨i,hi⟩:=Int.eq_ofNat_of_zero_le hb.1
    rw [hi] at hb ⊢
    have hil:i<m.Sectors.length:=by omega
    have hs:=ok.slots
    obtain⟨z,z1,z2⟩:=Zd2 (body:=Xj m (i:Int)) (s0:=(0:Int)) (N:=m.Slots.toNat) (fun k z=>0≤z∧z≤(k:Int)∧ ∀ j:Nat,z≤j→j<k→slotL (m.Sectors.getD i []) j=List.replicate 97 255)
      (fun z=>0≤z∧z≤m.Slots∧ ∀ j:Nat,z≤j→(j:Int)<m.Slots→slotL (m.Sectors.getD i []) j=List.replicate 97 255) (fun k z hk hI=> .inl (by
        obtain⟨b1,b2⟩:=row_bd ok hil (j:=k) (by omega)
        obtain⟨v,hv,hvl⟩:=ZmM (by omega) b2
        have h97:=ZdY b2
        unfold Xj
        rw [pG (by simp;omega),Zs (XG hil []),oB,hv,oB,ZlF hvl h97,oB,show i64 ((k:Int)+1)=(k:Int)+1 from Zr (by omega) (by omega)]
        by_cases q:stV (slotL (m.Sectors.getD i []) k)=0
        · refine⟨z,by rw [nG (by rw [q];decide)],hI.1,by omega,fun j hj hjk=> ?_⟩
          by_cases e:j=k
          · subst e;exact(Zqk h97).1 q
          · exact hI.2.2 j hj (by omega)
        · refine⟨(k:Int)+1,by rw [pG (by rw [decide_eq_false q];rfl)],by omega,by omega,fun j hj hjk=>by omega⟩)) (fun z hI=>⟨z,by unfold Xj;rw [nG (by simp;omega)],hI.1,by omega,fun j hj hjk=>hI.2.2 j hj (by omega)⟩) ⟨Int.le_refl _,Int.le_refl _,fun j _ hj=>by omega⟩
    rw [z1]
    exact⟨_,rfl,.inr ⟨by simp only;omega,by simp only;omega⟩,⟨z2.1,z2.2.1⟩,fun _ j hj hjs=>z2.2.2 j hj hjs⟩
end Go.Vx

namespace Go.Vx
open Go Go.RowKit
theorem Zn1(a b:Int):0≤QD .u8 a b∧QD .u8 a b≤255:=by
  rw [Zrg]
  have:=(BitVec.ofInt 8 a&&&BitVec.ofInt 8 b).isLt
  omega
theorem Zkm: ∀ (d s:List Int) (a:Nat) (p:Int),u8R s→u8R (Q5 s a d p).2.2
  | [],s,a,p,h=>h
  |b::tl,s,a,p,h=>by
    have hs: ∀ z:Int,0≤z∧z≤255→u8R (s.set a z):=fun z hz x hx=>by
      rcases List.mem_or_eq_of_mem_set hx with q |rfl
      · exact h x q
      · exact hz
    unfold Q5
    split
    · exact hs _ (Zn1 ..)
    · exact Zkm tl _ _ _ (hs _ (Zn1 ..))
theorem Zd9{s:List Int}{a k:Nat}{z:Int}(h:a≠k):(s.set a z).getD k 0=s.getD k 0:=by
  rw [gQ,List.getElem?_set_ne h,gQ]
theorem ZjI{s:List Int}{a:Nat}{z:Int}(h:a<s.length):(s.set a z).getD a 0=z:=by
  rw [gQ,List.getElem?_set_self h];rfl
theorem Zhs: ∀ (d s:List Int) (a:Nat) (p:Int) (k:Nat),k<a∨a+d.length≤k→(Q5 s a d p).2.2.getD k 0=s.getD k 0
  | [],s,a,p,k,h=>rfl
  |b::tl,s,a,p,k,h=>by
    rw [List.length_cons] at h
    unfold Q5
    split
    · exact Zd9 (by omega)
    · rw [Zhs tl _ _ _ k (by omega),Zd9 (by omega)]
theorem Zoj: ∀ (d s:List Int) (a:Nat) (p:Int),a+d.length≤s.length→(Q5 s a d p).2.1=true→ ∀ t,t<d.length→(Q5 s a d p).2.2.getD (a+t) 0=QD .u8 (s.getD (a+t) 0) (d.getD t 0)
  | [],s,a,p,hl,h,t,ht=>absurd ht (Nat.not_lt_zero _)
  |b::tl,s,a,p,hl,h,t,ht=>by
    rw [List.length_cons] at hl ht
    unfold Q5 at h ⊢
    split at h
    · cases h
    · rename_i q
      rw [nG q]
      cases t with
      |zero=>
        rw [Zhs tl _ _ _ _ (by omega),Nat.add_zero,ZjI (by omega)];rfl
      |succ t=>
        have:=Zoj tl (s.set a (QD .u8 (s.getD a 0) b)) (a+1) (p-1) (by rw [List.length_set];omega) h t (by omega)
        rw [show a+(t+1)=a+1+t by omega,this,Zd9 (by omega)];rfl
theorem ZlD: ∀ (d s:List Int) (z:Int) (a:Nat) (p:Int),a+d.length<s.length→(Q5 s a (d++ [z]) p).2.1=false→
    (Q5 s a (d++ [z]) p).2.2.getD (a+d.length) 0=s.getD (a+d.length) 0∨(Q5 s a (d++ [z]) p).2.2.getD (a+d.length) 0=QD .u8 (s.getD (a+d.length) 0) (bor .u8 z 15)
  | [],s,z,a,p,hl,h=>by
    rw [List.length_nil,Nat.add_zero] at hl
    rw [List.nil_append,List.length_nil,Nat.add_zero] at*
    unfold Q5 at h ⊢
    split at h
    · rename_i q
      rw [pG q]
      right
      exact ZjI hl
    · unfold Q5 at h;cases h
  |b::tl,s,z,a,p,hl,h=>by
    rw [List.length_cons] at hl
    rw [List.cons_append] at h ⊢
    rw [List.length_cons]
    unfold Q5 at h ⊢
    split at h
    · rename_i q
      rw [pG q]
      left
      exact Zd9 (by omega)
    · rename_i q
      rw [nG q]
      have:=ZlD tl (s.set a (QD .u8 (s.getD a 0) b)) z (a+1) (p-1) (by rw [List.length_set];omega) h
      rw [Zd9 (by omega)] at this
      rw [show a+(tl.length+1)=a+1+tl.length by omega]
      exact this
theorem Zgm{s t:List Int}(hl:s.length=t.length)(h: ∀ k,k<s.length→s.getD k 0=t.getD k 0):s=t:=by
  apply List.ext_getElem hl
  intro i h1 h2
  have:=h i h1
  rwa [gQ,gQ,List.getElem?_eq_getElem h1,List.getElem?_eq_getElem h2] at this
theorem ZiM{s:List Int}{j t:Nat}(h:16+j*97+97≤s.length)(ht:t<97):(slotL s j).getD t 0=s.getD (16+j*97+t) 0:=by
  unfold slotL
  rw [gQ,List.getElem?_drop,List.getElem?_take_of_lt (by omega),gQ]
theorem Zh7{s t:List Int}{j:Nat}(hl:s.length=t.length)(h1:16+j*97+97≤s.length)(h: ∀ k,16+j*97≤k→k<16+j*97+97→s.getD k 0=t.getD k 0):slotL s j=slotL t j:=by
  have e1:=ZdY h1
  have e2:=ZdY (s:=t) (i:=j) (by omega)
  refine Zgm (by omega) fun k hk=> ?_
  rw [ZiM h1 (by omega),ZiM (by omega) (by omega)]
  exact h _ (by omega) (by omega)
theorem ZkJ{s t:List Int}(hl:s.length=t.length)(h: ∀ k,k<10→s.getD k 0=t.getD k 0):(XZ s).1=(XZ t).1∧(XZ s).2.2=(XZ t).2.2:=by
  unfold XZ
  rw [hl]
  by_cases q:t.length<16
  · rw [pG q,pG q];exact⟨rfl,rfl⟩
  · rw [nG q,nG q]
    have e:s.take 10=t.take 10:=by
      refine Zgm (by rw [List.length_take,List.length_take];omega) fun k hk=> ?_
      rw [List.length_take] at hk
      rw [gQ,List.getElem?_take_of_lt (by omega),←gQ,h k (by omega),gQ (l:=t.take 10),List.getElem?_take_of_lt (by omega),gQ]
    simp only
    rw [h 2 (by omega),h 3 (by omega),h 4 (by omega),h 5 (by omega),e]
    split<;>exact⟨rfl,rfl⟩
theorem Zma{m:api_Memory}{z:Int}: ∀ {k:Nat},z∈hdM m k↔ ∃ i:Nat,i<k∧okM m i=true∧z=i
  |0=>⟨fun h=>(by cases h),fun⟨i,h,_⟩=>absurd h (Nat.not_lt_zero _)⟩
  |k+1=>by
    rw [ZlC,List.mem_append,Zma]
    constructor
    · rintro(⟨i,a,b,c⟩ |h)
      · exact⟨i,by omega,b,c⟩
      · split at h
        · rename_i q
          exact⟨k,by omega,q,List.mem_singleton.1 h⟩
        · cases h
    · rintro⟨i,a,b,c⟩
      by_cases e:i=k
      · subst e
        right
        rw [pG b,c];exact List.mem_singleton.2 rfl
      · exact .inl ⟨i,by omega,b,c⟩
def InS(m:api_Memory)(mi:Int)(i:Nat)(x:api_Kept):Prop:= ∃ j:Nat,(j:Int)<m.Slots∧stV (slotL (m.Sectors.getD i []) j)=1∧x=⟨mi,i,(XZ (m.Sectors.getD i [])).1,j,frV (m.Sectors.getD i []) j⟩
theorem ZhF{m:api_Memory}(hm:memR m)(ok:MemOK m){mi:Int}{x:api_Kept}:x∈keptM m mi↔ ∃ i:Nat,i<m.Sectors.length∧okM m i=true∧InS m mi i x:=by
  unfold keptM
  rw [List.mem_flatMap]
  obtain⟨_,_,p,_⟩:=Zn4 hm ok
  constructor
  · rintro⟨z,hz,hx⟩
    obtain⟨i,a,b,rfl⟩:=Zma.1 (p.mem_iff.1 hz)
    obtain⟨j,c,d,e⟩:=ZoU hx
    exact⟨i,a,b,j,c,d,e⟩
  · rintro⟨i,a,b,j,c,d,rfl⟩
    refine⟨i,p.mem_iff.2 (Zma.2 ⟨i,a,b,rfl⟩),?_⟩
    unfold Zn9
    rw [List.mem_flatMap]
    refine⟨j,List.mem_range.2 (by omega),?_⟩
    simp only [Int.toNat_natCast]
    rw [pG d]
    exact List.mem_singleton.2 rfl
def QL(m:api_Memory)(i:Nat)(S:List Int)(W:List Int):api_Memory:=⟨m.Slots,m.Limit,m.Sectors.set i S,W,m.Bad⟩
theorem ZeT{l:List (List Int)}{i k:Nat}{S:List Int}(hi:i<l.length):(l.set i S).getD k []=if k=i then S else l.getD k []:=by
  rw [gQ,List.getElem?_set]
  by_cases e:i=k
  · subst e;rw [pG rfl,pG hi,pG rfl];rfl
  · rw [nG e,nG (fun q=>e q.symm),gQ]
theorem Zi6{m:api_Memory}(ok:MemOK m)(hm:memR m){i:Nat}(hi:i<m.Sectors.length){S W:List Int}(hS:S.length=(m.Sectors.getD i []).length)(hu:u8R S)(hW:W.length=m.Wear.length)(hw: ∀ x∈W,0≤x∧x≤m.Limit):
    MemOK (QL m i S W)∧memR (QL m i S W):=by
  refine⟨⟨ok.slots,ok.limit,by unfold QL;simpa using ok.n,by unfold QL;simp only [List.length_set];rw [hW];exact ok.wear,by unfold QL;simpa using ok.bad,fun s hs=> ?_,hw⟩,fun s hs=> ?_⟩
  · rcases List.mem_or_eq_of_mem_set hs with q |rfl
    · exact ok.row s q
    · rw [hS];exact ok.row _ (row_bd.getD_memL hi)
  · rcases List.mem_or_eq_of_mem_set hs with q |rfl
    · exact hm s q
    · exact hu
theorem ZhI{m:api_Memory}(ok:MemOK m)(hm:memR m){i:Nat}(hi:i<m.Sectors.length){S W:List Int}(hS:S.length=(m.Sectors.getD i []).length)(hu:u8R S)(hW:W.length=m.Wear.length)(hw: ∀ x∈W,0≤x∧x≤m.Limit)
    {mi:Int} {x:api_Kept} (hx:x∈keptM (QL m i S W) mi):
    x∈keptM m mi∨((XZ S).2.2=true∧m.Bad.getD i false=false∧ ∃ j:Nat,(j:Int)<m.Slots∧stV (slotL S j)=1∧x=⟨mi,i,(XZ S).1,j,frV S j⟩):=by
  obtain⟨o',r'⟩:=Zi6 ok hm hi hS hu hW hw
  obtain⟨k,k1,k2,j,j1,j2,rfl⟩:=(ZhF r' o').1 hx
  have hk:k<m.Sectors.length:=by simpa [QL] using k1
  have e:(QL m i S W).Sectors.getD k []=if k=i then S else m.Sectors.getD k []:=ZeT hi
  unfold okM at k2
  rw [Bool.and_eq_true] at k2
  have hb:(QL m i S W).Bad=m.Bad:=rfl
  by_cases q:k=i
  · subst q
    rw [pG rfl] at e
    rw [e,hb] at k2
    right
    refine⟨k2.1,by simpa using k2.2,j,j1,by rwa [e] at j2,by rw [e]⟩
  · rw [nG q] at e
    left
    rw [e] at k2 j2
    exact(ZhF hm ok).2 ⟨k,hk,by unfold okM;rw [Bool.and_eq_true];exact⟨k2.1,by rw [hb] at k2;exact k2.2⟩,j,j1,j2,by rw [e]⟩
theorem ZqS{s:List Int}{p:Int}(hl:s.length≤7000)(hl2:2≤s.length)(hp:0≤p∧p≤1000000000):Xm s p=some (if p=0 then(0,false,List.replicate (s.length/2) 255++s.drop (s.length/2)) else(p-1,true,List.replicate s.length 255)):=by
  have setf: ∀ (n:Nat),n≤s.length→ ∀ {body:List Int→Int→Option ((List Int×Int) ⊕ List Int)},(∀ (k:Nat) (o:List Int),k<n→o.length=s.length→body o k=some (.inl (o.set k 255,(k:Int)+1)))→(∀ o,body o n=some (.inr o))→
      loop (t2 body) (s,0)=some (List.replicate n 255++s.drop n):=by
    intro n hn body h1 h2
    obtain⟨r,r1,r2⟩:=Zd2 (body:=body) (s0:=s) (N:=n) (fun k o=>o=List.replicate k 255++s.drop k) (fun r=>r=List.replicate n 255++s.drop n) (fun k o hk hI=> .inl (by
      have hol:o.length=s.length:=by rw [hI];simp;omega
      refine⟨o.set k 255,h1 k o hk hol,?_⟩
      obtain⟨x,hx⟩:=Za5 (xs:=s) (k:=k) (by omega)
      rw [hI,ZbT hx,List.set_append,nG (by simp),List.length_replicate,Nat.sub_self,List.set_cons_zero,List.replicate_succ']
      simp)) (fun o hI=>⟨o,h2 o,hI⟩) (by simp)
    rw [r1,r2]
  unfold Xm
  by_cases q:p=0
  · subst q
    have e3:Int.tdiv (s.length:Int) 2=((s.length/2:Nat):Int):=rfl
    rw [pG (by decide),Zs3 (by omega),oB]
    have sl:slp s 0 ((s.length/2:Nat):Int)=some ():=by
      unfold slp
      have a1:(((s.length/2:Nat):Int))≤(s.length:Int):=by omega
      simp [ck]
      omega
    rw [sl,oB]
    have en:((Int.toNat (((s.length/2:Nat):Int)-0):Nat):Int)=((s.length/2:Nat):Int):=by omega
    rw [setf (s.length/2) (by omega) (fun k o hk hol=>by
      unfold QH
      rw [en]
      have a0:decide ((0:Int)≤(k:Int))=true:=by simp
      have a1:decide ((k:Int)<((s.length/2:Nat):Int))=true:=decide_eq_true (by omega)
      rw [pG a1,a0,a1]
      obtain⟨x,hx⟩:=Za5 (xs:=o) (k:=k) (by omega)
      simp only [Bool.and_self,ck,if_true,oB,Int.zero_add,Int.toNat_natCast]
      rw [Zs hx,oB,show i64 ((k:Int)+1)=(k:Int)+1 from Zr (by omega) (by omega)]) (fun o=>by
      unfold QH
      rw [en,nG (by simp)])]
    simp only [oB,Xv,if_true]
    rfl
  · rw [nG (by simpa using q),nG q]
    rw [setf s.length (Nat.le_refl _) (fun k o hk hol=>by
      unfold QG
      obtain⟨x,hx⟩:=Za5 (xs:=o) (k:=k) (by omega)
      rw [pG (by simpa using hk),Zs hx,oB,Int.toNat_natCast,show i64 ((k:Int)+1)=(k:Int)+1 from Zr (by omega) (by omega)]) (fun o=>by
      unfold QG
      rw [nG (by simp)])]
    simp only [oB,Xv]
    rw [show i64 (p-1)=p-1 from Zr (by omega) (by omega),decide_eq_true (show 0<p by omega),List.drop_length,List.append_nil,show max (p-1) 0=p-1 by omega]
end Go.Vx

namespace Go.Vx
open Go Go.RowKit
def ZbN(p:Nat→Bool):Nat→Option Nat
  |0=>none
  |n+1=>match ZbN p n with
    |some k=>some k
    |none=>if p n=true then some n else none
theorem Zhj{p:Nat→Bool}{k z:Nat}(h:ZbN p k=some z): ∀ {n:Nat},k≤n→ZbN p n=some z
  |0,hn=>by
    obtain rfl:k=0:=by omega
    exact h
  |n+1,hn=>by
    by_cases e:k=n+1
    · subst e;exact h
    · have:=Zhj h (n:=n) (by omega)
      unfold ZbN;rw [this]
theorem ZjJ{p:Nat→Bool}: ∀ {n z:Nat},ZbN p n=some z→z<n∧p z=true
  |0,z,h=>by cases h
  |n+1,z,h=>by
    unfold ZbN at h
    split at h
    · rename_i k hk
      cases h
      have:=ZjJ hk
      exact⟨by omega,this.2⟩
    · split at h
      · rename_i q
        cases h
        exact⟨by omega,q⟩
      · cases h
def Zf5(m:api_Memory)(z:Nat):Bool:= !(m.Bad.getD z false)&&decide (m.Wear.getD z 0<m.Limit)
def ZbL(m:api_Memory)(sec:Int)(i:Nat):Nat:=((sec+1).toNat+i) % m.Sectors.length
def Zad(m:api_Memory)(sec:Int):Int:=match ZbN (fun i=>Zf5 m (ZbL m sec i)) m.Sectors.length with
  |some i=>(ZbL m sec i:Int)
  |none=> -1
theorem ZkI{m:api_Memory}{sec:Int}(h:0≤Zad m sec)(hn:0<m.Sectors.length):Zad m sec<m.Sectors.length∧Zf5 m (Zad m sec).toNat=true:=by
  unfold Zad at h ⊢
  split at h
  · rename_i i hi
    have:=(ZjJ hi).2
    have hlt:ZbL m sec i<m.Sectors.length:=Nat.mod_lt _ hn
    exact⟨by omega,by simpa using this⟩
  · omega
theorem Zp6{b:ring_bank}{k:Nat}{m:api_Memory}{s:ring_spot}(hm:b.memories[k]?=some m)(hs:b.spots[k]?=some s)(ok:MemOK m)(h1: -1≤s.sector)(h2:s.sector<m.Sectors.length):Xt b (k:Int)=some (Zad m s.sector):=by
  have hn:=ok.n
  unfold Xt
  rw [Zs hm,oB]
  obtain⟨r,r1,r2⟩:=Zkh (body:=XT b (k:Int) m) (N:=m.Sectors.length) (fun j=>ZbN (fun i=>Zf5 m (ZbL m s.sector i)) j=none) (fun r=>Sum.elim (fun q=>q) (fun _=>(-1:Int)) r=Zad m s.sector) (fun j hj hI=>by
    have hlt:ZbL m s.sector j<m.Sectors.length:=Nat.mod_lt _ (by omega)
    have e1:i64 (s.sector+1)=s.sector+1:=Zr (by omega) (by omega)
    have e2:i64 (s.sector+1+(j:Int))=(((s.sector+1).toNat+j:Nat):Int):=(Zr (by omega) (by omega)).trans (by omega)
    have e3:rem (((s.sector+1).toNat+j:Nat):Int) (m.Sectors.length:Int)=some (ZbL m s.sector j:Int):=by
      unfold rem ZbL
      rw [nG (by omega)]
      rfl
    unfold XT
    rw [pG (by simpa using hj),Zs hs,oB,e1,e2,e3,oB,Zs (XG (s:=m.Bad) (by have:=ok.bad;omega) false),oB,show i64 ((j:Int)+1)=(j:Int)+1 from Zr (by omega) (by omega),Zs (XG (s:=m.Wear) (by have:=ok.wear;omega) 0)]
    have hp:Zf5 m (ZbL m s.sector j)=(!(m.Bad.getD (ZbL m s.sector j) false)&&decide (m.Wear.getD (ZbL m s.sector j) 0<m.Limit)):=rfl
    cases hB:m.Bad.getD (ZbL m s.sector j) false with
    |true=>
      rw [hB] at hp
      left
      refine⟨by simp [gd],?_⟩
      unfold ZbN
      rw [hI,hp];rfl
    |false=>
      rw [hB] at hp
      simp only [Bool.not_false,gd,beq_self_eq_true,if_true,oB,Bool.true_and] at hp ⊢
      by_cases q:m.Wear.getD (ZbL m s.sector j) 0<m.Limit
      · right
        refine⟨_,by rw [pG (decide_eq_true q)],?_⟩
        have:ZbN (fun i=>Zf5 m (ZbL m s.sector i)) (j+1)=some j:=by
          unfold ZbN
          rw [hI,hp,decide_eq_true q];rfl
        unfold Zad
        rw [Zhj this (by omega)];rfl
      · left
        refine⟨by rw [nG (by simpa using q)],?_⟩
        unfold ZbN
        rw [hI,hp,decide_eq_false q];rfl) (fun hI=>⟨.inr (),by unfold XT;rw [nG (by simp)],by unfold Zad;rw [hI];rfl⟩) rfl
  rw [r1]
  cases r with
  |inl q=>simp only [oB,Sum.elim_inl] at r2 ⊢;rw [←r2]
  |inr q=>simp only [oB,Sum.elim_inr] at r2 ⊢;rw [←r2];rfl
def ZfV(m:api_Memory)(sec:Int):Nat→Int
  |0=>0
  |k+1=>if((XZ (m.Sectors.getD k [])).2.2&& !decide ((k:Int)=sec))=true then max (ZfV m sec k) (XZ (m.Sectors.getD k [])).1 else ZfV m sec k
theorem Zi4(m:api_Memory)(sec:Int): ∀ k,0≤ZfV m sec k∧ZfV m sec k≤1073741824
  |0=>by simp [ZfV]
  |k+1=>by
    have h:=Zi4 m sec k
    have:=Zk1 (m.Sectors.getD k [])
    unfold ZfV
    split<;>omega
def Zcy(m:api_Memory)(sec:Int):Int:=ZfV m sec m.Sectors.length+1
theorem Zrh{b:ring_bank}{k:Nat}{m:api_Memory}(hm:b.memories[k]?=some m)(hR:memR m)(ok:MemOK m)(sec:Int):QR b (k:Int) sec=some (Zcy m sec):=by
  have hn:=ok.n
  unfold QR
  rw [Zs hm,oB]
  obtain⟨r,r1,r2⟩:=Zd2 (body:=Q4 sec m) (s0:=(0:Int)) (N:=m.Sectors.length) (fun j z=>z=ZfV m sec j) (fun z=>z=ZfV m sec m.Sectors.length) (fun j z hj hI=> .inl (by
    unfold Q4
    rw [pG (by simpa using hj),Zs (XG hj []),oB,Zmi (Zfi hR j),oB,show i64 ((j:Int)+1)=(j:Int)+1 from Zr (by omega) (by omega),hI]
    by_cases q:((XZ (m.Sectors.getD j [])).2.2&& !decide ((j:Int)=sec))=true
    · exact⟨_,by rw [pG q],by show _=ZfV m sec (j+1);rw [ZfV,pG q]⟩
    · exact⟨_,by rw [nG q],by show _=ZfV m sec (j+1);rw [ZfV,nG q]⟩)) (fun z hI=>⟨z,by unfold Q4;rw [nG (by simp)],hI⟩) rfl
  have:=Zi4 m sec m.Sectors.length
  rw [r1,oB,Xv,r2,show i64 (ZfV m sec m.Sectors.length+1)=_ from Zr (by omega) (by omega)]
  rfl
def Zaa(m:api_Memory)(s:ring_spot):Bool:=decide (s.sector<0) || decide (s.slot=m.Slots)
theorem Zm0{b:ring_bank}{k:Nat}{m:api_Memory}{s:ring_spot}(hm:b.memories[k]?=some m)(hs:b.spots[k]?=some s):QX b (k:Int)=some (Zaa m s):=by
  unfold QX Zaa
  rw [Zs hs,oB,Zs hm]
  by_cases q:s.sector<0
  · simp [q,gd]
  · simp [q,gd]
def ZeH(s:List Int):List Int:=List.replicate (s.length/2) 255++s.drop (s.length/2)
def Zeq(m:api_Memory)(s:ring_spot)(p:Int):Int×Bool×api_Memory×ring_spot:=
  let y:=Zad m s.sector
  let S:=m.Sectors.getD y.toNat []
  let W:=m.Wear.set y.toNat (m.Wear.getD y.toNat 0+1)
  if p=0 then(0,false,QL m y.toNat (ZeH S) W,s) else
  let q:=Q5 (List.replicate S.length 255) 0 (hdL (Zcy m y)) (p-1)
  (q.1,q.2.1,QL m y.toNat q.2.2 W,cond q.2.1 ⟨y,0⟩ s)
def upd(r:ring_Recorder)(k:Nat)(m:api_Memory)(sp:List ring_spot):ring_Recorder:=⟨⟨r.bank.memories.set k m,sp⟩,r.copies,r.frozen,r.stopped,r.last,r.some_⟩
theorem Zta{r:ring_Recorder}{k:Nat}{m:api_Memory}{s:ring_spot}(hm:r.bank.memories[k]?=some m)(hs:r.bank.spots[k]?=some s)(hR:memR m)(ok:MemOK m)(h1: -1≤s.sector)(h2:s.sector<m.Sectors.length)(hx:0≤Zad m s.sector)(hq:Zcy m (Zad m s.sector)≤1073741824){p:Int}(hp:0≤p∧p≤1000000000):
    XS r (k:Int) p=some ((Zeq m s p).1,(Zeq m s p).2.1,upd r k (Zeq m s p).2.2.1 (if(Zeq m s p).2.1=true then r.bank.spots.set k (Zeq m s p).2.2.2 else r.bank.spots)):=by
  have hn:=ok.n
  obtain⟨b1,b2⟩:=ZkI hx (by omega)
  have hkl:=(List.getElem?_eq_some_iff.1 hm).1
  unfold XS
  rw [Zs hm,oB,Zp6 hm hs ok h1 h2,oB,Zrh hm hR ok,oB]
  obtain⟨y,hy⟩:=Int.eq_ofNat_of_zero_le hx
  unfold Zeq
  rw [hy] at b1 b2 hq ⊢
  simp only [Int.toNat_natCast] at b2 ⊢
  have hyl:y<m.Sectors.length:=by omega
  have hyw:y<m.Wear.length:=by have:=ok.wear;omega
  have hw:=ok.wr _ (Zbz hyw)
  have hrow:=ok.row _ (row_bd.getD_memL hyl)
  have hsl:=ok.slots
  have hlim:=ok.limit
  rw [Zs (XG hyw 0),oB,oB,Zs (XG hyl []),oB,ZqS (by omega) (by omega) hp,oB,show i64 (m.Wear.getD y 0+1)=m.Wear.getD y 0+1 from Zr (by omega) (by omega)]
  by_cases q:p=0
  · rw [pG q,pG q]
    simp only [Bool.not_false,if_true,Bool.false_eq_true,if_false]
    rw [List.set_set]
    rfl
  · rw [nG q,nG q]
    simp only [Bool.not_true,Bool.false_eq_true,if_false]
    rw [List.set_set]
    have g1:(r.bank.memories.set k (QL m y (List.replicate (m.Sectors.getD y []).length 255) (m.Wear.set y (m.Wear.getD y 0+1))))[k]?=some (QL m y (List.replicate (m.Sectors.getD y []).length 255) (m.Wear.set y (m.Wear.getD y 0+1))):=List.getElem?_set_self hkl
    have g2:(QL m y (List.replicate (m.Sectors.getD y []).length 255) (m.Wear.set y (m.Wear.getD y 0+1))).Sectors[y]?=some (List.replicate (m.Sectors.getD y []).length 255):=List.getElem?_set_self hyl
    have hs1:1≤Zcy m (y:Int):=by have:=Zi4 m (y:Int) m.Sectors.length;unfold Zcy;omega
    have hput:=Znq (s:=List.replicate (m.Sectors.getD y []).length 255) (d:=hdL (Zcy m (y:Int))) (a:=0) (p:=p-1) (by rw [List.length_replicate];omega) (by rw [List.length_replicate];simp only [hdL,List.length_cons,List.length_nil];omega) (by omega)
    have em:api_Memory.mk m.Slots m.Limit (m.Sectors.set y (List.replicate (m.Sectors.getD y []).length 255)) (m.Wear.set y (m.Wear.getD y 0+1)) m.Bad=QL m y (List.replicate (m.Sectors.getD y []).length 255) (m.Wear.set y (m.Wear.getD y 0+1)):=rfl
    rw [em,Zs g1,oB,Zs g2,oB,oB,ZmQ ⟨hs1,hq⟩,oB]
    have hput':QM (List.replicate (m.Sectors.getD y []).length 255) 0 (hdL (Zcy m (y:Int))) (p-1)=some (Q5 (List.replicate (m.Sectors.getD y []).length 255) 0 (hdL (Zcy m (y:Int))) (p-1)):=hput
    rw [hput',oB]
    have e3: ∀ P:Int×Bool×List Int,(r.bank.memories.set k (QL m y (List.replicate (m.Sectors.getD y []).length 255) (m.Wear.set y (m.Wear.getD y 0+1)))).set k (api_Memory.mk (QL m y (List.replicate (m.Sectors.getD y []).length 255) (m.Wear.set y (m.Wear.getD y 0+1))).Slots (QL m y (List.replicate (m.Sectors.getD y []).length 255) (m.Wear.set y (m.Wear.getD y 0+1))).Limit ((QL m y (List.replicate (m.Sectors.getD y []).length 255) (m.Wear.set y (m.Wear.getD y 0+1))).Sectors.set y P.2.2) (QL m y (List.replicate (m.Sectors.getD y []).length 255) (m.Wear.set y (m.Wear.getD y 0+1))).Wear (QL m y (List.replicate (m.Sectors.getD y []).length 255) (m.Wear.set y (m.Wear.getD y 0+1))).Bad)=r.bank.memories.set k (QL m y P.2.2 (m.Wear.set y (m.Wear.getD y 0+1))):=fun P=>by
      rw [List.set_set];unfold QL;simp
    rw [e3]
    cases hP:(Q5 (List.replicate (m.Sectors.getD y []).length 255) 0 (hdL (Zcy m (y:Int))) (p-1)).2.1 with
    |true=>
      simp only [if_true,cond_true,Zs hs,oB,ZpV]
      rfl
    |false=>
      simp only [Bool.false_eq_true,if_false,cond_false,oB,ZpV]
      rfl
def ZgK(m:api_Memory)(s:ring_spot)(data:List Int)(p:Int):Int×Bool×api_Memory×ring_spot:=
  let q:=Q5 (m.Sectors.getD s.sector.toNat []) (16+s.slot.toNat*97) (data++ [0]) p
  (q.1,q.2.1,QL m s.sector.toNat q.2.2 m.Wear,⟨s.sector,s.slot+1⟩)
theorem Zon{r:ring_Recorder}{k:Nat}{m:api_Memory}{s:ring_spot}{data:List Int}{p:Int}{mems:List api_Memory}{spots:List ring_spot}(hm:mems[k]?=some m)(hs:spots[k]?=some s)(ok:MemOK m)(h1:0≤s.sector)(h2:s.sector<m.Sectors.length)(h3:0≤s.slot∧s.slot<m.Slots)(hd:data.length=96)(hp:0≤p∧p≤1000000000):
    ((idx spots (k : Int)).bind fun x => (idx mems (k : Int)).bind fun x2 => (idx x2.Sectors x.sector).bind fun x3 => (idx mems (k : Int)).bind fun x4 => (idx x2.Sectors x.sector).bind fun x5 => (apz 1 data ([0] : List Int)).bind fun l =>
      (QM x3 (i64 (16+(i64 (x.slot*97)))) l p).bind fun y3=>
      some (y3.1,y3.2.1,(ring_Recorder.mk (ring_bank.mk (mems.set (Int.toNat (k:Int)) (api_Memory.mk x2.Slots x2.Limit (x2.Sectors.set x.sector.toNat y3.2.2) x2.Wear x2.Bad)) (spots.set (Int.toNat (k:Int)) (ring_spot.mk x.sector (i64 (x.slot+1))))) r.copies r.frozen r.stopped r.last r.some_)))=
    some ((ZgK m s data p).1,(ZgK m s data p).2.1,⟨⟨mems.set k (ZgK m s data p).2.2.1,spots.set k (ZgK m s data p).2.2.2⟩,r.copies,r.frozen,r.stopped,r.last,r.some_⟩):=by
  have hsl:=ok.slots
  obtain⟨i,hi⟩:=Int.eq_ofNat_of_zero_le h1
  obtain⟨j,hj⟩:=Int.eq_ofNat_of_zero_le h3.1
  unfold ZgK
  rw [Zs hs,oB,Zs hm,oB,hi,hj]
  have hil:i<m.Sectors.length:=by omega
  have hrow:=row_bd ok hil (j:=j) (by omega)
  rw [Zs (XG hil []),oB,oB,oB,Zax (by simp;omega),oB]
  rw [show i64 ((j:Int)*97)=(j:Int)*97 from Zr (by omega) (by omega),show i64 (16+(j:Int)*97)=((16+j*97:Nat):Int) from(Zr (by omega) (by omega)).trans (by omega)]
  rw [Znq (by omega) (by rw [List.length_append];simp only [List.length_cons,List.length_nil];omega) hp,oB,show i64 ((j:Int)+1)=(j:Int)+1 from Zr (by omega) (by omega)]
  simp only [Int.toNat_natCast]
  rfl
def ZbE(m:api_Memory)(s:ring_spot)(data:List Int)(p:Int):Int×Bool×api_Memory×ring_spot:=
  if Zaa m s=true then
    if(Zeq m s p).2.1=true then ZgK (Zeq m s p).2.2.1 (Zeq m s p).2.2.2 data (Zeq m s p).1 else((Zeq m s p).1,false,(Zeq m s p).2.2.1,s)
  else ZgK m s data p
end Go.Vx

namespace Go.Vx
open Go Go.RowKit
structure WP (m m':api_Memory) (s':ring_spot) (all:Bool) (f:Vector Int 64):Prop where
  slots:m'.Slots=m.Slots
  n:m'.Sectors.length=m.Sectors.length
  ok:MemOK m'
  u8:memR m'
  at_:all=true→SpotOK m' s'
  kept: ∀ mi x,x∈keptM m' mi→x∈keptM m mi∨(all=true∧x.Frame=f)
theorem Zou{n j:Nat}(h:16+j*97+97≤n):slotL (List.replicate n (255:Int)) j=List.replicate 97 255:=by
  unfold slotL
  rw [List.take_replicate,List.drop_replicate]
  congr 1;omega
theorem Zpk{n k:Nat}(h:k<n):(List.replicate n (255:Int)).getD k 0=255:=by
  rw [gQ,List.getElem?_replicate,pG h];rfl
theorem ZrD(n:Nat):u8R (List.replicate n 255):=fun x hx=>by rw [List.eq_of_mem_replicate hx];omega
theorem Zp8{s:List Int}(h:u8R s):u8R (ZeH s):=fun x hx=>by
  rcases List.mem_append.1 hx with q |q
  · rw [List.eq_of_mem_replicate q];omega
  · exact h x (List.mem_of_mem_drop q)
theorem ZoC(s:List Int):(ZeH s).length=s.length:=by unfold ZeH;simp;omega
theorem Znm{s:List Int}(h:2≤s.length):(XZ (ZeH s)).2.2=false:=by
  unfold XZ
  split
  · rfl
  · simp only
    rw [nG]
    rintro⟨_,_,e⟩
    have this:((ZeH s).take 10).getD 0 0=(hdL (Zm1 ((ZeH s).getD 2 0) ((ZeH s).getD 3 0) ((ZeH s).getD 4 0) ((ZeH s).getD 5 0))).getD 0 0:=by rw [e]
    rw [gQ,List.getElem?_take_of_lt (by omega)] at this
    have e2:(ZeH s)[0]?=some 255:=by
      unfold ZeH
      rw [List.getElem?_append_left (by simp;omega),List.getElem?_replicate,pG (by omega)]
    rw [e2] at this
    simp [hdL] at this
theorem ZqD{m:api_Memory}(ok:MemOK m){i:Nat}(hi:i<m.Sectors.length)(hx:Zf5 m i=true):(m.Wear.set i (m.Wear.getD i 0+1)).length=m.Wear.length∧ ∀ x∈m.Wear.set i (m.Wear.getD i 0+1),0≤x∧x≤m.Limit:=by
  refine⟨List.length_set ..,fun x hx'=> ?_⟩
  unfold Zf5 at hx
  rw [Bool.and_eq_true] at hx
  have h1:=of_decide_eq_true hx.2
  rcases List.mem_or_eq_of_mem_set hx' with q |rfl
  · exact ok.wr x q
  · have:=ok.wr _ (Zbz (X:=m.Wear) (t:=i) (by have:=ok.wear;omega));omega
theorem ZpL{m:api_Memory}{s:ring_spot}(ok:MemOK m)(hR:memR m)(hx:0≤Zad m s.sector)(p:Int)(f:Vector Int 64):
    WP m (Zeq m s p).2.2.1 (Zeq m s p).2.2.2 (Zeq m s p).2.1 f∧(∀ mi x,x∈keptM (Zeq m s p).2.2.1 mi→x∈keptM m mi)∧((Zeq m s p).2.1=true→0≤(Zeq m s p).2.2.2.sector∧(Zeq m s p).2.2.2.slot=0):=by
  have hn:=ok.n
  obtain⟨b1,b2⟩:=ZkI hx (by omega)
  obtain⟨y,hy⟩:=Int.eq_ofNat_of_zero_le hx
  have hsl:=ok.slots
  unfold Zeq
  rw [hy] at b1 b2 ⊢
  simp only [Int.toNat_natCast] at b2 ⊢
  have hyl:y<m.Sectors.length:=by omega
  obtain⟨w1,w2⟩:=ZqD ok hyl b2
  have hrow:=ok.row _ (row_bd.getD_memL hyl)
  by_cases q:p=0
  · rw [pG q]
    have hS:(ZeH (m.Sectors.getD y [])).length=(m.Sectors.getD y []).length:=ZoC _
    have hu:=Zp8 (Zfi hR y)
    obtain⟨o',r'⟩:=Zi6 ok hR hyl hS hu w1 w2
    have kk: ∀ mi x,x∈keptM (QL m y (ZeH (m.Sectors.getD y [])) (m.Wear.set y (m.Wear.getD y 0+1))) mi→x∈keptM m mi:=fun mi x hx'=>by
      rcases ZhI ok hR hyl hS hu w1 w2 hx' with w | ⟨w,_⟩
      · exact w
      · rw [Znm (by omega)] at w;cases w
    exact⟨⟨rfl,by simp [QL],o',r',(fun h=>by cases h),fun mi x hx'=> .inl (kk mi x hx')⟩,kk,fun h=>by cases h⟩
  · rw [nG q]
    have hout: ∀ k,10≤k→k<(m.Sectors.getD y []).length→(Q5 (List.replicate (m.Sectors.getD y []).length 255) 0 (hdL (Zcy m (y:Int))) (p-1)).2.2.getD k 0=255:=fun k h1 h2=>by
      rw [Zhs _ _ _ _ _ (.inr (by simp only [hdL,List.length_cons,List.length_nil];omega)),Zpk h2]
    have hlen:=Zhb (hdL (Zcy m (y:Int))) (List.replicate (m.Sectors.getD y []).length 255) 0 (p-1)
    have hu:=Zkm (hdL (Zcy m (y:Int))) (List.replicate (m.Sectors.getD y []).length 255) 0 (p-1) (ZrD _)
    generalize Q5 (List.replicate (m.Sectors.getD y []).length 255) 0 (hdL (Zcy m (y:Int))) (p-1)=P at hout hlen hu
    rw [List.length_replicate] at hlen
    obtain⟨o',r'⟩:=Zi6 ok hR hyl hlen hu w1 w2
    have free: ∀ j:Nat,(j:Int)<m.Slots→slotL P.2.2 j=List.replicate 97 255:=fun j hj=>by
      have hb:16+j*97+97≤(m.Sectors.getD y []).length:=by omega
      rw [Zh7 (t:=List.replicate (m.Sectors.getD y []).length 255) (by rw [hlen,List.length_replicate]) (by omega) (fun k h1 h2=>by rw [hout k (by omega) (by omega),Zpk (by omega)]),Zou hb]
    have kk: ∀ mi x,x∈keptM (QL m y P.2.2 (m.Wear.set y (m.Wear.getD y 0+1))) mi→x∈keptM m mi:=fun mi x hx'=>by
      rcases ZhI ok hR hyl hlen hu w1 w2 hx' with w | ⟨_,_,j,j1,j2,_⟩
      · exact w
      · rw [free j j1] at j2
        have:stV (List.replicate 97 255)=0:=by decide
        rw [this] at j2;cases j2
    refine⟨⟨rfl,by simp [QL],o',r',fun h=> ?_,fun mi x hx'=> .inl (kk mi x hx')⟩,kk,fun h=> ?_⟩
    · rw [show P.2.1=true from h,cond_true]
      refine⟨.inr ⟨by simp only;omega,by simp only [QL,List.length_set];omega⟩,⟨Int.le_refl _,by simp only [QL];omega⟩,fun _ j _ hj=> ?_⟩
      simp only [Int.toNat_natCast]
      rw [show(QL m y P.2.2 (m.Wear.set y (m.Wear.getD y 0+1))).Sectors.getD y []=P.2.2 from(ZeT hyl).trans (by rw [pG rfl])]
      exact free j hj
    · rw [show P.2.1=true from h,cond_true];exact⟨by simp only;omega,rfl⟩
theorem ZoL{d e:List Int}(hd:d.length=96){i:Nat}(hi:i<64):ZjH (d++e) i=ZjH d i:=by
  have g: ∀ k,k<96→(d++e).getD k 0=d.getD k 0:=fun k hk=>by
    rw [gQ,List.getElem?_append_left (by omega),←gQ]
  unfold ZjH
  rw [g _ (by omega),g _ (by omega),g _ (by omega)]
theorem Zpp{b:Int}(h:0≤b∧b≤255):QD .u8 255 b=b:=by
  have key:(List.range 256).all (fun n=>decide (QD .u8 255 (n:Int)=(n:Int)))=true:=by decide+kernel
  obtain⟨n,rfl⟩:=Int.eq_ofNat_of_zero_le h.1
  exact of_decide_eq_true (List.all_eq_true.1 key n (List.mem_range.2 (by omega)))
theorem Zpq{m:api_Memory}{s:ring_spot}(ok:MemOK m)(hR:memR m)(hs:SpotOK m s)(h1:0≤s.sector)(h3:s.slot<m.Slots){data:List Int}(hd:data.length=96)(hu:u8R data)(p:Int):
    WP m (ZgK m s data p).2.2.1 (ZgK m s data p).2.2.2 (ZgK m s data p).2.1 (Znr (ZjH data)):=by
  have hn:=ok.n
  have hsl:=ok.slots
  have h2:s.sector<m.Sectors.length:=by
    rcases hs.sec with w |w
    · omega
    · exact w.2
  have hfree:=hs.free h1
  have hslot:=hs.slot
  unfold ZgK
  generalize hsec:s.sector=sec at*
  generalize hslt:s.slot=slt at*
  obtain⟨i,rfl⟩:=Int.eq_ofNat_of_zero_le h1
  obtain⟨j,rfl⟩:=Int.eq_ofNat_of_zero_le hslot.1
  simp only [Int.toNat_natCast] at hfree ⊢
  have hil:i<m.Sectors.length:=by omega
  have hrow:=ok.row _ (row_bd.getD_memL hil)
  have hfj:=hfree j (Int.le_refl _) h3
  have hdl:(data++ [(0:Int)]).length=97:=by rw [List.length_append,hd];rfl
  have hlen:=Zhb (data++ [0]) (m.Sectors.getD i []) (16+j*97) p
  have hpu:=Zkm (data++ [0]) (m.Sectors.getD i []) (16+j*97) p (Zfi hR i)
  have hout: ∀ k,k<16+j*97∨16+j*97+97≤k→(Q5 (m.Sectors.getD i []) (16+j*97) (data++ [0]) p).2.2.getD k 0=(m.Sectors.getD i []).getD k 0:=fun k hk=>Zhs _ _ _ _ _ (by rw [hdl];exact hk)
  have old: ∀ t,t<97→(m.Sectors.getD i []).getD (16+j*97+t) 0=255:=fun t ht=>by
    rw [←ZiM (by omega) ht,hfj,Zpk ht]
  have hin:=Zoj (data++ [0]) (m.Sectors.getD i []) (16+j*97) p (by rw [hdl];omega)
  have hlast:=ZlD data (m.Sectors.getD i []) 0 (16+j*97) p (by omega)
  rw [hd] at hlast
  generalize Q5 (m.Sectors.getD i []) (16+j*97) (data++ [0]) p=P at hlen hpu hout hin hlast
  have hw: ∀ x∈m.Wear,0≤x∧x≤m.Limit:=ok.wr
  obtain⟨o',r'⟩:=Zi6 ok hR hil hlen hpu rfl hw
  have oth: ∀ k:Nat,(k:Int)<m.Slots→k≠j→slotL P.2.2 k=slotL (m.Sectors.getD i []) k:=fun k hk hkj=>by
    refine Zh7 hlen (by omega) fun z z1 z2=>hout z ?_
    rcases Nat.lt_or_ge k j with w |w
    · left;omega
    · right;omega
  have hhead:=ZkJ (s:=P.2.2) (t:=m.Sectors.getD i []) hlen (fun k hk=>hout k (.inl (by omega)))
  refine⟨rfl,by simp [QL],o',r',fun hall=> ?_,fun mi x hx=> ?_⟩
  · refine⟨.inr ⟨by simp only;omega,by simp only [QL,List.length_set];omega⟩,⟨by simp only;omega,by simp only [QL];omega⟩,fun _ k hk hks=> ?_⟩
    simp only [Int.toNat_natCast] at hk ⊢
    rw [show(QL m i P.2.2 m.Wear).Sectors.getD i []=P.2.2 from(ZeT hil).trans (by rw [pG rfl])]
    have hks':(k:Int)<m.Slots:=hks
    rw [oth k hks' (by omega)]
    exact hfree k (by omega) hks'
  · rcases ZhI ok hR hil hlen hpu rfl hw hx with w | ⟨w1,w2,k,k1,k2,rfl⟩
    · exact .inl w
    · by_cases e:k=j
      · subst e
        cases hall:P.2.1 with
        |true=>
          right
          refine⟨rfl,?_⟩
          have hS:slotL P.2.2 k=data++ [0]:=by
            refine Zgm (by rw [ZdY (by omega),hdl]) fun t ht=> ?_
            rw [ZdY (by omega)] at ht
            rw [ZiM (by omega) ht,hin hall t (by omega),old t ht,Zpp]
            rcases Nat.lt_or_ge t 96 with q |q
            · rw [gQ,List.getElem?_append_left (by omega),←gQ];exact Zh3 hu t
            · obtain rfl:t=96:=by omega
              rw [gQ,List.getElem?_append_right (by omega),hd];simp
          have hF:frV P.2.2 k=Znr (ZjH data):=by
            unfold frV
            rw [hS]
            exact Zsa fun z hz=>by rw [ZnW _ hz,ZnW _ hz,ZoL hd hz]
          simp only
          exact hF
        |false=>
          have h96:(slotL P.2.2 k).getD 96 0≠0:=by
            rw [ZiM (by omega) (by omega)]
            have o96:=old 96 (by omega)
            rcases hlast hall with q |q
            · rw [q,o96];decide
            · rw [q,o96];decide
          unfold stV at k2
          rw [nG h96] at k2
          split at k2<;>simp at k2
      · left
        rw [oth k k1 e] at k2
        refine(ZhF hR ok).2 ⟨i,hil,?_,k,k1,k2,?_⟩
        · unfold okM
          rw [w2,←hhead.2,w1];rfl
        · have hF:frV P.2.2 k=frV (m.Sectors.getD i []) k:=by unfold frV;rw [oth k k1 e]
          rw [hhead.1,hF]
theorem ZoK{α:Type}{l:List α}{k:Nat}{x:α}(h:l[k]?=some x):l.set k x=l:=by
  refine List.ext_getElem? fun j=> ?_
  rw [List.getElem?_set]
  split
  · rename_i e
    subst e
    rw [pG (List.getElem?_eq_some_iff.1 h).1,h]
  · rfl
theorem Zpn{m:api_Memory}{s:ring_spot}{p:Int}(hp:0≤p):0≤(Zeq m s p).1∧(Zeq m s p).1≤p:=by
  unfold Zeq
  simp only
  split
  · exact⟨Int.le_refl _,by simp only;omega⟩
  · have:=Zfl (hdL (Zcy m (Zad m s.sector))) (List.replicate (m.Sectors.getD (Zad m s.sector).toNat []).length 255) 0 (p-1) (by omega)
    exact⟨this.1,by simp only;omega⟩
theorem ZqG{r:ring_Recorder}{k:Nat}{m:api_Memory}{s:ring_spot}(hm:r.bank.memories[k]?=some m)(hs:r.bank.spots[k]?=some s)(hR:memR m)(ok:MemOK m)(hsp:SpotOK m s)
    (hl:Zaa m s=true→0≤Zad m s.sector∧Zcy m (Zad m s.sector)≤1073741824) {data:List Int} (hd:data.length=96) (hu:u8R data) {p:Int} (hp:0≤p∧p≤1000000000):
    Jz r (k:Int) data p=some ((ZbE m s data p).1,(ZbE m s data p).2.1,⟨⟨r.bank.memories.set k (ZbE m s data p).2.2.1,r.bank.spots.set k (ZbE m s data p).2.2.2⟩,r.copies,r.frozen,r.stopped,r.last,r.some_⟩)∧
    WP m (ZbE m s data p).2.2.1 (ZbE m s data p).2.2.2 (ZbE m s data p).2.1 (Znr (ZjH data))∧0≤(ZbE m s data p).1∧(ZbE m s data p).1≤p:=by
  have hkl:=(List.getElem?_eq_some_iff.1 hm).1
  have hks:=(List.getElem?_eq_some_iff.1 hs).1
  have hsec: -1≤s.sector∧s.sector<m.Sectors.length:=by
    have:=ok.n
    rcases hsp.sec with w |w<;>omega
  unfold Jz ZbE
  rw [Zm0 hm hs,oB]
  by_cases h:Zaa m s=true
  · obtain⟨x1,x2⟩:=hl h
    obtain⟨a1,a2,a3⟩:=ZpL ok hR x1 p (Znr (ZjH data))
    have a4:=Zpn (m:=m) (s:=s) hp.1
    rw [pG h,pG h,Zta hm hs hR ok hsec.1 hsec.2 x1 x2 hp,oB]
    generalize Zeq m s p=A at a1 a2 a3 a4
    cases hA:A.2.1 with
    |true=>
      obtain⟨c1,c2⟩:=a3 hA
      have sp:=a1.at_ hA
      simp only [Bool.not_true,Bool.false_eq_true,if_false,if_true,oB,Sum.elim_inr,ZlQ,upd]
      have hsl:=a1.ok.slots
      have c3:A.2.2.2.sector<A.2.2.1.Sectors.length:=by
        rcases sp.sec with w |w
        · omega
        · exact w.2
      have g1:(r.bank.memories.set k A.2.2.1)[k]?=some A.2.2.1:=List.getElem?_set_self hkl
      have g2:(r.bank.spots.set k A.2.2.2)[k]?=some A.2.2.2:=List.getElem?_set_self hks
      have pe:=Zon (r:=r) (p:=A.1) (data:=data) g1 g2 a1.ok c1 c3 ⟨by omega,by omega⟩ hd (by omega)
      refine⟨?_,?_,?_⟩
      · refine pe.trans ?_
        rw [List.set_set,List.set_set]
      · have wp:=Zpq a1.ok a1.u8 sp c1 (by omega) hd hu A.1
        exact⟨wp.slots.trans a1.slots,wp.n.trans a1.n,wp.ok,wp.u8,wp.at_,fun mi x hx=>by
          rcases wp.kept mi x hx with w |w
          · exact .inl (a2 mi x w)
          · exact .inr w⟩
      · have:=Zfl (data++ [0]) (A.2.2.1.Sectors.getD A.2.2.2.sector.toNat []) (16+A.2.2.2.slot.toNat*97) A.1 a4.1
        unfold ZgK
        exact⟨this.1,by simp only;omega⟩
    |false=>
      simp only [Bool.not_false,if_true,Bool.false_eq_true,if_false,oB,Sum.elim_inl,upd]
      refine⟨by rw [ZoK hs],⟨a1.slots,a1.n,a1.ok,a1.u8,(fun w=>by cases w),fun mi x hx=> .inl (a2 mi x hx)⟩,a4⟩
  · rw [nG h,nG h]
    simp only [oB,Sum.elim_inr,ZlQ]
    have hh: ¬s.sector<0∧ ¬s.slot=m.Slots:=by
      unfold Zaa at h
      rw [Bool.or_eq_true,decide_eq_true_eq,decide_eq_true_eq] at h
      exact⟨fun w=>h (.inl w),fun w=>h (.inr w)⟩
    have hb:=hsp.slot
    refine⟨Zon hm hs ok (by omega) hsec.2 ⟨hb.1,by omega⟩ hd hp,Zpq ok hR hsp (by omega) (by omega) hd hu p,?_⟩
    have:=Zfl (data++ [0]) (m.Sectors.getD s.sector.toNat []) (16+s.slot.toNat*97) p hp.1
    exact this
end Go.Vx

namespace Go.Vx
open Go Go.RowKit
def rbV(v:Vector Int 96)(t:Nat):Int:=v.toList.getD t 0
theorem Zkf(v:Vector Int 96){k:Nat}(hk:k<96)(x:Int)(t:Nat):rbV (ZaB v (k:Int) x) t=if t=k then x else rbV v t:=by
  unfold rbV
  rw [ZlN,Int.toNat_natCast,gQ,List.getElem?_set,gQ]
  by_cases h:t=k
  · subst h;rw [pG rfl,pG (by simpa using hk),pG rfl];rfl
  · rw [nG (fun q=>h q.symm),nG h]
theorem ZkD(v:Vector Int 96){k:Nat}(hk:k<96):ZY v (k:Int)=some (rbV v k):=Zmc (by unfold rbV;exact XG (by simpa using hk) 0)
def bS(f:Vector Int 64)(i t:Nat):Int:=
  if t % 3=0 then(if 2*(t/3)<i then wd f (2*(t/3))/16 else 0) else
  if t % 3=1 then(if 2*(t/3)<i then wd f (2*(t/3)) % 16*16 else 0)+(if 2*(t/3)+1<i then wd f (2*(t/3)+1)/256 else 0) else
  (if 2*(t/3)+1<i then wd f (2*(t/3)+1) % 256 else 0)
theorem Zsp:(List.range 4096).all (fun n=>decide (QD .u16 (n:Int) 15=((n % 16:Nat):Int)))=true:=by decide+kernel
theorem sb1{w:Int}(h:0≤w∧w≤4095):QD .u16 w 15=w % 16:=by
  obtain⟨x,rfl⟩:=Int.eq_ofNat_of_zero_le h.1
  exact(of_decide_eq_true (List.all_eq_true.1 Zsp x (List.mem_range.2 (by omega)))).trans (by omega)
theorem Zq6:(List.range 256).all (fun n=>decide (bor .u8 (n:Int) (QD .u8 0 15)=(n:Int))&&decide (bor .u8 (QD .u8 ((n/16*16:Nat):Int) 240) ((n % 16:Nat):Int)=(n:Int)))=true:=by decide+kernel
theorem sb2{x:Int}(h:0≤x∧x≤255):bor .u8 x (QD .u8 0 15)=x:=by
  obtain⟨x,rfl⟩:=Int.eq_ofNat_of_zero_le h.1
  have:=List.all_eq_true.1 Zq6 x (List.mem_range.2 (by omega))
  rw [Bool.and_eq_true] at this
  exact of_decide_eq_true this.1
theorem sb3{a b:Int}(ha:0≤a∧a≤15)(hb:0≤b∧b≤15):bor .u8 (QD .u8 (a*16) 240) b=a*16+b:=by
  obtain⟨a,rfl⟩:=Int.eq_ofNat_of_zero_le ha.1
  obtain⟨b,rfl⟩:=Int.eq_ofNat_of_zero_le hb.1
  have h:=List.all_eq_true.1 Zq6 (a*16+b) (List.mem_range.2 (by omega))
  rw [Bool.and_eq_true] at h
  have h:=of_decide_eq_true h.2
  rw [show(a*16+b)/16*16=a*16 by omega,show(a*16+b) % 16=b by omega,show((a*16:Nat):Int)=(a:Int)*16 by omega,show((a*16+b:Nat):Int)=(a:Int)*16+b by omega] at h
  exact h
theorem bS0(f:Vector Int 64)(i k:Nat):bS f i (3*k)=if 2*k<i then wd f (2*k)/16 else 0:=by
  unfold bS
  rw [pG (by omega),show 3*k/3=k by omega]
theorem bS1(f:Vector Int 64)(i k:Nat):bS f i (3*k+1)=(if 2*k<i then wd f (2*k) % 16*16 else 0)+(if 2*k+1<i then wd f (2*k+1)/256 else 0):=by
  unfold bS
  rw [nG (by omega),pG (by omega),show(3*k+1)/3=k by omega]
theorem bS2(f:Vector Int 64)(i k:Nat):bS f i (3*k+2)=if 2*k+1<i then wd f (2*k+1) % 256 else 0:=by
  unfold bS
  rw [nG (by omega),nG (by omega),show(3*k+2)/3=k by omega]
theorem three(t:Nat): ∃ k,t=3*k∨t=3*k+1∨t=3*k+2:=⟨t/3,by omega⟩
theorem ZoS{f:Vector Int 64}(hf:fN f){v:Vector Int 96}{i:Nat}(hi:i<64)(hI: ∀ t,t<96→rbV v t=bS f i t):
    ∃ v',JI v (i:Int) (wd f i)=some v'∧ ∀ t,t<96→rbV v' t=bS f (i+1) t:=by
  have hw:=hf i
  unfold JI
  rw [Zs3 (by omega),oB,Ztm,oB]
  obtain⟨k,hk⟩: ∃ k,i=2*k∨i=2*k+1:=⟨i/2,by omega⟩
  have ek:i/2=k:=by omega
  rw [ek]
  have e1:i64 ((k:Int)*3)=((3*k:Nat):Int):=(Zr (by omega) (by omega)).trans (by omega)
  have e2:i64 (((3*k:Nat):Int)+1)=((3*k+1:Nat):Int):=(Zr (by omega) (by omega)).trans (by omega)
  have e3:i64 (((3*k:Nat):Int)+2)=((3*k+2:Nat):Int):=(Zr (by omega) (by omega)).trans (by omega)
  rw [e1,e2,e3]
  have k0:3*k<96:=by omega
  have k1:3*k+1<96:=by omega
  have k2:3*k+2<96:=by omega
  rcases hk with rfl |rfl
  · have s1:shr .u16 (wd f (2*k)) 4=some (wd f (2*k)/16):=ZlV (wd f (2*k)) (k:=4) (by omega)
    have s2:shl .u16 (wd f (2*k) % 16) 4=some (wd f (2*k) % 16*16):=by
      unfold shl
      rw [nG (by decide)]
      show some (IntKind.u16.wrap (wd f (2*k) % 16*2^4))=_
      rw [show IntKind.u16.wrap (wd f (2*k) % 16*2^4)=(wd f (2*k) % 16*2^4) % 65536 from rfl]
      congr 1;omega
    have o1':rbV v (3*k+1)=0:=by
      rw [hI _ k1,bS1,nG (by omega),nG (by omega)];rfl
    rw [pG (by simp),s1,oB,ZkD v k1,oB,ZkD v k0,oB,sb1 hw,s2,oB]
    have u1:u8 (wd f (2*k)/16)=wd f (2*k)/16:=by rw [u8m];omega
    have u2:u8 (wd f (2*k) % 16*16)=wd f (2*k) % 16*16:=by rw [u8m];omega
    rw [u1,u2,ZkD (ZaB v ((3*k:Nat):Int) (wd f (2*k)/16)) k1,oB,o1',sb2 (by omega)]
    refine⟨_,rfl,fun t ht=> ?_⟩
    rw [Zkf _ k1,Zkf v k0 _ t]
    obtain⟨q,rfl |rfl |rfl⟩:=three t
    · rw [nG (by omega),bS0]
      by_cases e:q=k
      · subst e;rw [pG rfl,pG (by omega)]
      · rw [nG (by omega),hI _ ht,bS0]
        have c:(2*q<2*k)↔(2*q<2*k+1):=by omega
        simp only [c]
    · rw [bS1]
      by_cases e:q=k
      · subst e;rw [pG rfl,pG (by omega),nG (by omega),Int.add_zero]
      · rw [nG (by omega),nG (by omega),hI _ ht,bS1]
        have c:(2*q<2*k)↔(2*q<2*k+1):=by omega
        have c':(2*q+1<2*k)↔(2*q+1<2*k+1):=by omega
        simp only [c,c']
    · rw [nG (by omega),nG (by omega),hI _ ht,bS2,bS2]
      have c':(2*q+1<2*k)↔(2*q+1<2*k+1):=by omega
      simp only [c']
  · have s1:shr .u16 (wd f (2*k+1)) 8=some (wd f (2*k+1)/256):=ZlV (wd f (2*k+1)) (k:=8) (by omega)
    have hp:=hf (2*k)
    have o1':rbV v (3*k+1)=wd f (2*k) % 16*16:=by
      rw [hI _ k1,bS1,pG (by omega),nG (by omega),Int.add_zero]
    have u1:u8 (wd f (2*k+1)/256)=wd f (2*k+1)/256:=by rw [u8m];omega
    rw [nG (by rw [decide_eq_true_eq];omega),ZkD v k1,oB,s1,oB,oB,ZkD _ k2,oB,o1',u1,sb3 (by omega) (by omega),show u8 (wd f (2*k+1))=wd f (2*k+1) % 256 from u8m _]
    refine⟨_,rfl,fun t ht=> ?_⟩
    rw [Zkf _ k2,Zkf v k1 _ t]
    obtain⟨q,rfl |rfl |rfl⟩:=three t
    · rw [nG (by omega),nG (by omega),hI _ ht,bS0,bS0]
      have c:(2*q<2*k+1)↔(2*q<2*k+1+1):=by omega
      simp only [c]
    · rw [nG (by omega),bS1]
      by_cases e:q=k
      · subst e;rw [pG rfl,pG (by omega),pG (by omega)]
      · rw [nG (by omega),hI _ ht,bS1]
        have c:(2*q<2*k+1)↔(2*q<2*k+1+1):=by omega
        have c':(2*q+1<2*k+1)↔(2*q+1<2*k+1+1):=by omega
        simp only [c,c']
    · rw [bS2]
      by_cases e:q=k
      · subst e;rw [pG rfl,pG (by omega)]
      · rw [nG (by omega),nG (by omega),hI _ ht,bS2]
        have c':(2*q+1<2*k+1)↔(2*q+1<2*k+1+1):=by omega
        simp only [c']
def QV(f:Vector Int 64):List Int:=(List.range 96).map fun t=>bS f 64 t
theorem Zmp(f:Vector Int 64){t:Nat}(h:t<96):(QV f).getD t 0=bS f 64 t:=by
  unfold QV
  rw [gQ,List.getElem?_map,List.getElem?_range h];rfl
theorem ZdF(f:Vector Int 64):(QV f).length=96:=by simp [QV]
theorem ZsO{f:Vector Int 64}(hf:fN f)(t:Nat):0≤bS f 64 t∧bS f 64 t≤255:=by
  have h1:=hf (2*(t/3))
  have h2:=hf (2*(t/3)+1)
  unfold bS
  split
  · split<;>omega
  · split
    · split<;>split<;>omega
    · split<;>omega
theorem ZoQ{f:Vector Int 64}(hf:fN f):u8R (QV f):=fun x hx=>by
  obtain⟨t,ht,rfl⟩:=List.mem_map.1 hx
  exact ZsO hf t
theorem ZoN{f:Vector Int 64}(hf:fN f):Zaz f=some (QV f,0):=by
  unfold Zaz
  have hnb:Za4 f=true:=List.all_eq_true.2 fun k _=>by unfold Xy;exact decide_eq_true (hf k).2
  rw [Zr8,hnb,oB,nG (by decide)]
  unfold ZdR
  obtain⟨v,v1,v2⟩:=Zd2 (body:=Zay f) (s0:=Vector.replicate 96 (0:Int)) (N:=64) (fun i v=> ∀ t,t<96→rbV v t=bS f i t) (fun v=> ∀ t,t<96→rbV v t=bS f 64 t) (fun i v hi hI=> .inl (by
    obtain⟨v',w1,w2⟩:=ZoS hf hi hI
    refine⟨v',?_,w2⟩
    unfold Zay
    rw [pG (by simp;omega),JK f hi,oB,w1,oB,show i64 ((i:Int)+1)=(i:Int)+1 from Zr (by omega) (by omega)])) (fun v hI=>⟨v,by unfold Zay;rw [nG (by decide)],hI⟩) (fun t ht=>by
    have:rbV (Vector.replicate 96 (0:Int)) t=0:=by
      have e:(Vector.replicate 96 (0:Int)).toList=List.replicate 96 0:=rfl
      unfold rbV
      rw [e,gQ,List.getElem?_replicate,pG ht];rfl
    rw [this]
    unfold bS
    split
    · rw [nG (by omega)]
    · split
      · rw [nG (by omega),nG (by omega)];rfl
      · rw [nG (by omega)])
  rw [v1,oB]
  have hv:v.toList=QV f:=Zgm (by rw [ZdF];simp) fun t ht=>by
    have ht':t<96:=by simpa using ht
    rw [Zmp f ht'];exact v2 t ht'
  rw [hv,show slc (QV f) 0 96=some (QV f) from(Zhn (a:=0) (b:=96) (by omega) (by rw [ZdF];omega)).trans (by rw [List.take_of_length_le (by rw [ZdF];omega),List.drop_zero]),oB]
end Go.Vx

namespace Go.Vx
open Go Go.RowKit
structure BankJ (mems:List api_Memory) (spots:List ring_spot):Prop where
  n:1≤mems.length∧mems.length≤8
  ok: ∀ m∈mems,MemOK m
  u8: ∀ m∈mems,memR m
  len:spots.length=mems.length
def BankA(mems:List api_Memory)(spots:List ring_spot):Prop:= ∀ k,k<mems.length→SpotOK (mems.getD k dfM) (spots.getD k dfS)
structure RecJ (r:ring_Recorder):Prop where
  b:BankJ r.bank.memories r.bank.spots
  a:r.stopped=false→BankA r.bank.memories r.bank.spots
  cp:1≤r.copies∧r.copies≤r.bank.memories.length
theorem ZpJ{l:List api_Memory}{k:Nat}(h:k<l.length):l[k]?=some (l.getD k dfM):=(ZmK h).2
theorem Znp{l:List ring_spot}{k:Nat}(h:k<l.length):l[k]?=some (l.getD k dfS):=by
  rw [gQ,List.getElem?_eq_getElem h];rfl
theorem Zgb{α:Type}{l:List α}{i k:Nat}{x d:α}(hi:i<l.length):(l.set i x).getD k d=if k=i then x else l.getD k d:=by
  rw [gQ,List.getElem?_set]
  by_cases e:i=k
  · subst e;rw [pG rfl,pG hi,pG rfl];rfl
  · rw [nG e,nG (fun q=>e q.symm),gQ]
theorem BankJ.set{mems:List api_Memory}{spots:List ring_spot}(h:BankJ mems spots){k:Nat}{m':api_Memory}(ok:MemOK m')(u:memR m'){spots':List ring_spot}(hl:spots'.length=spots.length):BankJ (mems.set k m') spots':=by
  refine⟨by rw [List.length_set];exact h.n,fun m hm=> ?_,fun m hm=> ?_,by rw [List.length_set,hl];exact h.len⟩
  · rcases List.mem_or_eq_of_mem_set hm with q |rfl
    · exact h.ok m q
    · exact ok
  · rcases List.mem_or_eq_of_mem_set hm with q |rfl
    · exact h.u8 m q
    · exact u
theorem ZrQ{f:Vector Int 64}(hf:fU f)(h:ZnE f=true):fN f∧JJ f=some (Znb f)∧0≤(Znb f).1∧(Znb f).1≤4194303:=by
  unfold ZnE at h
  rw [Bool.and_eq_true] at h
  have hn:fN f:=fun i=>by
    refine⟨(hf i).1,?_⟩
    by_cases hi:i<64
    · exact Zjp h.1 i hi
    · have:wd f i=0:=by
        unfold wd
        rw [gQ,List.getElem?_eq_none (by simp;omega)];rfl
      omega
  refine⟨hn,(Zng hf (hn 1).2 (hn 2).2).1,?_⟩
  have:=ZlX f
  unfold Znb
  split
  · simp only;omega
  · simp
def tgV(a c n:Nat):List Int:=(List.range c).map fun k=>(((a+k) % n:Nat):Int)
theorem ZlI{a c n:Nat}(h1:a≤4194303)(h2:1≤n∧n≤8)(h3:1≤c∧c≤n):Zak (a:Int) (n:Int) (c:Int)=some (tgV a c n):=by
  unfold Zak
  rw [Zti (number:=(a:Int)) (memories:=(n:Int)) (copies:=(c:Int)) ⟨by omega,by omega⟩ ⟨by omega,by omega⟩ ⟨by omega,by omega⟩]
  rfl
theorem ZnC{a c n k:Nat}(h:k<c):(tgV a c n)[k]?=some (((a+k) % n:Nat):Int):=by
  unfold tgV
  rw [List.getElem?_map,List.getElem?_range h];rfl
theorem ZrC{a n i j:Nat}(hi:i<n)(hj:j<n)(h:(a+i) % n=(a+j) % n):i=j:=by
  rcases Nat.lt_trichotomy i j with w |w |w
  · have:=Nat.sub_mod_eq_zero_of_mod_eq h.symm
    rw [show a+j-(a+i)=j-i by omega,Nat.mod_eq_of_lt (by omega)] at this
    omega
  · exact w
  · have:=Nat.sub_mod_eq_zero_of_mod_eq h
    rw [show a+i-(a+j)=i-j by omega,Nat.mod_eq_of_lt (by omega)] at this
    omega
def Znk(m:api_Memory)(s:ring_spot):Prop:=Zaa m s=true→0≤Zad m s.sector∧Zcy m (Zad m s.sector)≤1073741824
theorem Zkd{m:api_Memory}{s:ring_spot}(ok:MemOK m)(h:SpotOK m s): -1≤s.sector∧s.sector<m.Sectors.length:=by
  have:=ok.n
  rcases h.sec with w |w<;>omega
end Go.Vx

namespace Go.Vx
open Go Go.RowKit
theorem Zsr{m:api_Memory}{s:ring_spot}(ok:MemOK m)(hR:memR m)(hs:SpotOK m s)(h1:0≤s.sector)(p:Int):
    MemOK (QL m s.sector.toNat (Q5 (m.Sectors.getD s.sector.toNat []) 10 [0] p).2.2 m.Wear)∧memR (QL m s.sector.toNat (Q5 (m.Sectors.getD s.sector.toNat []) 10 [0] p).2.2 m.Wear)∧
    SpotOK (QL m s.sector.toNat (Q5 (m.Sectors.getD s.sector.toNat []) 10 [0] p).2.2 m.Wear) s∧
    ∀ mi x,x∈keptM (QL m s.sector.toNat (Q5 (m.Sectors.getD s.sector.toNat []) 10 [0] p).2.2 m.Wear) mi→x∈keptM m mi:=by
  have hb:=Zkd ok hs
  obtain⟨i,hi⟩:=Int.eq_ofNat_of_zero_le h1
  rw [hi]
  simp only [Int.toNat_natCast]
  have hil:i<m.Sectors.length:=by omega
  have hrow:=ok.row _ (row_bd.getD_memL hil)
  have hsl:=ok.slots
  have hlen:=Zhb [0] (m.Sectors.getD i []) 10 p
  have hpu:=Zkm [0] (m.Sectors.getD i []) 10 p (Zfi hR i)
  have hout: ∀ k,k<10∨11≤k→(Q5 (m.Sectors.getD i []) 10 [0] p).2.2.getD k 0=(m.Sectors.getD i []).getD k 0:=fun k hk=>Zhs _ _ _ _ _ (by simpa using hk)
  generalize Q5 (m.Sectors.getD i []) 10 [0] p=P at hlen hpu hout
  obtain⟨o',r'⟩:=Zi6 ok hR hil hlen hpu rfl ok.wr
  have oth: ∀ k:Nat,(k:Int)<m.Slots→slotL P.2.2 k=slotL (m.Sectors.getD i []) k:=fun k hk=>Zh7 hlen (by omega) fun z z1 z2=>hout z (.inr (by omega))
  have hhead:=ZkJ (s:=P.2.2) (t:=m.Sectors.getD i []) hlen (fun k hk=>hout k (.inl hk))
  refine⟨o',r',⟨by simpa [QL] using hs.sec,hs.slot,fun hz j hj hjs=> ?_⟩,fun mi x hx=> ?_⟩
  · have hjs':(j:Int)<m.Slots:=hjs
    have:=hs.free h1 j hj hjs'
    rw [hi] at this ⊢
    simp only [Int.toNat_natCast] at this ⊢
    rw [show(QL m i P.2.2 m.Wear).Sectors.getD i []=P.2.2 from(ZeT hil).trans (by rw [pG rfl]),oth j hjs']
    exact this
  · rcases ZhI ok hR hil hlen hpu rfl ok.wr hx with w | ⟨w1,w2,k,k1,k2,rfl⟩
    · exact w
    · rw [oth k k1] at k2
      have hF:frV P.2.2 k=frV (m.Sectors.getD i []) k:=by unfold frV;rw [oth k k1]
      refine(ZhF hR ok).2 ⟨i,hil,?_,k,k1,k2,by rw [hhead.1,hF]⟩
      unfold okM
      rw [w2,←hhead.2,w1];rfl
end Go.Vx

namespace Go.Vx
open Go Go.RowKit
def pk(Z:List Int):List Int:=(List.range ((Z.length+1)/2)).map fun k=>16*Z.getD (2*k) 0+Z.getD (2*k+1) 0
theorem u8w{z:Int}(h1:0≤z)(h2:z≤255):u8 z=z:=by
  unfold u8 IntKind.wrap
  have e:(2:Int)^IntKind.u8.bits=256:=by decide
  have e2:IntKind.u8.signed=false:=rfl
  simp only [e,e2]
  simp
  omega
end Go.Vx

namespace Go.Vx
open Go Go.RowKit
end Go.Vx

namespace Go.Vx
open Go Go.RowKit
end Go.Vx

namespace Go.Vx
open Go Go.RowKit
end Go.Vx

namespace Go.Vx
open Go Go.RowKit
def hf(f:Vector Int 64)(n:Nat):Int:=wd f (n/3)/(2:Int)^(8-4*(n % 3)) % 16
theorem Zre(f:Vector Int 64)(n:Nat):0≤hf f n∧hf f n≤15:=by unfold hf;omega
def hfL(f:Vector Int 64):List Int:=(List.range 192).map (hf f)
theorem ZnP(f:Vector Int 64):(hfL f).length=192:=by unfold hfL;rw [lM,List.length_range]
theorem ZnL(f:Vector Int 64){n:Nat}(hn:n<192):(hfL f).getD n 0=hf f n:=by
  unfold hfL
  rw [gQ,List.getElem?_map,List.getElem?_range hn];rfl
theorem ZmJ(x:Int):QD .i64 x 15=x % 16:=Zks (v:=x) (n:=4) (by decide)
theorem ZpG{f:Vector Int 64}(h:fU f){n:Nat}(hn:n<192):ZeU f (n:Int)=some (hf f n):=by
  have hw:=h (n/3)
  unfold ZeU
  have e1:quo .i64 (n:Int) 3=some ((n/3:Nat):Int):=by
    unfold quo
    rw [nG (by decide),Int.tdiv_eq_ediv_of_nonneg (by omega),w64 (by omega) (by omega)]
    rfl
  have e2:i64 (8-i64 ((n:Int) % 3*4))=((8-4*(n % 3):Nat):Int):=by
    rw [Zbn (z:=(n:Int) % 3*4) (by omega) (by omega),Zbn (by omega) (by omega)];omega
  rw [e1,oB,JK f (by omega),oB,Ziu (by omega) _ (by decide),oB,Zbn (z:=wd f (n/3)) (by omega) (by omega),e2,ZnR _ (by omega),oB,ZmJ]
  rfl
theorem Zpx(f:Vector Int 64):(pk (hfL f)).length=96∧ ∀ k,k<96→(pk (hfL f))[k]?=some (16*hf f (2*k)+hf f (2*k+1)):=by
  have h0:(pk (hfL f)).length=96:=by unfold pk;rw [lM,List.length_range,ZnP]
  refine⟨h0,fun k hk=> ?_⟩
  unfold pk
  rw [ZnP,List.getElem?_map,List.getElem?_range (by omega)]
  simp only [Option.map_some]
  rw [ZnL f (by omega),ZnL f (by omega)]
theorem Zq0{f:Vector Int 64}(h:fU f):Zfq f=some (pk (hfL f)):=by
  obtain⟨hl,hg⟩:=Zpx f
  unfold Zfq
  have e0:mks 96 (0:Int)=some (List.replicate 96 0):=by unfold mks mkz;rw [pG (by decide)];rfl
  rw [e0,oB]
  have hrl:(List.replicate 96 (0:Int)).length=96:=List.length_replicate
  have:=ZoW (body:=Zcl f (List.replicate 96 0)) (pk (hfL f)) (fun k acc x ha hx=>by
    have hk:=(List.getElem?_eq_some_iff.1 hx).1
    rw [hl] at hk
    rw [hg k hk] at hx
    have hx:=Option.some.inj hx
    have b1:=Zre f (2*k)
    have b2:=Zre f (2*k+1)
    unfold Zcl
    have e1:i64 (2*(k:Int))=((2*k:Nat):Int):=by rw [Zbn (by omega) (by omega)];push_cast;rfl
    have e2:i64 (((2*k:Nat):Int)+1)=((2*k+1:Nat):Int):=by rw [Zbn (by omega) (by omega)];push_cast;rfl
    obtain⟨y,hy⟩:=Za5 (xs:=acc) (k:=k) (by omega)
    rw [pG (by rw [hrl];simp;omega),e1,ZpG h (by omega),oB,e2,ZpG h (by omega),oB,Zs hy,oB,Int.toNat_natCast,Zbn (z:=16*hf f (2*k)) (by omega) (by omega),Zbn (by omega) (by omega),u8w (by omega) (by omega),hx,Zbn (by omega) (by omega)]) (fun acc=>by
    unfold Zcl
    rw [nG (by rw [hrl,hl];decide)]) (l0:=List.replicate 96 0) (by rw [hl,hrl])
  rw [this]
  rfl
theorem Zsc(f:Vector Int 64):Zgc f=some (!Za4 f):=by
  have:=ZlP (body:=Zdi f) (Xy f) (.inl true:Bool ⊕ Unit) (.inr ()) (a:=0) (b:=64) (by decide) (fun k _ hk=>by
    unfold Zdi Xy
    rw [pG (by simp;omega),JK f hk,oB,Zbn (by omega) (by omega)]
    by_cases hw:4095<wd f k
    · rw [pG (by simpa using hw),nG (by simpa using hw)]
    · rw [nG (by simpa using hw),pG (by simpa using hw)]) (by unfold Zdi;rw [nG (by decide)])
  unfold Zgc
  have e0:(0:Int)=((0:Nat):Int):=rfl
  rw [e0,this]
  unfold Za4
  rw [Nat.sub_zero]
  cases (List.range' 0 64).all (Xy f)<;>rfl
end Go.Vx

namespace Go.Vx
open Go Go.RowKit
theorem Zgj{σ τ ρ κ:Type}{B1:σ→Option (σ ⊕ ρ)}{B2:τ→Option (τ ⊕ κ)}(I:σ→τ→Prop)(μ:σ→Nat)(Q:ρ→κ→Prop)
    (h: ∀ s t,I s t→(∃ s' t',B1 s=some (.inl s')∧B2 t=some (.inl t')∧I s' t'∧μ s'<μ s)∨ ∃ r k,B1 s=some (.inr r)∧B2 t=some (.inr k)∧Q r k):
    ∀ s t,I s t→ ∃ r k,loop B1 s=some r∧loop B2 t=some k∧Q r k:=by
  have key: ∀ n s t,μ s=n→I s t→ ∃ r k,loop B1 s=some r∧loop B2 t=some k∧Q r k:=by
    intro n
    induction n using Nat.strongRecOn with
    |_ n ih=>
      intro s t hn hI
      rcases h s t hI with ⟨s',t',e1,e2,hI',hm⟩ | ⟨r,k,e1,e2,hQ⟩
      · obtain⟨r,k,f1,f2,hQ⟩:=ih (μ s') (by omega) s' t' rfl hI'
        exact⟨r,k,by rw [ZfE,e1];exact f1,by rw [ZfE,e2];exact f2,hQ⟩
      · exact⟨r,k,by rw [ZfE,e1];rfl,by rw [ZfE,e2];rfl,hQ⟩
  exact fun s t hI=>key _ s t rfl hI
theorem Zro{f:Vector Int 64}(hN:fN f):pk (hfL f)=QV f:=by
  obtain⟨h1,h2⟩:=Zpx f
  refine Zgm (by rw [h1,ZdF]) fun k hk=> ?_
  rw [h1] at hk
  rw [Zmp f hk,gQ,h2 k hk]
  show 16*hf f (2*k)+hf f (2*k+1)=bS f 64 k
  have p8:(2:Int)^8=256:=by decide
  have p4:(2:Int)^4=16:=by decide
  have p0:(2:Int)^0=1:=by decide
  unfold hf
  obtain⟨j,rfl |rfl |rfl⟩:=three k
  · have w:=hN (2*j)
    rw [bS0,pG (by omega),show 2*(3*j)/3=2*j by omega,show(2*(3*j)+1)/3=2*j by omega,show 8-4*(2*(3*j) % 3)=8 by omega,show 8-4*((2*(3*j)+1) % 3)=4 by omega,p8,p4]
    omega
  · have w:=hN (2*j)
    have w2:=hN (2*j+1)
    rw [bS1,pG (by omega),pG (by omega),show 2*(3*j+1)/3=2*j by omega,show(2*(3*j+1)+1)/3=2*j+1 by omega,show 8-4*(2*(3*j+1) % 3)=0 by omega,show 8-4*((2*(3*j+1)+1) % 3)=8 by omega,p8,p0]
    omega
  · have w:=hN (2*j+1)
    rw [bS2,pG (by omega),show 2*(3*j+2)/3=2*j+1 by omega,show(2*(3*j+2)+1)/3=2*j+1 by omega,show 8-4*(2*(3*j+2) % 3)=4 by omega,show 8-4*((2*(3*j+2)+1) % 3)=0 by omega,p4,p0]
    omega
theorem Zs9{f:Vector Int 64}(h:fN f):fU f:=fun i=>by have:=h i;omega
theorem Znv{f:Vector Int 64}(hN:fN f):ZbX f=some (QV f,0):=by
  unfold ZbX
  have hnb:Za4 f=true:=List.all_eq_true.2 fun k _=>by unfold Xy;exact decide_eq_true (hN k).2
  rw [Zsc,hnb,oB,nG (by decide),Zq0 (Zs9 hN),Zro hN]
  rfl
theorem Zmr(e:List Int): ∀ (d s:List Int) (a:Nat) (p:Int),Q5 s a (d++e) p=if(Q5 s a d p).2.1=true then Q5 (Q5 s a d p).2.2 (a+d.length) e (Q5 s a d p).1 else Q5 s a d p
  | [],s,a,p=>by simp [Q5]
  |b::tl,s,a,p=>by
    simp only [List.cons_append,Q5]
    by_cases hp:p=0
    · simp [hp]
    · simp only [hp,if_false]
      rw [Zmr e tl]
      rw [show a+1+tl.length=a+(b::tl).length by simp;omega]
theorem Zoo: ∀ (d s:List Int) (a:Nat) (p:Int),(Q5 s a d p).2.1=false→(Q5 s a d p).1=0
  | [],s,a,p,h=>by simp [Q5] at h
  |b::tl,s,a,p,h=>by
    simp only [Q5] at h ⊢
    by_cases hp:p=0
    · simp [hp]
    · simp only [hp,if_false] at h ⊢
      exact Zoo tl _ _ _ h
theorem Zsu{s d:List Int}{a:Nat}{p:Int}(hs:s.length≤140737488355328)(ha:a+d.length≤s.length)(hp:0≤p∧p≤1000000000):
    ZhB s (a:Int) d p=some ((Q5 s a d p).2.2,(Q5 s a d p).1,(Q5 s a d p).2.1):=by
  unfold ZhB
  rw [Zax (by simpa using hs),oB,List.nil_append]
  obtain⟨r,h1,h2⟩:=Ze4 (body:=t3 (ZfI (a:Int) d))
    (fun st=> ∃ (k:Nat),st.2.2=(k:Int)∧st.2.1.length=s.length∧k≤d.length∧(0≤st.1∧st.1≤1000000000)∧Q5 st.2.1 (a+k) (d.drop k) st.1=Q5 s a d p)
    (fun st=>d.length-st.2.2.toNat)
    (fun r=>(Sum.elim (fun q'=>some q') (t2 fun(power2:Int) (out:List Int)=>some (out,power2,true)) r:Option (List Int×Int×Bool))=some ((Q5 s a d p).2.2,(Q5 s a d p).1,(Q5 s a d p).2.1))
    (fun st hst=>by
      obtain⟨q,o,i⟩:=st
      obtain⟨k,hi,hl,hk,hq,hT⟩:=hst
      simp only at hl hi hT hq
      subst hi
      simp only [Zc5,ZfI]
      rcases Nat.lt_or_ge k d.length with h |h
      · obtain⟨x,hx⟩:=Za5 h
        have e:i64 ((a:Int)+(k:Int))=((a+k:Nat):Int):=by rw [show i64 ((a:Int)+(k:Int))=(a:Int)+(k:Int) from Zr (by omega) (by omega)];omega
        have e2:i64 ((k:Int)+1)=(k:Int)+1:=Zr (by omega) (by omega)
        have hj:a+k<o.length:=by omega
        rw [ZbT hx] at hT
        simp only [Q5] at hT
        rw [pG (by simpa using h),Zs hx,oB,e,e2]
        have hix:idx o ((a+k:Nat):Int)=some (o.getD (a+k) 0):=Zs (XG hj 0)
        by_cases hp:q=0
        · subst hp
          right
          rw [pG rfl] at hT
          simp only [decide_true,if_true,hix,oB,Int.toNat_natCast]
          refine⟨_,rfl,?_⟩
          rw [←hT];rfl
        · left
          rw [nG hp] at hT
          have e3:i64 (q-1)=q-1:=Zr (by omega) (by omega)
          simp only [hp,decide_false,Bool.false_eq_true,if_false,hix,oB,Int.toNat_natCast,e3]
          refine⟨_,rfl,⟨k+1,by push_cast;rfl,by simpa using hl,h,by simp only;omega,hT⟩,?_⟩
          simp only;omega
      · right
        have:k=d.length:=by omega
        subst this
        rw [nG (by simp)]
        refine⟨_,rfl,?_⟩
        rw [List.drop_length] at hT
        rw [←hT];rfl)
    (p,s,0) ⟨0,rfl,rfl,Nat.zero_le _,hp,rfl⟩
  rw [h1,oB]
  exact h2
theorem Zqw{s:List Int}{p:Int}(hs:s.length≤7000)(hp:0≤p∧p≤1000000000):
    Zef s p=some (if p=0 then(ZeH s,0,false) else(List.replicate s.length 255,p-1,true)):=by
  have hsl: ∀ n:Nat,n≤s.length→slc s (n:Int) (s.length:Int)=some (s.drop n):=fun n h=>by
    unfold slc
    rw [pG (by omega)]
    simp
  unfold Zef
  by_cases h0:p=0
  · subst h0
    have hq:quo .i64 (s.length:Int) 2=some ((s.length/2:Nat):Int):=by
      unfold quo
      rw [nG (by decide)]
      have:(s.length:Int).tdiv 2=((s.length/2:Nat):Int):=by simp
      rw [this]
      exact congrArg some (Zr (by omega) (by omega))
    simp only [decide_true,if_true,hq,oB,Xv,hsl (s.length/2) (by omega),ZmU (n:=s.length/2) (by omega)]
    rw [Zax (by simp;omega)]
    rfl
  · have e3:i64 (p-1)=p-1:=Zr (by omega) (by omega)
    simp only [h0,decide_false,Bool.false_eq_true,if_false,oB,Xv,hsl s.length (Nat.le_refl _),ZmU (n:=s.length) (by omega),e3]
    rw [Zax (by simp;omega)]
    simp
def toSt(s:ring_spot):ref3_stand:=⟨s.sector,s.slot⟩
theorem Zoi{b:ref3_Recorder}{k:Nat}{m:api_Memory}{s:ring_spot}(hm:b.list[k]?=some m)(hs:b.stands[k]?=some (toSt s)):Q0 b (k:Int)=some (Zaa m s):=by
  unfold Q0 Zaa
  rw [Zs hs,oB,Zs hm]
  by_cases q:s.sector<0
  · simp [q,gd,toSt]
  · simp [q,gd,toSt]
theorem Zo3{b:ref3_Recorder}{k:Nat}{m:api_Memory}{s:ring_spot}(hm:b.list[k]?=some m)(hs:b.stands[k]?=some (toSt s))(ok:MemOK m)(h1: -1≤s.sector)(h2:s.sector<m.Sectors.length):Xd b (k:Int)=some (Zad m s.sector):=by
  have hn:=ok.n
  unfold Xd
  rw [Zs hm,oB,Zs hs,oB]
  obtain⟨r,r1,r2⟩:=Ze4 (body:=t1 (J9 m (toSt s))) (fun z=> ∃ j:Nat,z=(j:Int)+1∧j≤m.Sectors.length∧ZbN (fun i=>Zf5 m (ZbL m s.sector i)) j=none) (fun z=>m.Sectors.length+1-z.toNat)
    (fun r=>Sum.elim (fun q=>q) (fun _=>(-1:Int)) r=Zad m s.sector) (by
    rintro z ⟨j,rfl,hj,hI⟩
    simp only [Xv]
    unfold J9
    rcases Nat.lt_or_ge j m.Sectors.length with hlt |hge
    · have hlt2:ZbL m s.sector j<m.Sectors.length:=Nat.mod_lt _ (by omega)
      have e2:i64 ((toSt s).sector+((j:Int)+1))=(((s.sector+1).toNat+j:Nat):Int):=(Zr (by simp only [toSt];omega) (by simp only [toSt];omega)).trans (by simp only [toSt];omega)
      have e3:rem (((s.sector+1).toNat+j:Nat):Int) (m.Sectors.length:Int)=some (ZbL m s.sector j:Int):=by
        unfold rem ZbL
        rw [nG (by omega)]
        rfl
      have e4:i64 ((j:Int)+1+1)=((j+1:Nat):Int)+1:=(Zr (by omega) (by omega)).trans (by omega)
      rw [pG (by simp;omega),e2,e3,oB,Zs (XG (s:=m.Bad) (by have:=ok.bad;omega) false),oB,e4,Zs (XG (s:=m.Wear) (by have:=ok.wear;omega) 0)]
      have hp:Zf5 m (ZbL m s.sector j)=(!(m.Bad.getD (ZbL m s.sector j) false)&&decide (m.Wear.getD (ZbL m s.sector j) 0<m.Limit)):=rfl
      cases hB:m.Bad.getD (ZbL m s.sector j) false with
      |true=>
        rw [hB] at hp
        left
        refine⟨_,by simp [gd],⟨j+1,rfl,hlt,?_⟩,by omega⟩
        unfold ZbN
        rw [hI,hp];rfl
      |false=>
        rw [hB] at hp
        simp only [Bool.not_false,gd,beq_self_eq_true,if_true,oB,Bool.true_and] at hp ⊢
        by_cases q:m.Wear.getD (ZbL m s.sector j) 0<m.Limit
        · right
          refine⟨_,by rw [pG (decide_eq_true q)],?_⟩
          have:ZbN (fun i=>Zf5 m (ZbL m s.sector i)) (j+1)=some j:=by
            unfold ZbN
            rw [hI,hp,decide_eq_true q];rfl
          unfold Zad
          rw [Zhj this (by omega)];rfl
        · left
          refine⟨_,by rw [nG (by simpa using q)],⟨j+1,rfl,hlt,?_⟩,by omega⟩
          unfold ZbN
          rw [hI,hp,decide_eq_false q];rfl
    · have:j=m.Sectors.length:=by omega
      subst this
      right
      refine⟨.inr (),by rw [nG (by simp;omega)],?_⟩
      unfold Zad;rw [hI];rfl) 1 ⟨0,rfl,Nat.zero_le _,rfl⟩
  rw [r1]
  cases r with
  |inl q=>simp only [oB,Sum.elim_inl] at r2 ⊢;rw [←r2]
  |inr q=>simp only [oB,Sum.elim_inr] at r2 ⊢;rw [←r2];rfl
theorem Zrd{b:ref3_Recorder}{k:Nat}{m:api_Memory}(hm:b.list[k]?=some m)(hR:memR m)(ok:MemOK m)(sec:Int):QT b (k:Int) sec=some (Zcy m sec):=by
  have hn:=ok.n
  unfold QT
  rw [Zs hm,oB]
  obtain⟨r,r1,r2⟩:=Zd2 (body:=Xo sec m) (s0:=(0:Int)) (N:=m.Sectors.length) (fun j z=>z=ZfV m sec j) (fun z=>z=ZfV m sec m.Sectors.length) (fun j z hj hI=> .inl (by
    unfold Xo
    rw [pG (by simpa using hj),Zs (XG hj []),oB,ZlU (Zfi hR j),oB,show i64 ((j:Int)+1)=(j:Int)+1 from Zr (by omega) (by omega),hI]
    by_cases q:((XZ (m.Sectors.getD j [])).2.2&& !decide ((j:Int)=sec))=true
    · exact⟨_,by rw [pG q],by show _=ZfV m sec (j+1);rw [ZfV,pG q]⟩
    · exact⟨_,by rw [nG q],by show _=ZfV m sec (j+1);rw [ZfV,nG q]⟩)) (fun z hI=>⟨z,by unfold Xo;rw [nG (by simp)],hI⟩) rfl
  have:=Zi4 m sec m.Sectors.length
  rw [r1,oB,Xv,r2,show i64 (ZfV m sec m.Sectors.length+1)=_ from Zr (by omega) (by omega)]
  rfl
theorem Zka{b:ref3_Recorder}{k i at_:Nat}{m:api_Memory}{d:List Int}(hm:b.list[k]?=some m)(hi:i<m.Sectors.length)(hl:(m.Sectors.getD i []).length≤7000)(ha:at_+d.length≤(m.Sectors.getD i []).length)(hp:0≤b.power∧b.power≤1000000000):
    Qc b (k:Int) (i:Int) (at_:Int) d=some ((Q5 (m.Sectors.getD i []) at_ d b.power).2.1,⟨b.list.set k (QL m i (Q5 (m.Sectors.getD i []) at_ d b.power).2.2 m.Wear),b.copies,b.stands,b.frozen,b.stopped,b.last,b.some_,(Q5 (m.Sectors.getD i []) at_ d b.power).1⟩):=by
  unfold Qc
  simp only [Zs hm,oB,Zs (XG hi []),Zsu (s:=m.Sectors.getD i []) (by omega) ha hp,Int.toNat_natCast]
  rfl
end Go.Vx

namespace Go.Vx
open Go Go.RowKit
noncomputable def Ztd(k:Int)(f:Vector Int 64)(list:List api_Memory)(copies:Int)(stands:List ref3_stand)(frozen:Bool)(stopped:Bool)(last:Int)(some_:Bool)(power:Int):Option (Bool×ref3_Recorder):=
  (idx stands k).bind fun x16=>
  (ZbX f).bind fun y7=>
  (((idx stands k).bind fun x17=>
  (Qc (ref3_Recorder.mk list copies stands frozen stopped last some_ power) k x17.sector (i64 (16+(i64 (x16.slot*97)))) y7.1).bind fun y8=>
  (gd ((!y8.1)==false) (ref3_stand.mk 0 0) (idx stands k)).bind fun x18=>
  if((!y8.1)==false)=true then
  (Qc (ref3_Recorder.mk y8.2.list y8.2.copies stands y8.2.frozen y8.2.stopped y8.2.last y8.2.some_ y8.2.power) k x18.sector (i64 ((i64 (16+(i64 (x16.slot*97))))+96)) ([0]:List Int)).bind fun y9=>
  if(false || (!y9.1))=true then
  some (.inl (false,(ref3_Recorder.mk y9.2.list y9.2.copies stands y9.2.frozen y9.2.stopped y9.2.last y9.2.some_ y9.2.power)))
  else
  some (.inr (y9.2.list,y9.2.copies,y9.2.frozen,y9.2.stopped,y9.2.last,y9.2.some_,y9.2.power))
  else
  (gd (true==false) () (none:Option Unit)).bind fun u2=>
  if(true || false)=true then
  some (.inl (false,(ref3_Recorder.mk y8.2.list y8.2.copies stands y8.2.frozen y8.2.stopped y8.2.last y8.2.some_ y8.2.power)))
  else
  some (.inr (y8.2.list,y8.2.copies,y8.2.frozen,y8.2.stopped,y8.2.last,y8.2.some_,y8.2.power))):Option ((Bool×ref3_Recorder) ⊕ ((List api_Memory)×Int×Bool×Bool×Int×Bool×Int))).bind (Sum.elim (fun q'=>some q') (t7 fun(list3:List api_Memory) (copies3:Int) (frozen3:Bool) (stopped3:Bool) (last3:Int) (some_3:Bool) (power3:Int)=>
  (idx stands k).bind fun x19=>
  (idx stands k).bind fun x20=>
  some (true,(ref3_Recorder.mk list3 copies3 (stands.set k.toNat (ref3_stand.mk x20.sector (i64 (x19.slot+1)))) frozen3 stopped3 last3 some_3 power3))))
theorem Zpv{k:Nat}{f:Vector Int 64}(hN:fN f){list:List api_Memory}{copies:Int}{stands:List ref3_stand}{frozen stopped:Bool}{last:Int}{some_:Bool}{p:Int}{m:api_Memory}{s:ring_spot}
    (hm:list[k]?=some m) (hs:stands[k]?=some (toSt s)) (ok:MemOK m) (h1:0≤s.sector) (h2:s.sector<m.Sectors.length) (h3:0≤s.slot∧s.slot<m.Slots) (hp:0≤p∧p≤1000000000):
    ∃ st',Ztd (k:Int) f list copies stands frozen stopped last some_ p=some ((ZgK m s (QV f) p).2.1,⟨list.set k (ZgK m s (QV f) p).2.2.1,copies,st',frozen,stopped,last,some_,(ZgK m s (QV f) p).1⟩)∧
      ((ZgK m s (QV f) p).2.1=true→st'=stands.set k (toSt (ZgK m s (QV f) p).2.2.2)):=by
  have hsl:=ok.slots
  obtain⟨i,hi⟩:=Int.eq_ofNat_of_zero_le h1
  obtain⟨j,hj⟩:=Int.eq_ofNat_of_zero_le h3.1
  have hil:i<m.Sectors.length:=by omega
  obtain⟨r1,r2⟩:=row_bd ok hil (j:=j) (by omega)
  have hkl:=(List.getElem?_eq_some_iff.1 hm).1
  have hd:=ZdF f
  have e1:i64 (16+i64 (s.slot*97))=((16+j*97:Nat):Int):=by
    rw [hj,show i64 ((j:Int)*97)=(j:Int)*97 from Zr (by omega) (by omega)]
    exact(Zr (by omega) (by omega)).trans (by omega)
  have e2:i64 (((16+j*97:Nat):Int)+96)=((16+j*97+96:Nat):Int):=(Zr (by omega) (by omega)).trans (by omega)
  have e3:i64 (s.slot+1)=s.slot+1:=Zr (by omega) (by omega)
  have hpow:=Zfl (QV f) (m.Sectors.getD i []) (16+j*97) p hp.1
  have hlen:=Zhb (QV f) (m.Sectors.getD i []) (16+j*97) p
  have hf0:=Zoo (QV f) (m.Sectors.getD i []) (16+j*97) p
  have hw:ZgK m s (QV f) p=((Q5 (m.Sectors.getD i []) (16+j*97) (QV f++ [0]) p).1,(Q5 (m.Sectors.getD i []) (16+j*97) (QV f++ [0]) p).2.1,QL m i (Q5 (m.Sectors.getD i []) (16+j*97) (QV f++ [0]) p).2.2 m.Wear,⟨s.sector,s.slot+1⟩):=by
    unfold ZgK;rw [hi,hj];rfl
  rw [hw,Zmr]
  unfold Ztd
  have w1:=Zka (b:=⟨list,copies,stands,frozen,stopped,last,some_,p⟩) (d:=QV f) (at_:=16+j*97) hm hil r1 (by omega) hp
  have hsx:(toSt s).sector=(i:Int):=hi
  have hsy:(toSt s).slot=s.slot:=rfl
  rw [Zs hs,oB,Znv hN,oB,oB,hsx,hsy,e1,w1,oB]
  rw [hd]
  generalize hP:Q5 (m.Sectors.getD i []) (16+j*97) (QV f) p=P at hpow hlen hf0 w1 ⊢
  obtain⟨P1,P2,P3⟩:=P
  simp only at hpow hlen hf0 ⊢
  cases P2 with
  |false=>
    refine⟨stands,?_,fun h=>by cases h⟩
    rfl
  |true=>
    have g1:(list.set k (QL m i P3 m.Wear))[k]?=some (QL m i P3 m.Wear):=List.getElem?_set_self hkl
    have g2:i<(QL m i P3 m.Wear).Sectors.length:=by unfold QL;simpa using hil
    have g3:(QL m i P3 m.Wear).Sectors.getD i []=P3:=by unfold QL;rw [ZeT hil,pG rfl]
    have w2:=Zka (b:=⟨list.set k (QL m i P3 m.Wear),copies,stands,frozen,stopped,last,some_,P1⟩) (d:= [0]) (at_:=16+j*97+96) g1 g2 (by rw [g3];omega) (by rw [g3];simp only [List.length_cons,List.length_nil];omega) (by simp only;omega)
    rw [g3] at w2
    simp only at w2
    simp only [Bool.not_true,Zpj,ZrY,beq_self_eq_true,if_true,Zs hs,oB,hsx,e2,w2]
    generalize Q5 P3 (16+j*97+96) [0] P1=T
    obtain⟨T1,T2,T3⟩:=T
    simp only
    have hset:(list.set k (QL m i P3 m.Wear)).set k (QL (QL m i P3 m.Wear) i T3 (QL m i P3 m.Wear).Wear)=list.set k (QL m i T3 m.Wear):=by
      rw [List.set_set];unfold QL;simp
    rw [hset]
    cases T2 with
    |false=>exact⟨stands,rfl,fun h=>by cases h⟩
    |true=>
      refine⟨stands.set k (toSt ⟨s.sector,s.slot+1⟩),?_,fun _=>rfl⟩
      simp only [Bool.false_or,Bool.not_true,Bool.false_eq_true,if_false,oB,Sum.elim_inr,Zqm,Zs hs,Int.toNat_natCast]
      rw [show(toSt s).slot+1=s.slot+1 from rfl,e3,←hi]
      rfl
theorem Zox{b:ref3_Recorder}{k:Nat}{m:api_Memory}{s:ring_spot}{f:Vector Int 64}(hN:fN f)(hm:b.list[k]?=some m)(hs:b.stands[k]?=some (toSt s))(hR:memR m)(ok:MemOK m)(hsp:SpotOK m s)
    (hl:Zaa m s=true→0≤Zad m s.sector∧Zcy m (Zad m s.sector)≤1073741824) (hp:0≤b.power∧b.power≤1000000000):
    ∃ st',X7 b (k:Int) f=some ((ZbE m s (QV f) b.power).2.1,⟨b.list.set k (ZbE m s (QV f) b.power).2.2.1,b.copies,st',b.frozen,b.stopped,b.last,b.some_,(ZbE m s (QV f) b.power).1⟩)∧
      ((ZbE m s (QV f) b.power).2.1=true→st'=b.stands.set k (toSt (ZbE m s (QV f) b.power).2.2.2)):=by
  have hkl:=(List.getElem?_eq_some_iff.1 hm).1
  have hks:=(List.getElem?_eq_some_iff.1 hs).1
  have hsec:=Zkd ok hsp
  have hsl:=ok.slots
  have hn:=ok.n
  unfold X7 ZbE
  rw [Zoi hm hs,oB]
  by_cases h:Zaa m s=true
  · obtain⟨x1,x2⟩:=hl h
    obtain⟨a1,_,a3⟩:=ZpL ok hR x1 b.power f
    obtain⟨b1,b2⟩:=ZkI x1 (by omega)
    rw [pG h,pG h,Zo3 hm hs ok hsec.1 hsec.2,oB,Zrd hm hR ok,oB,Zs hm,oB]
    obtain⟨y,hy⟩:=Int.eq_ofNat_of_zero_le x1
    have hadv:Zeq m s b.power=if b.power=0 then(0,false,QL m y (ZeH (m.Sectors.getD y [])) (m.Wear.set y (m.Wear.getD y 0+1)),s) else
        ((Q5 (List.replicate (m.Sectors.getD y []).length 255) 0 (hdL (Zcy m y)) (b.power - 1)).1, (Q5 (List.replicate (m.Sectors.getD y []).length 255) 0 (hdL (Zcy m y)) (b.power - 1)).2.1,
          QL m y (Q5 (List.replicate (m.Sectors.getD y []).length 255) 0 (hdL (Zcy m y)) (b.power-1)).2.2 (m.Wear.set y (m.Wear.getD y 0+1)),cond (Q5 (List.replicate (m.Sectors.getD y []).length 255) 0 (hdL (Zcy m y)) (b.power-1)).2.1 ⟨y,0⟩ s):=by
      unfold Zeq;rw [hy];rfl
    rw [hy] at x2 b1 b2 ⊢
    simp only [Int.toNat_natCast] at b2 ⊢
    have hyl:y<m.Sectors.length:=by omega
    have hyw:y<m.Wear.length:=by have:=ok.wear;omega
    have hw:=ok.wr _ (Zbz hyw)
    have hrow:=ok.row _ (row_bd.getD_memL hyl)
    have hlim:=ok.limit
    have hs1:1≤Zcy m (y:Int):=by have:=Zi4 m (y:Int) m.Sectors.length;unfold Zcy;omega
    rw [Zs (XG hyw 0),oB,oB,show i64 (m.Wear.getD y 0+1)=m.Wear.getD y 0+1 from Zr (by omega) (by omega)]
    have g1:(b.list.set k (api_Memory.mk m.Slots m.Limit m.Sectors (m.Wear.set y (m.Wear.getD y 0+1)) m.Bad))[k]?=some (api_Memory.mk m.Slots m.Limit m.Sectors (m.Wear.set y (m.Wear.getD y 0+1)) m.Bad):=List.getElem?_set_self hkl
    simp only [Zs g1,oB,Zs (XG hyl []),Zqw (s:=m.Sectors.getD y []) (p:=b.power) (by omega) hp]
    by_cases q:b.power=0
    · rw [pG q] at hadv
      rw [pG q,hadv]
      refine⟨b.stands,?_,fun h=>by simp at h⟩
      simp only [Bool.not_false,Bool.true_beq,Bool.false_eq_true,if_false,gd,List.set_set,oB,Bool.true_or,if_true,Sum.elim_inl]
      rfl
    · rw [nG q] at hadv
      rw [nG q]
      rw [hadv] at a1 a3 ⊢
      have em:api_Memory.mk m.Slots m.Limit (m.Sectors.set y (List.replicate (m.Sectors.getD y []).length 255)) (m.Wear.set y (m.Wear.getD y 0+1)) m.Bad=QL m y (List.replicate (m.Sectors.getD y []).length 255) (m.Wear.set y (m.Wear.getD y 0+1)):=rfl
      simp only [Bool.not_true,beq_self_eq_true,if_true,Zpj,ZrY,Zmq ⟨hs1,x2⟩,oB,List.set_set,em]
      have g2:(b.list.set k (QL m y (List.replicate (m.Sectors.getD y []).length 255) (m.Wear.set y (m.Wear.getD y 0+1))))[k]?=some (QL m y (List.replicate (m.Sectors.getD y []).length 255) (m.Wear.set y (m.Wear.getD y 0+1))):=List.getElem?_set_self hkl
      have g3:y<(QL m y (List.replicate (m.Sectors.getD y []).length 255) (m.Wear.set y (m.Wear.getD y 0+1))).Sectors.length:=by unfold QL;simpa using hyl
      have g4:(QL m y (List.replicate (m.Sectors.getD y []).length 255) (m.Wear.set y (m.Wear.getD y 0+1))).Sectors.getD y []=List.replicate (m.Sectors.getD y []).length 255:=by unfold QL;rw [ZeT hyl,pG rfl]
      have w2:=Zka (b:=⟨b.list.set k (QL m y (List.replicate (m.Sectors.getD y []).length 255) (m.Wear.set y (m.Wear.getD y 0+1))),b.copies,b.stands,b.frozen,b.stopped,b.last,b.some_,b.power-1⟩) (d:=hdL (Zcy m (y:Int))) (at_:=0) g2 g3 (by rw [g4,List.length_replicate];omega) (by rw [g4,List.length_replicate];simp only [hdL,List.length_cons,List.length_nil];omega) (by simp only;omega)
      rw [g4] at w2
      have w2':Qc ⟨b.list.set k (QL m y (List.replicate (m.Sectors.getD y []).length 255) (m.Wear.set y (m.Wear.getD y 0+1))),b.copies,b.stands,b.frozen,b.stopped,b.last,b.some_,b.power-1⟩ (k:Int) (y:Int) 0 (hdL (Zcy m (y:Int)))=_:=w2
      rw [w2',oB]
      have hpow:=Zfl (hdL (Zcy m (y:Int))) (List.replicate (m.Sectors.getD y []).length 255) 0 (b.power-1) (by omega)
      generalize Q5 (List.replicate (m.Sectors.getD y []).length 255) 0 (hdL (Zcy m (y:Int))) (b.power-1)=P at a1 a3 hpow ⊢
      obtain⟨P1,P2,P3⟩:=P
      simp only at a1 a3 hpow ⊢
      have hset:(b.list.set k (QL m y (List.replicate (m.Sectors.getD y []).length 255) (m.Wear.set y (m.Wear.getD y 0+1)))).set k (QL (QL m y (List.replicate (m.Sectors.getD y []).length 255) (m.Wear.set y (m.Wear.getD y 0+1))) y P3 (QL m y (List.replicate (m.Sectors.getD y []).length 255) (m.Wear.set y (m.Wear.getD y 0+1))).Wear)=b.list.set k (QL m y P3 (m.Wear.set y (m.Wear.getD y 0+1))):=by
        rw [List.set_set];unfold QL;simp
      rw [hset]
      cases P2 with
      |false=>exact⟨b.stands,rfl,fun h=>by cases h⟩
      |true=>
        simp only [Bool.not_true,Bool.or_self,Bool.false_eq_true,if_false,oB,Sum.elim_inr,Zqm,ZlQ,Zs hs,if_true,cond_true]
        obtain⟨c1,c2⟩:=a3 rfl
        have sp:=a1.at_ rfl
        have c3:((y:Int))<(QL m y P3 (m.Wear.set y (m.Wear.getD y 0+1))).Sectors.length:=by unfold QL;simp;omega
        have k1:(b.list.set k (QL m y P3 (m.Wear.set y (m.Wear.getD y 0+1))))[k]?=some (QL m y P3 (m.Wear.set y (m.Wear.getD y 0+1))):=List.getElem?_set_self hkl
        have k2:(b.stands.set k (toSt ⟨(y:Int),0⟩))[k]?=some (toSt ⟨(y:Int),0⟩):=List.getElem?_set_self hks
        obtain⟨st',z1,z2⟩:=Zpv (f:=f) hN (copies:=b.copies) (frozen:=b.frozen) (stopped:=b.stopped) (last:=b.last) (some_:=b.some_) (p:=P1) k1 k2 a1.ok (by simp only;omega) c3 ⟨by simp only;omega,by have:=a1.slots;simp only at this ⊢;omega⟩ (by omega)
        rw [List.set_set] at z1
        refine⟨st',z1,fun hh=> ?_⟩
        rw [z2 hh,List.set_set]
  · rw [nG h,nG h]
    simp only [oB,Sum.elim_inr,ZlQ]
    have hh: ¬s.sector<0∧ ¬s.slot=m.Slots:=by
      unfold Zaa at h
      rw [Bool.or_eq_true,decide_eq_true_eq,decide_eq_true_eq] at h
      exact⟨fun w=>h (.inl w),fun w=>h (.inr w)⟩
    have hb:=hsp.slot
    exact Zpv hN hm hs ok (by omega) hsec.2 ⟨hb.1,by omega⟩ hp
end Go.Vx

namespace Go.Vx
open Go Go.RowKit
structure Sim (a:ring_Recorder) (b:ref3_Recorder):Prop where
  list:b.list=a.bank.memories
  copies:b.copies=a.copies
  frozen:b.frozen=a.frozen
  stopped:b.stopped=a.stopped
  last:b.last=a.last
  some':b.some_=a.some_
  st:a.stopped=false→b.stands=a.bank.spots.map toSt
  J:RecJ a
noncomputable def Zlc(b:ref3_Recorder)(y4:List Int×Int)(R:Option (Int×Bool×Int×ref3_Recorder)):Option (Int×Bool×Int×ref3_Recorder):=
  ((loop (t1 (XE b y4)) 0):Option ((Int×Bool×Int×ref3_Recorder) ⊕ (Unit))).bind (Sum.elim (fun q'=>some q') (t0 (((loop (t1 (XJ b y4)) 0):Option ((Int×Bool×Int×ref3_Recorder) ⊕ (Unit))).bind (Sum.elim (fun q'=>some q') (t0 R)))))
theorem Zqn{l:List ring_spot}{k:Nat}{s:ring_spot}(h:l[k]?=some s):(l.map toSt)[k]?=some (toSt s):=by rw [List.getElem?_map,h];rfl
theorem ZoH{a:ring_Recorder}{b:ref3_Recorder}(hl:b.list=a.bank.memories)(hst:b.stands=a.bank.spots.map toSt)(hJ:BankJ a.bank.memories a.bank.spots)(hA:BankA a.bank.memories a.bank.spots){c n:Nat}(x:Nat)(hn:n=a.bank.memories.length)(hc:c≤n):
    ∃ e,JD a.bank (tgV x c n)=some e∧((e≠0∧ ∀ R,Zlc b (tgV x c n,0) R=some (0,false,e,b))∨
      (e=0∧(∀ i,i<c→Znk (a.bank.memories.getD ((x+i) % n) dfM) (a.bank.spots.getD ((x+i) % n) dfS))∧ ∀ R,Zlc b (tgV x c n,0) R=R)):=by
  have hb:=hJ.n
  have hlen:(tgV x c n).length=c:=by simp [tgV]
  have at_: ∀ i,i<c→((x+i) % n)<a.bank.memories.length:=fun i hi=>by rw [←hn];exact Nat.mod_lt _ (by omega)
  have w: ∀ i,i<c→(QX a.bank (((x+i) % n:Nat):Int)=some (Zaa (a.bank.memories.getD ((x+i) % n) dfM) (a.bank.spots.getD ((x+i) % n) dfS))∧
      Xt a.bank (((x+i) % n:Nat):Int)=some (Zad (a.bank.memories.getD ((x+i) % n) dfM) (a.bank.spots.getD ((x+i) % n) dfS).sector)∧
      ∀ z,QR a.bank (((x+i) % n:Nat):Int) z=some (Zcy (a.bank.memories.getD ((x+i) % n) dfM) z))∧
      (Q0 b (((x+i) % n:Nat):Int)=some (Zaa (a.bank.memories.getD ((x+i) % n) dfM) (a.bank.spots.getD ((x+i) % n) dfS))∧
      Xd b (((x+i) % n:Nat):Int)=some (Zad (a.bank.memories.getD ((x+i) % n) dfM) (a.bank.spots.getD ((x+i) % n) dfS).sector)∧
      ∀ z,QT b (((x+i) % n:Nat):Int) z=some (Zcy (a.bank.memories.getD ((x+i) % n) dfM) z)):=fun i hi=>by
    have h1:=ZpJ (at_ i hi)
    have h2:=Znp (l:=a.bank.spots) (k:=(x+i) % n) (by rw [hJ.len];exact at_ i hi)
    have hm:=(ZmK (at_ i hi)).1
    have sp:=Zkd (hJ.ok _ hm) (hA _ (at_ i hi))
    have h1':b.list[(x+i) % n]?=some (a.bank.memories.getD ((x+i) % n) dfM):=by rw [hl];exact h1
    have h2':b.stands[(x+i) % n]?=some (toSt (a.bank.spots.getD ((x+i) % n) dfS)):=by rw [hst];exact Zqn h2
    exact⟨⟨Zm0 h1 h2,Zp6 h1 h2 (hJ.ok _ hm) sp.1 sp.2,fun z=>Zrh h1 (hJ.u8 _ hm) (hJ.ok _ hm) z⟩,
      ⟨Zoi h1' h2',Zo3 h1' h2' (hJ.ok _ hm) sp.1 sp.2,fun z=>Zrd h1' (hJ.u8 _ hm) (hJ.ok _ hm) z⟩⟩
  unfold JD Zlc
  obtain⟨r1,r1',e1,e1',q1⟩:=Zgj (B1:=t1 (X9 a.bank (tgV x c n))) (B2:=t1 (XE b (tgV x c n,0)))
    (fun s t=> ∃ k:Nat,s=k∧t=k∧k≤c∧ ∀ i,i<k→Zaa (a.bank.memories.getD ((x+i) % n) dfM) (a.bank.spots.getD ((x+i) % n) dfS)=true→0≤Zad (a.bank.memories.getD ((x+i) % n) dfM) (a.bank.spots.getD ((x+i) % n) dfS).sector)
    (fun s=>c-s.toNat)
    (fun r r'=>(r= .inl 4∧r'= .inl (0,false,4,b))∨(r= .inr ()∧r'= .inr ()∧ ∀ i,i<c→Zaa (a.bank.memories.getD ((x+i) % n) dfM) (a.bank.spots.getD ((x+i) % n) dfS)=true→0≤Zad (a.bank.memories.getD ((x+i) % n) dfM) (a.bank.spots.getD ((x+i) % n) dfS).sector))
    (by
      rintro s t ⟨k,rfl,rfl,hk,hI⟩
      simp only [Xv]
      unfold X9 XE
      rcases Nat.lt_or_ge k c with hkc |hkc
      · obtain⟨⟨w1,w2,w3⟩,v1,v2,v3⟩:=w k hkc
        rw [pG (by rw [hlen];simpa using hkc),pG (by rw [hlen];simpa using hkc),Zs (ZnC hkc),oB,oB,w1,v1,oB,oB,w2,v2,show i64 ((k:Int)+1)=(k:Int)+1 from Zr (by omega) (by omega)]
        cases hL:Zaa (a.bank.memories.getD ((x+k) % n) dfM) (a.bank.spots.getD ((x+k) % n) dfS) with
        |false=>
          left
          refine⟨(k:Int)+1,(k:Int)+1,by simp [gd],by simp [gd],⟨k+1,by push_cast;rfl,by push_cast;rfl,hkc,fun i hi hLi=> ?_⟩,by omega⟩
          by_cases e:i=k
          · subst e;rw [hL] at hLi;cases hLi
          · exact hI i (by omega) hLi
        |true=>
          simp only [gd,beq_self_eq_true,if_true,oB,Bool.true_and]
          by_cases q:Zad (a.bank.memories.getD ((x+k) % n) dfM) (a.bank.spots.getD ((x+k) % n) dfS).sector<0
          · right
            exact⟨_,_,by rw [pG (decide_eq_true q)],by rw [pG (decide_eq_true q)],.inl ⟨rfl,rfl⟩⟩
          · left
            refine⟨(k:Int)+1,(k:Int)+1,by rw [nG (by rw [decide_eq_true_eq];exact q)],by rw [nG (by rw [decide_eq_true_eq];exact q)],⟨k+1,by push_cast;rfl,by push_cast;rfl,hkc,fun i hi hLi=> ?_⟩,by omega⟩
            by_cases e:i=k
            · subst e;omega
            · exact hI i (by omega) hLi
      · have:k=c:=by omega
        subst this
        right
        exact⟨.inr (),.inr (),by rw [hlen,nG (by simp)],by rw [hlen,nG (by simp)],.inr ⟨rfl,rfl,hI⟩⟩) 0 0 ⟨0,rfl,rfl,Nat.zero_le _,fun i hi=>absurd hi (Nat.not_lt_zero _)⟩
  rw [e1,e1']
  rcases q1 with ⟨rfl,rfl⟩ | ⟨rfl,rfl,q1⟩
  · exact⟨4,rfl,.inl ⟨by decide,fun R=>rfl⟩⟩
  · simp only [oB,Sum.elim_inr,Zpz]
    obtain⟨r2,r2',e2,e2',q2⟩:=Zgj (B1:=t1 (X8 a.bank (tgV x c n))) (B2:=t1 (XJ b (tgV x c n,0)))
      (fun s t=> ∃ k:Nat,s=k∧t=k∧k≤c∧ ∀ i,i<k→Znk (a.bank.memories.getD ((x+i) % n) dfM) (a.bank.spots.getD ((x+i) % n) dfS))
      (fun s=>c-s.toNat)
      (fun r r'=>(r= .inl 3∧r'= .inl (0,false,3,b))∨(r= .inr ()∧r'= .inr ()∧ ∀ i,i<c→Znk (a.bank.memories.getD ((x+i) % n) dfM) (a.bank.spots.getD ((x+i) % n) dfS)))
      (by
        rintro s t ⟨k,rfl,rfl,hk,hI⟩
        simp only [Xv]
        unfold X8 XJ
        rcases Nat.lt_or_ge k c with hkc |hkc
        · obtain⟨⟨w1,w2,w3⟩,v1,v2,v3⟩:=w k hkc
          rw [pG (by rw [hlen];simpa using hkc),pG (by rw [hlen];simpa using hkc),Zs (ZnC hkc),oB,oB,w1,v1,oB,oB,w2,v2,show i64 ((k:Int)+1)=(k:Int)+1 from Zr (by omega) (by omega)]
          cases hL:Zaa (a.bank.memories.getD ((x+k) % n) dfM) (a.bank.spots.getD ((x+k) % n) dfS) with
          |false=>
            left
            refine⟨(k:Int)+1,(k:Int)+1,by simp [gd],by simp [gd],⟨k+1,by push_cast;rfl,by push_cast;rfl,hkc,fun i hi hLi=> ?_⟩,by omega⟩
            by_cases e:i=k
            · subst e;rw [hL] at hLi;cases hLi
            · exact hI i (by omega) hLi
          |true=>
            simp only [gd,beq_self_eq_true,if_true,oB,Bool.true_and]
            rw [w3,v3,oB,oB]
            by_cases q:1073741824<Zcy (a.bank.memories.getD ((x+k) % n) dfM) (Zad (a.bank.memories.getD ((x+k) % n) dfM) (a.bank.spots.getD ((x+k) % n) dfS).sector)
            · right
              exact⟨_,_,by rw [pG (decide_eq_true q)],by rw [pG (decide_eq_true q)],.inl ⟨rfl,rfl⟩⟩
            · left
              refine⟨(k:Int)+1,(k:Int)+1,by rw [nG (by rw [decide_eq_true_eq];exact q)],by rw [nG (by rw [decide_eq_true_eq];exact q)],⟨k+1,by push_cast;rfl,by push_cast;rfl,hkc,fun i hi hLi=> ?_⟩,by omega⟩
              by_cases e:i=k
              · subst e;exact⟨q1 i hkc hL,by omega⟩
              · exact hI i (by omega) hLi
        · have:k=c:=by omega
          subst this
          right
          exact⟨.inr (),.inr (),by rw [hlen,nG (by simp)],by rw [hlen,nG (by simp)],.inr ⟨rfl,rfl,hI⟩⟩) 0 0 ⟨0,rfl,rfl,Nat.zero_le _,fun i hi=>absurd hi (Nat.not_lt_zero _)⟩
    rw [e2,e2']
    rcases q2 with ⟨rfl,rfl⟩ | ⟨rfl,rfl,q2⟩
    · exact⟨3,rfl,.inl ⟨by decide,fun R=>rfl⟩⟩
    · exact⟨0,rfl,.inr ⟨rfl,q2,fun R=>rfl⟩⟩
theorem ZnH{a c n:Nat}(h1:a≤4194303)(h2:1≤n∧n≤8)(h3:1≤c∧c≤n):Zdu (a:Int) (n:Int) (c:Int)=some (tgV a c n,0):=by
  unfold Zdu
  have o1:Z8 (a:Int) 0 4194303=some false:=by simp [Z8];omega
  have o2:Z8 (n:Int) 1 8=some false:=by simp [Z8];omega
  have o3:Z8 (c:Int) 1 (n:Int)=some false:=by simp [Z8];omega
  have ht:=ZlI h1 h2 h3
  unfold Zak at ht
  rw [←Zr1] at ht
  rw [o1,oB,o2,o3]
  cases hl:loop (t2 (Zcp (a:Int) (n:Int) (c:Int))) ([],0) with
  |none=>rw [hl] at ht;cases ht
  |some z=>
    rw [hl] at ht
    simp only [oB,Xv,Option.some.injEq] at ht
    simp [gd,ht]
theorem Znj{a:ring_Recorder}{b:ref3_Recorder}(h:Sim a b){f:Vector Int 64}(hF:fU f)(p:Int):
    ∃ left all e a' b',QB a f p=some (left,all,e,a')∧XH b f p=some (left,all,e,b')∧Sim a' b'∧a'.copies=a.copies:=by
  obtain⟨bl,bc,bs,bf,bst,bla,bso,bp⟩:=b
  have h':=h
  obtain⟨e1,e2,e3,e4,e5,e6,hst,hJ⟩:=h'
  simp only at e1 e2 e3 e4 e5 e6 hst
  subst e1 e2 e3 e4 e5 e6
  unfold QB XH Xe
  simp only
  by_cases hS:a.stopped=true
  · rw [pG hS,pG hS]
    exact⟨0,false,15,a,_,rfl,rfl,h,rfl⟩
  rw [nG hS,nG hS]
  by_cases hZ:a.frozen=true
  · rw [pG hZ,pG hZ]
    exact⟨0,false,11,a,_,rfl,rfl,h,rfl⟩
  rw [nG hZ,nG hZ,Zeg,Zf7,oB,oB]
  by_cases hp:0≤p∧p≤1000000000
  case neg=>
    have hf:(decide (0≤p)&&decide (p≤1000000000))=false:=by simpa using hp
    rw [hf]
    exact⟨0,false,9,a,_,rfl,rfl,h,rfl⟩
  have hpb:(decide (0≤p)&&decide (p≤1000000000))=true:=by simp [hp.1,hp.2]
  have hS':a.stopped=false:=by simpa using hS
  have hst:=hst hS'
  subst hst
  rw [hpb]
  simp only [Bool.false_eq_true,if_false,oB,Bool.not_true,decide_true,ZqK hF,Zmy hF]
  have hfl:=Zpe hF
  by_cases hs:ZnE f=false
  · rw [pG (by rw [decide_eq_true_eq];have:=hfl.2 hs;omega),hs]
    exact⟨0,false,2,a,_,rfl,rfl,h,rfl⟩
  · have hs':ZnE f=true:=by simpa using hs
    obtain⟨fn,fq,fb1,fb2⟩:=ZrQ hF hs'
    have rq:=(Zng hF (fn 1).2 (fn 2).2).2
    have hA:=hJ.a hS'
    have hn:=hJ.b.n
    have hcp:=hJ.cp
    obtain⟨x,hx⟩:=Int.eq_ofNat_of_zero_le fb1
    obtain⟨c,hc⟩:=Int.eq_ofNat_of_zero_le (show 0≤a.copies by omega)
    obtain⟨q,q1,q2⟩:=ZoH (a:=a) (b:=⟨a.bank.memories,a.copies,a.bank.spots.map toSt,a.frozen,a.stopped,a.last,a.some_,bp⟩) rfl rfl hJ.b hA (c:=c) x rfl (by omega)
    rw [nG (by rw [decide_eq_true_eq];intro q;exact hs (hfl.1 (by omega))),hs',fq,rq]
    simp only [oB,Bool.not_true,Bool.false_eq_true,if_false]
    rw [hc] at q2
    rw [hx,hc,ZlI (by omega) hn (by omega),oB,ZnH (by omega) hn (by omega),oB,q1,oB]
    rcases q2 with ⟨q0,q2⟩ | ⟨q0,hr,q2⟩
    · rw [pG (by simp [q0])]
      exact⟨0,false,q,a,_,rfl,(q2 _),(by rw [←hc];exact h),hc⟩
    · rw [nG (by simp [q0]), ZoN fn, oB]
      have hlen:(tgV x c a.bank.memories.length).length=c:=by simp [tgV]
      have at_: ∀ i,i<c→((x+i) % a.bank.memories.length)<a.bank.memories.length:=fun i hi=>Nat.mod_lt _ (by omega)
      obtain⟨z,z',z1,z1',z2⟩:=Zgj (B1:=t9 (Qw (tgV x c a.bank.memories.length) (QV f,0))) (B2:=t9 (Q9 f (tgV x c a.bank.memories.length,0)))
        (fun s t=> ∃ (mems:List api_Memory) (spots:List ring_spot) (pw:Int) (k:Nat),s=(mems,spots,a.copies,a.frozen,a.stopped,a.last,a.some_,pw,(k:Int))∧t=(mems,a.copies,spots.map toSt,a.frozen,a.stopped,a.last,a.some_,pw,(k:Int))∧k≤c∧(0≤pw∧pw≤1000000000)∧
          mems.length=a.bank.memories.length∧BankJ mems spots∧BankA mems spots∧(∀ i,k≤i→i<c→mems.getD ((x+i) % a.bank.memories.length) dfM=a.bank.memories.getD ((x+i) % a.bank.memories.length) dfM∧spots.getD ((x+i) % a.bank.memories.length) dfS=a.bank.spots.getD ((x+i) % a.bank.memories.length) dfS))
        (fun s=>c-s.2.2.2.2.2.2.2.2.toNat)
        (fun z z'=>(∃ left a' b',z= .inl (left,false,0,a')∧z'= .inl (left,false,0,b')∧Sim a' b'∧a'.copies=a.copies)∨
          (∃ mems spots pw,z= .inr (mems,spots,a.copies,a.frozen,a.stopped,a.last,a.some_,pw)∧z'= .inr (mems,a.copies,spots.map toSt,a.frozen,a.stopped,a.last,a.some_,pw)∧mems.length=a.bank.memories.length∧BankJ mems spots∧BankA mems spots)) (by
          rintro s t ⟨mems,spots,pw,k,rfl,rfl,hk,hpw,hl,bJ,bA,un⟩
          show(∃ s' t',Qw (tgV x c a.bank.memories.length) (QV f,0) mems spots a.copies a.frozen a.stopped a.last a.some_ pw (k:Int)=some (.inl s')∧Q9 f (tgV x c a.bank.memories.length,0) mems a.copies (spots.map toSt) a.frozen a.stopped a.last a.some_ pw (k:Int)=some (.inl t')∧_)∨
            ∃ z z',Qw (tgV x c a.bank.memories.length) (QV f,0) mems spots a.copies a.frozen a.stopped a.last a.some_ pw (k:Int)=some (.inr z)∧Q9 f (tgV x c a.bank.memories.length,0) mems a.copies (spots.map toSt) a.frozen a.stopped a.last a.some_ pw (k:Int)=some (.inr z')∧_
          unfold Qw Q9
          rcases Nat.lt_or_ge k c with hkc |hkc
          · have hlt:=at_ k hkc
            have ht:((x+k) % a.bank.memories.length)<mems.length:=by rw [hl];exact hlt
            have hts:((x+k) % a.bank.memories.length)<spots.length:=by rw [bJ.len];exact ht
            have g1:=ZpJ ht
            have g2:=Znp hts
            obtain⟨u1,u2⟩:=un k (Nat.le_refl _) hkc
            have hm:=(ZmK ht).1
            have hrd:=hr k hkc
            rw [←u1,←u2] at hrd
            obtain⟨w1,w2,w3,w4⟩:=ZqG (r:=⟨⟨mems,spots⟩,a.copies,a.frozen,a.stopped,a.last,a.some_⟩) g1 g2 (bJ.u8 _ hm) (bJ.ok _ hm) (bA _ ht) hrd (ZdF f) (ZoQ fn) hpw
            obtain⟨st',v1,v2⟩:=Zox (b:=⟨mems,a.copies,spots.map toSt,a.frozen,a.stopped,a.last,a.some_,pw⟩) fn g1 (Zqn g2) (bJ.u8 _ hm) (bJ.ok _ hm) (bA _ ht) hrd hpw
            rw [pG (by rw [hlen];simpa using hkc),pG (by simp only;rw [hlen];simpa using hkc),Zs (ZnC hkc),oB,oB,
              show slc (QV f) 0 ((QV f).length:Int)=some (QV f) from(Zhn (a:=0) (b:=(QV f).length) (by omega) (Nat.le_refl _)).trans (by rw [List.take_length,List.drop_zero]),oB,w1,oB,v1,oB,show i64 ((k:Int)+1)=(k:Int)+1 from Zr (by omega) (by omega)]
            simp only at v2 ⊢
            generalize ZbE (mems.getD ((x+k) % a.bank.memories.length) dfM) (spots.getD ((x+k) % a.bank.memories.length) dfS) (QV f) pw=A at w2 w3 w4 v2 ⊢
            have nJ:BankJ (mems.set ((x+k) % a.bank.memories.length) A.2.2.1) (spots.set ((x+k) % a.bank.memories.length) A.2.2.2):=bJ.set w2.ok w2.u8 (List.length_set ..)
            cases hall:A.2.1 with
            |false=>
              right
              refine⟨_,_,by rw [pG (by rfl)],by rw [pG (by rfl)],.inl ⟨A.1,⟨⟨mems.set ((x+k) % a.bank.memories.length) A.2.2.1,spots.set ((x+k) % a.bank.memories.length) A.2.2.2⟩,a.copies,a.frozen,true,a.last,a.some_⟩,⟨mems.set ((x+k) % a.bank.memories.length) A.2.2.1,a.copies,st',a.frozen,true,a.last,a.some_,A.1⟩,rfl,rfl,⟨rfl,rfl,rfl,rfl,rfl,rfl,fun q=>by simp at q,nJ,fun q=>by simp at q,?_⟩,rfl⟩⟩
              simp only [List.length_set];rw [hl];exact hcp
            |true=>
              left
              have sp:=w2.at_ hall
              have e':=v2 hall
              subst e'
              refine⟨(mems.set ((x+k) % a.bank.memories.length) A.2.2.1,spots.set ((x+k) % a.bank.memories.length) A.2.2.2,a.copies,a.frozen,a.stopped,a.last,a.some_,A.1,(k:Int)+1),(mems.set ((x+k) % a.bank.memories.length) A.2.2.1,a.copies,(spots.map toSt).set ((x+k) % a.bank.memories.length) (toSt A.2.2.2),a.frozen,a.stopped,a.last,a.some_,A.1,(k:Int)+1),by simp only [Bool.not_true,Bool.false_eq_true,if_false],by simp only [Bool.not_true,Bool.false_eq_true,if_false],⟨_,_,A.1,k+1,rfl,by rw [List.map_set];rfl,hkc,by omega,by rw [List.length_set];exact hl,nJ,fun j hj=> ?_,fun i hi hic=> ?_⟩,by simp only;omega⟩
              · rw [List.length_set] at hj
                rw [Zgb ht,Zgb hts]
                by_cases e':j=(x+k) % a.bank.memories.length
                · rw [pG e',pG e'];exact sp
                · rw [nG e',nG e'];exact bA j hj
              · have hne:(x+i) % a.bank.memories.length≠(x+k) % a.bank.memories.length:=fun q=>by
                  have:=ZrC (a:=x) (n:=a.bank.memories.length) (by omega) (by omega) q
                  omega
                rw [Zgb ht,Zgb hts,nG hne,nG hne]
                exact un i (by omega) hic
          · have:k=c:=by omega
            subst this
            right
            exact⟨_,_,by rw [nG (by rw [hlen];simp)],by rw [nG (by simp only;rw [hlen];simp)],.inr ⟨mems,spots,pw,rfl,rfl,hl,bJ,bA⟩⟩)
        (a.bank.memories,a.bank.spots,a.copies,a.frozen,a.stopped,a.last,a.some_,p,0) (a.bank.memories,a.copies,a.bank.spots.map toSt,a.frozen,a.stopped,a.last,a.some_,p,0) ⟨_,_,p,0,rfl,rfl,Nat.zero_le _,hp,rfl,hJ.b,hA,fun i _ _=>⟨rfl,rfl⟩⟩
      rw [hc] at z1 z1'
      rw [z1,oB]
      rcases z2 with ⟨left,a',b',rfl,rfl,k1,k2⟩ | ⟨mems,spots,pw,rfl,rfl,k1,k2,k3⟩
      · exact⟨left,false,0,a',b',rfl,(q2 _).trans (by rw [z1'];rfl),k1,k2.trans hc⟩
      · simp only [Sum.elim_inr,ZlQ]
        refine⟨pw,true,0,⟨⟨mems,spots⟩,(c:Int),a.frozen,a.stopped,(x:Int),true⟩,⟨mems,(c:Int),spots.map toSt,a.frozen,a.stopped,(x:Int),true,pw⟩,by rw [hc],(q2 _).trans (by rw [z1',hc];rfl),⟨rfl,rfl,rfl,rfl,rfl,rfl,fun _=>rfl,k2,fun _=>k3,?_⟩,rfl⟩
        simp only;rw [k1,←hc];exact hcp
end Go.Vx

namespace Go.Vx
open Go Go.RowKit
noncomputable def Zkq(x:api_Memory)(frozen2:Bool):Option (Bool×ref3_stand):=
  (ZaT x).bind fun y4=>
  if(decide (0<(y4.length:Int)))=true then
  (idx y4 (i64 ((y4.length:Int)-1))).bind fun x2=>
  ((loop (t2 (Zcn x x2)) (0,0)):Option ((Int))).bind (t1 fun(slot:Int)=>
  (idx x.Sectors x2).bind fun x4=>
  (ZbZ x4).bind fun y6=>
  some ((frozen2 || y6.2.1),(ref3_stand.mk x2 slot)))
  else
  some (frozen2,(ref3_stand.mk (-1) 0))
theorem ZoF{m:api_Memory}(hm:memR m)(ok:MemOK m): ∃ s:ring_spot,Jf m=some s∧SpotOK m s∧ ∀ fr:Bool,Zkq m fr=some ((if 0≤s.sector then(fr || (XZ (m.Sectors.getD s.sector.toNat [])).2.1) else fr),toSt s):=by
  obtain⟨s,hs,sp⟩:=Zns hm ok
  refine⟨s,hs,sp,fun fr=> ?_⟩
  unfold Jf at hs
  unfold Zkq
  obtain⟨h1,h2,h3,h4⟩:=Zn4 hm ok
  obtain⟨l1,l2⟩:=Zn2 hm ok
  rw [h1,oB] at hs
  rw [h2,oB]
  by_cases h:(ZgL m).length=0
  · rw [pG (by rw [decide_eq_true_eq];omega)] at hs
    cases hs
    rw [nG (by rw [decide_eq_true_eq];omega)]
    rfl
  · have e:i64 (((ZgL m).length:Int)-1)=(((ZgL m).length-1:Nat):Int):=(Zr (by omega) (by omega)).trans (by omega)
    rw [nG (by rw [decide_eq_true_eq];omega),e,Zs (XG (by omega) 0),oB] at hs
    rw [pG (by rw [decide_eq_true_eq];omega),e,Zs (XG (by omega) 0),oB]
    have hb:=l2 _ (Zbz (X:=ZgL m) (t:=(ZgL m).length-1) (by omega))
    obtain⟨i,hi⟩:=Int.eq_ofNat_of_zero_le hb.1
    rw [hi] at hb hs ⊢
    have hil:i<m.Sectors.length:=by omega
    have hsl:=ok.slots
    obtain⟨z,z',z1,z2,rfl⟩:=Zgj (B1:=t2 (Xj m (i:Int))) (B2:=t2 (Zcn m (i:Int))) (fun p q=>p=q∧ ∃ k:Nat,p.2=k∧k≤m.Slots.toNat) (fun p=>m.Slots.toNat-p.2.toNat) (fun r k=>r=k) (by
      rintro⟨z,j⟩ q ⟨rfl,k,hk,hkl⟩
      simp only at hk
      subst hk
      simp only [Q1]
      unfold Xj Zcn
      rcases Nat.lt_or_ge k m.Slots.toNat with hlt |hge
      · obtain⟨b1,b2⟩:=row_bd ok hil (j:=k) (by omega)
        obtain⟨v,hv,hvl⟩:=ZmM (by omega) b2
        have h97:=ZdY b2
        left
        rw [pG (by simp;omega),pG (by simp;omega),Zs (XG hil []),oB,oB,hv,oB,ZlF hvl h97,oB,ZqF (by omega) b2,oB,show i64 ((k:Int)+1)=(k:Int)+1 from Zr (by omega) (by omega)]
        by_cases q:stV (slotL (m.Sectors.getD i []) k)=0
        · exact⟨(z,(k:Int)+1),(z,(k:Int)+1),by rw [nG (by rw [q];decide)],by rw [nG (by rw [q];decide)],⟨rfl,k+1,by push_cast;rfl,by omega⟩,by simp only;omega⟩
        · exact⟨((k:Int)+1,(k:Int)+1),((k:Int)+1,(k:Int)+1),by rw [pG (by rw [decide_eq_false q];rfl)],by rw [pG (by rw [decide_eq_false q];rfl)],⟨rfl,k+1,by push_cast;rfl,by omega⟩,by simp only;omega⟩
      · right
        exact⟨z,z,by rw [nG (by simp;omega)],by rw [nG (by simp;omega)],rfl⟩) (0,0) (0,0) ⟨rfl,0,rfl,Nat.zero_le _⟩
    rw [z1] at hs
    rw [z2,oB]
    simp only [Xv,oB] at hs ⊢
    cases hs
    rw [Zs (XG hil []),oB,ZlU (Zfi hm i),oB]
    simp [toSt]
theorem ZlK{l:List api_Memory}(hR: ∀ m∈l,memR m)(copies:Int):(∃ e,e≠0∧Jy l copies=some (.inl e)∧JV l copies=some (.inl e)∧ ¬(((1≤l.length∧l.length≤8)∧ ∀ m∈l,MemOK m)∧1≤copies∧copies≤(l.length:Int)))∨
    (∃ a b,Jy l copies=some (.inr (a,0))∧JV l copies=some (.inr (b,0))∧Sim a b∧a.copies=copies):=by
  obtain⟨c,c1,c2,c3,c4⟩:=Zs2 l
  unfold Jy JV
  rw [c1,c2,Zeg,Zf7]
  simp only [oB]
  by_cases q:c=0
  · obtain⟨hl,hO⟩:=c3 q
    rw [nG (show ¬(!decide (c=0))=true by simp [q]),nG (show ¬(!decide (c=0))=true by simp [q])]
    by_cases hc:1≤copies∧copies≤(l.length:Int)
    · right
      simp only [decide_eq_true hc.1,decide_eq_true hc.2,Bool.and_self,Bool.not_true,Bool.false_eq_true,if_false]
      rw [ZlO hl.2 hO,oB]
      obtain⟨r,r',e1,e2,sp,fr,rfl,rfl,s1,s2⟩:=Zgj (B1:=t3 (Zbd l)) (B2:=t4 (Zd3 l))
        (fun s t=> ∃ (sp:List ring_spot) (fr:Bool) (k:Nat),s=(sp,fr,(k:Int))∧t=(l.take k,sp.map toSt,fr,(k:Int))∧k≤l.length∧sp.length=k∧ ∀ j,j<k→SpotOK (l.getD j dfM) (sp.getD j dfS))
        (fun s=>l.length-s.2.2.toNat)
        (fun r r'=> ∃ (sp:List ring_spot) (fr:Bool),r=(sp,fr)∧r'=(l,sp.map toSt,fr)∧sp.length=l.length∧ ∀ j,j<l.length→SpotOK (l.getD j dfM) (sp.getD j dfS)) (by
          rintro s t ⟨sp,fr,k,rfl,rfl,hk,hlen,hI⟩
          simp only [Zc5,ZpV]
          unfold Zbd Zd3
          rcases Nat.lt_or_ge k l.length with hlt |hge
          · obtain⟨g1,g2⟩:=ZmK hlt
            obtain⟨s,s1,s2,s3⟩:=ZoF (hR _ g1) (hO _ g1)
            have s3:=s3 fr
            unfold Zkq at s3
            have new: ∀ j,j<k+1→SpotOK (l.getD j dfM) ((sp++ [s]).getD j dfS):=fun j hj=>by
              by_cases e:j=k
              · subst e
                rw [gQ (l:=sp++ [s]),List.getElem?_append_right (by omega),hlen]
                simpa using s2
              · have:=hI j (by omega)
                rwa [gQ (l:=sp++ [s]),List.getElem?_append_left (by omega),←gQ]
            have ek:i64 ((k:Int)+1)=(k:Int)+1:=Zr (by omega) (by omega)
            have htk:l.take k++ [l.getD k dfM]=l.take (k+1):=by rw [List.take_succ,g2];rfl
            left
            rw [pG (by simpa using hlt),pG (by simpa using hlt),Zs g2,oB,oB,s1,oB,Zax (by simp;omega),oB,ZpD (hO _ g1),oB,Zax (by simp;omega),oB,oB,Xv,s3,oB,Q1,Zax (by simp;omega),oB,ek,htk]
            by_cases hs:0≤s.sector
            · rw [pG (by simpa using hs),pG hs]
              have hlt:s.sector<(l.getD k dfM).Sectors.length:=by
                rcases s2.sec with w |w
                · omega
                · exact w.2
              obtain⟨i,hi⟩:=Int.eq_ofNat_of_zero_le hs
              rw [hi,Zs (XG (s:=(l.getD k dfM).Sectors) (k:=i) (by omega) []),oB,Zmi (Zfi (hR _ g1) i),oB]
              exact⟨(sp++ [s],fr || (XZ ((l.getD k dfM).Sectors.getD i [])).2.1,(k:Int)+1),(l.take (k+1),sp.map toSt++ [toSt s],fr || (XZ ((l.getD k dfM).Sectors.getD i [])).2.1,(k:Int)+1),rfl,rfl,⟨_,_,k+1,rfl,by simp,by omega,by simp [hlen],new⟩,by simp only;omega⟩
            · rw [nG (by simpa using hs),nG hs]
              exact⟨(sp++ [s],fr,(k:Int)+1),(l.take (k+1),sp.map toSt++ [toSt s],fr,(k:Int)+1),rfl,rfl,⟨_,_,k+1,rfl,by simp,by omega,by simp [hlen],new⟩,by simp only;omega⟩
          · have:k=l.length:=by omega
            subst this
            right
            exact⟨_,_,by rw [nG (by simp)],by rw [nG (by simp)],sp,fr,rfl,by rw [List.take_length],hlen,hI⟩) ([],false,0) ([],[],false,0) ⟨[],false,0,rfl,by simp,Nat.zero_le _,rfl,fun j hj=>absurd hj (Nat.not_lt_zero _)⟩
      rw [e1,e2]
      refine⟨⟨⟨l,sp⟩,copies,fr,false,0,false⟩,⟨l,copies,sp.map toSt,fr,false,0,false,0⟩,rfl,rfl,⟨rfl,rfl,rfl,rfl,rfl,rfl,fun _=>rfl,⟨hl,hO,hR,s1⟩,fun _=>s2,hc⟩,rfl⟩
    · left
      have hf:(decide (1≤copies)&&decide (copies≤(l.length:Int)))=false:=by simpa using hc
      exact⟨9,by decide,by rw [hf];rfl,by rw [hf];rfl,fun h=>hc h.2⟩
  · left
    rw [pG (show(!decide (c=0))=true by simp [q]),pG (show(!decide (c=0))=true by simp [q])]
    exact⟨c,q,rfl,rfl,fun h=>q (c4 h.1)⟩
theorem Znw{a:ring_Recorder}{b:ref3_Recorder}(h:Sim a b)(p:Int):
    ∃ left all e a' b',XK a p=some (left,all,e,a')∧XD b p=some (left,all,e,b')∧Sim a' b'∧a'.copies=a.copies:=by
  obtain⟨bl,bc,bs,bf,bst,bla,bso,bp⟩:=b
  have h':=h
  obtain⟨e1,e2,e3,e4,e5,e6,hst,hJ⟩:=h'
  simp only at e1 e2 e3 e4 e5 e6 hst
  subst e1 e2 e3 e4 e5 e6
  unfold XK XD Xe
  simp only
  by_cases hS:a.stopped=true
  · rw [pG hS,pG hS]
    exact⟨0,false,15,a,_,rfl,rfl,h,rfl⟩
  rw [nG hS,nG hS]
  by_cases hZ:a.frozen=true
  · rw [pG hZ,pG hZ]
    exact⟨0,false,11,a,_,rfl,rfl,h,rfl⟩
  rw [nG hZ,nG hZ,Zeg,Zf7,oB,oB]
  by_cases hp:0≤p∧p≤1000000000
  case neg=>
    have hf:(decide (0≤p)&&decide (p≤1000000000))=false:=by simpa using hp
    rw [hf]
    exact⟨0,false,9,a,_,rfl,rfl,h,rfl⟩
  have hpb:(decide (0≤p)&&decide (p≤1000000000))=true:=by simp [hp.1,hp.2]
  have hS':a.stopped=false:=by simpa using hS
  have hst:=hst hS'
  subst hst
  rw [hpb]
  simp only [Bool.false_eq_true,if_false,oB,Bool.not_true,decide_true]
  have hA:=hJ.a hS'
  have hn:=hJ.b.n
  have hcp:=hJ.cp
  obtain⟨z,z',z1,z1',z2⟩:=Zgj (B1:=t3 (Jw a)) (B2:=t8 (Jt ⟨a.bank.memories,a.copies,a.bank.spots.map toSt,a.frozen,a.stopped,a.last,a.some_,bp⟩))
    (fun s t=> ∃ (mems:List api_Memory) (pw:Int) (k:Nat),s=(mems,pw,(k:Int))∧t=(mems,a.copies,true,a.stopped,a.last,a.some_,pw,(k:Int))∧k≤a.bank.spots.length∧(0≤pw∧pw≤1000000000)∧mems.length=a.bank.memories.length∧BankJ mems a.bank.spots∧BankA mems a.bank.spots)
    (fun s=>a.bank.spots.length-s.2.2.toNat)
    (fun z z'=>(∃ left a' b',z= .inl (left,false,0,a')∧z'= .inl (left,false,0,b')∧Sim a' b'∧a'.copies=a.copies)∨
      (∃ mems pw,z= .inr (mems,pw)∧z'= .inr (mems,a.copies,true,a.stopped,a.last,a.some_,pw)∧mems.length=a.bank.memories.length∧BankJ mems a.bank.spots∧BankA mems a.bank.spots)) (by
      rintro s t ⟨mems,pw,k,rfl,rfl,hk,hpw,hl,bJ,bA⟩
      simp only [Zc5,ZlQ]
      unfold Jw Jt
      have ek:i64 ((k:Int)+1)=(k:Int)+1:=Zr (by have:=bJ.len;omega) (by have:=bJ.len;omega)
      simp only
      rcases Nat.lt_or_ge k a.bank.spots.length with hkl |hkg
      · have hkm:k<mems.length:=by rw [←bJ.len];exact hkl
        have g1:=ZpJ hkm
        have g2:=Znp hkl
        have hm:=(ZmK hkm).1
        have sp:=bA k hkm
        have ok:=bJ.ok _ hm
        have hsl:=ok.slots
        rw [pG (by simpa using hkl),pG (by simpa using hkl),Zs g2,oB,Zs (Zqn g2),oB,ek]
        by_cases hs:(a.bank.spots.getD k dfS).sector<0
        · left
          have hs': ¬0≤(toSt (a.bank.spots.getD k dfS)).sector:=by simp only [toSt];omega
          refine⟨(mems,pw,(k:Int)+1),(mems,a.copies,true,a.stopped,a.last,a.some_,pw,(k:Int)+1),by rw [pG (decide_eq_true hs)],?_,⟨mems,pw,k+1,by push_cast;rfl,by push_cast;rfl,hkl,hpw,hl,bJ,bA⟩,by simp only;omega⟩
          have hd:decide (0≤(toSt (a.bank.spots.getD k dfS)).sector)=false:=decide_eq_false hs'
          rw [hd]
          rfl
        · have hs0:0≤(a.bank.spots.getD k dfS).sector:=by omega
          have hb:=Zkd ok sp
          obtain⟨f1,f2,f3,f4⟩:=Zsr ok (bJ.u8 _ hm) sp hs0 pw
          have hpow:=Zfl [0] ((mems.getD k dfM).Sectors.getD (a.bank.spots.getD k dfS).sector.toNat []) 10 pw hpw.1
          obtain⟨i,hi⟩:=Int.eq_ofNat_of_zero_le hs0
          have hil:i<(mems.getD k dfM).Sectors.length:=by omega
          have hrow:=ok.row _ (row_bd.getD_memL hil)
          have hi':(toSt (a.bank.spots.getD k dfS)).sector=(i:Int):=hi
          have w1:=Zka (b:=⟨mems,a.copies,a.bank.spots.map toSt,true,a.stopped,a.last,a.some_,pw⟩) (d:= [0]) (at_:=10) g1 hil (by omega) (by simp only [List.length_cons,List.length_nil];omega) hpw
          have w1':Qc ⟨mems,a.copies,a.bank.spots.map toSt,true,a.stopped,a.last,a.some_,pw⟩ (k:Int) (i:Int) 10 [0]=_:=w1
          rw [nG (by rw [decide_eq_true_eq];exact hs),Zs g1,oB,hi,Zs (XG hil []),oB,oB,oB,hi']
          rw [hi] at f1 f2 f3 f4 hpow
          simp only [Int.toNat_natCast] at f1 f2 f3 f4 hpow ⊢
          rw [show QM ((mems.getD k dfM).Sectors.getD i []) 10 [0] pw=some (Q5 ((mems.getD k dfM).Sectors.getD i []) 10 [0] pw) from Znq (a:=10) (by omega) (by simp only [List.length_cons,List.length_nil];omega) hpw,oB,show decide (0≤(i:Int))=true from decide_eq_true (by omega),pG (show(true==true)=true from rfl),w1',oB]
          generalize Q5 ((mems.getD k dfM).Sectors.getD i []) 10 [0] pw=P at f1 f2 f3 f4 hpow ⊢
          have nJ:BankJ (mems.set k (QL (mems.getD k dfM) i P.2.2 (mems.getD k dfM).Wear)) a.bank.spots:=bJ.set f1 f2 rfl
          have nA:BankA (mems.set k (QL (mems.getD k dfM) i P.2.2 (mems.getD k dfM).Wear)) a.bank.spots:=fun j hj=>by
            rw [List.length_set] at hj
            rw [Zgb hkm]
            by_cases e':j=k
            · rw [pG e',e'];exact f3
            · rw [nG e'];exact bA j hj
          cases hall:P.2.1 with
          |false=>
            right
            refine⟨_,_,by rw [pG (by rfl)];rfl,by rw [pG (by rfl)],.inl ⟨P.1,⟨⟨mems.set k (QL (mems.getD k dfM) i P.2.2 (mems.getD k dfM).Wear),a.bank.spots⟩,a.copies,true,true,a.last,a.some_⟩,⟨mems.set k (QL (mems.getD k dfM) i P.2.2 (mems.getD k dfM).Wear),a.copies,a.bank.spots.map toSt,true,true,a.last,a.some_,P.1⟩,rfl,rfl,⟨rfl,rfl,rfl,rfl,rfl,rfl,fun q=>by simp at q,nJ,fun q=>by simp at q,?_⟩,rfl⟩⟩
            simp only [List.length_set];rw [hl];exact hcp
          |true=>
            left
            exact⟨(mems.set k (QL (mems.getD k dfM) i P.2.2 (mems.getD k dfM).Wear),P.1,(k:Int)+1),(mems.set k (QL (mems.getD k dfM) i P.2.2 (mems.getD k dfM).Wear),a.copies,true,a.stopped,a.last,a.some_,P.1,(k:Int)+1),by rw [nG (by decide)];rfl,by rw [nG (by decide)],⟨_,_,k+1,by push_cast;rfl,by push_cast;rfl,hkl,by omega,by rw [List.length_set];exact hl,nJ,nA⟩,by simp only;omega⟩
      · have:k=a.bank.spots.length:=by omega
        subst this
        right
        exact⟨_,_,by rw [nG (by simp)],by rw [nG (by simp)],.inr ⟨mems,pw,rfl,rfl,hl,bJ,bA⟩⟩)
    (a.bank.memories,p,0) (a.bank.memories,a.copies,true,a.stopped,a.last,a.some_,p,0) ⟨_,p,0,rfl,rfl,Nat.zero_le _,hp,rfl,hJ.b,hA⟩
  rw [z1,z1',oB,oB]
  rcases z2 with ⟨left,a',b',rfl,rfl,k1,k2⟩ | ⟨mems,pw,rfl,rfl,k1,k2,k3⟩
  · exact⟨left,false,0,a',b',rfl,rfl,k1,k2⟩
  · simp only [Sum.elim_inr,Q1,Zqm]
    refine⟨pw,true,0,⟨⟨mems,a.bank.spots⟩,a.copies,true,a.stopped,a.last,a.some_⟩,⟨mems,a.copies,a.bank.spots.map toSt,true,a.stopped,a.last,a.some_,pw⟩,rfl,rfl,⟨rfl,rfl,rfl,rfl,rfl,rfl,fun _=>rfl,k2,fun _=>k3,?_⟩,rfl⟩
    simp only;rw [k1];exact hcp
theorem ZpW{a:ring_Recorder}{b:ref3_Recorder}(h:Sim a b):Z6 a=some a.bank.memories∧Xk b=some a.bank.memories:=by
  have hJ:=h.J.b
  refine⟨by unfold Z6;rw [ZlO hJ.n.2 hJ.ok];rfl,?_⟩
  unfold Xk
  have:=Zmx (body:=Xn b) (xs:=a.bank.memories) (fun m=>m) (fun k x acc hx ha=>by
    have hk:=(List.getElem?_eq_some_iff.1 hx).1
    have hn:=hJ.n
    unfold Xn
    rw [h.list,pG (by simpa using hk),Zs hx,oB,ZpD (hJ.ok _ (List.mem_of_getElem? hx)),oB,Zax (by simp;omega),oB,show i64 ((k:Int)+1)=(k:Int)+1 from Zr (by omega) (by omega)]) (fun acc=>by
    unfold Xn
    rw [h.list,nG (by simp)])
  rw [this]
  simp
end Go.Vx

namespace Go.Vx
open Go Go.RowKit
structure memSz (m:api_Memory):Prop where
  n:m.Sectors.length*24≤140737488355328
  s: ∀ s∈m.Sectors,s.length*1≤140737488355328
  w:m.Wear.length*8≤140737488355328
  b:m.Bad.length*1≤140737488355328
theorem eqM{a:List api_Memory}(ha:a.length≤9223372036854775807)(hs: ∀ m∈a,memSz m):ZD a a (fun z0 z1=>JG z0 z1)=some true:=by
  unfold ZD
  rw [nG (by simp)]
  obtain⟨r,h1,h2⟩:=Zkh (body:=Zy a a (fun z0 z1=>JG z0 z1)) (N:=a.length) (fun _=>True) (fun r=>r= .inr ()) (fun k hk _=>by
    obtain⟨x,hx⟩:=Za5 hk
    have sz:=hs x (List.mem_of_getElem? hx)
    have s1:=sz.n
    have s2:=sz.w
    have s3:=sz.b
    left
    unfold Zy
    simp only [show decide ((k:Int)<(a.length:Int))=true from decide_eq_true (by omega),if_true,Zs hx,oB,Zrz x (by omega) (by omega) (by omega)]
    rw [show i64 ((k:Int)+1)=(k:Int)+1 from Zr (by omega) (by omega)]
    simp) (fun _=>⟨.inr (),by unfold Zy;rw [nG (by simp)],rfl⟩) trivial
  rw [h1,h2];rfl
end Go.Vx
