/- A text of the proof: a verified executor of the program form, or the contracts of the functions that the law reaches. -/
import Derived.Test.YtjjknklgafdeiaaGreatDoorPA
set_option linter.all false
namespace Go.Vx
open Go Go.RowKit
theorem ZeU{n:Int}(h:0≤n∧n≤65535):u16 n=n:=by
  unfold u16 IntKind.wrap
  simp only [IntKind.signed,IntKind.bits]
  have e:(2:Int)^16=65536:=by decide
  simp [e]
  omega
def wAt(H:List Int)(k:Nat):Int:=w3 (H.getD k 0) (H.getD (k+1) 0) (H.getD (k+2) 0)
theorem Zr0{H:List Int}(h:hL H)(k:Nat):0≤wAt H k∧wAt H k≤4095:=by
  have h1:=ZfW h k
  have h2:=ZfW h (k+1)
  have h3:=ZfW h (k+2)
  unfold wAt w3
  omega
theorem Jc(f:Vector Int 64){k:Nat}(hk:k<64)(x:Int)(i:Nat):wd (Qr f (k:Int) x) i=if k=i then x else wd f i:=by
  unfold wd
  rw [ZdL,Int.toNat_natCast,List.getD_eq_getElem?_getD,List.getElem?_set,List.getD_eq_getElem?_getD]
  split
  · rw [if_pos (by simp;omega)];rfl
  · rfl
def inH(H:List Int)(at_:Int)(i:Nat):Bool:=decide (0≤at_+3*i∧at_+3*i+3≤(H.length:Int))
def Zkx(H:List Int)(at_:Int)(k:Nat):Vector Int 64×Vector Bool 64:=(List.range k).foldl (Zg9 H at_) (Vector.replicate 64 0,Vector.replicate 64 false)
theorem Zm6(H:List Int)(at_:Int): ∀ (k:Nat),k≤64→ ∀ i,wd (Zkx H at_ k).1 i=if(decide (i<k)&&inH H at_ i)=true then wAt H (at_+3*i).toNat else 0
  |0,_,i=>by
    rw [if_neg (by simp)]
    show(Vector.replicate 64 (0:Int)).toList.getD i 0=0
    rw [Vector.toList_replicate,List.getD_eq_getElem?_getD,List.getElem?_replicate];split<;>rfl
  |k+1,hk,i=>by
    have ih:=Zm6 H at_ k (by omega) i
    have e:Zkx H at_ (k+1)=Zg9 H at_ (Zkx H at_ k) k:=ZbG _ _ _
    rw [e]
    unfold Zg9
    by_cases hc:0≤at_+3*k∧at_+3*k+3≤(H.length:Int)
    · rw [if_pos hc,Jc _ (by omega),ih]
      by_cases hik:k=i
      · subst hik
        rw [if_pos rfl,if_pos (by simp [inH];omega)];rfl
      · rw [if_neg hik]
        have:decide (i<k+1)=decide (i<k):=by rw [decide_eq_decide];omega
        rw [this]
    · rw [if_neg hc,ih]
      by_cases hik:k=i
      · subst hik
        rw [if_neg (by simp),if_neg (by simp [inH];omega)]
      · have:decide (i<k+1)=decide (i<k):=by rw [decide_eq_decide];omega
        rw [this]
theorem Zsj(H:List Int)(at_:Int)(i:Nat)(hi:i<64):wd (frW H at_).1 i=if inH H at_ i=true then wAt H (at_+3*i).toNat else 0:=by
  have:=Zm6 H at_ 64 (Nat.le_refl _) i
  rw [decide_eq_true hi,Bool.true_and] at this
  exact this
theorem Zl3(f:Vector Int 64){i:Nat}(hi:64≤i):wd f i=0:=by
  unfold wd
  rw [List.getD_eq_getElem?_getD,List.getElem?_eq_none (by simp;omega)];rfl
theorem ZdS{H:List Int}(h:hL H)(at_:Int)(i:Nat):0≤wd (frW H at_).1 i∧wd (frW H at_).1 i≤4095:=by
  rcases Nat.lt_or_ge i 64 with hi |hi
  · rw [Zsj H at_ i hi]
    split
    · exact Zr0 h _
    · exact⟨by decide,by decide⟩
  · rw [Zl3 _ hi];exact⟨by decide,by decide⟩
theorem ZlC{H:List Int}(h:hL H)(at_:Int):fU (frW H at_).1:=fun i=>⟨(ZdS h at_ i).1,by have:=(ZdS h at_ i).2;omega⟩
theorem ZqY{H:List Int}(h:hL H){k:Nat}(hk:k+3≤H.length): ∃ l,slc H (k:Int) ((k:Int)+3)=some l∧X6 l=some (wAt H k):=by
  obtain⟨a,ha⟩:=ZF (xs:=H) (k:=k) (by omega)
  obtain⟨b,hb⟩:=ZF (xs:=H) (k:=k+1) (by omega)
  obtain⟨c,hc⟩:=ZF (xs:=H) (k:=k+2) (by omega)
  refine⟨_,ZqG ha hb hc,?_⟩
  unfold wAt
  rw [ZgM (h a (List.mem_of_getElem? ha)) (h b (List.mem_of_getElem? hb)) (h c (List.mem_of_getElem? hc)),XX ha,XX hb,XX hc]
theorem Znu{H:List Int}(h:hL H){at_:Nat}(hat:at_+192≤H.length){v:Vector Int 192}(hv:v.toList=(H.drop at_).take 192):ZaC v=some (frW H (at_:Int)).1:=by
  have hvl:v.toList.length=192:=by simp
  have hvh:hL v.toList:=fun x hx=>by rw [hv] at hx;exact h x (List.mem_of_mem_drop (List.mem_of_mem_take hx))
  have:=ZbM (body:=JG v) (fun k=>(Zkx H (at_:Int) k).1) (frW H (at_:Int)).1 (a:=0) (b:=64) (by decide) (fun k _ hk=>by
    unfold JG
    obtain⟨l,hl1,hl2⟩:=ZqY hvh (k:=3*k) (by omega)
    have e1:i64 (3*(k:Int))=((3*k:Nat):Int):=by rw [ZY (by omega) (by omega)];push_cast;rfl
    rw [if_pos (by simp;omega),e1,ZY (z:=((3*k:Nat):Int)+3) (by omega) (by omega),hl1,Option.bind_some,hl2,Option.bind_some,Qf _ hk,Option.bind_some,ZY (z:=(k:Int)+1) (by omega) (by omega)]
    have eg: ∀ j,j<192→v.toList.getD j 0=H.getD (at_+j) 0:=fun j hj=>by
      rw [hv,List.getD_eq_getElem?_getD,List.getElem?_take,if_pos hj,List.getElem?_drop,List.getD_eq_getElem?_getD]
    have ew:wAt v.toList (3*k)=wAt H (at_+3*k):=by
      unfold wAt
      rw [eg _ (by omega),eg _ (by omega),eg _ (by omega)];rfl
    have es:(Zkx H (at_:Int) (k+1)).1=Qr (Zkx H (at_:Int) k).1 (k:Int) (wAt H (at_+3*k)):=by
      have e:Zkx H (at_:Int) (k+1)=Zg9 H (at_:Int) (Zkx H (at_:Int) k) k:=ZbG _ _ _
      rw [e]
      unfold Zg9
      rw [if_pos (by omega)]
      have:((at_:Int)+3*(k:Int)).toNat=at_+3*k:=by omega
      rw [this];rfl
    rw [es,ew]) (by unfold JG;rw [if_neg (by decide)];rfl)
  unfold ZaC
  have e0:(Vector.replicate 64 (0:Int),(0:Int))=((Zkx H (at_:Int) 0).1,((0:Nat):Int)):=rfl
  rw [e0,this]
  rfl
def Zgz(w:Int):Bool:=decide (w=583) || (decide (w=1464) || (decide (w=2631) || decide (w=3512)))
theorem Zoo(w:Int):ZaQ w=some (Zgz w):=by
  have:=Zhz (body:=JN w) (fun k=> !decide (Q9 (k:Int)=w)) (.inl true:Bool ⊕ Unit) (.inr ()) (a:=0) (b:=4) (by decide) (fun k _ hk=>by
    unfold JN ZaR
    have hb:0≤Q9 (k:Int)∧Q9 (k:Int)≤65535:=by
      have:k=0∨k=1∨k=2∨k=3:=by omega
      rcases this with rfl |rfl |rfl |rfl<;>exact⟨by decide,by decide⟩
    obtain⟨s1,s2⟩:=ZeY (n:=(k:Int)) (by omega)
    rw [if_pos (by simp;omega),if_neg (by simp;omega),s1,Option.bind_some,s2,Option.bind_some,Option.bind_some,ZY (z:=Q9 (k:Int)) (by omega) (by omega),ZeU hb,ZY (z:=(k:Int)+1) (by omega) (by omega)]
    by_cases hw:Q9 (k:Int)=w
    · rw [if_pos (by simpa using hw),if_neg (by simpa using hw)]
    · rw [if_neg (by simpa using hw),if_pos (by simpa using hw)]) (by unfold JN;rw [if_neg (by decide)])
  unfold ZaQ
  rw [show(0:Int)=((0:Nat):Int) from rfl,this,Option.bind_some]
  have e:(List.range' 0 (4-0)).all (fun k=> !decide (Q9 (k:Int)=w))= !Zgz w:=by
    have s0:Q9 ((0:Nat):Int)=583:=by decide
    have s1:Q9 ((1:Nat):Int)=1464:=by decide
    have s2:Q9 ((2:Nat):Int)=2631:=by decide
    have s3:Q9 ((3:Nat):Int)=3512:=by decide
    show(!decide (Q9 ((0:Nat):Int)=w)&&(!decide (Q9 ((1:Nat):Int)=w)&&(!decide (Q9 ((2:Nat):Int)=w)&&(!decide (Q9 ((3:Nat):Int)=w)&&true))))= !Zgz w
    rw [s0,s1,s2,s3]
    unfold Zgz
    simp only [Bool.not_or,Bool.and_true,eq_comm]
  rw [e]
  cases Zgz w<;>rfl
noncomputable def scF(H:List Int)(k:Nat):List api_Found:=if(Zgz (wAt H k)&&ZfE (frW H (k:Int)).1)=true then [api_Found.mk (k:Int) (frW H (k:Int)).1] else []
noncomputable def scL(H:List Int)(n:Nat):List api_Found:=(List.range n).flatMap (scF H)
theorem Zhf(H:List Int)(n:Nat):scL H (n+1)=scL H n++scF H n:=by
  unfold scL
  rw [List.range_succ,List.flatMap_append];simp
theorem Zqg(H:List Int)(k:Nat):(scF H k).length≤1:=by unfold scF;split<;>simp
theorem ZfZ(H:List Int): ∀ n,(scL H n).length≤n
  |0=>by simp [scL]
  |n+1=>by
    have:=ZfZ H n
    have:=Zqg H n
    rw [Zhf,List.length_append];omega
theorem Zl1{H:List Int}(h:hL H)(hl:H.length≤900000):ZcC H=some (scL H (H.length-191))∧ZdD H=some (scL H (H.length-191)):=by
  constructor
  · have:=ZbM (body:=Jx H) (scL H) (scL H (H.length-191)) (a:=0) (b:=H.length-191) (by omega) (fun k _ hk=>by
      have hlen:=ZfZ H k
      unfold Jx
      obtain⟨l,hl1,hl2⟩:=ZqY h (k:=k) (by omega)
      rw [ZY (z:=(k:Int)+192) (by omega) (by omega),if_pos (by simp;omega),ZY (z:=(k:Int)+3) (by omega) (by omega),hl1,Option.bind_some,hl2,Option.bind_some,Zoo,Option.bind_some,Zhf,ZY (z:=(k:Int)+1) (by omega) (by omega)]
      unfold scF
      cases hs:Zgz (wAt H k)
      · rw [if_pos (by decide),Option.bind_some,Bool.false_and,if_neg (by decide),List.append_nil];rfl
      · rw [if_neg (by decide)]
        have hsl:slc H (k:Int) ((k:Int)+192)=some ((H.drop k).take 192):=by
          have:=ZrZ (l:=H) (a:=k) (b:=k+192) (by omega) (by omega)
          rw [show((k+192:Nat):Int)=(k:Int)+192 by omega] at this
          rw [this,List.drop_take]
          congr 2
          omega
        have hlen2:((H.drop k).take 192).length=192:=by rw [List.length_take,List.length_drop];omega
        rw [hsl,Option.bind_some]
        obtain⟨v,hv⟩: ∃ v,tov 192 ((H.drop k).take 192)=some v:=by unfold tov;rw [dif_pos (by omega)];exact⟨_,rfl⟩
        have hv2:=(ZlL hv).2
        rw [List.take_of_length_le (by omega)] at hv2
        rw [hv,Option.bind_some,Znu h (by omega) hv2,Option.bind_some,Znk (ZlC h _),Option.bind_some,Bool.true_and]
        cases hsn:ZfE (frW H (k:Int)).1
        · rw [if_neg (by decide),if_neg (by decide),if_neg (by decide),Option.bind_some,List.append_nil];rfl
        · rw [if_pos (by decide),if_pos (by decide),Xk (by simp;omega),Option.bind_some];rfl) (by
      unfold Jx
      rw [ZY (by omega) (by omega),if_neg (by simp;omega)])
    unfold ZcC ZbI
    have e0:(([]:List api_Found),(0:Int))=(scL H 0,((0:Nat):Int)):=rfl
    rw [e0,this]
  · have:=ZbM (body:=ZcF H) (scL H) (scL H (H.length-191)) (a:=0) (b:=H.length-191) (by omega) (fun k _ hk=>by
      have hlen:=ZfZ H k
      obtain⟨a,ha⟩:=ZF (xs:=H) (k:=k) (by omega)
      obtain⟨b,hb⟩:=ZF (xs:=H) (k:=k+1) (by omega)
      obtain⟨c,hc⟩:=ZF (xs:=H) (k:=k+2) (by omega)
      have ba:=h a (List.mem_of_getElem? ha)
      have bb:=h b (List.mem_of_getElem? hb)
      have bc:=h c (List.mem_of_getElem? hc)
      have ew:wAt H k=w3 a b c:=by unfold wAt;rw [XX ha,XX hb,XX hc]
      have e1:i64 ((k:Int)+1)=((k+1:Nat):Int):=by rw [ZY (by omega) (by omega)];push_cast;rfl
      have e2:i64 ((k:Int)+2)=((k+2:Nat):Int):=by rw [ZY (by omega) (by omega)];push_cast;rfl
      have e3:i64 (i64 (i64 (i64 a*256)+i64 (i64 b*16))+i64 c)=w3 a b c:=by
        rw [ZY (z:=a) (by omega) (by omega),ZY (z:=b) (by omega) (by omega),ZY (z:=c) (by omega) (by omega),ZY (z:=a*256) (by omega) (by omega),ZY (z:=b*16) (by omega) (by omega),ZY (z:=a*256+b*16) (by omega) (by omega),ZY (by omega) (by omega)]
        unfold w3;omega
      unfold ZcF
      rw [ZY (z:=(k:Int)+192) (by omega) (by omega),if_pos (by simp;omega),Zw ha,Option.bind_some,e1,Zw hb,Option.bind_some,e2,Zw hc,Option.bind_some,e3,Zhf,←ew]
      have hsy:(((!decide (wAt H k=583)&& !decide (wAt H k=1464))&& !decide (wAt H k=2631))&& !decide (wAt H k=3512))= !Zgz (wAt H k):=by
        unfold Zgz
        simp only [Bool.not_or,Bool.and_assoc]
      rw [hsy]
      unfold scF
      cases hs:Zgz (wAt H k)
      · rw [if_pos (by decide),Option.bind_some,Bool.false_and,if_neg (by decide),List.append_nil];rfl
      · rw [if_neg (by decide),Zjo h (by omega) (by omega),Option.bind_some,Zi9 (ZlC h _),Option.bind_some,Bool.true_and]
        cases hsn:ZfE (frW H (k:Int)).1
        · rw [if_neg (by decide),if_neg (by decide),Option.bind_some,List.append_nil];rfl
        · rw [if_pos (by decide),if_pos (by decide),Xk (by simp;omega),Option.bind_some];rfl) (by
      unfold ZcF
      rw [ZY (by omega) (by omega),if_neg (by simp;omega)])
    unfold ZdD
    have e0:(([]:List api_Found),(0:Int))=(scL H 0,((0:Nat):Int)):=rfl
    rw [e0,this]
    rfl
theorem ZmW{H:List Int}{k:Nat}{x:api_Found}(h:x∈scF H k):x=api_Found.mk (k:Int) (frW H (k:Int)).1∧Zgz (wAt H k)=true∧ZfE (frW H (k:Int)).1=true:=by
  unfold scF at h
  split at h
  · rename_i hc
    rw [Bool.and_eq_true] at hc
    exact⟨by simpa using h,hc⟩
  · cases h
theorem ZkZ{H:List Int}{n:Nat}{x:api_Found}(h:x∈scL H n): ∃ k,k<n∧x=api_Found.mk (k:Int) (frW H (k:Int)).1∧Zgz (wAt H k)=true∧ZfE (frW H (k:Int)).1=true:=by
  unfold scL at h
  obtain⟨k,hk,hx⟩:=List.mem_flatMap.1 h
  exact⟨k,List.mem_range.1 hk,ZmW hx⟩
theorem Zgt(H:List Int): ∀ n,(scL H n).Pairwise fun a b=>a.At<b.At
  |0=>by simp [scL]
  |n+1=>by
    rw [Zhf,List.pairwise_append]
    refine⟨Zgt H n,?_,fun a ha b hb=> ?_⟩
    · unfold scF;split<;>simp
    · obtain⟨k,hk,rfl,_⟩:=ZkZ ha
      obtain⟨rfl,_⟩:=ZmW hb
      show(k:Int)<(n:Int)
      omega
def fz:api_Found:=api_Found.mk 0 (Vector.replicate 64 0)
def Ord(l:List api_Found):Prop:=(l.Pairwise fun a b=>a.At<b.At)∧ ∀ x∈l,0≤x.At∧x.At≤1000000
theorem Zqn(H:List Int)(n:Nat)(hn:n≤1000000):Ord (scL H n):=⟨Zgt H n,fun x hx=>by
  obtain⟨k,hk,rfl,_⟩:=ZkZ hx
  exact⟨by show(0:Int)≤(k:Int);omega,by show(k:Int)≤1000000;omega⟩⟩
theorem Zk8{l:List api_Found}(h:Ord l){k:Nat}{x y:api_Found}(hx:l[k]?=some x)(hy:l[k+1]?=some y):x.At<y.At:=by
  obtain⟨h1,rfl⟩:=List.getElem?_eq_some_iff.1 hx
  obtain⟨h2,rfl⟩:=List.getElem?_eq_some_iff.1 hy
  exact List.pairwise_iff_getElem.1 h.1 k (k+1) h1 h2 (by omega)
def ZoR(l:List api_Found)(k:Nat):Bool:=
  (decide (k=0) || decide (192≤(l.getD k fz).At-(l.getD (k-1) fz).At))&&(decide (k+1=l.length) || decide (192≤(l.getD (k+1) fz).At-(l.getD k fz).At))
def ZlY(l:List api_Found)(k:Nat):List api_Found:=if ZoR l k=true then [l.getD k fz] else []
def Zjx(l:List api_Found)(n:Nat):List api_Found:=(List.range n).flatMap (ZlY l)
def Zdg(l:List api_Found):List api_Found:=Zjx l l.length
theorem ZfV(l:List api_Found)(n:Nat):Zjx l (n+1)=Zjx l n++ZlY l n:=by
  unfold Zjx
  rw [List.range_succ,List.flatMap_append];simp
theorem Zhi(l:List api_Found): ∀ n,(Zjx l n).length≤n
  |0=>by simp [Zjx]
  |n+1=>by
    have:=Zhi l n
    have:(ZlY l n).length≤1:=by unfold ZlY;split<;>simp
    rw [ZfV,List.length_append];omega
theorem ZhW{l:List api_Found}{k:Nat}{x:api_Found}(h:l[k]?=some x):l.getD k fz=x:=by rw [List.getD_eq_getElem?_getD,h];rfl
theorem ZkG{l:List api_Found}(h:Ord l)(hl:l.length≤1000000):loop (t2 (XP l)) ([],0)=some (Zdg l)∧loop (t2 (JK l)) ([],0)=some (Zdg l):=by
  have e0:(([]:List api_Found),(0:Int))=(Zjx l 0,((0:Nat):Int)):=rfl
  have facts: ∀ k,k<l.length→ ∃ x p n:api_Found,l[k]?=some x∧(k≠0→l[k-1]?=some p∧p.At<x.At∧0≤p.At)∧(k+1≠l.length→l[k+1]?=some n∧x.At<n.At∧n.At≤1000000)∧0≤x.At∧x.At≤1000000:=by
    intro k hk
    obtain⟨x,hx⟩:=ZF hk
    have bx:=h.2 x (List.mem_of_getElem? hx)
    refine⟨x,l.getD (k-1) fz,l.getD (k+1) fz,hx,fun h0=> ?_,fun h1=> ?_,bx⟩
    · obtain⟨p,hp⟩:=ZF (xs:=l) (k:=k-1) (by omega)
      rw [ZhW hp]
      have:=Zk8 h (k:=k-1) hp (by rw [show k-1+1=k by omega];exact hx)
      exact⟨hp,this,(h.2 p (List.mem_of_getElem? hp)).1⟩
    · obtain⟨n,hn⟩:=ZF (xs:=l) (k:=k+1) (by omega)
      rw [ZhW hn]
      exact⟨hn,Zk8 h hx hn,(h.2 n (List.mem_of_getElem? hn)).2⟩
  constructor
  · have := ZbM (body := XP l) (Zjx l) (Zdg l) (a := 0) (b := l.length) (by omega) (fun k _ hk => by
      obtain⟨x,p,n,hx,hp,hn,bx⟩:=facts k hk
      have hlen:=Zhi l k
      unfold XP
      have e1:i64 ((k:Int)+1)=((k+1:Nat):Int):=by rw [ZY (by omega) (by omega)];push_cast;rfl
      have e2:i64 ((l.length:Int)-1)=(l.length:Int)-1:=ZY (by omega) (by omega)
      have d2:decide ((k:Int)=(l.length:Int)-1)=decide (k+1=l.length):=by rw [decide_eq_decide];omega
      have d0:decide ((k:Int)=0)=decide (k=0):=by rw [decide_eq_decide];omega
      rw [if_pos (by simp;omega),Zw hx,Option.bind_some,e1,e2,d2,d0,ZfV]
      have en:((k+1:Nat):Int)=(k:Int)+1:=by push_cast;rfl
      unfold ZlY ZoR
      rw [ZhW hx]
      have A: ∃ b1:Bool,∃ x2,(gd ((decide (k=0))==false) (api_Found.mk 0 (Vector.replicate 64 0)) (idx l (i64 ((k:Int)-1))))=some x2∧(decide (k=0) || decide (192≤i64 (x.At-x2.At)))=b1∧(decide (k=0) || decide (192≤x.At-(l.getD (k-1) fz).At))=b1:=by
        by_cases h0:k=0
        · exact⟨true,_,by rw [decide_eq_true h0];rfl,by rw [decide_eq_true h0];rfl,by rw [decide_eq_true h0];rfl⟩
        · obtain⟨q1,q2,q3⟩:=hp h0
          have ei:i64 ((k:Int)-1)=((k-1:Nat):Int):=by rw [ZY (by omega) (by omega)];omega
          refine⟨_,p,by rw [decide_eq_false h0,ei,Zw q1];rfl,rfl,?_⟩
          rw [ZhW q1,ZY (by omega) (by omega)]
      obtain⟨b1,x2,a1,a2,a3⟩:=A
      rw [a1,Option.bind_some,a2,a3]
      have B: ∃ b2:Bool,∃ x3,(gd ((b1==true)&&((decide (k+1=l.length))==false)) (api_Found.mk 0 (Vector.replicate 64 0)) (idx l ((k+1:Nat):Int)))=some x3∧(b1&&(decide (k+1=l.length) || decide (192≤i64 (x3.At-x.At))))=b2∧(b1&&(decide (k+1=l.length) || decide (192≤(l.getD (k+1) fz).At-x.At)))=b2:=by
        by_cases h0:k+1=l.length
        · refine⟨b1,api_Found.mk 0 (Vector.replicate 64 0),by rw [decide_eq_true h0,show(true==false)=false from rfl,Bool.and_false];rfl,by rw [decide_eq_true h0,Bool.true_or,Bool.and_true],by rw [decide_eq_true h0,Bool.true_or,Bool.and_true]⟩
        · obtain⟨q1,q2,q3⟩:=hn h0
          cases b1
          · exact⟨false,_,rfl,rfl,rfl⟩
          · refine⟨_,n,by rw [decide_eq_false h0,Zw q1];rfl,rfl,?_⟩
            rw [ZhW q1,ZY (by omega) (by omega)]
      obtain⟨b2,x3,c1,c2,c3⟩:=B
      rw [c1,Option.bind_some,c2,c3]
      cases b2
      · rw [if_neg (by decide),if_neg (by decide),List.append_nil,en]
      · rw [if_pos rfl,if_pos rfl,Xk (by simp;omega),Option.bind_some,en]) (by
      unfold XP
      rw [if_neg (by simp)];rfl)
    rw [e0,this]
  · have := ZbM (body := JK l) (Zjx l) (Zdg l) (a := 0) (b := l.length) (by omega) (fun k _ hk => by
      obtain⟨x,p,n,hx,hp,hn,bx⟩:=facts k hk
      have hlen:=Zhi l k
      unfold JK
      have e1:i64 ((k:Int)+1)=((k+1:Nat):Int):=by rw [ZY (by omega) (by omega)];push_cast;rfl
      have d2:decide (((k+1:Nat):Int)=(l.length:Int))=decide (k+1=l.length):=by rw [decide_eq_decide];omega
      have d0:decide ((k:Int)=0)=decide (k=0):=by rw [decide_eq_decide];omega
      rw [if_pos (by simp;omega),Zw hx,Option.bind_some,e1,d2,d0,ZfV]
      have en:((k+1:Nat):Int)=(k:Int)+1:=by push_cast;rfl
      unfold ZlY ZoR
      rw [ZhW hx]
      have A: ∃ b1:Bool,∃ x2 y,(gd ((decide (k=0))==false) (api_Found.mk 0 (Vector.replicate 64 0)) (idx l (i64 ((k:Int)-1))))=some x2∧(gd ((decide (k=0))==false) 0 (Q2 x2.At x.At))=some y∧(decide (k=0) || decide (192≤y))=b1∧(decide (k=0) || decide (192≤x.At-(l.getD (k-1) fz).At))=b1:=by
        by_cases h0:k=0
        · exact⟨true,_,_,by rw [decide_eq_true h0];rfl,by rw [decide_eq_true h0];rfl,by rw [decide_eq_true h0];rfl,by rw [decide_eq_true h0];rfl⟩
        · obtain⟨q1,q2,q3⟩:=hp h0
          have ei:i64 ((k:Int)-1)=((k-1:Nat):Int):=by rw [ZY (by omega) (by omega)];omega
          have ea:Q2 p.At x.At=some (x.At-p.At):=by unfold Q2;rw [if_pos (by simpa using q2),ZY (by omega) (by omega)]
          refine⟨_,p,_,by rw [decide_eq_false h0,ei,Zw q1];rfl,by rw [decide_eq_false h0,ea];rfl,rfl,?_⟩
          rw [ZhW q1]
      obtain⟨b1,x2,y,a1,a1',a2,a3⟩:=A
      rw [a1,Option.bind_some,a1',Option.bind_some,a2,a3]
      have B: ∃ b2:Bool,∃ x3 y2,(gd ((b1==true)&&((decide (k+1=l.length))==false)) (api_Found.mk 0 (Vector.replicate 64 0)) (idx l ((k+1:Nat):Int)))=some x3∧(gd ((b1==true)&&((decide (k+1=l.length))==false)) 0 (Q2 x3.At x.At))=some y2∧(b1&&(decide (k+1=l.length) || decide (192≤y2)))=b2∧(b1&&(decide (k+1=l.length) || decide (192≤(l.getD (k+1) fz).At-x.At)))=b2:=by
        by_cases h0:k+1=l.length
        · refine⟨b1,api_Found.mk 0 (Vector.replicate 64 0),0,by rw [decide_eq_true h0,show(true==false)=false from rfl,Bool.and_false];rfl,by rw [decide_eq_true h0,show(true==false)=false from rfl,Bool.and_false];rfl,by rw [decide_eq_true h0,Bool.true_or,Bool.and_true],by rw [decide_eq_true h0,Bool.true_or,Bool.and_true]⟩
        · obtain⟨q1,q2,q3⟩:=hn h0
          cases b1
          · exact⟨false,_,_,rfl,rfl,rfl,rfl⟩
          · have ea:Q2 n.At x.At=some (n.At-x.At):=by unfold Q2;rw [if_neg (by simp;omega),ZY (by omega) (by omega)]
            refine⟨_,n,_,by rw [decide_eq_false h0,Zw q1];rfl,by rw [decide_eq_false h0,ea];rfl,rfl,?_⟩
            rw [ZhW q1]
      obtain⟨b2,x3,y2,c1,c1',c2,c3⟩:=B
      rw [c1,Option.bind_some,c1',Option.bind_some,c2,c3]
      cases b2
      · rw [if_neg (by decide),if_neg (by decide),List.append_nil,en]
      · rw [if_pos rfl,if_pos rfl,Xk (by simp;omega),Option.bind_some,en]) (by
      unfold JK
      rw [if_neg (by simp)];rfl)
    rw [e0,this]
theorem ZnJ(H:List Int)(hl:H.length≤900000):(scL H (H.length-191)).length≤1000000∧Ord (scL H (H.length-191)):=⟨by have:=ZfZ H (H.length-191);omega,Zqn H _ (by omega)⟩
theorem ZhN{H:List Int}(h:hL H)(hl:H.length≤900000):Zav H=some (Zdg (scL H (H.length-191)))∧Za8 (scL H (H.length-191))=some (Zdg (scL H (H.length-191))):=by
  obtain⟨b1,b2⟩:=ZnJ H hl
  obtain⟨c1,c2⟩:=ZkG b2 b1
  unfold Zav Za8
  rw [(Zl1 h hl).1,Option.bind_some,c1,c2]
  exact⟨rfl,rfl⟩
end Go.Vx

namespace Go.Vx
open Go Go.RowKit
theorem ZqS{H:List Int}(h:hL H)(f t:Nat):hL (Zdx H f t):=by
  intro x hx
  unfold Zdx at hx
  rcases List.mem_append.1 hx with hx |hx
  · split at hx
    · simp at hx;subst hx;exact⟨by decide,by decide⟩
    · cases hx
  · exact h x (List.mem_of_mem_take (List.mem_of_mem_drop hx))
end Go.Vx

namespace Go.Vx
open Go Go.RowKit
def hf(f:Vector Int 64)(n:Nat):Int:=wd f (n/3)/(2:Int)^(8-4*(n % 3)) % 16
theorem Zec{f g:Vector Int 64}(h: ∀ i,i<64→wd f i=wd g i):f=g:=by
  refine Vector.toList_inj.1 (List.ext_getElem? fun i=> ?_)
  rcases Nat.lt_or_ge i 64 with hi |hi
  · obtain⟨x,hx⟩:=ZF (xs:=f.toList) (k:=i) (by simp;omega)
    obtain⟨y,hy⟩:=ZF (xs:=g.toList) (k:=i) (by simp;omega)
    have:=h i hi
    unfold wd at this
    rw [XX hx,XX hy] at this
    rw [hx,hy,this]
  · rw [List.getElem?_eq_none (by simp;omega),List.getElem?_eq_none (by simp;omega)]
theorem Zr8(n:Int)(h:0≤n):Zgz (Q9 n)=true:=by
  have e: ∀ m,m<4→Zgz (gv_frame_syncs.toList.getD m 0)=true:=by decide
  exact e _ (by omega)
end Go.Vx

namespace Go.Vx
open Go Go.RowKit
theorem Xt{k N:Nat}(h:k<N)(hN:N≤4000000000):i64 ((k:Int)+1)=(k:Int)+1:=ZY (by omega) (by omega)
theorem Zmg(c:Int){i:Nat}(hi:i<64):wd (Vector.replicate 64 c) i=c:=by
  show(Vector.replicate 64 c).toList.getD i 0=c
  rw [Vector.toList_replicate,List.getD_eq_getElem?_getD,List.getElem?_replicate,if_pos hi];rfl
theorem Zbh(i:Nat):wd (Vector.replicate 64 (0:Int)) i=0:=by
  by_cases h:i<64
  · exact Zmg 0 h
  · exact Zl3 _ (by omega)
theorem ZmY{body:Vector Int 64→Int→Option ((Vector Int 64×Int) ⊕ Vector Int 64)}(c:Int)(h1: ∀ (v:Vector Int 64) (k:Nat),k<64→body v k=some (.inl (Qr v k c,(k:Int)+1)))
    (h2: ∀ v,body v 64=some (.inr v)) (v0:Vector Int 64):loop (t2 body) (v0,0)=some (Vector.replicate 64 c):=by
  obtain⟨r,e1,e2⟩:=Xj (body:=body) (N:=64) (fun k v=> ∀ i,i<k→wd v i=c) (fun r=>r=Vector.replicate 64 c) (fun k v hk hI=> .inl ⟨_,h1 v k hk,fun i hi=>by
    rw [Jc v hk]
    split
    · rfl
    · exact hI i (by omega)⟩) (fun v hI=>⟨v,h2 v,Zec fun i hi=>by rw [hI i hi,Zmg c hi]⟩) (fun i hi=>by omega)
  rw [e1,e2]
theorem ZhB(c:Int):Jv c=some (Vector.replicate 64 c):=by
  unfold Jv
  rw [ZmY (body:=JM c) c (fun v k hk=>by
    unfold JM
    rw [if_pos (by simp;omega),Qf v hk,Option.bind_some,Xt hk (by omega)]) (fun v=>by unfold JM;rw [if_neg (by simp)])]
  rfl
structure MOK (n:Int) (l:List api_Rest):Prop where
  ne:l≠ []
  len:l.length≤1000000000
  num: ∀ r∈l,r.Number=n
  nar: ∀ r∈l,∀ i,0≤wd r.Frame i∧wd r.Frame i≤4095
  cop: ∀ r∈l,0≤r.Copies∧r.Copies≤1000000000
def sumC(l:List api_Rest):Int:=(l.map (·.Copies)).sum
theorem ZgI: ∀ {l:List api_Rest},(∀ r∈l,0≤r.Copies∧r.Copies≤1000000000)→0≤sumC l∧sumC l≤1000000000*l.length
  | [],_=>⟨Int.le_refl 0,Int.le_refl 0⟩
  |r::l,h=>by
    have h1:=h r (by simp)
    have h2:=ZgI (l:=l) fun x hx=>h x (by simp [hx])
    simp only [sumC,List.map_cons,List.sum_cons,List.length_cons] at*
    omega
theorem Zf3{l:List api_Rest}{k:Nat}{x:api_Rest}(hx:l[k]?=some x):sumC (l.take (k+1))=sumC (l.take k)+x.Copies:=by
  rw [List.take_succ,hx]
  simp [sumC]
def Snd(l:List api_Rest)(s:api_Rest):Prop:=s∈l∧s.Sound=true
def Clash(l:List api_Rest):Prop:=(∃ r∈l,r.Conflict=true)∨ ∃ r s,Snd l r∧Snd l s∧r.Frame≠s.Frame
def Top(l:List api_Rest)(V:Vector Int 64):Prop:= ∀ i,i<64→(∀ r,Snd l r→wd r.States i≤wd V i)∧0≤wd V i∧(wd V i=0∨ ∃ r,Snd l r∧wd r.States i=wd V i)
def Agr(l:List api_Rest)(i:Nat)(w:Int):Prop:=(∃ r∈l,wd r.States i≠0∧wd r.Frame i=w)∧ ∀ r∈l,wd r.States i≠0→wd r.Frame i=w
def Parts4(l:List api_Rest)(F S:Vector Int 64):Prop:= ∀ i,i<64→(Agr l i (wd F i)∧wd S i=1)∨((∀ w,¬Agr l i w)∧wd F i=0∧wd S i=0)
open Classical in
noncomputable def sndOut(n C:Int)(F V:Vector Int 64):api_Rest:=⟨n,F,V,true,if(∀ i,i<64→wd V i=3) then max C 1 else C,false⟩
open Classical in
noncomputable def prtOut(n C:Int)(F S:Vector Int 64):api_Rest:=if(∀ i,i<64→wd S i=1)∧Zl9 F n=true then⟨n,F,Vector.replicate 64 3,true,1,false⟩ else⟨n,F,S,false,C,false⟩
inductive MG (n:Int) (l:List api_Rest):api_Rest→Prop
  |clash:Clash l→MG n l ⟨n,Vector.replicate 64 0,Vector.replicate 64 0,false,sumC l,true⟩
  |sound {s:api_Rest} {V:Vector Int 64}: ¬Clash l→Snd l s→Top l V→MG n l (sndOut n (sumC l) s.Frame V)
  |parts {F S:Vector Int 64}: ¬Clash l→(∀ s,¬Snd l s)→Parts4 l F S→MG n l (prtOut n (sumC l) F S)
theorem Snd.congr{l l':List api_Rest}(h: ∀ r,r∈l↔r∈l')(s:api_Rest):Snd l s↔Snd l' s:=by unfold Snd;rw [h]
theorem Clash.congr{l l':List api_Rest}(h: ∀ r,r∈l↔r∈l'):Clash l↔Clash l':=by
  unfold Clash
  simp only [Snd.congr h,h]
theorem ZrM{l l':List api_Rest}(h: ∀ r,r∈l↔r∈l'){V V':Vector Int 64}(h1:Top l V)(h2:Top l' V'):V=V':=Zec fun i hi=>by
  obtain⟨a1,a2,a3⟩:=h1 i hi
  obtain⟨b1,b2,b3⟩:=h2 i hi
  have le1:wd V i≤wd V' i:=by
    rcases a3 with e | ⟨r,hr,e⟩
    · omega
    · rw [←e];exact b1 r ((Snd.congr h r).1 hr)
  have le2:wd V' i≤wd V i:=by
    rcases b3 with e | ⟨r,hr,e⟩
    · omega
    · rw [←e];exact a1 r ((Snd.congr h r).2 hr)
  omega
theorem Zoc{l l':List api_Rest}(h: ∀ r,r∈l↔r∈l'){i:Nat}{w w':Int}(h1:Agr l i w)(h2:Agr l' i w'):w=w':=by
  obtain⟨⟨r,hr,h3,h4⟩,_⟩:=h1
  rw [←h4];exact h2.2 r ((h r).1 hr) h3
theorem Zj8{l l':List api_Rest}(h: ∀ r,r∈l↔r∈l'){i:Nat}{w:Int}:Agr l i w↔Agr l' i w:=by unfold Agr;simp only [h]
theorem Zl5{l l':List api_Rest}(h: ∀ r,r∈l↔r∈l'){F F' S S':Vector Int 64}(h1:Parts4 l F S)(h2:Parts4 l' F' S'):F=F'∧S=S':=by
  have key: ∀ i,i<64→wd F i=wd F' i∧wd S i=wd S' i:=fun i hi=>by
    rcases h1 i hi with ⟨a1,a2⟩ | ⟨a1,a2,a3⟩<;>rcases h2 i hi with ⟨b1,b2⟩ | ⟨b1,b2,b3⟩
    · exact⟨Zoc h a1 b1,by omega⟩
    · exact(b1 _ ((Zj8 h).1 a1)).elim
    · exact(a1 _ ((Zj8 h).2 b1)).elim
    · exact⟨by omega,by omega⟩
  exact⟨Zec fun i hi=>(key i hi).1,Zec fun i hi=>(key i hi).2⟩
theorem MG.uniq{n:Int}{l l':List api_Rest}(h: ∀ r,r∈l↔r∈l')(hs:sumC l=sumC l'){o o':api_Rest}(h1:MG n l o)(h2:MG n l' o'):o=o':=by
  cases h1 with
  |clash c1=>
    cases h2 with
    |clash c2=>rw [hs]
    |sound c2=>exact(c2 ((Clash.congr h).1 c1)).elim
    |parts c2=>exact(c2 ((Clash.congr h).1 c1)).elim
  | @sound s V c1 s1 t1=>
    cases h2 with
    |clash c2=>exact(c1 ((Clash.congr h).2 c2)).elim
    | @sound s' V' c2 s2 t2=>
      have:s.Frame=s'.Frame:=Classical.byContradiction fun e=>c1 (.inr ⟨s,s',s1,(Snd.congr h s').2 s2,e⟩)
      rw [hs,this,ZrM h t1 t2]
    |parts c2 s2=>exact(s2 s ((Snd.congr h s).1 s1)).elim
  | @parts F S c1 s1 p1=>
    cases h2 with
    |clash c2=>exact(c1 ((Clash.congr h).2 c2)).elim
    | @sound s' V' c2 s2 t2=>exact(s1 s' ((Snd.congr h s').2 s2)).elim
    |parts c2 s2 p2=>
      obtain⟨e1,e2⟩:=Zl5 h p1 p2
      rw [hs,e1,e2]
end Go.Vx

namespace Go.Vx
open Go Go.RowKit
theorem ZnA(s:List api_Rest)(hs:s.length≤1000000000)(g:api_Rest→Bool):Ql s (fun z0=>some (g z0))=some (s.any g):=by
  have z:api_Rest:=⟨0,Vector.replicate 64 0,Vector.replicate 64 0,false,0,false⟩
  have:=ZhX (body:=t1 (Qb s (fun z0=>some (g z0)))) (fun k=>(k:Int)) (fun k=>if g (s.getD k z)=true then some (k:Int) else none) (fun e=>(.inl e:Int ⊕ Unit)) (.inr ()) (b:=s.length) (fun k hk=>by
    obtain⟨x,hx⟩:=ZF hk
    have ex:s.getD k z=x:=by rw [List.getD_eq_getElem?_getD,hx];rfl
    have eb:Qb s (fun z0=>some (g z0)) (k:Int)=if g x=true then some (.inr (.inl (k:Int))) else some (.inl ((k:Int)+1)):=by
      unfold Qb
      rw [if_pos (by simp;omega),Zw hx,Option.bind_some,Option.bind_some,ZY (by omega) (by omega)]
    rw [Z8,eb,ex]
    by_cases hg:g x=true
    · exact .inl ⟨_,by rw [if_pos hg],by rw [if_pos hg]⟩
    · exact .inr ⟨by rw [if_neg hg],by rw [if_neg hg];push_cast;rfl⟩) (by
    rw [Z8]
    unfold Qb
    rw [if_neg (by simp)])
  have e0:(0:Int)=((0:Nat):Int):=rfl
  unfold Ql QS
  rw [e0,this,Option.bind_some]
  cases hf:(List.range' 0 s.length).findSome? (fun k=>if g (s.getD k z)=true then some (k:Int) else none) with
  |none=>
    show(some (-1:Int)).bind _=_
    rw [Option.bind_some]
    have:s.any g=false:=by
      rw [List.any_eq_false]
      intro x hx hg
      obtain⟨i,hi⟩:=List.getElem?_of_mem hx
      have:=Zgu hf i (List.getElem?_eq_some_iff.1 hi).1
      rw [show s.getD i z=x by rw [List.getD_eq_getElem?_getD,hi];rfl,if_pos hg] at this
      cases this
    rw [this];rfl
  |some e=>
    show(some (e:Int)).bind _=_
    rw [Option.bind_some]
    obtain⟨k,hk,he⟩:=List.exists_of_findSome?_eq_some hf
    simp only [List.mem_range'_1] at hk
    split at he
    · rename_i hg
      cases he
      obtain⟨x,hx⟩:=ZF (xs:=s) (k:=k) (by omega)
      rw [show s.getD k z=x by rw [List.getD_eq_getElem?_getD,hx];rfl] at hg
      have:s.any g=true:=List.any_eq_true.2 ⟨x,List.mem_of_getElem? hx,hg⟩
      rw [this,show decide ((((0:Nat)):Int)≤(k:Int))=true by simp]
    · cases he
theorem ZB{l:List api_Rest}{k:Nat}{x r:api_Rest}(hx:l[k]?=some x):r∈l.take (k+1)↔r∈l.take k∨r=x:=by
  rw [List.take_succ,hx];simp
theorem Zox{l:List api_Rest}(hl:l.length≤1000000000)(hc: ∀ r∈l,0≤r.Copies∧r.Copies≤1000000000):loop (t2 (Js l)) (0,0)=some (sumC l):=by
  obtain⟨r,e1,e2⟩:=Xj (body:=Js l) (N:=l.length) (fun k c=>c=sumC (l.take k)) (fun r=>r=sumC l) (fun k c hk hI=>by
    obtain⟨x,hx⟩:=ZF hk
    have b1:=ZgI (l:=l.take (k+1)) fun r hr=>hc r (List.mem_of_mem_take hr)
    rw [List.length_take,Zf3 hx] at b1
    refine .inl ⟨_,?_,(Zf3 hx).symm⟩
    unfold Js
    rw [if_pos (by simp;omega),Zw hx,Option.bind_some,Xt hk (by omega),hI,ZY (by omega) (by omega)]) (fun c hI=>⟨c,by unfold Js;rw [if_neg (by simp)],by rw [hI,List.take_length]⟩) (s0:=(0:Int)) (by simp [sumC])
  rw [e1,e2]
theorem Zs1{body:Vector Int 64→Int→Option ((Vector Int 64×Int) ⊕ api_Rest)}(x:Vector Int 64)(mk:Vector Int 64→api_Rest)
    (h1: ∀ (v:Vector Int 64) (k:Nat),k<64→body v k=some (.inl (Qr v k (max (wd v k) (wd x k)),(k:Int)+1))) (h2: ∀ v,body v 64=some (.inr (mk v))) (v0:Vector Int 64):
    ∃ V,loop (t2 body) (v0,0)=some (mk V)∧ ∀ i,i<64→wd V i=max (wd v0 i) (wd x i):=by
  obtain⟨r,e1,V,e2,e3⟩:=Xj (body:=body) (N:=64) (fun k v=> ∀ i,i<64→wd v i=if i<k then max (wd v0 i) (wd x i) else wd v0 i) (fun r=> ∃ V,r=mk V∧ ∀ i,i<64→wd V i=max (wd v0 i) (wd x i)) (fun k v hk hI=> .inl ⟨_,h1 v k hk,fun i hi=>by
    rw [Jc v hk]
    by_cases hki:k=i
    · subst hki;rw [if_pos rfl,if_pos (by omega),hI k hk,if_neg (by omega)]
    · rw [if_neg hki,hI i hi]
      by_cases hik:i<k
      · rw [if_pos hik,if_pos (by omega)]
      · rw [if_neg hik,if_neg (by omega)]⟩) (fun v hI=>⟨_,h2 v,v,rfl,fun i hi=>by rw [hI i hi,if_pos hi]⟩) (s0:=v0) (fun i hi=>by rw [if_neg (by omega)])
  exact⟨V,by rw [e1,e2],e3⟩
theorem Zms{l:List api_Rest}{k:Nat}{x:api_Rest}(hx:l[k]?=some x)(hs:x.Sound=true){V0 V:Vector Int 64}(h0:Top (l.take k) V0)(hV: ∀ i,i<64→wd V i=max (wd V0 i) (wd x.States i)):Top (l.take (k+1)) V:=fun i hi=>by
  obtain⟨a1,a2,a3⟩:=h0 i hi
  rw [hV i hi]
  refine⟨fun r hr=> ?_,by omega,?_⟩
  · rcases(ZB hx).1 hr.1 with h |rfl
    · have:=a1 r ⟨h,hr.2⟩;omega
    · omega
  · by_cases hle:wd x.States i≤wd V0 i
    · rw [show max (wd V0 i) (wd x.States i)=wd V0 i by omega]
      rcases a3 with e | ⟨r,hr,e⟩
      · exact .inl e
      · exact .inr ⟨r,⟨(ZB hx).2 (.inl hr.1),hr.2⟩,e⟩
    · rw [show max (wd V0 i) (wd x.States i)=wd x.States i by omega]
      exact .inr ⟨x,⟨(ZB hx).2 (.inr rfl),hs⟩,rfl⟩
theorem Zrn:Top [] (Vector.replicate 64 0):=fun i _=>⟨fun r hr=>(List.not_mem_nil hr.1).elim,by rw [Zbh];exact Int.le_refl 0,Or.inl (Zbh i)⟩
theorem Zpv{l:List api_Rest}{k:Nat}{x:api_Rest}(hx:l[k]?=some x)(hs:x.Sound=false){V:Vector Int 64}(h0:Top (l.take k) V):Top (l.take (k+1)) V:=fun i hi=>by
  obtain⟨a1,a2,a3⟩:=h0 i hi
  refine⟨fun r hr=> ?_,a2,?_⟩
  · rcases(ZB hx).1 hr.1 with h |rfl
    · exact a1 r ⟨h,hr.2⟩
    · have:=hr.2;rw [hs] at this;cases this
  · rcases a3 with e | ⟨r,hr,e⟩
    · exact .inl e
    · exact .inr ⟨r,⟨(ZB hx).2 (.inl hr.1),hr.2⟩,e⟩
theorem Zg8{l:List api_Rest}{k:Nat}{s:api_Rest}(h:Snd (l.take k) s):Snd l s:=⟨List.mem_of_mem_take h.1,h.2⟩
def Zse(n C:Int)(l:List api_Rest)(k:Nat)(o:api_Rest):Prop:=
  ∃ F V,Top (l.take k) V∧(((∀ s,¬Snd (l.take k) s)∧o=⟨n,Vector.replicate 64 0,Vector.replicate 64 0,false,C,false⟩)∨
    ((∃ s,Snd (l.take k) s∧s.Frame=F)∧(∀ s,Snd (l.take k) s→s.Frame=F)∧o=⟨n,F,V,true,C,false⟩))
def SQ(n C:Int)(l:List api_Rest):(Bool×api_Rest) ⊕ api_Rest→Prop
  | .inl p=>p.1=false∧p.2.Number=n∧p.2.Copies=C∧ ∃ r s,Snd l r∧Snd l s∧r.Frame≠s.Frame
  | .inr o=>Zse n C l l.length o
theorem ZnS{l:List api_Rest}(hl:l.length≤1000000000)(n C:Int): ∃ b o,Zap ⟨n,Vector.replicate 64 0,Vector.replicate 64 0,false,C,false⟩ l=some (b,o)∧o.Number=n∧o.Copies=C∧
    (b=false→ ∃ r s,Snd l r∧Snd l s∧r.Frame≠s.Frame)∧(b=true→Zse n C l l.length o):=by
  obtain⟨r,e1,e2⟩:=Xj (body:=JF l) (N:=l.length) (Zse n C l)
    (SQ n C l) (fun k o hk hI=>by
    obtain⟨x,hx⟩:=ZF hk
    obtain⟨F,V,ht,hI⟩:=hI
    unfold JF
    rw [if_pos (by simp;omega),Zw hx,Option.bind_some,Xt hk (by omega)]
    cases hs:x.Sound with
    |false=>
      left
      refine⟨o,by simp,F,V,Zpv hx hs ht,?_⟩
      have hsn: ∀ s,Snd (l.take (k+1)) s↔Snd (l.take k) s:=fun s=>⟨fun h=>⟨(ZB hx).1 h.1 |>.elim id fun e=>(by have:=h.2;rw [e,hs] at this;cases this),h.2⟩,fun h=>⟨(ZB hx).2 (.inl h.1),h.2⟩⟩
      simp only [hsn]
      exact hI
    |true=>
      have hxs:Snd (l.take (k+1)) x:=⟨(ZB hx).2 (.inr rfl),hs⟩
      have hmax: ∀ o:api_Rest,∃ W,loop (t2 (XK o x)) (o.States,0)=some (api_Rest.mk o.Number x.Frame W true o.Copies o.Conflict)∧ ∀ i,i<64→wd W i=max (wd o.States i) (wd x.States i):=fun o=>
        Zs1 (body:=XK o x) x.States (fun W=>api_Rest.mk o.Number x.Frame W true o.Copies o.Conflict) (fun v k hk=>by
          unfold XK
          rw [if_pos (by simp;omega),Qf _ hk,Option.bind_some,Qf _ hk,Option.bind_some,Option.bind_some,Xt hk (by omega)]) (fun v=>by unfold XK;rw [if_neg (by simp)]) _
      obtain⟨W,w1,w2⟩:=hmax o
      rcases hI with ⟨h1,rfl⟩ | ⟨⟨s0,h0,h0'⟩,h1,rfl⟩
      · left
        refine⟨_,by simp [w1],x.Frame,W,Zms hx hs ht (fun i hi=> ?_),.inr ⟨⟨x,hxs,rfl⟩,fun s hs'=> ?_,rfl⟩⟩
        · rw [w2 i hi]
          have:=ht i hi
          rcases this.2.2 with e | ⟨r,hr,_⟩
          · rw [e,Zbh]
          · exact(h1 r hr).elim
        · rcases(ZB hx).1 hs'.1 with h |rfl
          · exact(h1 s ⟨h,hs'.2⟩).elim
          · rfl
      · by_cases hf:F=x.Frame
        · left
          subst hf
          refine⟨_,by simp [w1],x.Frame,W,Zms hx hs ht w2,.inr ⟨⟨x,hxs,rfl⟩,fun s hs'=> ?_,rfl⟩⟩
          rcases(ZB hx).1 hs'.1 with h |rfl
          · exact h1 s ⟨h,hs'.2⟩
          · rfl
        · right
          exact⟨.inl (false,⟨n,F,V,true,C,false⟩),by simp [hf],rfl,rfl,rfl,s0,x,Zg8 h0,Zg8 hxs,by rw [h0'];exact hf⟩)
    (fun o hI=>⟨.inr o,by unfold JF;rw [if_neg (by simp)],hI⟩) (s0:=⟨n,Vector.replicate 64 0,Vector.replicate 64 0,false,C,false⟩)
    ⟨Vector.replicate 64 0,Vector.replicate 64 0,by rw [List.take_zero];exact Zrn,.inl ⟨fun s h=>(List.not_mem_nil (by rw [List.take_zero] at h;exact h.1)).elim,rfl⟩⟩
  unfold Zap
  rw [e1,Option.bind_some]
  cases r with
  |inl p=>
    obtain⟨b,o⟩:=p
    obtain⟨rfl,h2,h3,h4⟩:=e2
    exact⟨false,o,rfl,h2,h3,fun _=>h4,fun h=>by cases h⟩
  |inr o=>
    refine⟨true,o,rfl,?_,?_,(fun h=>by cases h),fun _=>e2⟩
    · obtain⟨F,V,_,⟨_,rfl⟩ | ⟨_,_,rfl⟩⟩:=e2<;>rfl
    · obtain⟨F,V,_,⟨_,rfl⟩ | ⟨_,_,rfl⟩⟩:=e2<;>rfl
end Go.Vx

namespace Go.Vx
open Go Go.RowKit
def Zkq(l:List api_Rest)(i k:Nat)(f s:Int)(d:Bool):Prop:=
  ((∀ r∈l.take k,wd r.States i=0)∧f=0∧s=0∧d=false)∨
  ((∃ r∈l.take k,wd r.States i≠0∧wd r.Frame i=f)∧s=1∧(d=false↔ ∀ r∈l.take k,wd r.States i≠0→wd r.Frame i=f))
theorem Znr{l:List api_Rest}{i k:Nat}{f s:Int}{d:Bool}{x:api_Rest}(hx:l[k]?=some x)(h0:wd x.States i=0)(h:Zkq l i k f s d):Zkq l i (k+1) f s d:=by
  rcases h with ⟨h1,h2⟩ | ⟨⟨r,hr,h1⟩,h2,h3⟩
  · exact .inl ⟨fun r hr=>((ZB hx).1 hr).elim (h1 r) fun e=>by rw [e];exact h0,h2⟩
  · refine .inr ⟨⟨r,(ZB hx).2 (.inl hr),h1⟩,h2,h3.trans ⟨fun h r hr hn=> ?_,fun h r hr hn=>h r ((ZB hx).2 (.inl hr)) hn⟩⟩
    rcases(ZB hx).1 hr with h' |rfl
    · exact h r h' hn
    · exact(hn h0).elim
theorem ZnB{l:List api_Rest}{i k:Nat}{f s:Int}{d:Bool}{x:api_Rest}(hx:l[k]?=some x)(h0:wd x.States i≠0)(h:Zkq l i k f s d):
    Zkq l i (k+1) (wd x.Frame i) 1 (d || ((!decide (s=0))&&(!decide (f=wd x.Frame i)))):=by
  right
  refine⟨⟨x,(ZB hx).2 (.inr rfl),h0,rfl⟩,rfl,?_⟩
  rcases h with ⟨h1,rfl,rfl,rfl⟩ | ⟨⟨r0,hr0,hn0,e0⟩,rfl,h3⟩
  · simp only [Bool.false_or,decide_true,Bool.not_true,Bool.false_and,true_iff]
    intro r hr hn
    rcases(ZB hx).1 hr with h' |rfl
    · exact(hn (h1 r h')).elim
    · rfl
  · simp only [show decide ((1:Int)=0)=false from rfl,Bool.not_false,Bool.true_and,Bool.or_eq_false_iff,Bool.not_eq_false',decide_eq_true_eq]
    constructor
    · rintro⟨hd,e⟩ r hr hn
      rcases(ZB hx).1 hr with h' |rfl
      · rw [h3.1 hd r h' hn,e]
      · rfl
    · intro h
      have e1:=h r0 ((ZB hx).2 (.inl hr0)) hn0
      refine⟨h3.2 fun r hr hn=> ?_,by rw [←e0,e1]⟩
      rw [h r ((ZB hx).2 (.inl hr)) hn,←e0,e1]
theorem ZpR{l:List api_Rest}{i:Nat}{f s:Int}{d:Bool}(h:Zkq l i l.length f s d):(Agr l i f∧s=1∧d=false)∨((∀ w,¬Agr l i w)∧(d=true∨(f=0∧s=0∧d=false))):=by
  unfold Zkq at h
  rw [List.take_length] at h
  rcases h with ⟨h1,h2⟩ | ⟨⟨r,hr,h1,h1'⟩,h2,h3⟩
  · exact .inr ⟨fun w ⟨⟨r,hr,hn,_⟩,_⟩=>hn (h1 r hr),.inr h2⟩
  · cases d with
    |false=>exact .inl ⟨⟨⟨r,hr,h1,h1'⟩,h3.1 rfl⟩,h2,rfl⟩
    |true=>
      refine .inr ⟨fun w ⟨_,hw⟩=> ?_,.inl rfl⟩
      have:(true:Bool)=false:=h3.2 fun r' hr' hn=>by rw [hw r' hr' hn,←h1',hw r hr h1]
      cases this
theorem Zmb{l:List api_Rest}(hl:l.length≤1000000000){n C:Int}{F S:Vector Int 64}{i:Nat}(hi:i<64)(hF:wd F i=0)(hS:wd S i=0):
    ∃ F' S' d,loop (t3 (XN l (i:Int))) (⟨n,F,S,false,C,false⟩,false,0)=some (⟨n,F',S',false,C,false⟩,d)∧(∀ j,j≠i→wd F' j=wd F j∧wd S' j=wd S j)∧Zkq l i l.length (wd F' i) (wd S' i) d:=by
  obtain⟨r,e1,F',S',d,rfl,e2,e3⟩:=Zdb (body:=XN l (i:Int)) (N:=l.length)
    (fun k o d=> ∃ F' S',o=⟨n,F',S',false,C,false⟩∧(∀ j,j≠i→wd F' j=wd F j∧wd S' j=wd S j)∧Zkq l i k (wd F' i) (wd S' i) d)
    (fun r=> ∃ F' S' d,r=(⟨n,F',S',false,C,false⟩,d)∧(∀ j,j≠i→wd F' j=wd F j∧wd S' j=wd S j)∧Zkq l i l.length (wd F' i) (wd S' i) d)
    (by
      rintro k o d hk ⟨F',S',rfl,h1,h2⟩
      obtain⟨x,hx⟩:=ZF hk
      left
      unfold XN
      rw [if_pos (by simp;omega),Zw hx,Option.bind_some,Qf _ hi,Option.bind_some,Xt hk (by omega)]
      by_cases h0:wd x.States i=0
      · rw [if_pos (by simpa using h0)]
        exact⟨_,_,rfl,F',S',rfl,h1,Znr hx h0 h2⟩
      · rw [if_neg (by simpa using h0)]
        have g: ∀ (b:Bool) (v:Vector Int 64),gd b 0 (ZA v (i:Int))=some (if b=true then wd v i else 0):=fun b v=>by
          cases b
          · rfl
          · rw [Zdj,Qf _ hi];rfl
        rw [g,Option.bind_some,g,Option.bind_some,g,Option.bind_some,Qf _ hi,Option.bind_some,Qf _ hi,Option.bind_some,Qf _ hi,Option.bind_some]
        refine⟨_,_,rfl,_,_,rfl,fun j hj=> ?_,?_⟩
        · rw [Jc _ hi,Jc _ hi,if_neg (Ne.symm hj),if_neg (Ne.symm hj)];exact h1 j hj
        · rw [Jc _ hi,Jc _ hi,if_pos rfl,if_pos rfl]
          have:=ZnB hx h0 h2
          cases d with
          |true=>simpa using this
          |false=>
            by_cases hs:wd S' i=0
            · simpa [hs] using this
            · simpa [hs] using this)
    (by
      rintro o d ⟨F',S',rfl,h1,h2⟩
      exact⟨_,by unfold XN;rw [if_neg (by simp)],F',S',d,rfl,h1,h2⟩)
    (a0:=⟨n,F,S,false,C,false⟩) (b0:=false) ⟨F,S,rfl,fun j _=>⟨rfl,rfl⟩,.inl ⟨fun r hr=>by rw [List.take_zero] at hr;exact(List.not_mem_nil hr).elim,hF,hS,rfl⟩⟩
  exact⟨F',S',d,e1,e2,e3⟩
theorem ZnV{l:List api_Rest}(hl:l.length≤1000000000)(n C:Int): ∃ F S,ZbH ⟨n,Vector.replicate 64 0,Vector.replicate 64 0,false,C,false⟩ l=some ⟨n,F,S,false,C,false⟩∧Parts4 l F S:=by
  obtain⟨r,e1,F,S,rfl,e2⟩:=Xj (body:=JB l) (N:=64)
    (fun k o=> ∃ F S,o=⟨n,F,S,false,C,false⟩∧(∀ j,j<k→(Agr l j (wd F j)∧wd S j=1)∨((∀ w,¬Agr l j w)∧wd F j=0∧wd S j=0))∧ ∀ j,k≤j→wd F j=0∧wd S j=0)
    (fun r=> ∃ F S,r=⟨n,F,S,false,C,false⟩∧Parts4 l F S)
    (by
      rintro k o hk ⟨F,S,rfl,h1,h2⟩
      left
      obtain⟨F',S',d,g1,g2,g3⟩:=Zmb hl (n:=n) (C:=C) hk (h2 k (Nat.le_refl _)).1 (h2 k (Nat.le_refl _)).2
      unfold JB
      rw [if_pos (by simp;omega),g1,Option.bind_some,QG,Xt hk (by omega)]
      have hag:=ZpR g3
      cases d with
      |true=>
        rw [if_pos rfl,Qf _ hk,Option.bind_some,Qf _ hk,Option.bind_some]
        refine⟨_,rfl,_,_,rfl,fun j hj=> ?_,fun j hj=> ?_⟩
        · rw [Jc _ hk,Jc _ hk]
          by_cases hjk:k=j
          · subst hjk
            rw [if_pos rfl,if_pos rfl]
            rcases hag with ⟨_,_,h⟩ | ⟨h,_⟩
            · cases h
            · exact .inr ⟨h,rfl,rfl⟩
          · rw [if_neg hjk,if_neg hjk,(g2 j (Ne.symm hjk)).1,(g2 j (Ne.symm hjk)).2];exact h1 j (by omega)
        · rw [Jc _ hk,Jc _ hk,if_neg (by omega),if_neg (by omega),(g2 j (by omega)).1,(g2 j (by omega)).2];exact h2 j (by omega)
      |false=>
        rw [if_neg (by simp)]
        refine⟨_,rfl,_,_,rfl,fun j hj=> ?_,fun j hj=> ?_⟩
        · by_cases hjk:k=j
          · subst hjk
            rcases hag with ⟨h,h',_⟩ | ⟨h,h' | ⟨h',h'',_⟩⟩
            · exact .inl ⟨h,h'⟩
            · cases h'
            · exact .inr ⟨h,h',h''⟩
          · rw [(g2 j (Ne.symm hjk)).1,(g2 j (Ne.symm hjk)).2];exact h1 j (by omega)
        · rw [(g2 j (by omega)).1,(g2 j (by omega)).2];exact h2 j (by omega))
    (by
      rintro o ⟨F,S,rfl,h1,_⟩
      exact⟨_,by unfold JB;rw [if_neg (by simp)],F,S,rfl,h1⟩)
    (s0:=⟨n,Vector.replicate 64 0,Vector.replicate 64 0,false,C,false⟩) ⟨_,_,rfl,fun j hj=>by omega,fun j _=>⟨Zbh j,Zbh j⟩⟩
  exact⟨F,S,e1,e2⟩
theorem Zf5{n:Int}{l:List api_Rest}(h:MOK n l){F S:Vector Int 64}(hp:Parts4 l F S)(i:Nat):0≤wd F i∧wd F i≤4095:=by
  by_cases hi:i<64
  · rcases hp i hi with ⟨⟨⟨r,hr,_,e⟩,_⟩,_⟩ | ⟨_,e,_⟩
    · rw [←e];exact h.nar r hr i
    · omega
  · rw [Zl3 _ (by omega)];omega
theorem Zst(v:Vector Int 64)(c:Int):(v.toList.any fun s=>decide (s=c) || decide (s=c))=true↔ ∃ i,i<64∧wd v i=c:=by
  rw [Zml v (fun s=>decide (s=c) || decide (s=c))];simp
theorem ZkW(v:Vector Int 64)(c:Int):(!v.toList.any fun s=> !decide (s=c))=true↔ ∀ i,i<64→wd v i=c:=by
  have:=Zml v (fun s=> !decide (s=c))
  cases hb:v.toList.any fun s=> !decide (s=c) with
  |true=>
    obtain⟨i,hi,h⟩:=this.1 hb
    simp at h
    simp
    exact⟨i,hi,h⟩
  |false=>
    simp only [Bool.not_false,true_iff]
    intro i hi
    exact Classical.byContradiction fun hc=>by
      have:=this.2 ⟨i,hi,by simpa using hc⟩
      rw [hb] at this;cases this
theorem ZqC{n:Int}{l:List api_Rest}(h:MOK n l): ∃ o,JU l=some o∧MG n l o:=by
  obtain⟨x,hx⟩:=ZF (xs:=l) (k:=0) (List.length_pos_iff.2 h.ne)
  have hxn:x.Number=n:=h.num x (List.mem_of_getElem? hx)
  have hb:=ZgI h.cop
  have hlen:=h.len
  have hx0:idx l 0=some x:=Zw (k:=0) hx
  unfold JU ZbO
  rw [hx0,Option.bind_some,Zox h.len h.cop,Option.bind_some,Z8,ZnA l h.len (fun z=>z.Conflict),Option.bind_some,hxn]
  obtain⟨b,o,e1,e2,e3,e4,e5⟩:=ZnS h.len n (sumC l)
  rw [e1,Option.bind_some]
  simp only
  cases hc:(l.any fun z=>z.Conflict) with
  |true=>
    rw [if_pos (by simp)]
    obtain⟨r,hr,hrc⟩:=List.any_eq_true.1 hc
    exact⟨_,rfl,by rw [e2,e3];exact .clash (.inl ⟨r,hr,hrc⟩)⟩
  |false=>
    cases b with
    |false=>
      rw [if_pos (by simp)]
      exact⟨_,rfl,by rw [e2,e3];exact .clash (.inr (e4 rfl))⟩
    |true=>
      rw [if_neg (by simp)]
      obtain⟨F,V,ht,hI⟩:=e5 rfl
      rw [List.take_length] at ht hI
      have hnc: ¬ ∃ r∈l,r.Conflict=true:=fun⟨r,hr,hrc⟩=>by
        have:=List.any_eq_true.2 ⟨r,hr,hrc⟩
        rw [hc] at this;cases this
      rcases hI with ⟨h1,rfl⟩ | ⟨⟨s,hs,hsF⟩,h1,rfl⟩
      · have hcl: ¬Clash l:=fun hcl=>hcl.elim hnc fun⟨r,s,hr,_⟩=>h1 r hr
        rw [if_pos (by simp)]
        obtain⟨F,S,p1,p2⟩:=ZnV h.len n (sumC l)
        have hN:=Zf5 h p2
        rw [p1,Option.bind_some,ZrB,Option.bind_some]
        have hso:Je F n=some (Zl9 F n):=Zj5 (fun i=>⟨(hN i).1,by have:=(hN i).2;omega⟩) (hN 1).2 (hN 2).2 n
        simp only
        have hpo:MG n l (prtOut n (sumC l) F S):= .parts hcl h1 p2
        have hany:=Zst S 0
        cases ha:(S.toList.any fun s=>decide (s=0) || decide (s=0)) with
        |true=>
          obtain⟨i,hi,h0⟩:=hany.1 ha
          have hne: ¬((∀ i,i<64→wd S i=1)∧Zl9 F n=true):=fun hh=>by have:=hh.1 i hi;omega
          unfold prtOut at hpo
          rw [if_neg hne] at hpo
          refine⟨_,?_,hpo⟩
          simp
        |false=>
          have hall: ∀ i,i<64→wd S i=1:=fun i hi=>by
            rcases p2 i hi with ⟨_,e⟩ | ⟨_,_,e⟩
            · exact e
            · have:=hany.2 ⟨i,hi,e⟩;rw [ha] at this;cases this
          simp only [Bool.not_false,show((true:Bool)==true)=true from rfl,Zdj]
          rw [hso,Option.bind_some]
          cases hsb:Zl9 F n with
          |true=>
            rw [if_pos (by simp),ZhB,Option.bind_some,Option.bind_some,Z8]
            simp only [show((true:Bool)==true)=true from rfl,Zdj]
            rw [Zmw,Option.bind_some]
            have:(!((Vector.replicate 64 (3:Int)).toList.any fun s=> !decide (s=3)))=true:=(ZkW _ 3).2 fun i hi=>Zmg 3 hi
            simp only at this ⊢
            rw [this,if_pos (by simp)]
            unfold prtOut at hpo
            rw [if_pos ⟨hall,hsb⟩] at hpo
            exact⟨_,rfl,hpo⟩
          |false=>
            rw [if_neg (by simp),Option.bind_some,Z8]
            unfold prtOut at hpo
            rw [if_neg (fun hh=>by rw [hsb] at hh;cases hh.2)] at hpo
            exact⟨_,by simp,hpo⟩
      · have hcl: ¬Clash l:=fun hcl=>hcl.elim hnc fun⟨r,s,hr,hs,hne⟩=>hne (by rw [h1 r hr,h1 s hs])
        rw [if_neg (by simp),Option.bind_some,Z8]
        have hmo:MG n l (sndOut n (sumC l) s.Frame V):= .sound hcl hs ht
        rw [hsF] at hmo
        simp only [show((true:Bool)==true)=true from rfl,Zdj]
        rw [Zmw,Option.bind_some]
        have hall:=ZkW V 3
        unfold sndOut at hmo
        cases ha:(!V.toList.any fun s=> !decide (s=3)) with
        |true=>
          rw [if_pos (hall.1 ha)] at hmo
          exact⟨_,by simp,hmo⟩
        |false=>
          rw [if_neg (fun hh=>by rw [hall.2 hh] at ha;cases ha)] at hmo
          exact⟨_,by simp,hmo⟩
end Go.Vx

namespace Go.Vx
open Go Go.RowKit
theorem Zn7{l:List api_Rest}(hl:l.length≤1000000000){i:Nat}(hi:i<64): ∃ w b,ZfP l (i:Int)=some (w,b)∧((b=true∧Agr l i w)∨(b=false∧ ∀ w,¬Agr l i w)):=by
  obtain⟨r,e1,e2⟩:=Zdb (body:=Zcp l (i:Int)) (N:=l.length)
    (fun k w b=>((∀ r∈l.take k,wd r.States i=0)∧b=false)∨(b=true∧(∃ r∈l.take k,wd r.States i≠0∧wd r.Frame i=w)∧ ∀ r∈l.take k,wd r.States i≠0→wd r.Frame i=w))
    (fun r=>match r with | .inl p=>p.2=false∧ ∀ w,¬Agr l i w | .inr p=>(p.2=true∧Agr l i p.1)∨(p.2=false∧ ∀ w,¬Agr l i w))
    (by
      intro k w b hk hI
      obtain⟨x,hx⟩:=ZF hk
      unfold Zcp
      rw [if_pos (by simp;omega),Zw hx,Option.bind_some,Qf _ hi,Option.bind_some,Xt hk (by omega)]
      by_cases h0:wd x.States i=0
      · rw [if_pos (by simpa using h0)]
        left
        refine⟨_,_,rfl,?_⟩
        rcases hI with ⟨h1,h2⟩ | ⟨h1,⟨r,hr,h2⟩,h3⟩
        · exact .inl ⟨fun r hr=>((ZB hx).1 hr).elim (h1 r) fun e=>by rw [e];exact h0,h2⟩
        · refine .inr ⟨h1,⟨r,(ZB hx).2 (.inl hr),h2⟩,fun r hr hn=> ?_⟩
          rcases(ZB hx).1 hr with h |rfl
          · exact h3 r h hn
          · exact(hn h0).elim
      · rw [if_neg (by simpa using h0)]
        have hxm:x∈l.take (k+1):=(ZB hx).2 (.inr rfl)
        rcases hI with ⟨h1,rfl⟩ | ⟨rfl,⟨r,hr,hn,h2⟩,h3⟩
        · left
          rw [show((false:Bool)==true)=false from rfl,ZqE,Option.bind_some,if_neg (by simp),Qf _ hi,Option.bind_some]
          refine⟨_,_,rfl,.inr ⟨rfl,⟨x,hxm,h0,rfl⟩,fun r hr hn=> ?_⟩⟩
          rcases(ZB hx).1 hr with h |rfl
          · exact(hn (h1 r h)).elim
          · rfl
        · rw [ZcJ,Qf _ hi,Option.bind_some]
          by_cases he:w=wd x.Frame i
          · left
            rw [if_neg (by simp [he]),Option.bind_some]
            refine⟨_,_,rfl,.inr ⟨rfl,⟨x,hxm,h0,rfl⟩,fun r' hr' hn'=> ?_⟩⟩
            rcases(ZB hx).1 hr' with h |rfl
            · rw [h3 r' h hn',he]
            · rfl
          · right
            rw [if_pos (by simp [he])]
            refine⟨_,rfl,rfl,fun v ⟨_,hv⟩=>he ?_⟩
            rw [←h2,hv r (List.mem_of_mem_take hr) hn,hv x (List.mem_of_mem_take hxm) h0])
    (by
      intro w b hI
      rw [List.take_length] at hI
      unfold Zcp
      rw [if_neg (by simp)]
      refine⟨_,rfl,?_⟩
      rcases hI with ⟨h1,rfl⟩ | ⟨rfl,h2⟩
      · exact .inr ⟨rfl,fun w ⟨⟨r,hr,hn,_⟩,_⟩=>hn (h1 r hr)⟩
      · exact .inl ⟨rfl,h2⟩)
    (a0:=(0:Int)) (b0:=false) (.inl ⟨fun r hr=>by rw [List.take_zero] at hr;exact(List.not_mem_nil hr).elim,rfl⟩)
  unfold ZfP
  rw [e1,Option.bind_some]
  cases r with
  |inl p=>exact⟨p.1,p.2,rfl,.inr e2⟩
  |inr p=>exact⟨p.1,p.2,rfl,e2⟩
def Zqd(n:Int)(l:List api_Rest)(k:Nat)(o:api_Rest):Prop:=
  ∃ F V b,Top (l.take k) V∧o.Number=n∧o.Copies=sumC (l.take k)∧o.Conflict=b∧(b=true→Clash l)∧
    (((∀ s, ¬ Snd (l.take k) s) ∧ o.Sound = false ∧ o.Frame = Vector.replicate 64 0 ∧ o.States = Vector.replicate 64 0 ∧ (b = false → ∀ r ∈ l.take k, r.Conflict = false)) ∨
     (o.Sound=true∧o.Frame=F∧o.States=V∧(∃ s,Snd (l.take k) s∧s.Frame=F)∧(b=false→(∀ s,Snd (l.take k) s→s.Frame=F)∧ ∀ r∈l.take k,r.Conflict=false)))
theorem ZlE{n:Int}{l:List api_Rest}(h:MOK n l): ∃ o,loop (t2 (ZbC l)) (⟨n,Vector.replicate 64 0,Vector.replicate 64 0,false,0,false⟩,0)=some o∧Zqd n l l.length o:=by
  have hlen:=h.len
  refine Xj (body:=ZbC l) (N:=l.length) (Zqd n l) (Zqd n l l.length) (fun k o hk hI=> ?_) (fun o hI=>⟨o,by unfold ZbC;rw [if_neg (by simp)],hI⟩) ?_
  · obtain⟨x,hx⟩:=ZF hk
    have hxl:x∈l:=List.mem_of_getElem? hx
    have b1:=ZgI (l:=l.take (k+1)) fun r hr=>h.cop r (List.mem_of_mem_take hr)
    rw [List.length_take,Zf3 hx] at b1
    obtain⟨F,V,b,ht,hn,hC,hb,hcl,hI⟩:=hI
    obtain⟨oN,oF,oS,oD,oC,oX⟩:=o
    simp only at hn hC hb hI
    subst hn hb
    have hCx:i64 (oC+x.Copies)=sumC (l.take (k+1)):=by rw [hC,Zf3 hx,ZY (by omega) (by omega)]
    left
    unfold ZbC
    rw [if_pos (by simp;omega),Zw hx,Option.bind_some,Xt hk (by omega)]
    simp only [hCx]
    cases hs:x.Sound with
    |false=>
      refine⟨_,by simp;rfl,F,V,oX || x.Conflict,Zpv hx hs ht,rfl,rfl,rfl,fun hh=> ?_,?_⟩
      · rcases Bool.or_eq_true_iff.1 hh with h1 |h1
        · exact hcl h1
        · exact .inl ⟨x,hxl,h1⟩
      · have hsn: ∀ s,Snd (l.take (k+1)) s↔Snd (l.take k) s:=fun s=>⟨fun h=>⟨(ZB hx).1 h.1 |>.elim id fun e=>(by have:=h.2;rw [e,hs] at this;cases this),h.2⟩,fun h=>⟨(ZB hx).2 (.inl h.1),h.2⟩⟩
        have hcf:(oX || x.Conflict)=false→(oX=false→ ∀ r∈l.take k,r.Conflict=false)→ ∀ r∈l.take (k+1),r.Conflict=false:=fun h1 h2 r hr=>by
          simp only [Bool.or_eq_false_iff] at h1
          rcases(ZB hx).1 hr with h' |rfl
          · exact h2 h1.1 r h'
          · exact h1.2
        simp only [hsn]
        rcases hI with ⟨h1,h2,h3,h4,h5⟩ | ⟨h1,h2,h3,h4,h5⟩
        · exact .inl ⟨h1,h2,h3,h4,fun hh=>hcf hh h5⟩
        · exact .inr ⟨h1,h2,h3,h4,fun hh=>⟨(h5 (by simp only [Bool.or_eq_false_iff] at hh;exact hh.1)).1,hcf hh fun h6=>(h5 h6).2⟩⟩
    |true=>
      have hxs:Snd (l.take (k+1)) x:=⟨(ZB hx).2 (.inr rfl),hs⟩
      have hmax: ∀ cf:Bool,∃ W,loop (t2 (ZaD ⟨oN,oF,oS,oD,oC,oX⟩ x cf)) (oS,0)=some (api_Rest.mk oN x.Frame W true (sumC (l.take (k+1))) cf)∧ ∀ i,i<64→wd W i=max (wd oS i) (wd x.States i):=fun cf=>
        Zs1 (body:=ZaD ⟨oN,oF,oS,oD,oC,oX⟩ x cf) x.States (fun W=>api_Rest.mk oN x.Frame W true (sumC (l.take (k+1))) cf) (fun v k hk=>by
          unfold ZaD
          rw [if_pos (by simp;omega),Qf _ hk,Option.bind_some,Qf _ hk,Option.bind_some,Option.bind_some,Xt hk (by omega)]) (fun v=>by unfold ZaD;rw [if_neg (by simp)];simp only [hCx]) _
      have fin: ∀ cf:Bool,(cf=true→Clash l)→(cf=false→oX=false∧x.Conflict=false∧(oD=true→oF=x.Frame))→ ∃ W,loop (t2 (ZaD ⟨oN,oF,oS,oD,oC,oX⟩ x cf)) (oS,0)=some (api_Rest.mk oN x.Frame W true (sumC (l.take (k+1))) cf)∧Zqd oN l (k+1) (api_Rest.mk oN x.Frame W true (sumC (l.take (k+1))) cf):=fun cf hc1 hc2=>by
        obtain⟨W,w1,w2⟩:=hmax cf
        refine⟨W,w1,x.Frame,W,cf,Zms hx hs ht (fun i hi=> ?_),rfl,rfl,rfl,hc1,.inr ⟨rfl,rfl,rfl,⟨x,hxs,rfl⟩,fun hcf=> ?_⟩⟩
        · rw [w2 i hi]
          rcases hI with ⟨h1,h2,h3,h4,h5⟩ | ⟨h1,h2,h3,h4,h5⟩
          · have:=ht i hi
            rcases this.2.2 with e | ⟨r,hr,_⟩
            · rw [e,h4,Zbh]
            · exact(h1 r hr).elim
          · rw [h3]
        · obtain⟨g1,g2,g3⟩:=hc2 hcf
          rcases hI with ⟨h1,h2,h3,h4,h5⟩ | ⟨h1,h2,h3,h4,h5⟩
          · refine⟨fun s hs'=> ?_,fun r hr=> ?_⟩
            · rcases(ZB hx).1 hs'.1 with h |rfl
              · exact(h1 s ⟨h,hs'.2⟩).elim
              · rfl
            · rcases(ZB hx).1 hr with h' |rfl
              · exact h5 g1 r h'
              · exact g2
          · refine⟨fun s hs'=> ?_,fun r hr=> ?_⟩
            · rcases(ZB hx).1 hs'.1 with h |rfl
              · rw [(h5 g1).1 s ⟨h,hs'.2⟩,←h2,g3 h1]
              · rfl
            · rcases(ZB hx).1 hr with h' |rfl
              · exact(h5 g1).2 r h'
              · exact g2
      by_cases hne:(oD&& !decide (oF=x.Frame))=true
      · simp only [Bool.and_eq_true,Bool.not_eq_true',decide_eq_false_iff_not] at hne
        have hcl':Clash l:=by
          rcases hI with ⟨h1,h2,_⟩ | ⟨h1,h2,h3,⟨s,hs1,hs2⟩,h5⟩
          · rw [h2] at hne;cases hne.1
          · exact .inr ⟨s,x,Zg8 hs1,Zg8 hxs,by rw [hs2,←h2];exact hne.2⟩
        obtain⟨W,w1,w2⟩:=fin true (fun _=>hcl') (fun hh=>by cases hh)
        obtain⟨hd,hf⟩:=hne
        subst hd
        refine⟨_,?_,w2⟩
        simp only [Bool.not_true,Bool.false_eq_true,if_false]
        rw [if_pos (by simp [hf]),Option.bind_some,Z8,w1,Option.bind_some]
        rfl
      · obtain⟨W,w1,w2⟩:=fin (oX || x.Conflict) (fun hh=>by
          rcases Bool.or_eq_true_iff.1 hh with h1 |h1
          · exact hcl h1
          · exact .inl ⟨x,hxl,h1⟩) (fun hh=>by
          simp only [Bool.or_eq_false_iff] at hh
          refine⟨hh.1,hh.2,fun hd=> ?_⟩
          subst hd
          simpa using hne)
        refine⟨_,?_,w2⟩
        simp only [Bool.not_true,Bool.false_eq_true,if_false]
        rw [if_neg hne,Option.bind_some,Z8,w1,Option.bind_some]
        rfl
  · exact⟨Vector.replicate 64 0,Vector.replicate 64 0,false,by rw [List.take_zero];exact Zrn,rfl,by rw [List.take_zero];rfl,rfl,(fun hh=>by cases hh),.inl ⟨fun s hs=>(List.not_mem_nil (by rw [List.take_zero] at hs;exact hs.1)).elim,rfl,rfl,rfl,fun _ r hr=>by rw [List.take_zero] at hr;exact(List.not_mem_nil hr).elim⟩⟩
end Go.Vx

namespace Go.Vx
open Go Go.RowKit
theorem ZnR(r:api_Rest):ZeS r=some (!r.States.toList.any fun s=> !decide (s=3)):=by
  have h:=ZhX (body:=t1 (Zar r)) (fun k=>(k:Int)) (fun k=>if wd r.States k=3 then none else some false) (fun e=>(.inl e:Bool ⊕ Unit)) (.inr ()) (b:=64) (fun k hk=>by
    have eb:Zar r (k:Int)=if wd r.States k=3 then some (.inl ((k:Int)+1)) else some (.inr (.inl false)):=by
      unfold Zar
      rw [if_pos (by simp;omega),Qf _ hk,Option.bind_some,Xt hk (by omega)]
      by_cases h3:wd r.States k=3
      · rw [if_neg (by simp [h3]),if_pos h3]
      · rw [if_pos (by simp [h3]),if_neg h3]
    rw [Z8,eb]
    by_cases h3:wd r.States k=3
    · exact .inr ⟨by rw [if_pos h3],by rw [if_pos h3];push_cast;rfl⟩
    · exact .inl ⟨false,by rw [if_neg h3],by rw [if_neg h3]⟩) (by
    rw [Z8]
    unfold Zar
    rw [if_neg (by simp)])
  have hall:=ZkW r.States 3
  unfold ZeS
  have e0:(0:Int)=((0:Nat):Int):=rfl
  rw [e0,h,Option.bind_some]
  cases hf:(List.range' 0 64).findSome? (fun k=>if wd r.States k=3 then none else some false) with
  |none=>
    have:(!r.States.toList.any fun s=> !decide (s=3))=true:=hall.2 fun i hi=>by
      have:=Zgu hf i hi
      by_cases h3:wd r.States i=3
      · exact h3
      · rw [if_neg h3] at this;cases this
    rw [this];rfl
  |some e=>
    obtain⟨k,hk,he⟩:=List.exists_of_findSome?_eq_some hf
    simp only [List.mem_range'_1] at hk
    have:(!r.States.toList.any fun s=> !decide (s=3))=false:=by
      cases hb:(!r.States.toList.any fun s=> !decide (s=3)) with
      |false=>rfl
      |true=>have:=hall.1 hb k (by omega);rw [if_pos this] at he;cases he
    rw [this]
    split at he
    · cases he
    · cases he;rfl
theorem Zoa{l:List api_Rest}(hl:l.length≤1000000000)(n C:Int): ∃ F S b,loop (t3 (Zbx l)) (⟨n,Vector.replicate 64 0,Vector.replicate 64 0,false,C,false⟩,true,0)=some (⟨n,F,S,false,C,false⟩,b)∧Parts4 l F S∧(b=true↔ ∀ i,i<64→wd S i=1):=by
  obtain⟨r,e1,F,S,b,rfl,e2,e3⟩:=Zdb (body:=Zbx l) (N:=64)
    (fun k o b=> ∃ F S,o=⟨n,F,S,false,C,false⟩∧(∀ j,j<k→(Agr l j (wd F j)∧wd S j=1)∨((∀ w,¬Agr l j w)∧wd F j=0∧wd S j=0))∧(∀ j,k≤j→wd F j=0∧wd S j=0)∧(b=true↔ ∀ i,i<k→wd S i=1))
    (fun r=> ∃ F S b,r=(⟨n,F,S,false,C,false⟩,b)∧Parts4 l F S∧(b=true↔ ∀ i,i<64→wd S i=1))
    (by
      rintro k o b hk ⟨F,S,rfl,h1,h2,h3⟩
      left
      obtain⟨w,c,g1,g2⟩:=Zn7 hl hk
      unfold Zbx
      rw [if_pos (by simp;omega),g1,Option.bind_some,Xt hk (by omega)]
      rcases g2 with ⟨rfl,g2⟩ | ⟨rfl,g2⟩
      · rw [if_pos rfl,Qf _ hk,Option.bind_some,Qf _ hk,Option.bind_some]
        refine⟨_,_,rfl,_,_,rfl,fun j hj=> ?_,fun j hj=> ?_,?_⟩
        · rw [Jc _ hk,Jc _ hk]
          by_cases hjk:k=j
          · subst hjk;rw [if_pos rfl,if_pos rfl];exact .inl ⟨g2,rfl⟩
          · rw [if_neg hjk,if_neg hjk];exact h1 j (by omega)
        · rw [Jc _ hk,Jc _ hk,if_neg (by omega),if_neg (by omega)];exact h2 j (by omega)
        · rw [Bool.and_true,h3]
          constructor
          · intro hh i hi
            rw [Jc _ hk]
            split
            · rfl
            · exact hh i (by omega)
          · intro hh i hi
            have:=hh i (by omega)
            rw [Jc _ hk,if_neg (by omega)] at this
            exact this
      · rw [if_neg (by simp)]
        refine⟨_,_,rfl,_,_,rfl,fun j hj=> ?_,fun j hj=>h2 j (by omega),?_⟩
        · by_cases hjk:k=j
          · subst hjk;exact .inr ⟨g2,h2 k (Nat.le_refl _)⟩
          · exact h1 j (by omega)
        · rw [Bool.and_false]
          refine⟨(fun hh=>by cases hh),fun hh=> ?_⟩
          have h4:=hh k (by omega)
          have h5:=(h2 k (Nat.le_refl _)).2
          omega)
    (by
      rintro o b ⟨F,S,rfl,h1,_,h3⟩
      exact⟨_,by unfold Zbx;rw [if_neg (by simp)],F,S,b,rfl,h1,h3⟩)
    (a0:=⟨n,Vector.replicate 64 0,Vector.replicate 64 0,false,C,false⟩) (b0:=true) ⟨_,_,rfl,fun j hj=>by omega,fun j _=>⟨Zbh j,Zbh j⟩,⟨fun _ i hi=>by omega,fun _=>rfl⟩⟩
  exact⟨F,S,b,e1,e2,e3⟩
theorem ZoQ{n:Int}{l:List api_Rest}(h:MOK n l): ∃ o,ZdQ l=some o∧MG n l o:=by
  obtain⟨x,hx⟩:=ZF (xs:=l) (k:=0) (List.length_pos_iff.2 h.ne)
  have hxn:x.Number=n:=h.num x (List.mem_of_getElem? hx)
  have hb:=ZgI h.cop
  have hlen:=h.len
  have hx0:idx l 0=some x:=Zw (k:=0) hx
  obtain⟨⟨oN,oF,oS,oD,oC,oX⟩,e1,F,V,b,ht,hn,hC,hbb,hcl,hI⟩:=ZlE h
  rw [List.take_length] at ht hC hI
  simp only at hn hC hbb hI
  subst hn hC hbb
  unfold ZdQ
  rw [hx0,Option.bind_some,hxn,e1,Option.bind_some,Z8]
  simp only
  cases oX with
  |true=>rw [if_pos rfl];exact⟨_,rfl,.clash (hcl rfl)⟩
  |false=>
    rw [if_neg (by simp)]
    have hnc: ∀ hc:(∀ r∈l,r.Conflict=false),¬ ∃ r∈l,r.Conflict=true:=fun hc ⟨r,hr,hrc⟩=>by rw [hc r hr] at hrc;cases hrc
    rcases hI with ⟨h1,h2,h3,h4,h5⟩ | ⟨h1,h2,h3,⟨s,hs,hsF⟩,h5⟩
    · have hcl': ¬Clash l:=fun hc=>hc.elim (hnc (h5 rfl)) fun⟨r,s,hr,_⟩=>h1 r hr
      subst h2 h3 h4
      rw [if_neg (by simp)]
      obtain⟨F,S,c,p1,p2,p3⟩:=Zoa h.len oN (sumC l)
      have hN:=Zf5 h p2
      have hU:fU F:=fun i=>⟨(hN i).1,by have:=(hN i).2;omega⟩
      rw [p1,Option.bind_some,QG]
      have hpo:MG oN l (prtOut oN (sumC l) F S):= .parts hcl' h1 p2
      unfold prtOut at hpo
      simp only
      cases c with
      |false=>
        rw [show((false:Bool)==true)=false from rfl,ZqE,Option.bind_some]
        rw [if_neg (fun hh=>by have:=p3.2 hh.1;cases this)] at hpo
        refine⟨_,?_,hpo⟩
        simp
      |true=>
        rw [ZcJ,Zi9 hU,Option.bind_some,Bool.true_and]
        have hsas:Zl9 F oN=(ZfE F&&decide ((Zd9 F).1=oN)):=rfl
        cases hs:ZfE F with
        |false=>
          rw [show((false:Bool)==true)=false from rfl,ZqE,Option.bind_some]
          rw [if_neg (fun hh=>by rw [hsas,hs] at hh;cases hh.2)] at hpo
          exact⟨_,by simp,hpo⟩
        |true=>
          rw [ZcJ,ZgK hU (hN 1).2 (hN 2).2,Option.bind_some]
          by_cases hnum:(Zd9 F).1=oN
          · rw [if_pos (by simp [hnum]),ZmY (body:=ZcY) 3 (fun v k hk=>by
              unfold ZcY
              rw [if_pos (by simp;omega),Qf v hk,Option.bind_some,Xt hk (by omega)]) (fun v=>by unfold ZcY;rw [if_neg (by simp)]),Option.bind_some,Z8]
            rw [if_pos ⟨p3.1 rfl,by rw [hsas,hs,hnum];simp⟩] at hpo
            exact⟨_,rfl,hpo⟩
          · rw [if_neg (by simp [hnum])]
            rw [if_neg (fun hh=>by rw [hsas,hs] at hh;simp [hnum] at hh)] at hpo
            exact⟨_,rfl,hpo⟩
    · obtain⟨h6,h7⟩:=h5 rfl
      subst h1 h2 h3
      have hcl': ¬Clash l:=fun hc=>hc.elim (hnc h7) fun⟨r,s,hr,hs,hne⟩=>hne (by rw [h6 r hr,h6 s hs])
      have hmo:MG oN l (sndOut oN (sumC l) s.Frame oS):= .sound hcl' hs ht
      rw [hsF] at hmo
      rw [if_pos rfl]
      have hall:=ZkW oS 3
      unfold sndOut at hmo
      have hg:=ZnR ⟨oN,oF,oS,true,sumC l,false⟩
      by_cases hz:sumC l=0
      · rw [show decide (sumC l=0)=true by simp [hz],ZcJ,hg,Option.bind_some]
        cases ha:(!oS.toList.any fun s=> !decide (s=3)) with
        |true=>
          rw [if_pos (hall.1 ha),show max (sumC l) 1=1 by omega] at hmo
          exact⟨_,by simp [ha],hmo⟩
        |false=>
          rw [if_neg (fun hh=>by rw [hall.2 hh] at ha;cases ha)] at hmo
          exact⟨_,by simp [ha],hmo⟩
      · rw [show decide (sumC l=0)=false by simp [hz]]
        simp only [show((false:Bool)==true)=false from rfl,ZqE,Option.bind_some,Bool.false_and,Bool.false_eq_true,if_false]
        have:max (sumC l) 1=sumC l:=by omega
        rw [this] at hmo
        simp only [ite_self] at hmo
        exact⟨_,rfl,hmo⟩
end Go.Vx

namespace Go.Vx
open Go Go.RowKit
theorem Zjh{V:Type}{k x:Int}{a:V}: ∀ {m:List (Int×V)},Zb8 kqI (Qc kqI m k a) x=if x=k then some a else Zb8 kqI m x
  | []=>by rw [Zf0,JY]
  | (c,v)::m=>by
    rw [Zaj]
    by_cases h:k=c
    · subst h
      rw [if_pos rfl,JY,JY]
      by_cases hx:x=k
      · rw [if_pos hx,if_pos hx]
      · rw [if_neg hx,if_neg hx,if_neg hx]
    · rw [if_neg h,JY,JY,Zjh]
      by_cases hx:x=c
      · rw [if_pos hx,if_pos hx,if_neg (fun e=>h (by rw [←e,hx]))]
      · rw [if_neg hx,if_neg hx]
def grp(l:List api_Rest)(n:Int):List api_Rest:=l.filter fun r=>decide (r.Number=n)
theorem ZoU{l:List api_Rest}{k:Nat}{x:api_Rest}(hx:l[k]?=some x)(n:Int):grp (l.take (k+1)) n=grp (l.take k) n++(if x.Number=n then [x] else []):=by
  unfold grp
  rw [List.take_succ,hx,List.filter_append]
  congr 1
  by_cases h:x.Number=n<;>simp [h]
theorem Zdt{l:List api_Rest}{n:Int}{r:api_Rest}:r∈grp l n↔r∈l∧r.Number=n:=by unfold grp;simp
structure LOK (l:List api_Rest):Prop where
  len:l.length≤1000000000
  nar: ∀ r∈l,∀ i,0≤wd r.Frame i∧wd r.Frame i≤4095
  cop: ∀ r∈l,0≤r.Copies∧r.Copies≤1000000000
theorem LOK.grp{l:List api_Rest}(h:LOK l){n:Int}(hn:Go.Vx.grp l n≠ []):MOK n (Go.Vx.grp l n):=
  ⟨hn,Nat.le_trans (List.length_filter_le _ _) h.len,fun _ hr=>(Zdt.1 hr).2,fun r hr=>h.nar r (Zdt.1 hr).1,fun r hr=>h.cop r (Zdt.1 hr).1⟩
def ZmA(l:List api_Rest)(k:Nat)(g:List (Int×List api_Rest)):Prop:= ∀ n,Zb8 kqI g n=if grp (l.take k) n= [] then none else some (grp (l.take k) n)
def Zlo(l:List api_Rest)(k:Nat)(y:List Int):Prop:= ∀ n,n∈y↔ ∃ r∈l.take k,r.Number=n
theorem Zix{l:List api_Rest}{n:Int}:grp l n= []↔ ¬ ∃ r∈l,r.Number=n:=by
  constructor
  · rintro h ⟨r,hr,hn⟩
    have:=Zdt.2 ⟨hr,hn⟩
    rw [h] at this;exact List.not_mem_nil this
  · intro h
    exact List.eq_nil_iff_forall_not_mem.2 fun r hr=>h ⟨r,Zdt.1 hr⟩
theorem ZgU{l:List api_Rest}{k:Nat}{x:api_Rest}(hx:l[k]?=some x){g:List (Int×List api_Rest)}(h:ZmA l k g):ZmA l (k+1) (Qc kqI g x.Number (grp (l.take k) x.Number++ [x])):=by
  intro n
  rw [Zjh,ZoU hx]
  by_cases hn:n=x.Number
  · subst hn;rw [if_pos rfl,if_pos rfl,if_neg (by simp)]
  · rw [if_neg hn,if_neg (Ne.symm hn),List.append_nil];exact h n
theorem Zf2{l:List api_Rest}{k:Nat}{x:api_Rest}(hx:l[k]?=some x){y y':List Int}(h:Zlo l k y)(hy: ∀ n,n∈y'↔n∈y∨n=x.Number):Zlo l (k+1) y':=by
  intro n
  rw [hy,h n]
  constructor
  · rintro(⟨r,hr,e⟩ |rfl)
    · exact⟨r,(ZB hx).2 (.inl hr),e⟩
    · exact⟨x,(ZB hx).2 (.inr rfl),rfl⟩
  · rintro⟨r,hr,e⟩
    rcases(ZB hx).1 hr with h' |rfl
    · exact .inl ⟨r,h',e⟩
    · exact .inr e.symm
theorem Zo9(l:List api_Rest):ZmA l 0 []:=fun n=>by rw [List.take_zero];rfl
theorem Zpa(l:List api_Rest):Zlo l 0 []:=fun n=>by rw [List.take_zero];simp
def GR(l:List api_Rest)(out:List api_Rest):Prop:=
  ∃ y:List Int,y.Pairwise (· < ·)∧(∀ n,n∈y↔ ∃ r∈l,r.Number=n)∧out.length=y.length∧ ∀ (i:Nat) n o,y[i]?=some n→out[i]?=some o→MG n (grp l n) o
theorem Zh5: ∀ {a b:List Int},a.Pairwise (· < ·)→b.Pairwise (· < ·)→(∀ n,n∈a↔n∈b)→a=b
  | [],[],_,_,_=>rfl
  | [],b::_,_,_,h=>by have:=(h b).2 (by simp);cases this
  |a::_,[],_,_,h=>by have:=(h a).1 (by simp);cases this
  |a::ta,b::tb,ha,hb,h=>by
    rw [List.pairwise_cons] at ha hb
    have e:a=b:=by
      rcases List.mem_cons.1 ((h a).1 (by simp)) with e |h1
      · exact e
      · rcases List.mem_cons.1 ((h b).2 (by simp)) with e |h2
        · exact e.symm
        · have:=ha.1 b h2;have:=hb.1 a h1;omega
    subst e
    rw [Zh5 ha.2 hb.2 fun n=> ?_]
    constructor
    · intro hn
      rcases List.mem_cons.1 ((h n).1 (List.mem_cons_of_mem _ hn)) with e |h'
      · have:=ha.1 n hn;omega
      · exact h'
    · intro hn
      rcases List.mem_cons.1 ((h n).2 (List.mem_cons_of_mem _ hn)) with e |h'
      · have:=hb.1 n hn;omega
      · exact h'
theorem Znn{l l':List api_Rest}(h:l.Perm l'):sumC l=sumC l':=by
  unfold sumC
  induction h with
  |nil=>rfl
  |cons x _ ih=>simp [ih]
  |swap x y l=>simp only [List.map_cons,List.sum_cons];omega
  |trans _ _ ih1 ih2=>exact ih1.trans ih2
theorem GR.uniq{l l':List api_Rest}(hp:l.Perm l'){o o':List api_Rest}(h:GR l o)(h':GR l' o'):o=o':=by
  obtain⟨y,h1,h2,h3,h4⟩:=h
  obtain⟨y',g1,g2,g3,g4⟩:=h'
  have hy:y=y':=Zh5 h1 g1 fun n=>by rw [h2,g2];simp only [hp.mem_iff]
  subst hy
  refine List.ext_getElem? fun i=> ?_
  by_cases hi:i<y.length
  · obtain⟨n,hn⟩:=ZF hi
    obtain⟨a,ha⟩:=ZF (xs:=o) (k:=i) (by omega)
    obtain⟨b,hb⟩:=ZF (xs:=o') (k:=i) (by omega)
    rw [ha,hb]
    have hpg:(grp l n).Perm (grp l' n):=hp.filter _
    rw [(h4 i n a hn ha).uniq (fun r=>hpg.mem_iff) (Znn hpg) (g4 i n b hn hb)]
  · rw [List.getElem?_eq_none (by omega),List.getElem?_eq_none (by omega)]
theorem ZjZ{α:Type}{o:Option α}(h:o=none):ZjI o= .inl ():=by rw [h];rfl
theorem Zf6{α:Type}{o:Option α}{x:α}(h:o=some x):ZjI o= .inr x:=by rw [h];rfl
theorem Zkd{l:List api_Rest}(hl:LOK l){y:List Int}(hy:y.Pairwise (· < ·))(hm:Zlo l l.length y)(hlen:y.length≤1000000000){body:List api_Rest→Int→Option ((List api_Rest×Int) ⊕ List api_Rest)}{mrg:List api_Rest→Option api_Rest}
    (hmrg: ∀ n m,MOK n m→ ∃ o,mrg m=some o∧MG n m o)
    (hstep: ∀ (out:List api_Rest) (k:Nat) n,y[k]?=some n→grp l n≠ []→body out (k:Int)=(mrg (grp l n)).bind fun o=>(app out [o]).bind fun l5=>some (.inl (l5,(k:Int)+1)))
    (hend: ∀ out,body out (y.length:Int)=some (.inr out)): ∃ out,loop (t2 body) ([],0)=some out∧GR l out:=by
  have hmem: ∀ n,n∈y↔ ∃ r∈l,r.Number=n:=fun n=>by have:=hm n;rwa [List.take_length] at this
  obtain⟨out,e1,e2,e3⟩:=Xj (body:=body) (N:=y.length) (fun k out=>out.length=k∧ ∀ (i:Nat) n o,y[i]?=some n→out[i]?=some o→MG n (grp l n) o) (fun out=>out.length=y.length∧ ∀ (i:Nat) n o,y[i]?=some n→out[i]?=some o→MG n (grp l n) o)
    (by
      rintro k out hk ⟨h1,h2⟩
      obtain⟨n,hn⟩:=ZF hk
      have hne:grp l n≠ []:=fun e=>Zix.1 e ((hmem n).1 (List.mem_of_getElem? hn))
      obtain⟨o,g1,g2⟩:=hmrg n _ (hl.grp hne)
      left
      rw [hstep out k n hn hne,g1,Option.bind_some,Xk (by simp;omega),Option.bind_some]
      refine⟨_,rfl,by simp [h1],fun i n' o' hi ho=> ?_⟩
      by_cases hik:i<out.length
      · rw [List.getElem?_append_left hik] at ho;exact h2 i n' o' hi ho
      · rw [List.getElem?_append_right (by omega)] at ho
        have:i-out.length=0:=by
          have:=(List.getElem?_eq_some_iff.1 ho).1
          simp at this;omega
        rw [this] at ho
        have hio:i=k:=by omega
        subst hio
        cases ho
        rw [hn] at hi;cases hi
        exact g2) (fun out h=>⟨out,hend out,h⟩) (s0:= []) ⟨rfl,fun i n o _ ho=>by simp at ho⟩
  exact⟨out,e1,y,hy,hmem,e2,e3⟩
theorem ZjW{l:List api_Rest}(hl:LOK l): ∃ out,Xi l=some out∧GR l out:=by
  have hlen:=hl.len
  obtain⟨r,e1,g,y,rfl,h1,h2,h3,h4⟩:=Zdb (body:=XU l) (N:=l.length) (fun k g y=>ZmA l k g∧Zlo l k y∧y.Nodup∧y.length≤k)
    (fun r=> ∃ g y,r=(g,y)∧ZmA l l.length g∧Zlo l l.length y∧y.Nodup∧y.length≤l.length)
    (by
      rintro k g y hk ⟨h1,h2,h3,h4⟩
      obtain⟨x,hx⟩:=ZF hk
      left
      unfold XU
      rw [if_pos (by simp;omega),Zw hx,Option.bind_some,Xt hk (by omega)]
      have hg:=h1 x.Number
      by_cases hn:grp (l.take k) x.Number= []
      · rw [if_pos hn] at hg
        rw [ZjZ hg,Option.bind_some,Sum.elim_inl,if_pos rfl,Xk (by simp;omega),Option.bind_some,Option.bind_some,Z8,Option.bind_some,Sum.elim_inl,Xk (by simp),Option.bind_some,Option.bind_some,QG]
        have hnm:x.Number∉y:=fun hm=>Zix.1 hn ((h2 _).1 hm)
        refine⟨_,_,rfl,?_,Zf2 hx h2 (fun n=>by simp),?_,by simp;omega⟩
        · have:=ZgU hx h1
          rw [hn] at this;exact this
        · exact List.nodup_append.2 ⟨h3,by simp,fun a ha b hb e=>hnm (by rw [List.mem_singleton] at hb;rw [←hb,←e];exact ha)⟩
      · rw [if_neg hn] at hg
        have hpos:0<(grp (l.take k) x.Number).length:=List.length_pos_iff.2 hn
        have hgl:(grp (l.take k) x.Number).length≤l.length:=Nat.le_trans (List.length_filter_le _ _) (by rw [List.length_take];omega)
        have hxm:x.Number∈y:=by
          obtain⟨r,hr⟩:=List.exists_mem_of_ne_nil _ hn
          exact(h2 _).2 ⟨r,Zdt.1 hr⟩
        rw [Zf6 hg,Option.bind_some,Sum.elim_inr]
        have hck:ck (decide (0<(grp (l.take k) x.Number).length))=some ():=by unfold ck;rw [if_pos (by simpa using hpos)]
        rw [hck,Option.bind_some,if_neg (by simp),Option.bind_some,Z8,Option.bind_some,Sum.elim_inr,Xk (by simp;omega),Option.bind_some,Option.bind_some,QG]
        exact⟨_,_,rfl,ZgU hx h1,Zf2 hx h2 (fun n=>⟨.inl,fun h=>h.elim id fun e=>by rw [e];exact hxm⟩),h3,by omega⟩)
    (by
      rintro g y ⟨h1,h2,h3,h4⟩
      exact⟨_,by unfold XU;rw [if_neg (by simp)],g,y,rfl,h1,h2,h3,h4⟩) (a0:= []) (b0:= []) ⟨Zo9 l,Zpa l,List.nodup_nil,Nat.le_refl _⟩
  unfold Xi
  rw [e1,Option.bind_some,QG]
  have hp:=List.mergeSort_perm y (fun x z=>decide (x≤z))
  have hs:=List.pairwise_mergeSort (le:=fun x z=>decide ((x:Int)≤z)) (fun a b c h1 h2=>by simp only [decide_eq_true_iff] at*;omega) (fun a b=>by simp only [Bool.or_eq_true,decide_eq_true_iff];omega) y
  have hj:Zh1 y=some (y.mergeSort fun x z=>decide (x≤z)):=by unfold Zh1;rw [if_pos (by omega)]
  rw [hj,Option.bind_some]
  generalize y.mergeSort (fun x z=>decide (x≤z))=z at hp hs
  have hnd:z.Nodup:=hp.symm.nodup h3
  have hst:z.Pairwise (· < ·):=by
    have:=List.Pairwise.and hs hnd
    exact this.imp fun⟨a,b⟩=>by simp only [decide_eq_true_iff] at a;omega
  have hzl:z.length=y.length:=hp.length_eq
  obtain⟨out,o1,o2⟩:=Zkd hl hst (y:=z) (fun n=>by rw [hp.mem_iff];exact h2 n) (by omega) (body:=XO g z) (mrg:=JU) (fun n m hm=>ZqC hm)
    (fun out k n hn hne=>by
      unfold XO
      have hkl:=(List.getElem?_eq_some_iff.1 hn).1
      have hg:=h1 n
      rw [List.take_length,if_neg hne] at hg
      rw [if_pos (by simp;omega),Zw hn,Option.bind_some,Zf6 hg,Option.bind_some,Sum.elim_inr,Xt hkl (by omega)])
    (fun out=>by unfold XO;rw [if_neg (by simp)])
  rw [o1,Option.bind_some,Z8]
  exact⟨out,rfl,o2⟩
end Go.Vx

namespace Go.Vx
open Go Go.RowKit
theorem ZrR{o:List Int}(ho:o.Pairwise (· < ·))(hl:o.length≤1000000000){n:Int}(hn:n∉o){body:Int→Option (Int ⊕ Int)}
    (hb: ∀ k:Nat,k≤o.length→body (k:Int)=(gd ((decide ((0:Int)<(k:Int)))==true) 0 (idx o (i64 ((k:Int)-1)))).bind fun x2=>if((decide ((0:Int)<(k:Int)))&&(decide (n<x2)))=true then some (.inl (i64 ((k:Int)-1))) else some (.inr (k:Int))):
    ∃ at_:Nat,loop (t1 body) (o.length:Int)=some (at_:Int)∧at_≤o.length∧(∀ i x,i<at_→o[i]?=some x→x<n)∧ ∀ i x,at_≤i→o[i]?=some x→n<x:=by
  obtain⟨r,e1,at_,rfl,e2⟩:=ZbE (body:=t1 body) (fun s=> ∃ k:Nat,s=k∧k≤o.length∧ ∀ i x,k≤i→o[i]?=some x→n<x) (fun s=>s.toNat)
    (fun r=> ∃ at_:Nat,r=(at_:Int)∧at_≤o.length∧(∀ i x,i<at_→o[i]?=some x→x<n)∧ ∀ i x,at_≤i→o[i]?=some x→n<x)
    (by
      rintro s ⟨k,rfl,hk,h1⟩
      rw [Z8,hb k hk]
      by_cases h0:0<k
      · obtain⟨x,hx⟩:=ZF (xs:=o) (k:=k-1) (by omega)
        have e:i64 ((k:Int)-1)=((k-1:Nat):Int):=by rw [ZY (by omega) (by omega)];omega
        rw [show decide ((0:Int)<(k:Int))=true by simp;omega,ZcJ,e,Zw hx,Option.bind_some]
        by_cases hlt:n<x
        · left
          refine⟨_,by rw [if_pos (by simp [hlt])],⟨k-1,rfl,by omega,fun i y hi hy=> ?_⟩,by simp only [Int.toNat_natCast];omega⟩
          by_cases hik:i=k-1
          · subst hik;rw [hx] at hy;cases hy;exact hlt
          · exact h1 i y (by omega) hy
        · right
          refine⟨_,by rw [if_neg (by simp;omega)],k,rfl,hk,fun i y hi hy=> ?_,h1⟩
          have hxn:x<n:=by
            have:x≠n:=fun e=>hn (by rw [←e];exact List.mem_of_getElem? hx)
            omega
          by_cases hik:i=k-1
          · subst hik;rw [hx] at hy;cases hy;exact hxn
          · obtain⟨hil,hy'⟩:=List.getElem?_eq_some_iff.1 hy
            obtain⟨hxl,hx'⟩:=List.getElem?_eq_some_iff.1 hx
            have:=List.pairwise_iff_getElem.1 ho i (k-1) hil hxl (by omega)
            rw [hy',hx'] at this
            omega
      · right
        refine⟨_,by rw [show decide ((0:Int)<(k:Int))=false by simp;omega];rfl,k,rfl,hk,fun i y hi=>by omega,h1⟩) _ ⟨o.length,rfl,Nat.le_refl _,fun i x hi hx=>by have:=(List.getElem?_eq_some_iff.1 hx).1;omega⟩
  exact⟨at_,e1,e2⟩
theorem Zmn{o:List Int}(ho:o.Pairwise (· < ·)){n:Int}{at_:Nat}(h1: ∀ i x,i<at_→o[i]?=some x→x<n)(h2: ∀ i x,at_≤i→o[i]?=some x→n<x):(o.take at_++n::o.drop at_).Pairwise (· < ·):=by
  have ha: ∀ x∈o.take at_,x<n:=fun x hx=>by
    obtain⟨i,hi⟩:=List.getElem?_of_mem hx
    have hil:i<at_:=by have:=(List.getElem?_eq_some_iff.1 hi).1;simp at this;omega
    rw [List.getElem?_take_of_lt hil] at hi
    exact h1 i x hil hi
  have hb: ∀ x∈o.drop at_,n<x:=fun x hx=>by
    obtain⟨i,hi⟩:=List.getElem?_of_mem hx
    rw [List.getElem?_drop] at hi
    exact h2 _ x (by omega) hi
  refine List.pairwise_append.2 ⟨ho.sublist (List.take_sublist _ _),List.pairwise_cons.2 ⟨hb,ho.sublist (List.drop_sublist _ _)⟩,fun x hx y hy=> ?_⟩
  rcases List.mem_cons.1 hy with rfl |hy
  · exact ha x hx
  · have:=ha x hx;have:=hb y hy;omega
theorem Zme{l:List api_Rest}(hl:LOK l): ∃ out,Zbg l=some out∧GR l out:=by
  have hlen:=hl.len
  obtain⟨r,e1,y,g,rfl,h1,h2,h3,h4⟩:=Zdb (body:=ZbQ l) (N:=l.length) (fun k y g=>ZmA l k g∧Zlo l k y∧y.Pairwise (· < ·)∧y.length≤k)
    (fun r=> ∃ y g,r=(y,g)∧ZmA l l.length g∧Zlo l l.length y∧y.Pairwise (· < ·)∧y.length≤l.length)
    (by
      rintro k y g hk ⟨h1,h2,h3,h4⟩
      obtain⟨x,hx⟩:=ZF hk
      left
      unfold ZbQ
      rw [if_pos (by simp;omega),Zw hx,Option.bind_some,Xt hk (by omega)]
      have hg:=h1 x.Number
      by_cases hn:grp (l.take k) x.Number= []
      · rw [if_pos hn] at hg
        have hnm:x.Number∉y:=fun hm=>Zix.1 hn ((h2 _).1 hm)
        obtain⟨at_,f1,f2,f3,f4⟩:=ZrR h3 (by omega) hnm (body:=Zdl y x) (fun k _=>by unfold Zdl;rfl)
        rw [ZjZ hg,Option.bind_some,Sum.elim_inl,if_pos (by simp),f1,Option.bind_some,Z8,Xk (by simp;omega),Option.bind_some]
        have hl2:(y++ [(0:Int)]).length=y.length+1:=by simp
        have ea:i64 ((at_:Int)+1)=((at_+1:Nat):Int):=by rw [ZY (by omega) (by omega)];omega
        have hs1:slq (y++ [(0:Int)]) ((at_+1:Nat):Int) ((y++ [(0:Int)]).length:Int)=some ():=by
          unfold slq ck;rw [if_pos (by simp;omega)]
        have hs2:slq (y++ [(0:Int)]) (at_:Int) ((y++ [(0:Int)]).length:Int)=some ():=by
          unfold slq ck;rw [if_pos (by simp;omega)]
        rw [ea,hs1,Option.bind_some,hs2,Option.bind_some]
        have t1':Int.toNat (((y++ [(0:Int)]).length:Int)-((at_+1:Nat):Int))=(y.length+1)-(at_+1):=by rw [hl2];omega
        have t2':Int.toNat (((y++ [(0:Int)]).length:Int)-(at_:Int))=(y.length+1)-at_:=by rw [hl2];omega
        rw [t1',t2',Int.toNat_natCast,Int.toNat_natCast]
        obtain⟨z,hz⟩:=ZF (xs:=cpy (y++ [(0:Int)]) (at_+1) ((y.length+1)-(at_+1)) at_ ((y.length+1)-at_)) (k:=at_) (by rw [ZiD (by omega) (by omega)];omega)
        rw [Zw hz,Option.bind_some,Option.bind_some,Z8,Option.bind_some,Sum.elim_inl,Xk (by simp),Option.bind_some,Option.bind_some,QG,Zo0 f2]
        refine⟨_,_,rfl,?_,Zf2 hx h2 (fun n=> ?_),Zmn h3 f3 f4,by simp;omega⟩
        · have:=ZgU hx h1
          rw [hn] at this;exact this
        · rw [List.mem_append,List.mem_cons]
          have:n∈y↔n∈y.take at_∨n∈y.drop at_:=by rw [←List.mem_append,List.take_append_drop]
          rw [this]
          constructor
          · rintro(h |h |h)
            · exact .inl (.inl h)
            · exact .inr h
            · exact .inl (.inr h)
          · rintro((h |h) |h)
            · exact .inl h
            · exact .inr (.inr h)
            · exact .inr (.inl h)
      · rw [if_neg hn] at hg
        have hpos:0<(grp (l.take k) x.Number).length:=List.length_pos_iff.2 hn
        have hgl:(grp (l.take k) x.Number).length≤l.length:=Nat.le_trans (List.length_filter_le _ _) (by rw [List.length_take];omega)
        have hxm:x.Number∈y:=by
          obtain⟨r,hr⟩:=List.exists_mem_of_ne_nil _ hn
          exact(h2 _).2 ⟨r,Zdt.1 hr⟩
        rw [Zf6 hg,Option.bind_some,Sum.elim_inr,if_neg (by simp;omega),Option.bind_some,Z8,Option.bind_some,Sum.elim_inr,Xk (by simp;omega),Option.bind_some,Option.bind_some,QG]
        exact⟨_,_,rfl,ZgU hx h1,Zf2 hx h2 (fun n=>⟨.inl,fun h=>h.elim id fun e=>by rw [e];exact hxm⟩),h3,by omega⟩)
    (by
      rintro y g ⟨h1,h2,h3,h4⟩
      exact⟨_,by unfold ZbQ;rw [if_neg (by simp)],y,g,rfl,h1,h2,h3,h4⟩) (a0:= []) (b0:= []) ⟨Zo9 l,Zpa l,List.Pairwise.nil,Nat.le_refl _⟩
  unfold Zbg
  rw [e1,Option.bind_some,QG]
  obtain⟨out,o1,o2⟩:=Zkd hl h3 h2 (by omega) (body:=ZbJ y g) (mrg:=ZdQ) (fun n m hm=>ZoQ hm)
    (fun out k n hn hne=>by
      unfold ZbJ
      have hkl:=(List.getElem?_eq_some_iff.1 hn).1
      have hg:=h1 n
      rw [List.take_length,if_neg hne] at hg
      rw [if_pos (by simp;omega),Zw hn,Option.bind_some,Zf6 hg,Option.bind_some,Sum.elim_inr,Xt hkl (by omega)])
    (fun out=>by unfold ZbJ;rw [if_neg (by simp)])
  rw [o1,Option.bind_some,Z8]
  exact⟨out,rfl,o2⟩
theorem ZeV{l l':List api_Rest}(hl:LOK l)(hp:l.Perm l'): ∃ out,Xi l=some out∧Zbg l'=some out∧GR l out:=by
  have hl':LOK l':=⟨by rw [←hp.length_eq];exact hl.len,fun r hr=>hl.nar r (hp.mem_iff.2 hr),fun r hr=>hl.cop r (hp.mem_iff.2 hr)⟩
  obtain⟨o,h1,h2⟩:=ZjW hl
  obtain⟨o',h3,h4⟩:=Zme hl'
  exact⟨o,h1,by rw [h3,GR.uniq hp h2 h4],h2⟩
end Go.Vx

namespace Go.Vx
open Go Go.RowKit
structure COK (H:List Int) (C:List api_Found):Prop where
  ord:C.Pairwise fun a b=>a.At<b.At
  mem: ∀ x∈C,∃ k:Nat,(k:Int)<H.length∧x=api_Found.mk (k:Int) (frW H (k:Int)).1
  len:C.length≤400000
  hl:H.length≤400000
  hh:hL H
theorem Zll(l:List api_Found): ∀ n,n≤l.length→(Zjx l n).Sublist (l.take n)
  |0,_=>by simp [Zjx]
  |n+1,h=>by
    obtain⟨x,hx⟩:=ZF (xs:=l) (k:=n) (by omega)
    rw [ZfV,List.take_succ,hx]
    refine List.Sublist.append (Zll l n (by omega)) ?_
    unfold ZlY
    split
    · rw [ZhW hx];exact List.Sublist.refl _
    · exact List.nil_sublist _
theorem cok{H:List Int}(h:hL H)(hl:H.length≤400000):COK H (Zdg (scL H (H.length-191))):=by
  have hs:(Zdg (scL H (H.length-191))).Sublist (scL H (H.length-191)):=by
    have:=Zll (scL H (H.length-191)) _ (Nat.le_refl _)
    rwa [List.take_length] at this
  refine⟨(Zgt H _).sublist hs,fun x hx=> ?_,?_,hl,h⟩
  · obtain⟨k,hk,e,_⟩:=ZkZ (hs.subset hx)
    exact⟨k,by omega,e⟩
  · have:=hs.length_le
    have:=ZfZ H (H.length-191)
    omega
theorem COK.at_{H:List Int}{C:List api_Found}(h:COK H C){k:Nat}{x:api_Found}(hx:C[k]?=some x):0≤x.At∧x.At<H.length∧x.At≤400000:=by
  obtain⟨j,hj,rfl⟩:=h.mem x (List.mem_of_getElem? hx)
  have:=h.hl
  simp only
  omega
theorem COK.lt{H:List Int}{C:List api_Found}(h:COK H C){i j:Nat}{x y:api_Found}(hij:i<j)(hx:C[i]?=some x)(hy:C[j]?=some y):x.At<y.At:=by
  obtain⟨hi,rfl⟩:=List.getElem?_eq_some_iff.1 hx
  obtain⟨hj,rfl⟩:=List.getElem?_eq_some_iff.1 hy
  exact List.pairwise_iff_getElem.1 h.ord i j hi hj hij
theorem COK.fU{H:List Int}{C:List api_Found}(h:COK H C){k:Nat}{x:api_Found}(hx:C[k]?=some x):Go.Vx.fU x.Frame∧ ∀ i,0≤wd x.Frame i∧wd x.Frame i≤4095:=by
  obtain⟨j,hj,rfl⟩:=h.mem x (List.mem_of_getElem? hx)
  exact⟨ZlC h.hh _,ZdS h.hh _⟩
def dst(a p:Int):Int:=if a<p then p-a else a-p
theorem Zhj{a p:Int}(h1: -1000000≤a∧a≤1000000)(h2: -1000000≤p∧p≤1000000):Q2 a p=some (dst a p):=by
  unfold Q2 dst
  by_cases h:a<p
  · rw [if_pos (by simp [h]),if_pos h,ZY (by omega) (by omega)]
  · rw [if_neg (by simp;omega),if_neg h,ZY (by omega) (by omega)]
theorem Zps{a p:Int}(h1: -1000000≤a∧a≤1000000)(h2: -1000000≤p∧p≤1000000):Zbe (i64 (a-p))=some (dst a p):=by
  unfold Zbe dst
  rw [ZY (z:=a-p) (by omega) (by omega),ZY (by omega) (by omega)]
  congr 1
  split<;>omega
def Zah(C:List api_Found)(q:Nat→Prop)(p:Int)(n:Nat)(best:Int):Prop:=
  (best= -1∧ ∀ j,j<n→ ¬q j)∨ ∃ (b:Nat) (x:api_Found),best=b∧b<n∧q b∧C[b]?=some x∧ ∀ j y,j<n→q j→C[j]?=some y→(j<b→dst x.At p<dst y.At p)∧(b<j→dst x.At p≤dst y.At p)
theorem Zmt(C:List api_Found)(q:Nat→Prop)(p:Int):Zah C q p 0 (-1):= .inl ⟨rfl,fun j h=>by omega⟩
theorem Zf4{C:List api_Found}{q:Nat→Prop}{p:Int}{n:Nat}{best:Int}(hq: ¬q n)(h:Zah C q p n best):Zah C q p (n+1) best:=by
  rcases h with ⟨h1,h2⟩ | ⟨b,x,h1,h2,h3,h4,h5⟩
  · refine .inl ⟨h1,fun j hj hqj=> ?_⟩
    by_cases e:j=n
    · subst e;exact hq hqj
    · exact h2 j (by omega) hqj
  · refine .inr ⟨b,x,h1,by omega,h3,h4,fun j y hj hqj hy=> ?_⟩
    by_cases e:j=n
    · subst e;exact(hq hqj).elim
    · exact h5 j y (by omega) hqj hy
theorem ZgF{C:List api_Found}{q:Nat→Prop}{p:Int}{n:Nat}{y:api_Found}(hq:q n)(hy:C[n]?=some y)(h:Zah C q p n (-1)):Zah C q p (n+1) n:=by
  rcases h with ⟨_,h2⟩ | ⟨b,x,h1,_⟩
  · refine .inr ⟨n,y,rfl,by omega,hq,hy,fun j z hj hqj hz=> ?_⟩
    by_cases e:j=n
    · omega
    · exact(h2 j (by omega) hqj).elim
  · omega
theorem Zhu{C:List api_Found}{q:Nat→Prop}{p:Int}{n b:Nat}{x y:api_Found}(hq:q n)(hy:C[n]?=some y)(hx:C[b]?=some x)(h:Zah C q p n b):Zah C q p (n+1) (if dst y.At p<dst x.At p then(n:Int) else b):=by
  rcases h with ⟨h1,_⟩ | ⟨b',x',h1,h2,h3,h4,h5⟩
  · omega
  · have:b'=b:=by omega
    subst this
    rw [hx] at h4
    cases h4
    split
    · rename_i hlt
      refine .inr ⟨n,y,rfl,by omega,hq,hy,fun j z hj hqj hz=> ?_⟩
      refine⟨fun hjn=> ?_,fun hjn=>by omega⟩
      have:=h5 j z hjn hqj hz
      by_cases e:j=b'
      · subst e;rw [hx] at hz;cases hz;exact hlt
      · rcases Nat.lt_or_ge j b' with hl |hl
        · have:=this.1 hl;omega
        · have:=this.2 (by omega);omega
    · rename_i hge
      refine .inr ⟨b',x,rfl,by omega,h3,hx,fun j z hj hqj hz=> ?_⟩
      by_cases e:j=n
      · subst e;rw [hy] at hz;cases hz;exact⟨fun hh=>by omega,fun _=>by omega⟩
      · exact h5 j z (by omega) hqj hz
theorem ZhF{C:List api_Found}{q:Nat→Prop}{p:Int}{n:Nat}{b b':Int}(h:Zah C q p n b)(h':Zah C q p n b'):b=b':=by
  rcases h with ⟨h1,h2⟩ | ⟨k,x,h1,h2,h3,h4,h5⟩<;>rcases h' with ⟨g1,g2⟩ | ⟨k',x',g1,g2,g3,g4,g5⟩
  · omega
  · exact(h2 k' g2 g3).elim
  · exact(g2 k h2 h3).elim
  · rcases Nat.lt_trichotomy k k' with h |h |h
    · have:=(h5 k' x' g2 g3 g4).2 h
      have:=(g5 k x h2 h3 h4).1 h
      omega
    · omega
    · have:=(h5 k' x' g2 g3 g4).1 h
      have:=(g5 k x h2 h3 h4).2 h
      omega
abbrev Zik:Nat→Prop:=fun _=>True
theorem ZpX{H:List Int}{C:List api_Found}(hC:COK H C){p:Int}(hp: -1000000≤p∧p≤1000000): ∃ b,ZdB C p=some b∧Zah C Zik p C.length b:=by
  have hlen:=hC.len
  obtain⟨r,e1,e2⟩:=Xj (body:=ZbL C p) (N:=C.length) (fun k best=>Zah C Zik p k best) (fun r=>Zah C Zik p C.length r)
    (fun k best hk hI=>by
      obtain⟨y,hy⟩:=ZF hk
      have hya:=hC.at_ hy
      left
      unfold ZbL
      rw [if_pos (by simp;omega),Zw hy,Option.bind_some,Xt hk (by omega)]
      rcases hI with ⟨rfl,h2⟩ | ⟨b,x,rfl,h2,h3,h4,h5⟩
      · exact⟨k,by simp [gd],ZgF trivial hy (.inl ⟨rfl,h2⟩)⟩
      · have hxa:=hC.at_ h4
        refine⟨_,?_,Zhu trivial hy h4 (.inr ⟨b,x,rfl,h2,h3,h4,h5⟩)⟩
        rw [show decide ((b:Int)<0)=false by simp,Zhj (by omega) hp,Zw h4]
        simp only [show(false==false)=true from rfl,ZcJ,Option.bind_some,Bool.false_or]
        simp only [Zdj,Option.bind_some]
        rw [Zhj (by omega) hp,Option.bind_some]
        by_cases hd:dst y.At p<dst x.At p
        · rw [if_pos (by simp [hd]),if_pos hd]
        · rw [if_neg (by simp;omega),if_neg hd])
    (fun best hI=>⟨best,by unfold ZbL;rw [if_neg (by simp)],hI⟩) (Zmt C Zik p)
  exact⟨r,by unfold ZdB;rw [e1];rfl,e2⟩
theorem ZlU{H:List Int}{C:List api_Found}(hC:COK H C)(p:Int): ∀ n,n≤C.length→ ∃ c,c≤n∧(∀ k x,k<c→C[k]?=some x→x.At<p)∧ ∀ k x,c≤k→k<n→C[k]?=some x→p≤x.At
  |0,_=>⟨0,Nat.le_refl _,fun k x h=>by omega,fun k x h h'=>by omega⟩
  |n+1,h=>by
    obtain⟨c,h1,h2,h3⟩:=ZlU hC p n (by omega)
    obtain⟨y,hy⟩:=ZF (xs:=C) (k:=n) (by omega)
    by_cases hlt:y.At<p
    · refine⟨n+1,Nat.le_refl _,fun k x hk hx=> ?_,fun k x h h'=>by omega⟩
      by_cases e:k=n
      · subst e;rw [hy] at hx;cases hx;exact hlt
      · have:=hC.lt (by omega:k<n) hx hy;omega
    · refine⟨c,by omega,h2,fun k x hk hk' hx=> ?_⟩
      by_cases e:k=n
      · subst e;rw [hy] at hx;cases hx;omega
      · exact h3 k x hk (by omega) hx
theorem ZsA{i j:Nat}(h:i+j<4611686018427387904):shr .u64 (u64 (i64 ((i:Int)+j))) 1=some (((i+j)/2:Nat):Int):=by
  rw [ZY (by omega) (by omega)]
  unfold u64
  rw [Zpo (by omega) (by omega),shr,if_neg (by decide)]
  have:min (1:Int).toNat IntKind.u64.bits=1:=by decide
  rw [this]
  congr 1
  rw [Int.fdiv_eq_ediv_of_nonneg _ (by decide)]
  omega
theorem ZjF{ρ:Type}{body:Int→Int→Option ((Int×Int) ⊕ ρ)}(n c:Nat)(F:Nat→ρ)(hc:c≤n)(hn:n≤4611686018427387904)
    (hstep: ∀ (i j m:Nat),i<j→j≤n→m=(i+j)/2→(m<c→body i j=some (.inl ((m:Int)+1,j)))∧(c≤m→body i j=some (.inl (i,(m:Int)))))
    (hend: ∀ i:Nat,body i i=some (.inr (F i))):loop (t2 body) (0,(n:Int))=some (F c):=by
  refine Zcx (body:=t2 body) (fun p=> ∃ i j:Nat,p=((i:Int),(j:Int))∧i≤c∧c≤j∧j≤n) (fun p=>(p.2-p.1).toNat) (fun _=>F c) ?_ _ ⟨0,n,rfl,Nat.zero_le _,hc,Nat.le_refl _⟩
  rintro _ ⟨i,j,rfl,h1,h2,h3⟩
  simp only [QG]
  rcases Nat.lt_or_ge i j with h |h
  · obtain⟨g1,g2⟩:=hstep i j ((i+j)/2) h h3 rfl
    rcases Nat.lt_or_ge ((i+j)/2) c with h4 |h4
    · exact .inl ⟨_,g1 h4,⟨(i+j)/2+1,j,by push_cast;rfl,h4,h2,h3⟩,by simp only;omega,by trivial⟩
    · exact .inl ⟨_,g2 h4,⟨i,(i+j)/2,rfl,h1,h4,by omega⟩,by simp only;omega,by trivial⟩
  · have e1:i=c:=by omega
    have e2:j=c:=by omega
    subst e1;subst e2
    exact .inr (hend _)
theorem ZnZ{H:List Int}{C:List api_Found}(hC:COK H C){p:Int}(hp: -1000000≤p∧p≤1000000):
    ∃ (c:Nat) (b:Bool),Z4 C p (fun z0 z1=>QD z0 z1)=some ((c:Int),b)∧c≤C.length∧(∀ k x,k<c→C[k]?=some x→x.At<p)∧ ∀ k x,c≤k→C[k]?=some x→p≤x.At:=by
  have hlen:=hC.len
  obtain⟨c,hcl,hc1,hc2⟩:=ZlU hC p C.length (Nat.le_refl _)
  have hc2: ∀ k x,c≤k→C[k]?=some x→p≤x.At:=fun k x h hx=>hc2 k x h (List.getElem?_eq_some_iff.1 hx).1 hx
  have hcmp: ∀ (k:Nat) x,C[k]?=some x→QD x p=some (x.At-p):=fun k x hx=>by
    have:=hC.at_ hx
    unfold QD
    rw [ZY (by omega) (by omega)]
  have hl:loop (t2 (ZS C p (fun z0 z1=>QD z0 z1))) (0,(C.length:Int))=some ((c:Nat):Int):=by
    refine ZjF C.length c (fun k=>(k:Int)) hcl (by omega) (fun i j m hij hj hm=> ?_) (fun i=> ?_)
    · obtain⟨x,hx⟩:=ZF (xs:=C) (k:=m) (by omega)
      have h2:(i:Int)<j:=by omega
      have hm':shr .u64 (u64 (i64 ((i:Int)+j))) 1=some (m:Int):=by rw [ZsA (by omega),hm]
      have hmi:i64 (m:Int)=m:=ZY (by omega) (by omega)
      simp only [ZS,h2,decide_true,if_true,hm',Option.bind_some,hmi,Zw hx,hcmp m x hx]
      refine⟨fun h=> ?_,fun h=> ?_⟩
      · have:=hc1 m x h hx
        simp [show x.At-p<0 by omega,ZY (show-9223372036854775808≤(m:Int)+1 by omega) (by omega)]
      · have:=hc2 m x h hx
        simp [show ¬x.At-p<0 by omega]
    · simp [ZS]
  simp only [Z4,hl,Option.bind_some,t1]
  rcases Nat.lt_or_ge c C.length with h |h
  · obtain⟨x,hx⟩:=ZF h
    have h':((c:Nat):Int)<C.length:=by omega
    refine⟨c,_,by rw [decide_eq_true h',Zw hx,ZcJ,Option.bind_some,hcmp _ x hx,ZcJ,Option.bind_some],hcl,hc1,hc2⟩
  · have h': ¬((c:Nat):Int)<C.length:=by omega
    exact⟨c,false,by rw [decide_eq_false h'];simp [gd],hcl,hc1,hc2⟩
theorem Zsh{H:List Int}{C:List api_Found}(hC:COK H C)(hne:C≠ []){N:List Int}{p:Int}(hp: -1000000≤p∧p≤1000000): ∃ b,Q4 ⟨H,C,N,()⟩ p=some b∧Zah C Zik p C.length b:=by
  have hlen:=hC.len
  have hpos:0<C.length:=List.length_pos_iff.2 hne
  obtain⟨c,b,e1,hcl,hc1,hc2⟩:=ZnZ hC hp
  unfold Q4
  rw [show(⟨H,C,N,()⟩:salvage_finder).certain=C from rfl,e1,Option.bind_some]
  simp only
  by_cases hce:c=C.length
  · subst hce
    refine⟨i64 ((C.length:Int)-1),by simp [gd],.inr ?_⟩
    obtain⟨x,hx⟩:=ZF (xs:=C) (k:=C.length-1) (by omega)
    refine⟨C.length-1,x,by rw [ZY (by omega) (by omega)];omega,by omega,trivial,hx,fun j y hj _ hy=>⟨fun hlt=> ?_,fun hlt=>by omega⟩⟩
    have:=hc1 _ x (by omega) hx
    have:=hC.lt hlt hy hx
    unfold dst
    omega
  · obtain⟨y,hy⟩:=ZF (xs:=C) (k:=c) (by omega)
    have hya:=hC.at_ hy
    have hyp:=hc2 c y (Nat.le_refl _) hy
    rw [decide_eq_false (show ¬((c:Int)=(C.length:Int)) by omega),Zw hy]
    by_cases h0:0<c
    · obtain⟨x,hx⟩:=ZF (xs:=C) (k:=c-1) (by omega)
      have hxa:=hC.at_ hx
      have hxp:=hc1 (c-1) x (by omega) hx
      have hxy:=hC.lt (by omega:c-1<c) hx hy
      have e:i64 ((c:Int)-1)=((c-1:Nat):Int):=by rw [ZY (by omega) (by omega)];omega
      rw [decide_eq_true (show(0:Int)<(c:Int) by omega),e,Zw hx]
      simp only [show(false==false)=true from rfl,show(true==true)=true from rfl,Bool.true_and,Bool.false_or,Zdj,Option.bind_some]
      rw [ZY (z:=p-x.At) (by omega) (by omega),ZY (z:=y.At-p) (by omega) (by omega)]
      by_cases hd:p-x.At≤y.At-p
      · refine⟨_,by rw [if_pos (by simpa using hd)],.inr ⟨c-1,x,rfl,by omega,trivial,hx,fun j z hj _ hz=> ?_⟩⟩
        refine⟨fun hlt=> ?_,fun hlt=> ?_⟩
        · have:=hC.lt hlt hz hx;unfold dst;omega
        · have:=hc2 j z (by omega) hz
          have:y.At≤z.At:=by
            by_cases e:j=c
            · subst e;rw [hy] at hz;cases hz;omega
            · have:=hC.lt (by omega:c<j) hy hz;omega
          unfold dst
          omega
      · refine⟨_,by rw [if_neg (by simpa using hd)],.inr ⟨c,y,rfl,by omega,trivial,hy,fun j z hj _ hz=> ?_⟩⟩
        refine⟨fun hlt=> ?_,fun hlt=> ?_⟩
        · have:z.At≤x.At:=by
            by_cases e:j=c-1
            · subst e;rw [hx] at hz;cases hz;omega
            · have:=hC.lt (by omega:j<c-1) hz hx;omega
          unfold dst
          omega
        · have:=hC.lt hlt hy hz;unfold dst;omega
    · have h0':c=0:=by omega
      subst h0'
      refine⟨_,by simp [gd],.inr ⟨0,y,rfl,by omega,trivial,hy,fun j z hj _ hz=>⟨fun h=>by omega,fun hlt=> ?_⟩⟩⟩
      have:=hC.lt hlt hy hz
      unfold dst
      omega
end Go.Vx

namespace Go.Vx
open Go Go.RowKit
def wb(w:Vector Bool 64)(i:Nat):Bool:=w.toList.getD i false
theorem Zhv(w:Vector Bool 64){i:Nat}(hi:i<64):ZA w (i:Int)=some (wb w i):=by
  unfold ZA wb
  rw [if_pos (by omega)]
  obtain⟨x,hx⟩:=ZF (xs:=w.toList) (k:=((i:Int)).toNat) (by simp;omega)
  rw [hx,List.getD_eq_getElem?_getD]
  simp only [Int.toNat_natCast] at hx
  rw [hx];rfl
theorem ZgP{n:Int}(h:0≤n):0≤Q9 n∧Q9 n≤4095:=by
  have:=Zr8 n h
  unfold Zgz at this
  simp only [Bool.or_eq_true,decide_eq_true_eq] at this
  omega
theorem Zg2(f:Vector Int 64):0≤(Zd9 f).1∧(Zd9 f).1<4194304:=by
  unfold Zd9
  have:=ZiB f
  split<;>simp only<;>omega
theorem ZmM{n:Int}(h1:0≤n)(h2:n<4194304):ZaR n=some (Q9 n,0)∧ZdI n=some (Q9 n,0):=by
  have hb:=ZgP h1
  constructor
  · unfold ZaR
    rw [if_neg (by simp;omega),(ZeY h1).1,Option.bind_some,(ZeY h1).2,Option.bind_some,ZY (by omega) (by omega)]
  · unfold ZdI
    rw [if_neg (by simp;omega),Zi0 h1,Option.bind_some]
noncomputable def ZjP(f:Vector Int 64)(w:Vector Bool 64):Int×Bool:=if(wb w 0&&wb w 1&&wb w 2)=true then((Zd9 f).1,(Zd9 f).2&&decide (wd f 0=Q9 (Zd9 f).1)) else(0,false)
theorem Zra{f:Vector Int 64}(h:fU f)(hn: ∀ i,0≤wd f i∧wd f i≤4095)(w:Vector Bool 64):Zc7 f w=some (ZjP f w)∧ZcD f w=some (ZjP f w):=by
  have v0:ZA w 0=some (wb w 0):=Zhv w (i:=0) (by decide)
  have v1:ZA w 1=some (wb w 1):=Zhv w (i:=1) (by decide)
  have v2:ZA w 2=some (wb w 2):=Zhv w (i:=2) (by decide)
  have f0:ZA f 0=some (wd f 0):=Qf f (i:=0) (by decide)
  obtain⟨n1,n2⟩:=Zfs h (hn 1).2 (hn 2).2
  have hb:=Zg2 f
  obtain⟨s1,s2⟩:=ZmM hb.1 hb.2
  have hs:=ZgP hb.1
  have h0:=hn 0
  unfold Zc7 ZcD ZjP
  rw [v0,v1,v2,n1,n2]
  cases hw0:wb w 0
  · exact⟨rfl,rfl⟩
  cases hw1:wb w 1
  · exact⟨rfl,rfl⟩
  cases hw2:wb w 2
  · exact⟨rfl,rfl⟩
  have e: ¬(((!true) || (!true)) || (!true))=true:=by decide
  have g: ∀ (α:Type) (d:α) (o:Option α),gd ((!true)==false) d o=o:=fun _ _ _=>rfl
  have g2: ∀ (α:Type) (d:α) (o:Option α),gd (((!true) || (!true))==false) d o=o:=fun _ _ _=>rfl
  simp only [Option.bind_some,g,g2]
  rw [if_neg e,if_neg e,if_pos (by rfl)]
  rw [s1,s2]
  have hn0:(Zd9 f).2=false→(Zd9 f).1=0:=by
    unfold Zd9
    split
    · intro hh;cases hh
    · intro _;rfl
  cases hok:(Zd9 f).2
  · simp [hn0 hok,gd]
  · simp only [Option.bind_some,ZcJ,f0,Bool.true_and]
    rw [ZeU (n:=Q9 (Zd9 f).1) (by omega),ZY (z:=wd f 0) (by omega) (by omega)]
    exact⟨rfl,rfl⟩
def qO(C:List api_Found)(i:Nat)(xi:api_Found):Nat→Prop:=fun j=>j≠i∧ ∃ x,C[j]?=some x∧(x.At-xi.At).tmod 194=0
theorem Zpk(z:Int):rem z 194=some (z.tmod 194):=by unfold rem;rw [if_neg (by decide)]
theorem Zpn{H:List Int}{C:List api_Found}(hC:COK H C){i:Nat}{xi:api_Found}(hi:C[i]?=some xi){p:Int}(hp: -1000000≤p∧p≤1000000): ∃ b,loop (t2 (Ji C (i:Int) p)) ((-1),0)=some b∧Zah C (qO C i xi) p C.length b:=by
  have hlen:=hC.len
  have hia:=hC.at_ hi
  obtain⟨r,e1,e2⟩:=Xj (body:=Ji C (i:Int) p) (N:=C.length) (fun k best=>Zah C (qO C i xi) p k best) (fun r=>Zah C (qO C i xi) p C.length r)
    (fun k best hk hI=>by
      obtain⟨y,hy⟩:=ZF hk
      have hya:=hC.at_ hy
      left
      unfold Ji
      rw [if_pos (by simp;omega),Zw hy,Option.bind_some,Xt hk (by omega),Zw hi]
      by_cases hki:k=i
      · subst hki
        exact⟨best,by simp [gd],Zf4 (fun hq=>hq.1 rfl) hI⟩
      rw [decide_eq_false (show ¬((k:Int)=(i:Int)) by omega),show(false==false)=true from rfl,Zdj,Option.bind_some,Zdj,ZY (z:=y.At-xi.At) (by omega) (by omega),Zpk,Option.bind_some]
      by_cases hm:(y.At-xi.At).tmod 194=0
      · have hq:qO C i xi k:=⟨hki,y,hy,hm⟩
        rw [decide_eq_true hm,if_neg (by decide)]
        rcases hI with ⟨rfl,h2⟩ | ⟨b,x,rfl,h2,h3,h4,h5⟩
        · exact⟨k,by simp [gd],ZgF hq hy (.inl ⟨rfl,h2⟩)⟩
        · have hxa:=hC.at_ h4
          refine⟨_,?_,Zhu hq hy h4 (.inr ⟨b,x,rfl,h2,h3,h4,h5⟩)⟩
          rw [show decide ((b:Int)<0)=false by simp,Zhj (by omega) hp,Zw h4]
          simp only [show(false==false)=true from rfl,Zdj,Option.bind_some,Bool.false_or]
          rw [Zhj (by omega) hp,Option.bind_some]
          by_cases hd:dst y.At p<dst x.At p
          · rw [if_pos (by simp [hd]),if_pos hd]
          · rw [if_neg (by simp;omega),if_neg hd]
      · rw [decide_eq_false hm,if_pos (by decide)]
        exact⟨best,rfl,Zf4 (fun⟨_,x,hx,he⟩=>by rw [hy] at hx;cases hx;exact hm he) hI⟩)
    (fun best hI=>⟨best,by unfold Ji;rw [if_neg (by simp)],hI⟩) (Zmt C _ p)
  exact⟨r,e1,e2⟩
theorem Zqv{H:List Int}{C:List api_Found}{N:List Int}(hC:COK H C){i:Nat}{xi:api_Found}(hi:C[i]?=some xi){p:Int}(hp: -1000000≤p∧p≤1000000): ∃ b,Xs ⟨H,C,N,()⟩ (i:Int) p=some b∧Zah C (qO C i xi) p C.length b:=by
  have hlen:=hC.len
  have hia:=hC.at_ hi
  obtain⟨r,e1,e2⟩:=Zdb (body:=Xr ⟨H,C,N,()⟩ (i:Int) p) (N:=C.length)
    (fun k best least=>Zah C (qO C i xi) p k best∧ ∀ (b:Nat) x,best=b→C[b]?=some x→least=dst x.At p) (fun r=>Zah C (qO C i xi) p C.length r)
    (fun k best least hk hI=>by
      obtain⟨hI,hL⟩:=hI
      obtain⟨y,hy⟩:=ZF hk
      have hya:=hC.at_ hy
      left
      unfold Xr
      rw [show(⟨H,C,N,()⟩:salvage_finder).certain=C from rfl,if_pos (by simp;omega),Zw hy,Option.bind_some,Xt hk (by omega),Zw hi]
      by_cases hki:k=i
      · subst hki
        exact⟨best,least,by simp [gd],Zf4 (fun hq=>hq.1 rfl) hI,hL⟩
      rw [decide_eq_false (show ¬((k:Int)=(i:Int)) by omega),show(false==false)=true from rfl,Zdj,Option.bind_some,Zdj,ZY (z:=y.At-xi.At) (by omega) (by omega),Zpk,Option.bind_some]
      by_cases hm:(y.At-xi.At).tmod 194=0
      · have hq:qO C i xi k:=⟨hki,y,hy,hm⟩
        rw [decide_eq_true hm,if_neg (by decide),Zps (by omega) hp,Option.bind_some]
        have hnew: ∀ (b:Nat) x,(k:Int)=b→C[b]?=some x→dst y.At p=dst x.At p:=fun b x e hx=>by
          have:b=k:=by omega
          subst this;rw [hy] at hx;cases hx;rfl
        rcases hI with ⟨rfl,h2⟩ | ⟨b,x,rfl,h2,h3,h4,h5⟩
        · exact⟨k,dst y.At p,by simp,ZgF hq hy (.inl ⟨rfl,h2⟩),hnew⟩
        · have hxa:=hC.at_ h4
          have hl:=hL b x rfl h4
          subst hl
          have hn:=Zhu hq hy h4 (.inr ⟨b,x,rfl,h2,h3,h4,h5⟩)
          by_cases hd:dst y.At p<dst x.At p
          · rw [if_pos hd] at hn
            exact⟨k,dst y.At p,by rw [if_pos (by simp [hd])],hn,hnew⟩
          · rw [if_neg hd] at hn
            exact⟨b,dst x.At p,by rw [if_neg (by simp;omega)],hn,hL⟩
      · rw [decide_eq_false hm,if_pos (by decide)]
        exact⟨best,least,rfl,Zf4 (fun⟨_,x,hx,he⟩=>by rw [hy] at hx;cases hx;exact hm he) hI,hL⟩)
    (fun best least hI=>⟨best,by unfold Xr;rw [show(⟨H,C,N,()⟩:salvage_finder).certain=C from rfl,if_neg (by simp)],hI.1⟩) (a0:= -1) (b0:=0) ⟨Zmt C _ p,fun b x e=>by omega⟩
  exact⟨r,by unfold Xs;rw [e1];rfl,e2⟩
theorem Zqq{d t:Int}(hd:d≠0):0<t↔d*t≠0∧(0<d*t↔0<d):=by
  rcases Int.lt_trichotomy t 0 with h |h |h
  · rcases Int.lt_or_gt_of_ne hd with h' |h'
    · have:=Int.mul_pos_of_neg_of_neg h' h;omega
    · have:=Int.mul_neg_of_pos_of_neg h' h;omega
  · subst h;simp
  · rcases Int.lt_or_gt_of_ne hd with h' |h'
    · have:=Int.mul_neg_of_neg_of_pos h' h;omega
    · have:=Int.mul_pos h' h;omega
theorem Zi6{a b:Int}(hb:b≠0)(ha: -1000000000000≤a∧a≤1000000000000):quo .i64 a b=some (a.tdiv b)∧(a.tdiv b).natAbs≤a.natAbs:=by
  have h:=Int.natAbs_tdiv_le_natAbs a b
  refine⟨?_,h⟩
  unfold quo
  rw [if_neg hb,w64 (by omega) (by omega)]
noncomputable def nm(x:api_Found):Int:=(Zd9 x.Frame).1
end Go.Vx

namespace Go.Vx
open Go Go.RowKit
noncomputable def fnd(H:List Int)(C:List api_Found):salvage_finder:=⟨H,C,C.map nm,()⟩
theorem Zia{H:List Int}(h:hL H)(hl:H.length≤400000):JL H=some (fnd H (Zdg (scL H (H.length-191)))):=by
  have hC:=cok h hl
  generalize hCe:Zdg (scL H (H.length-191))=C at hC
  have hlen:=hC.len
  unfold JL
  rw [(ZhN h (by omega)).1,hCe,Option.bind_some]
  obtain⟨r,e1,e2⟩:=Zdb (body:=X5 C) (N:=C.length) (fun k numbers _=>numbers=(C.take k).map nm) (fun r=>r.1=C.map nm)
    (fun k numbers at_ hk hI=>by
      obtain⟨y,hy⟩:=ZF hk
      obtain⟨u,w⟩:=hC.fU hy
      left
      refine⟨numbers++ [nm y],Qc kqI at_ y.At (k:Int),?_,by rw [hI,List.take_succ,hy];simp⟩
      unfold X5
      rw [if_pos (by simp;omega),Zw hy,Option.bind_some,(Zfs u (w 1).2 (w 2).2).1,Option.bind_some,Xk (by rw [hI];simp;omega),Xt hk (by omega)]
      rfl)
    (fun numbers at_ hI=>⟨_,by unfold X5;rw [if_neg (by simp)],by rw [hI,List.take_length]⟩) (a0:= []) (b0:=([]:List (Int×Int))) (by simp)
  obtain⟨r1,r2⟩:=r
  simp only at e2
  subst e2
  rw [e1,Option.bind_some,QG];rfl
theorem ZlD{H:List Int}{C:List api_Found}(hC:COK H C){i:Nat}{xi:api_Found}(hi:C[i]?=some xi){p:Int}(hp: -1000000≤p∧p≤1000000)(w:Vector Bool 64){f:Vector Int 64}(hf:fU f)(hn: ∀ i,0≤wd f i∧wd f i≤4095):
    ∃ (n:Int) (ok:Bool),XI (fnd H C) (i:Int) p f w=some (n,ok)∧
      ((if(!(ZjP f w).2)=true then(Zba C (i:Int) p).bind fun y9=>some (y9.1,y9.2) else some ((ZjP f w).1,(ZjP f w).2)):Option (Int×Bool))=some (n,ok)∧(ok=true→0≤n∧n<4194304)∧(-9223372036854775808≤n∧n≤9223372036854775807):=by
  have hlen:=hC.len
  have hia:=hC.at_ hi
  unfold XI
  rw [(Zra hf hn w).1,Option.bind_some]
  cases ho:(ZjP f w).2
  rotate_left
  · have hb:0≤(ZjP f w).1∧(ZjP f w).1<4194304:=by
      unfold ZjP
      split
      · exact Zg2 f
      · simp only;omega
    exact⟨_,true,by rw [if_pos rfl],by rw [if_neg (by decide)],fun _=>hb,by omega⟩
  rw [if_neg (by decide),if_pos (by decide)]
  obtain⟨b,e1,e2⟩:=Zqv (N:=C.map nm) hC hi hp
  obtain⟨b',e1',e2'⟩:=Zpn hC hi hp
  have:=ZhF e2 e2'
  subst this
  unfold Zba
  rw [show Xs (fnd H C) (i:Int) p=some b from e1,Option.bind_some,e1',Option.bind_some,Z8]
  rcases e2 with ⟨rfl,_⟩ | ⟨k,x,rfl,h2,⟨hki,x',hx',hm⟩,h4,_⟩
  · exact⟨0,false,rfl,rfl,(fun h=>by cases h),by omega⟩
  rw [h4] at hx';cases hx'
  have hka:=hC.at_ h4
  have hN: ∀ {j:Nat} {z:api_Found},C[j]?=some z→idx (fnd H C).numbers (j:Int)=some (nm z):=fun {j z} hz=>Zw (by
    show(C.map nm)[j]?=_
    rw [List.getElem?_map,hz];rfl)
  have hR: ∀ {j:Nat} {z:api_Found},C[j]?=some z→JP z.Frame=some (nm z):=fun {j z} hz=>by
    obtain⟨u,w⟩:=hC.fU hz
    exact ZgK u (w 1).2 (w 2).2
  have hb1:0≤nm x∧nm x<4194304:=Zg2 _
  have hb2:0≤nm xi∧nm xi<4194304:=Zg2 _
  rw [show(fnd H C).certain=C from rfl,hN h4,hN hi]
  simp only [decide_eq_false (show ¬((k:Int)<0) by omega),Bool.false_eq_true,if_false,Zw hi,Zw h4,Option.bind_some,hR h4,hR hi]
  rw [ZY (z:=p-xi.At) (by omega) (by omega),ZY (z:=x.At-xi.At) (by omega) (by omega),ZY (z:=nm x-nm xi) (by omega) (by omega)]
  obtain⟨q1,q1b⟩:=Zi6 (a:=p-xi.At) (b:=194) (by decide) (by omega)
  obtain⟨q2,q2b⟩:=Zi6 (a:=x.At-xi.At) (b:=194) (by decide) (by omega)
  have hq1:((p-xi.At).tdiv 194).natAbs≤10000:=by
    have:=Int.mul_tdiv_add_tmod (p-xi.At) 194
    have:=Int.tmod_lt_of_pos (p-xi.At) (show(0:Int)<194 by decide)
    have:=Int.lt_tmod_of_pos (p-xi.At) (show(0:Int)<194 by decide)
    omega
  generalize (p-xi.At).tdiv 194=q at q1 q1b hq1
  have hne:x.At≠xi.At:=fun e=>by
    rcases Nat.lt_or_gt_of_ne hki with h |h
    · have:=hC.lt h h4 hi;omega
    · have:=hC.lt h hi h4;omega
  have hd0:(x.At-xi.At).tdiv 194≠0:=fun e=>by
    have:=Int.mul_tdiv_add_tmod (x.At-xi.At) 194
    rw [e,hm] at this
    omega
  generalize (x.At-xi.At).tdiv 194=d at q2 q2b hd0
  rw [q1,Option.bind_some,q2,Option.bind_some]
  generalize hΔ:nm x-nm xi=Δ
  have hΔb: -4194304<Δ∧Δ<4194304:=by omega
  obtain⟨q3,q3b⟩:=Zi6 (a:=Δ) (b:=d) hd0 (by omega)
  have hrem:rem Δ d=some (Δ.tmod d):=by unfold rem;rw [if_neg hd0]
  have hsum:=Int.mul_tdiv_add_tmod Δ d
  rw [hrem]
  simp only [Option.bind_some,q3,hrem]
  by_cases hr:Δ.tmod d=0
  · rw [hr] at hsum ⊢
    have hs:=Zqq (t:=Δ.tdiv d) hd0
    rw [show d*Δ.tdiv d=Δ by omega] at hs
    generalize Δ.tdiv d=t at q3b hs
    simp only [decide_true,Bool.not_true,show(false==false)=true from rfl,Zdj,Option.bind_some,Bool.false_or,Bool.or_false]
    by_cases ht:0<t
    · obtain⟨hΔ0,hsg⟩:=hs.1 ht
      have hc:(decide (Δ=0) || !((decide (0<Δ))==(decide (0<d))))=false:=by
        rw [decide_eq_false hΔ0,Bool.false_or,Bool.not_eq_false']
        by_cases h:0<d
        · rw [decide_eq_true h,decide_eq_true (hsg.2 h)];rfl
        · rw [decide_eq_false h,decide_eq_false (fun h'=>h (hsg.1 h'))];rfl
      rw [hc]
      have m1:=Int.mul_le_mul_of_nonneg_right (show q≤10000 by omega) (show 0≤t by omega)
      have m2:=Int.mul_le_mul_of_nonneg_right (show-10000≤q by omega) (show 0≤t by omega)
      rw [ZY (z:=q*t) (by omega) (by omega),ZY (z:=nm xi+q*t) (by omega) (by omega)]
      refine⟨nm xi+q*t,decide (0≤nm xi+q*t)&&decide (nm xi+q*t<4194304),?_,?_,?_,by omega⟩
      · rw [if_neg (by simpa using ht)]
        unfold ZcE
        rw [Option.bind_some]
        have:decide (nm xi+q*t≤4194303)=decide (nm xi+q*t<4194304):=by rw [decide_eq_decide];omega
        rw [this]
      · simp [gd]
      · intro h
        simpa using h
    · have hc:(decide (Δ=0) || !((decide (0<Δ))==(decide (0<d))))=true:=by
        by_cases h0:Δ=0
        · rw [decide_eq_true h0];rfl
        · rw [decide_eq_false h0,Bool.false_or]
          by_cases h:0<d
          · rw [decide_eq_true h,decide_eq_false (fun h'=>ht (hs.2 ⟨h0,⟨fun _=>h,fun _=>h'⟩⟩))];rfl
          · rw [decide_eq_false h]
            by_cases h':0<Δ
            · rw [decide_eq_true h'];rfl
            · exact(ht (hs.2 ⟨h0,⟨fun a=>(h' a).elim,fun a=>(h a).elim⟩⟩)).elim
      rw [hc]
      exact⟨0,false,by rw [if_pos (by simpa using ht)],by simp [gd],(fun h=>by cases h),by omega⟩
  · rw [decide_eq_false hr]
    refine⟨0,false,by simp [gd],?_,(fun h=>by cases h),by omega⟩
    have: ∀ c:Bool,((gd (c==false) 0 (some (Δ.tmod d))).bind fun q4=>if(c || !decide (q4=0))=true then some ((0:Int),false) else(some (Δ.tdiv d)).bind fun q5=>some (i64 (nm xi+i64 (q*q5)),decide (0≤i64 (nm xi+i64 (q*q5)))&&decide (i64 (nm xi+i64 (q*q5))<4194304)))=some ((0:Int),false):=fun c=>by
      cases c
      · simp [gd,hr]
      · simp [gd]
    have:=this (decide (Δ=0) || !((decide (0<Δ))==(decide (0<d))))
    simp only [Option.bind_some] at this ⊢
    rw [this,Option.bind_some]
end Go.Vx

namespace Go.Vx
open Go Go.RowKit
noncomputable def rg(f:Vector Int 64)(w:Vector Bool 64)(n s:Int)(i:Nat):Bool:=
  if i=0 then wb w i&&decide (wd f i=s) else
  if i=1 then wb w i&&(ZbZ (wd f i)&&decide (wd f i % 2048=n.tmod 2048)) else
  if i=2 then wb w i&&(ZbZ (wd f i)&&decide (wd f i % 2048=n.tdiv 2048)) else wb w i&&ZbZ (wd f i)
structure RSk (f:Vector Int 64) (w:Vector Bool 64) (n s:Int) (k:Nat) (r:api_Rest):Prop where
  num:r.Number=n
  snd:r.Sound=false
  cop:r.Copies=0
  con:r.Conflict=false
  fr: ∀ i,wd r.Frame i=if i<k∧rg f w n s i=true then wd f i else 0
  st: ∀ i,wd r.States i=if i<k∧rg f w n s i=true then 1 else 0
theorem Ztp(f:Vector Int 64)(w:Vector Bool 64)(n s:Int):RSk f w n s 0 ⟨n,Vector.replicate 64 0,Vector.replicate 64 0,false,0,false⟩:=
  ⟨rfl,rfl,rfl,rfl,fun i=>by rw [if_neg (by omega)];exact Zbh i,fun i=>by rw [if_neg (by omega)];exact Zbh i⟩
theorem Zob{f:Vector Int 64}{w:Vector Bool 64}{n s:Int}{k:Nat}{r:api_Rest}(hk:k<64)(h:RSk f w n s k r)(hr:rg f w n s k=true):
    RSk f w n s (k+1) ⟨r.Number,Qr r.Frame (k:Int) (wd f k),Qr r.States (k:Int) 1,r.Sound,r.Copies,r.Conflict⟩:=by
  refine⟨h.num,h.snd,h.cop,h.con,fun i=> ?_,fun i=> ?_⟩<;>simp only<;>rw [Jc _ hk]
  · by_cases e:k=i
    · subst e;rw [if_pos rfl,if_pos ⟨by omega,hr⟩]
    · rw [if_neg e,h.fr i]
      by_cases hi:i<k
      · simp [hi,show i<k+1 by omega]
      · simp [hi,show ¬i<k+1 by omega]
  · by_cases e:k=i
    · subst e;rw [if_pos rfl,if_pos ⟨by omega,hr⟩]
    · rw [if_neg e,h.st i]
      by_cases hi:i<k
      · simp [hi,show i<k+1 by omega]
      · simp [hi,show ¬i<k+1 by omega]
theorem Zq6{f:Vector Int 64}{w:Vector Bool 64}{n s:Int}{k:Nat}{r:api_Rest}(h:RSk f w n s k r)(hr:rg f w n s k=false):RSk f w n s (k+1) r:=by
  refine⟨h.num,h.snd,h.cop,h.con,fun i=> ?_,fun i=> ?_⟩
  · rw [h.fr i]
    by_cases e:i=k
    · subst e;simp [hr]
    · simp [show i<k+1↔i<k by omega]
  · rw [h.st i]
    by_cases e:i=k
    · subst e;simp [hr]
    · simp [show i<k+1↔i<k by omega]
theorem Zqu{f:Vector Int 64}{w:Vector Bool 64}{n s:Int}{k:Nat}{r r':api_Rest}(h:RSk f w n s k r)(h':RSk f w n s k r'):r=r':=by
  obtain⟨a,b,c,d,e,g⟩:=r
  obtain⟨a',b',c',d',e',g'⟩:=r'
  have h1:=h.num;have h2:=h'.num;have h3:=h.snd;have h4:=h'.snd;have h5:=h.cop;have h6:=h'.cop;have h7:=h.con;have h8:=h'.con
  simp only at h1 h2 h3 h4 h5 h6 h7 h8
  subst h1 h3 h5 h7 h2 h4 h6 h8
  have e1:b=b':=Zec fun i _=>by rw [h.fr i,h'.fr i]
  have e2:c=c':=Zec fun i _=>by rw [h.st i,h'.st i]
  rw [e1,e2]
theorem ZqN{x:Int}(h:0≤x∧x≤4095):JW x=some (ZbZ x):=by
  unfold JW
  rw [decide_eq_true h.2,ZcJ,ZY (by omega) (by omega),(Zjf h).2,Option.bind_some,Bool.true_and]
theorem ZqR{f:Vector Int 64}{w:Vector Bool 64}(hn: ∀ i,0≤wd f i∧wd f i≤4095){n:Int}(h1:0≤n)(h2:n<4194304){k:Nat}(hk:k<64):
    ∃ b,gd (wb w k==true) false (Jz (wd f k) (k:Int) n)=some b∧(wb w k&&b)=rg f w n (Q9 n) k:=by
  cases hw:wb w k
  · refine⟨false,rfl,?_⟩
    unfold rg
    rw [hw]
    simp
  · have hx:=hn k
    have hb:=ZgP h1
    have hd:i64 (XF .u16 (wd f k) 2047)=wd f k % 2048:=by
      have:=ZeP (x:=wd f k) (by omega)
      unfold Xl at this
      exact Option.some.inj this
    have hm:i64 (XF .i64 n 2047)=n.tmod 2048:=by
      have:=ZfN (v:=n) (n:=11) (by decide)
      rw [show((2:Int)^11-1)=2047 by decide,show(2:Int)^11=2048 by decide] at this
      rw [this,Int.tmod_eq_emod_of_nonneg h1,ZY (by omega) (by omega)]
    have hm':XF .i64 n 2047=n.tmod 2048:=by
      have:=ZfN (v:=n) (n:=11) (by decide)
      rw [show((2:Int)^11-1)=2047 by decide,show(2:Int)^11=2048 by decide] at this
      rw [this,Int.tmod_eq_emod_of_nonneg h1]
    have hq:shr .i64 n 11=some (n.tdiv 2048):=by
      have:=Zks n (k:=11) (by decide)
      rw [show((11:Nat):Int)=11 from rfl,show(2:Int)^11=2048 by decide] at this
      rw [this,Int.tdiv_eq_ediv_of_nonneg h1]
    unfold Jz ZdH rg
    rw [hw,(Zjf hx).1,(ZmM h1 h2).1]
    simp only [Option.bind_some,hd,hm',hq,ZcJ,Bool.true_and]
    by_cases k0:k=0
    · subst k0
      refine⟨_,by rw [if_pos (by decide)],?_⟩
      rw [if_pos rfl,ZeU (by omega)]
    · rw [if_neg (by simp;omega),if_neg k0]
      by_cases k1:k=1
      · subst k1
        exact⟨_,by rw [if_pos (by decide)],by rw [if_pos rfl]⟩
      · rw [if_neg (by simp;omega),if_neg k1]
        by_cases k2:k=2
        · subst k2
          rw [if_pos (by decide),if_pos rfl]
          cases ZbZ (wd f 2)
          · exact⟨false,rfl,rfl⟩
          · exact⟨_,rfl,rfl⟩
        · exact⟨_,by rw [if_neg (by simp;omega)],by rw [if_neg k2]⟩
theorem Zj7{f:Vector Int 64}{w:Vector Bool 64}(hn: ∀ i,0≤wd f i∧wd f i≤4095){n:Int}(h1:0≤n)(h2:n<4194304):
    ∃ r,loop (t2 (QT (f,w) (n,true))) (⟨n,Vector.replicate 64 0,Vector.replicate 64 0,false,0,false⟩,0)=some r∧RSk f w n (Q9 n) 64 r:=
  Xj (N:=64) (fun k r=>RSk f w n (Q9 n) k r) _ (fun k r hk hI=>by
    left
    obtain⟨b,e1,e2⟩:=ZqR (w:=w) hn h1 h2 hk
    unfold QT
    simp only
    rw [if_pos (by simp;omega),Qf f hk,Option.bind_some,Zhv w hk,Option.bind_some,e1,Option.bind_some,e2,Xt hk (by omega)]
    cases hr:rg f w n (Q9 n) k
    · exact⟨r,rfl,Zq6 hI hr⟩
    · exact⟨_,by rw [if_pos rfl,Qf r.Frame hk,Option.bind_some,Qf r.States hk,Option.bind_some],Zob hk hI hr⟩)
    (fun r hI=>⟨r,by unfold QT;rw [if_neg (by simp)],hI⟩) (Ztp f w n _)
theorem Zph(n:Int): ∃ y,ZdI n=some y∧(0≤n→n<4194304→y.1=Q9 n):=by
  by_cases h:0≤n∧n<4194304
  · exact⟨_,(ZmM h.1 h.2).2,fun _ _=>rfl⟩
  · exact⟨(0,9),by unfold ZdI;rw [if_pos (by simp;omega)],fun a b=>(h ⟨a,b⟩).elim⟩
theorem Zlh{f:Vector Int 64}{w:Vector Bool 64}(hn: ∀ i,0≤wd f i∧wd f i≤4095)(n:Int)(hnb: -9223372036854775808≤n∧n≤9223372036854775807):
    ∃ r s,Zb5 f w n=some r∧RSk f w n s 64 r∧(0≤n→n<4194304→s=Q9 n):=by
  obtain⟨y,hy,hs⟩:=Zph n
  have hr2:rem n 2048=some (n.tmod 2048):=by unfold rem;rw [if_neg (by decide)]
  have hq2:quo .i64 n 2048=some (n.tdiv 2048):=by
    have:=Int.natAbs_tdiv_le_natAbs n 2048
    have h3:=Int.mul_tdiv_add_tmod n 2048
    have h4:=Int.tmod_lt_of_pos n (show(0:Int)<2048 by decide)
    have h5:=Int.lt_tmod_of_pos n (show(0:Int)<2048 by decide)
    unfold quo
    rw [if_neg (by decide),w64 (by omega) (by omega)]
  obtain⟨r,e1,e2⟩:=Xj (body:=Zcn f w n y) (N:=64) (fun k r=>RSk f w n y.1 k r) (fun r=>RSk f w n y.1 64 r) (fun k r hk hI=>by
    left
    have hx:=hn k
    have hb:((if(decide ((k:Int)=0))=true then(ZA w (k:Int)).bind fun x3=>(gd (x3==true) 0 (ZA f (k:Int))).bind fun x4=>some (x3&&(decide ((i64 x4)=y.1)))
      else if(decide ((k:Int)=1))=true then
        (gd ((wb w k&&(wb w k&&ZbZ (wd f k)))==true) 0 (ZA f (k:Int))).bind fun x5=>(gd ((wb w k&&(wb w k&&ZbZ (wd f k)))==true) 0 (rem (i64 x5) 2048)).bind fun q=>(gd ((wb w k&&(wb w k&&ZbZ (wd f k)))==true) 0 (rem n 2048)).bind fun q2=>some ((wb w k&&(wb w k&&ZbZ (wd f k)))&&(decide (q=q2)))
      else if(decide ((k:Int)=2))=true then
        (gd ((wb w k&&(wb w k&&ZbZ (wd f k)))==true) 0 (ZA f (k:Int))).bind fun x6=>(gd ((wb w k&&(wb w k&&ZbZ (wd f k)))==true) 0 (rem (i64 x6) 2048)).bind fun q3=>(gd ((wb w k&&(wb w k&&ZbZ (wd f k)))==true) 0 (quo .i64 n 2048)).bind fun q4=>some ((wb w k&&(wb w k&&ZbZ (wd f k)))&&(decide (q3=q4)))
      else some (wb w k&&(wb w k&&ZbZ (wd f k)))):Option Bool)=some (rg f w n y.1 k):=by
      rw [Qf f hk,Zhv w hk,hr2,hq2]
      unfold rg
      have hi:i64 (wd f k)=wd f k:=ZY (by omega) (by omega)
      by_cases k0:k=0
      · subst k0
        rw [if_pos (by decide),if_pos rfl]
        cases wb w 0
        · rfl
        · simp only [Option.bind_some,ZcJ,hi]
      rw [if_neg (by simp;omega),if_neg k0]
      by_cases k1:k=1
      · subst k1
        rw [if_pos (by decide),if_pos rfl]
        cases wb w 1
        · rfl
        cases ZbZ (wd f 1)
        · rfl
        · simp only [Bool.and_true,ZcJ,Option.bind_some,hi,ZeI hx.1 2048 (by decide),Bool.true_and]
      rw [if_neg (by simp;omega),if_neg k1]
      by_cases k2:k=2
      · subst k2
        rw [if_pos (by decide),if_pos rfl]
        cases wb w 2
        · rfl
        cases ZbZ (wd f 2)
        · rfl
        · simp only [Bool.and_true,ZcJ,Option.bind_some,hi,ZeI hx.1 2048 (by decide),Bool.true_and]
      rw [if_neg (by simp;omega),if_neg k2]
      cases wb w k<;>rfl
    have hc: ∃ y2,gd (wb w k==true) 0 (ZA f (k:Int))=some (if wb w k=true then wd f k else 0)∧gd (wb w k==true) false (JW (if wb w k=true then wd f k else 0))=some y2∧y2=(wb w k&&ZbZ (wd f k)):=by
      rw [Qf f hk]
      cases wb w k
      · exact⟨_,rfl,rfl,rfl⟩
      · exact⟨_,rfl,ZqN hx,rfl⟩
    obtain⟨y2,c1,c2,rfl⟩:=hc
    unfold Zcn
    rw [if_pos (by simp;omega)]
    have hv:=Zhv w hk
    rw [show(ZA w (k:Int)).bind=(some (wb w k)).bind by rw [hv],Option.bind_some,c1,Option.bind_some,c2,Option.bind_some,hb,Option.bind_some,Z8,Xt hk (by omega)]
    cases hr:rg f w n y.1 k
    · exact⟨r,rfl,Zq6 hI hr⟩
    · exact⟨_,by rw [if_pos rfl,Qf f hk,Option.bind_some,Qf r.Frame hk,Option.bind_some,Qf r.States hk,Option.bind_some],Zob hk hI hr⟩)
    (fun r hI=>⟨r,by unfold Zcn;rw [if_neg (by simp)],hI⟩) (Ztp f w n _)
  exact⟨r,y.1,by unfold Zb5;rw [hy,Option.bind_some,e1];rfl,e2,hs⟩
theorem Zpc(r:api_Rest): ∃ b,Zai r 0=some b∧ZaZ r=some b:=by
  refine⟨_,Zmw r 0,?_⟩
  unfold ZaZ
  rw [zV]
  congr 1
  rw [Bool.eq_iff_iff,decide_eq_true_eq,Bool.not_eq_true',←Bool.not_eq_true,Zml]
  constructor
  · rintro h ⟨i,hi,hg⟩
    rw [h,Zbh] at hg
    simp at hg
  · intro h
    refine Zec fun i hi=> ?_
    rw [Zbh]
    by_cases e:wd r.States i=0
    · exact e
    · exact(h ⟨i,hi,by simpa using e⟩).elim
end Go.Vx
