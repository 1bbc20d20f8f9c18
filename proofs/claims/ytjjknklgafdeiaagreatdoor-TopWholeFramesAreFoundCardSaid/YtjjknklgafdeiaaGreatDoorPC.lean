/- A text of the proof: a verified executor of the program form, or the contracts of the functions that the law reaches. -/
import Derived.Test.YtjjknklgafdeiaaGreatDoorPB
import Derived.Test.YtjjknklgafdeiaaGreatDoorPA
import Derived.Test.YtjjknklgafdeiaaGreatDoorVD
set_option linter.all false
namespace Go.Vx
open Go Go.RowKit
noncomputable def ZqO(h_:List Int)(y2:List api_Found)(i3:Int)(at_:Int)(out6:List api_Rest):Option (List api_Rest):=
  (Zam h_ at_).bind fun y7=>
  (ZcD y7.1 y7.2).bind fun y8=>
  ((if(!y8.2)=true then
  (Zba y2 i3 at_).bind fun y9=>
  some (y9.1,y9.2)
  else
  some (y8.1,y8.2)):Option ((Int×Bool))).bind (t2 fun(n:Int) (ok:Bool)=>
  (Zb5 y7.1 y7.2 n).bind fun y10=>
  (gd (ok==true) false (ZaZ y10)).bind fun y11=>
  if(ok&&(!y11))=true then
  (app out6 ([y10]:List api_Rest)).bind fun l2=>
  some l2
  else
  some out6)
def Bes(H:List Int)(C:List api_Found)(i:Nat)(p:Int)(o:Option api_Rest):Prop:=
  (∃ r,QX (fnd H C) (i:Int) p=some (r,o.isSome)∧ ∀ r',o=some r'→r=r')∧
  (∀ acc:List api_Rest,acc.length≤1000000000→ZqO H C (i:Int) p acc=some (acc++o.toList))∧
  ∀ r,o=some r→(∀ j,0≤wd r.Frame j∧wd r.Frame j≤4095)∧0≤r.Copies∧r.Copies≤1000000000
theorem Zrz{H:List Int}{C:List api_Found}(hC:COK H C){i:Nat}{xi:api_Found}(hi:C[i]?=some xi){p:Int}(hp: -1000000≤p∧p≤1000000): ∃ o,Bes H C i p o:=by
  have hH:=hC.hl
  have hfw:=ZdS hC.hh p
  have hfu:=ZlC hC.hh p
  obtain⟨n,ok,e1,e2,e3,e4⟩:=ZlD hC hi hp (frW H p).2 hfu hfw
  have h1:X7 (fnd H C).h_ p=some (frW H p):=Zji hC.hh hp (by show H.length≤_;omega)
  have h2:=Zjo hC.hh hp (show H.length≤1000000 by omega)
  have h3:=(Zra hfu hfw (frW H p).2).2
  unfold Bes
  have hS:QX (fnd H C) (i:Int) p=(some (n,ok)).bind fun y2=>if(!y2.2)=true then
      some ((api_Rest.mk 0 (Vector.replicate 64 0) (Vector.replicate 64 0) false 0 false),false) else
      ((loop (t2 (QT (frW H p) y2)) ((api_Rest.mk y2.1 (Vector.replicate 64 0) (Vector.replicate 64 0) false 0 false),0)):Option ((api_Rest))).bind (t1 fun(r_:api_Rest)=>
      (Zai r_ 0).bind fun y4=>some (r_,(!y4))):=by
    unfold QX
    rw [h1,Option.bind_some,e1]
  have hR: ∀ acc:List api_Rest,ZqO H C (i:Int) p acc=(Zb5 (frW H p).1 (frW H p).2 n).bind fun y10=>
      (gd (ok==true) false (ZaZ y10)).bind fun y11=>if(ok&&(!y11))=true then(app acc ([y10]:List api_Rest)).bind fun l2=>some l2 else some acc:=fun acc=>by
    unfold ZqO
    rw [h2,Option.bind_some,h3,Option.bind_some,e2,Option.bind_some,QG]
  cases ok
  · refine⟨none,⟨_,by rw [hS];rfl,fun r' h=>by cases h⟩,fun acc _=> ?_,fun r h=>by cases h⟩
    obtain⟨r,hr⟩: ∃ r,Zb5 (frW H p).1 (frW H p).2 n=some r:=by
      obtain⟨r,s,hr,_⟩:=Zlh (w:=(frW H p).2) hfw n e4
      exact⟨r,hr⟩
    rw [hR,hr]
    simp [gd]
  · obtain⟨n1,n2⟩:=e3 rfl
    obtain⟨r,g1,g2⟩:=Zj7 (w:=(frW H p).2) hfw n1 n2
    obtain⟨r',s,g3,g4,g5⟩:=Zlh (w:=(frW H p).2) hfw n (by omega)
    rw [g5 n1 n2] at g4
    have:=Zqu g2 g4
    subst this
    obtain⟨b,l1,l2⟩:=Zpc r
    refine⟨if b=true then none else some r,⟨r,?_,fun r' h=> ?_⟩,fun acc hacc=> ?_,fun r' h=> ?_⟩
    · rw [hS,Option.bind_some,if_neg (by simp)]
      simp only
      rw [g1,Option.bind_some,Z8,l1,Option.bind_some]
      cases b<;>rfl
    · cases b
      · exact Option.some.inj h
      · cases h
    · rw [hR,g3,Option.bind_some,ZcJ,l2,Option.bind_some]
      cases b
      · rw [if_pos (by rfl),Xk (by simp;omega)];rfl
      · rw [if_neg (by decide)];simp
    · have hr':r=r':=by
        cases b
        · exact Option.some.inj h
        · cases h
      subst hr'
      refine⟨fun j=> ?_,by rw [g2.cop];omega,by rw [g2.cop];omega⟩
      rw [g2.fr j]
      split
      · exact hfw j
      · omega
noncomputable def bes(H:List Int)(C:List api_Found)(i:Nat)(p:Int):Option api_Rest:=Classical.epsilon (Bes H C i p)
theorem Zm3{H:List Int}{C:List api_Found}(hC:COK H C){i:Nat}{xi:api_Found}(hi:C[i]?=some xi){p:Int}(hp: -1000000≤p∧p≤1000000):Bes H C i p (bes H C i p):=Classical.epsilon_spec (Zrz hC hi hp)
end Go.Vx

namespace Go.Vx
open Go Go.RowKit
def inb(H:List Int)(p:Int):Prop:= -192<p∧p<H.length
def Pl(H:List Int)(C:List api_Found)(i:Nat)(xi:api_Found)(p:Int):Prop:=inb H p∧Zah C Zik p C.length (i:Int)∧192≤dst xi.At p
theorem ZjQ{H:List Int}{C:List api_Found}(hC:COK H C){i:Nat}{xi:api_Found}(hi:C[i]?=some xi){p p':Int}(h:Zah C Zik p C.length (i:Int))(hb:(p≤p'∧p'≤xi.At)∨(xi.At≤p'∧p'≤p)):Zah C Zik p' C.length (i:Int):=by
  rcases h with ⟨h1,_⟩ | ⟨b,x,h1,h2,h3,h4,h5⟩
  · omega
  have:b=i:=by omega
  subst this
  rw [hi] at h4;cases h4
  refine .inr ⟨b,xi,rfl,h2,trivial,hi,fun j y hj _ hy=> ?_⟩
  obtain⟨g1,g2⟩:=h5 j y hj trivial hy
  refine⟨fun hlt=> ?_,fun hlt=> ?_⟩
  · have:=g1 hlt
    have:=hC.lt hlt hy hi
    unfold dst at*
    omega
  · have:=g2 hlt
    have:=hC.lt hlt hi hy
    unfold dst at*
    omega
theorem ZmU{H:List Int}{C:List api_Found}(hC:COK H C){i:Nat}{xi:api_Found}(hi:C[i]?=some xi){f:Nat→Int}{s:Int}(hs:s=194∨s= -194)
    (hf: ∀ k,f k=xi.At+s*((k:Int)+1)) (acc:List Int) (hacc:acc.length≤10000):
    ∃ a,loop (t2 (Xf (fnd H C) (i:Int) s)) (acc,f 0)=some (acc++(List.range a).map f)∧(∀ k,k<a→Pl H C i xi (f k))∧ ¬(inb H (f a)∧Zah C Zik (f a) C.length (i:Int))∧a≤2100:=by
  have hlen:=hC.len
  have hH:=hC.hl
  have hia:=hC.at_ hi
  have hne:C≠ []:=fun e=>by rw [e] at hi;simp at hi
  have hkb: ∀ k,inb H (f k)→k<2100:=fun k ⟨h1,h2⟩=>by
    rw [hf] at h1 h2
    rcases hs with rfl |rfl<;>omega
  have hfs: ∀ k,f (k+1)=f k+s:=fun k=>by
    rw [hf,hf]
    rcases hs with rfl |rfl<;>push_cast<;>omega
  have hds: ∀ k,192≤dst xi.At (f k):=fun k=>by
    rw [hf]
    unfold dst
    rcases hs with rfl |rfl<;>split<;>omega
  obtain⟨r,e1,a,rfl,e2⟩:=ZbE (body:=t2 (Xf (fnd H C) (i:Int) s))
    (fun q=> ∃ k:Nat,q=(acc++(List.range k).map f,f k)∧(∀ j,j<k→Pl H C i xi (f j))∧k≤2100)
    (fun q=>acc.length+3000-q.1.length)
    (fun r=> ∃ a:Nat,r=acc++(List.range a).map f∧(∀ k,k<a→Pl H C i xi (f k))∧ ¬(inb H (f a)∧Zah C Zik (f a) C.length (i:Int))∧a≤2100)
    (by
      rintro _ ⟨k,rfl,hk,hkl⟩
      rw [QG]
      unfold Xf
      by_cases hin:inb H (f k)
      · have hkb':=hkb k hin
        have hi1:=hin.1
        have hi2:=hin.2
        rw [show(fnd H C).h_=H from rfl,if_pos (by simp;exact⟨hi1,hi2⟩)]
        obtain⟨b,b1,b2⟩:=Zsh (N:=C.map nm) hC hne (p:=f k) (by omega)
        rw [show Q4 (fnd H C) (f k)=some b from b1,Option.bind_some]
        by_cases hbi:b=i
        · subst hbi
          have hP:Pl H C i xi (f k):=⟨hin,b2,hds k⟩
          rw [if_neg (by simp),show(fnd H C).certain=C from rfl,Zw hi,Option.bind_some,Zps (by omega) (by omega),Option.bind_some,if_pos (by simpa using hds k),Xk (by simp;omega)]
          left
          refine⟨(acc++(List.range (k+1)).map f,f (k+1)),?_,⟨k+1,rfl,fun j hj=> ?_,by omega⟩,by simp;omega⟩
          · simp only [Option.bind_some,Sum.elim_inr,Z8]
            rw [ZY (by omega) (by omega),hfs,List.range_succ,List.map_append,List.append_assoc];rfl
          · by_cases e:j=k
            · subst e;exact hP
            · exact hk j (by omega)
        · right
          exact⟨_,by rw [if_pos (by simpa using hbi)];rfl,k,rfl,hk,fun h=>hbi (ZhF b2 h.2),hkl⟩
      · right
        refine⟨_,by rw [show(fnd H C).h_=H from rfl,if_neg (fun h=>hin (show-192<f k∧f k<(H.length:Int) by simpa using h))],k,rfl,hk,fun h=>hin h.1,hkl⟩) (acc,f 0) ⟨0,by simp,fun j hj=>by omega,by omega⟩
  exact⟨a,e1,e2⟩
def fD(x:api_Found)(k:Nat):Int:=x.At+(-194)*((k:Int)+1)
def fU'(x:api_Found)(k:Nat):Int:=x.At+194*((k:Int)+1)
theorem Zo4{H:List Int}{C:List api_Found}(hC:COK H C){i:Nat}{xi:api_Found}(hi:C[i]?=some xi):
    ∃ a b,Xd (fnd H C) (i:Int)=some ((List.range a).map (fD xi)++(List.range b).map (fU' xi))∧
      ((∀ k,k<a→Pl H C i xi (fD xi k))∧ ¬(inb H (fD xi a)∧Zah C Zik (fD xi a) C.length (i:Int))∧a≤2100)∧
      ((∀ k,k<b→Pl H C i xi (fU' xi k))∧ ¬(inb H (fU' xi b)∧Zah C Zik (fU' xi b) C.length (i:Int))∧b≤2100):=by
  have hia:=hC.at_ hi
  obtain⟨a,a1,a2⟩:=ZmU hC hi (f:=fD xi) (s:= -194) (.inr rfl) (fun k=>rfl) [] (by simp)
  obtain⟨b,b1,b2⟩:=ZmU hC hi (f:=fU' xi) (s:=194) (.inl rfl) (fun k=>rfl) ((List.range a).map (fD xi)) (by simp;omega)
  refine⟨a,b,?_,a2,b2⟩
  unfold Xd
  rw [show(fnd H C).certain=C from rfl,Zw hi,Option.bind_some]
  obtain⟨r,e1,e2⟩:=Xj (body:=Xg (fnd H C) (i:Int) xi) (N:=2)
    (fun k out=>out=if k=0 then [] else if k=1 then(List.range a).map (fD xi) else(List.range a).map (fD xi)++(List.range b).map (fU' xi)) (fun r=>r=(List.range a).map (fD xi)++(List.range b).map (fU' xi))
    (fun k out hk hI=>by
      left
      unfold Xg
      rw [if_pos (by simp;omega),Xt hk (by omega)]
      by_cases k0:k=0
      · subst k0
        rw [if_pos rfl] at hI
        subst hI
        refine⟨_,?_,by rw [if_neg (by omega),if_pos rfl]⟩
        rw [show idx ([(-194),194]:List Int) ((0:Nat):Int)=some (-194) from rfl,Option.bind_some,ZY (by omega) (by omega)]
        have:xi.At+ -194=fD xi 0:=by unfold fD;simp
        rw [this,a1,Option.bind_some,Z8];rfl
      · have k1:k=1:=by omega
        subst k1
        rw [if_neg (by omega),if_pos rfl] at hI
        subst hI
        refine⟨_,?_,by rw [if_neg (by omega),if_neg (by omega)]⟩
        rw [show idx ([(-194),194]:List Int) ((1:Nat):Int)=some 194 from rfl,Option.bind_some,ZY (by omega) (by omega)]
        have:xi.At+194=fU' xi 0:=by unfold fU';simp
        rw [this,b1,Option.bind_some,Z8])
    (fun out hI=>⟨out,by unfold Xg;rw [if_neg (by simp)],by rw [hI,if_neg (by omega),if_neg (by omega)]⟩) (by rw [if_pos rfl])
  rw [e1,Option.bind_some,Z8,e2]
noncomputable def plB(H:List Int)(C:List api_Found)(i:Nat)(xi:api_Found)(p:Int):Bool:= @decide (Pl H C i xi p) (Classical.propDecidable _)
theorem Zds{H:List Int}{C:List api_Found}{i:Nat}{xi:api_Found}{p:Int}:plB H C i xi p=true↔Pl H C i xi p:=by unfold plB;exact @decide_eq_true_iff _ (Classical.propDecidable _)
def gC(x:api_Found)(k:Nat):Int:=x.At % 194-194+194*(k:Int)
noncomputable def KC(H:List Int)(C:List api_Found)(i:Nat)(xi:api_Found)(n:Nat):List Int:=((List.range n).map (gC xi)).filter (plB H C i xi)
theorem ZhS{f:Nat→Int}(hf: ∀ i j,f i=f j→i=j)(n:Nat):((List.range n).map f).Nodup:=by
  unfold List.Nodup
  rw [List.pairwise_map]
  exact List.Pairwise.imp (fun {a b} h e=>h (hf a b e)) List.nodup_range
theorem Zln{H:List Int}{C:List api_Found}(hC:COK H C){i:Nat}{xi:api_Found}(hi:C[i]?=some xi):
    ∃ ps,Xd (fnd H C) (i:Int)=some ps∧ps.Perm (KC H C i xi 2100):=by
  have hia:=hC.at_ hi
  have hH:=hC.hl
  obtain⟨a,b,e1,⟨a1,a2,a3⟩,⟨b1,b2,b3⟩⟩:=Zo4 hC hi
  refine⟨_,e1,(List.perm_ext_iff_of_nodup ?_ ?_).2 fun p=> ?_⟩
  · rw [List.nodup_append]
    refine⟨ZhS (fun i j h=>by unfold fD at h;omega) a,ZhS (fun i j h=>by unfold fU' at h;omega) b,fun x hx y hy=> ?_⟩
    obtain⟨k,_,rfl⟩:=List.mem_map.1 hx
    obtain⟨k',_,rfl⟩:=List.mem_map.1 hy
    unfold fD fU'
    omega
  · exact(ZhS (fun i j h=>by unfold gC at h;omega) 2100).sublist List.filter_sublist
  · unfold KC
    simp only [List.mem_append,List.mem_map,List.mem_range,List.mem_filter,Zds]
    constructor
    · rintro(⟨k,hk,rfl⟩ | ⟨k,hk,rfl⟩)
      · have hP:=a1 k hk
        have h1:=hP.1.1
        refine⟨⟨(xi.At/194-k).toNat,?_,?_⟩,hP⟩
        · omega
        · unfold gC fD at*;omega
      · have hP:=b1 k hk
        have h1:=hP.1.2
        refine⟨⟨(xi.At/194+2+k).toNat,?_,?_⟩,hP⟩
        · unfold fU' at h1;omega
        · unfold gC fU' at*;omega
    · rintro⟨⟨k,hk,rfl⟩,hP⟩
      obtain⟨⟨h1,h2⟩,h3,h4⟩:=hP
      rcases Int.lt_trichotomy (gC xi k) xi.At with h |h |h
      · left
        refine⟨(xi.At/194-k).toNat,?_,?_⟩
        · apply Classical.byContradiction
          intro hge
          refine a2 ⟨⟨?_,?_⟩,ZjQ hC hi h3 (.inl ⟨?_,?_⟩)⟩<;>unfold fD gC at* <;>omega
        · unfold fD gC at*;omega
      · rw [h] at h4
        unfold dst at h4
        omega
      · right
        refine⟨(k-xi.At/194-2).toNat,?_,?_⟩
        · apply Classical.byContradiction
          intro hge
          refine b2 ⟨⟨?_,?_⟩,ZjQ hC hi h3 (.inr ⟨?_,?_⟩)⟩<;>unfold fU' gC at* <;>omega
        · unfold fU' gC at*;omega
end Go.Vx

namespace Go.Vx
open Go Go.RowKit
noncomputable def Zgs(x:api_Found):api_Rest:=⟨nm x,x.Frame,Vector.replicate 64 3,true,1,false⟩
noncomputable def ZiU(H:List Int)(C:List api_Found)(i:Nat):List api_Rest:=(KC H C i (C.getD i fz) 2100).filterMap (bes H C i)
noncomputable def RA(H:List Int)(C:List api_Found)(k:Nat):List api_Rest:=(C.take k).map Zgs++(List.range k).flatMap (ZiU H C)
theorem Zmu(H:List Int)(C:List api_Found)(i:Nat)(x:api_Found)(n:Nat):(KC H C i x n).length≤n:=by
  unfold KC
  exact Nat.le_trans (List.length_filter_le _ _) (by simp)
theorem ZlB(H:List Int)(C:List api_Found)(i:Nat):(ZiU H C i).length≤2100:=Nat.le_trans (List.length_filterMap_le _ _) (Zmu _ _ _ _ _)
theorem Zk5{F:Nat→List api_Rest}(hF: ∀ i,(F i).length≤2100): ∀ k,((List.range k).flatMap F).length≤2100*k
  |0=>by simp
  |k+1=>by
    rw [List.range_succ,List.flatMap_append,List.length_append]
    have:=Zk5 hF k
    have:=hF k
    simp only [List.flatMap_cons,List.flatMap_nil,List.append_nil]
    omega
theorem ZpH(H:List Int)(C:List api_Found)(k:Nat):(RA H C k).length≤2101*k:=by
  have:=Zk5 (ZlB H C) k
  unfold RA
  rw [List.length_append,List.length_map,List.length_take]
  omega
theorem Zqj{H:List Int}{C:List api_Found}{k:Nat}{x:api_Found}(hx:C[k]?=some x){l ps:List api_Rest}(hl:l.Perm (RA H C k))(hp:ps.Perm (ZiU H C k)):(l++ [Zgs x]++ps).Perm (RA H C (k+1)):=by
  have h1:RA H C (k+1)=(C.take k).map Zgs++([Zgs x]++((List.range k).flatMap (ZiU H C)++ZiU H C k)):=by
    unfold RA
    rw [List.take_succ,hx,List.range_succ,List.flatMap_append]
    simp
  rw [h1]
  refine((hl.append_right [Zgs x]).append hp).trans ?_
  unfold RA
  rw [List.append_assoc,List.append_assoc]
  refine List.Perm.append_left _ ?_
  rw [←List.append_assoc,←List.append_assoc]
  exact List.Perm.append_right _ List.perm_append_comm
theorem ZtT{H:List Int}{C:List api_Found}(hC:COK H C){i:Nat}{xi:api_Found}(hi:C[i]?=some xi){ps:List Int}(hb: ∀ p∈ps,-1000000≤p∧p≤1000000)(acc:List api_Rest)(hacc:acc.length+ps.length≤1000000000):
    loop (t2 (Jr (fnd H C) (i:Int) ps)) (acc,0)=some (acc++ps.filterMap (bes H C i)):=by
  obtain⟨r,e1,e2⟩:=Xj (body:=Jr (fnd H C) (i:Int) ps) (N:=ps.length) (fun k out=>out=acc++(ps.take k).filterMap (bes H C i)) (fun r=>r=acc++ps.filterMap (bes H C i))
    (fun k out hk hI=>by
      left
      obtain⟨p,hp⟩:=ZF hk
      obtain⟨⟨r,h1,h2⟩,_,_⟩:=Zm3 hC hi (hb p (List.mem_of_getElem? hp))
      have hlen:out.length≤acc.length+k:=by
        rw [hI,List.length_append]
        have:=List.length_filterMap_le (bes H C i) (ps.take k)
        rw [List.length_take] at this
        omega
      unfold Jr
      rw [if_pos (by simp;omega),Zw hp,Option.bind_some,h1,Option.bind_some,Xt hk (by omega)]
      have ht:(ps.take (k+1)).filterMap (bes H C i)=(ps.take k).filterMap (bes H C i)++(bes H C i p).toList:=by
        rw [List.take_succ,hp,List.filterMap_append]
        congr 1
      cases ho:bes H C i p with
      |none=>exact⟨out,rfl,by rw [ht,ho,hI];simp⟩
      |some r'=>
        have:=h2 r' ho
        subst this
        refine⟨out++ [r],?_,by rw [ht,ho,hI];simp⟩
        rw [if_pos (by rfl),Xk (by simp;omega)];rfl)
    (fun out hI=>⟨out,by unfold Jr;rw [if_neg (by simp)],by rw [hI,List.take_length]⟩) (s0:=acc) (by simp)
  rw [e1,e2]
theorem ZmZ{H:List Int}{C:List api_Found}(hC:COK H C): ∃ l,loop (t2 (Jp (fnd H C))) ([],0)=some l∧l.Perm (RA H C C.length):=by
  have hlen:=hC.len
  have hH:=hC.hl
  refine Xj (body:=Jp (fnd H C)) (N:=C.length) (fun k (l:List api_Rest)=>l.Perm (RA H C k)) (fun l=>l.Perm (RA H C C.length)) (fun k l hk hI=> ?_) (fun l hI=>⟨l,by unfold Jp;rw [show(fnd H C).certain=C from rfl,if_neg (by simp)],hI⟩) (by unfold RA;simp)
  left
  obtain⟨x,hx⟩:=ZF hk
  obtain⟨ps,p1,p2⟩:=Zln hC hx
  have hl:=hI.length_eq
  have hRA:=ZpH H C k
  have hpl:ps.length≤2100:=by rw [p2.length_eq];exact Zmu _ _ _ _ _
  have hg:C.getD k fz=x:=ZhW hx
  have hb: ∀ p∈ps,-1000000≤p∧p≤1000000:=fun p hp=>by
    have:=p2.mem_iff.1 hp
    unfold KC at this
    have:=(Zds.1 (List.mem_filter.1 this).2).1
    unfold inb at this
    omega
  refine⟨(l++ [Zgs x])++ps.filterMap (bes H C k),?_,Zqj hx hI ?_⟩
  · unfold Jp
    have hn:idx (fnd H C).numbers (k:Int)=some (nm x):=Zw (by
      show(C.map nm)[k]?=_
      rw [List.getElem?_map,hx];rfl)
    rw [show(fnd H C).certain=C from rfl,if_pos (by simp;omega),Zw hx,Option.bind_some,hn,Option.bind_some,ZhB,Option.bind_some,Xk (by simp;omega),Option.bind_some,p1,Option.bind_some]
    have:=ZtT hC hx hb (l++ [Zgs x]) (by simp;omega)
    unfold Zgs at this
    rw [this,Option.bind_some,Z8,Xt hk (by omega)];rfl
  · unfold ZiU
    rw [hg]
    exact p2.filterMap _
theorem ZkH(H:List Int)(C:List api_Found)(i:Nat)(x:api_Found)(n:Nat):KC H C i x (n+1)=KC H C i x n++(if plB H C i x (gC x n)=true then [gC x n] else []):=by
  unfold KC
  rw [List.range_succ,List.map_append,List.filter_append]
  congr 1
  simp only [List.map_cons,List.map_nil,List.filter_cons,List.filter_nil]
theorem ZpM{H:List Int}{C:List api_Found}{i:Nat}{x:api_Found}{n:Nat}(hn:(H.length:Int)≤gC x n): ∀ m,KC H C i x (n+m)=KC H C i x n
  |0=>rfl
  |m+1=>by
    rw [←Nat.add_assoc,ZkH,ZpM hn m,if_neg,List.append_nil]
    intro h
    have:=(Zds.1 h).1.2
    unfold gC at*
    omega
theorem Zta{H:List Int}{C:List api_Found}(hC:COK H C){i:Nat}{xi:api_Found}(hi:C[i]?=some xi)(acc:List api_Rest)(hacc:acc.length≤900000000):
    loop (t2 (ZcX H C (i:Int))) (acc,gC xi 0)=some (acc++ZiU H C i):=by
  have hia:=hC.at_ hi
  have hH:=hC.hl
  have hlen:=hC.len
  have hg:C.getD i fz=xi:=ZhW hi
  obtain⟨r,e1,e2⟩:=ZbE (body:=t2 (ZcX H C (i:Int))) (fun q=> ∃ k:Nat,q=(acc++(KC H C i xi k).filterMap (bes H C i),gC xi k)∧k≤2100)
    (fun q=>(1000000-q.2).toNat) (fun r=>r=acc++ZiU H C i)
    (by
      rintro _ ⟨k,rfl,hk⟩
      rw [QG]
      unfold ZcX
      by_cases hin:gC xi k<(H.length:Int)
      · left
        have hk':k<2100:=by unfold gC at hin;omega
        have hp: -1000000≤gC xi k∧gC xi k≤1000000:=by unfold gC at*;omega
        have hout:(acc++(KC H C i xi k).filterMap (bes H C i)).length≤1000000000:=by
          have:=List.length_filterMap_le (bes H C i) (KC H C i xi k)
          have:=Zmu H C i xi k
          rw [List.length_append];omega
        refine⟨(acc++(KC H C i xi (k+1)).filterMap (bes H C i),gC xi (k+1)),?_,⟨k+1,rfl,hk'⟩,by unfold gC;simp only;omega⟩
        rw [if_pos (by simpa using hin)]
        have hgn:i64 (gC xi k+194)=gC xi (k+1):=by rw [ZY (by omega) (by omega)];unfold gC;push_cast;omega
        have hstep: ∀ o:List api_Rest,plB H C i xi (gC xi k)=false→(o=acc++(KC H C i xi k).filterMap (bes H C i))→(some o:Option (List api_Rest)).bind (t1 fun(out7:List api_Rest)=>(some (.inl (out7,(i64 (gC xi k+194)))):Option ((List api_Rest×Int) ⊕ List api_Rest)))=some (.inl (acc++(KC H C i xi (k+1)).filterMap (bes H C i),gC xi (k+1))):=fun o h1 h2=>by
          rw [Option.bind_some,Z8,hgn,ZkH,h1,if_neg (by decide),List.append_nil,h2]
        by_cases hlow:gC xi k< -191
        · rw [decide_eq_true hlow]
          refine hstep _ ?_ rfl
          rw [←Bool.not_eq_true,Zds]
          intro h
          have:=h.1.1
          omega
        · rw [decide_eq_false hlow]
          obtain⟨b,b1,b2⟩:=ZpX hC hp
          simp only [show(false==false)=true from rfl,Zdj,Bool.false_or,b1,Option.bind_some]
          by_cases hbi:b=i
          · subst hbi
            rw [decide_eq_true rfl]
            simp only [Bool.not_true,show(false==false)=true from rfl,Zdj,Option.bind_some,Bool.false_or,Zw hi]
            rw [Zhj (by omega) hp,Option.bind_some]
            by_cases hd:dst xi.At (gC xi k)<192
            · rw [if_pos (by simpa using hd)]
              refine hstep _ ?_ rfl
              rw [←Bool.not_eq_true,Zds]
              intro h
              have:=h.2.2
              omega
            · rw [if_neg (by simpa using hd)]
              have hP:plB H C i xi (gC xi k)=true:=Zds.2 ⟨⟨by omega,hin⟩,b2,by omega⟩
              obtain⟨_,h2,_⟩:=Zm3 hC hi hp
              have h2:=h2 _ hout
              unfold ZqO at h2
              rw [h2,Option.bind_some,Z8,hgn,ZkH,hP,if_pos rfl,List.filterMap_append,List.append_assoc]
              congr 5
          · rw [decide_eq_false hbi]
            refine hstep _ ?_ (by simp [gd])
            rw [←Bool.not_eq_true,Zds]
            exact fun h=>hbi (ZhF b2 h.2.1)
      · right
        refine⟨_,by rw [if_neg (by simpa using hin)],?_⟩
        unfold ZiU
        rw [hg,show 2100=k+(2100-k) by omega,ZpM (by omega)])
    (acc,gC xi 0) ⟨0,by simp [KC],by omega⟩
  rw [e1,e2]
theorem Zpr{H:List Int}(h:hL H)(hl:H.length≤400000):ZdU H=some (RA H (Zdg (scL H (H.length-191))) (Zdg (scL H (H.length-191))).length):=by
  have hC:=cok h hl
  unfold ZdU
  rw [(Zl1 h (by omega)).2,Option.bind_some,(ZhN h (by omega)).2,Option.bind_some]
  generalize Zdg (scL H (H.length-191))=C at hC
  have hlen:=hC.len
  obtain⟨r,e1,rfl⟩:=Xj (body:=ZcV C) (N:=C.length) (fun k l=>l=(C.take k).map Zgs) (fun r=>r=C.map Zgs) (fun k l hk hI=>by
    left
    obtain⟨x,hx⟩:=ZF hk
    obtain⟨u,w⟩:=hC.fU hx
    refine⟨l++ [Zgs x],?_,by rw [hI,List.take_succ,hx];simp⟩
    have hfill:loop (t2 (ZbB)) ((Vector.replicate 64 0),0)=some (Vector.replicate 64 3):=ZmY (body:=ZbB) 3 (fun v j hj=>by
      unfold ZbB
      rw [if_pos (by simp;omega),Qf v hj,Option.bind_some,Xt hj (by omega)]) (fun v=>by unfold ZbB;rw [if_neg (by simp)]) _
    have hll:l.length≤400000:=by rw [hI];simp;omega
    unfold ZcV
    rw [if_pos (by simp;omega),Zw hx,Option.bind_some,ZgK u (w 1).2 (w 2).2,Option.bind_some,hfill,Option.bind_some,Z8,Xk (by simp;omega),Option.bind_some,Xt hk (by omega)]
    rfl) (fun l hI=>⟨l,by unfold ZcV;rw [if_neg (by simp)],by rw [hI,List.take_length]⟩) (s0:= []) (by simp)
  rw [e1,Option.bind_some,Z8]
  obtain⟨r,e2,rfl⟩:=Xj (body:=ZcZ H C) (N:=C.length) (fun k l=>l=C.map Zgs++(List.range k).flatMap (ZiU H C)) (fun r=>r=RA H C C.length) (fun k l hk hI=>by
    left
    obtain⟨x,hx⟩:=ZF hk
    have hia:=hC.at_ hx
    have hH:=hC.hl
    have hq:quo .i64 x.At 194=some (x.At/194):=by
      rw [(Zi6 (by decide) (by omega)).1,Int.tdiv_eq_ediv_of_nonneg hia.1]
    refine⟨l++ZiU H C k,?_,by rw [hI,List.range_succ,List.flatMap_append];simp⟩
    have hll:l.length≤900000000:=by
      have:=Zk5 (ZlB H C) k
      rw [hI,List.length_append,List.length_map];omega
    unfold ZcZ
    rw [if_pos (by simp;omega),Zw hx,Option.bind_some,hq,Option.bind_some,ZY (z:=x.At/194*194) (by omega) (by omega),ZY (z:=x.At-x.At/194*194) (by omega) (by omega),ZY (z:=x.At-x.At/194*194-194) (by omega) (by omega)]
    have:x.At-x.At/194*194-194=gC x 0:=by unfold gC;omega
    rw [this,Zta hC hx l hll,Option.bind_some,Z8,Xt hk (by omega)])
    (fun l hI=>⟨l,by unfold ZcZ;rw [if_neg (by simp)],by rw [hI];unfold RA;rw [List.take_length]⟩) (s0:=C.map Zgs) (by simp)
  rw [e2];rfl
theorem Zq2{H:List Int}{C:List api_Found}(hC:COK H C):LOK (RA H C C.length):=by
  have hlen:=hC.len
  have key: ∀ r∈RA H C C.length,(∀ i,0≤wd r.Frame i∧wd r.Frame i≤4095)∧0≤r.Copies∧r.Copies≤1000000000:=fun r hr=>by
    unfold RA at hr
    rcases List.mem_append.1 hr with hr |hr
    · obtain⟨x,hx,rfl⟩:=List.mem_map.1 hr
      rw [List.take_length] at hx
      obtain⟨k,hk⟩:=List.getElem?_of_mem hx
      exact⟨(hC.fU hk).2,by show(0:Int)≤1;omega,by show(1:Int)≤_;omega⟩
    · obtain⟨i,hi,hr⟩:=List.mem_flatMap.1 hr
      obtain⟨x,hx⟩:=ZF (xs:=C) (k:=i) (List.mem_range.1 hi)
      obtain⟨p,hp,he⟩:=List.mem_filterMap.1 hr
      have hg:C.getD i fz=x:=ZhW hx
      rw [hg] at hp
      unfold KC at hp
      have:=(Zds.1 (List.mem_filter.1 hp).2).1
      unfold inb at this
      have hH:=hC.hl
      exact(Zm3 hC hx (by omega)).2.2 r he
  exact⟨Nat.le_trans (ZpH H C _) (by omega),fun r hr=>(key r hr).1,fun r hr=>(key r hr).2⟩
end Go.Vx

namespace Go.Vx
open Go Go.RowKit
theorem ZlP{y:List Int}(h:y.Pairwise (· < ·)):y.Nodup:=h.imp fun {a b} h e=>by omega
theorem Zrx{l out:List api_Rest}(h:GR l out):out.length≤l.length:=by
  obtain⟨y,h1,h2,h3,_⟩:=h
  have:y.length≤(l.map (·.Number)).length:=(ZlP h1).length_le_of_subset fun n hn=>by
    obtain⟨r,hr,e⟩:=(h2 n).1 hn
    exact List.mem_map.2 ⟨r,hr,e⟩
  rw [h3]
  simpa using this
end Go.Vx

namespace Go.Vx
open Go Go.RowKit
noncomputable def Zh8(d:Int):Int:=if ZbZ d=true then d else d+2048
theorem ZnW:(List.range 2048).all (fun n=>decide (bor .u16 (n:Int) 2048=(n:Int)+2048))=true:=by decide+kernel
theorem ZkA{d:Int}(h:0≤d∧d≤2047):Xa d=some (Zh8 d)∧ZdE d=some (Zh8 d)∧0≤Zh8 d∧Zh8 d≤4095:=by
  obtain⟨o1,o2⟩:=Zjf (x:=d) (by omega)
  have hb:bor .u16 d 2048=d+2048:=by
    have:=List.all_eq_true.1 ZnW d.toNat (List.mem_range.2 (by omega))
    have:=of_decide_eq_true this
    rw [show((d.toNat:Nat):Int)=d by omega] at this
    exact this
  unfold Xa ZdE Zh8
  rw [ZeU (by omega),o1,o2,Option.bind_some,Option.bind_some]
  cases ZbZ d
  · rw [if_pos (show(!false)=true from rfl),if_neg (show ¬(false=true) by decide),if_neg (show ¬(false=true) by decide),hb,ZY (by omega) (by omega)]
    exact⟨rfl,rfl,by omega,by omega⟩
  · rw [if_neg (show ¬((!true)=true) by decide),if_pos (show true=true from rfl),if_pos (show true=true from rfl)]
    exact⟨rfl,rfl,by omega,by omega⟩
theorem Zmk(a b:Int):Zaq .i64 a b=Zaq .i64 b a:=by unfold Zaq;rw [BitVec.xor_comm]
theorem ZpC{a b:Int}(ha:0≤a∧a<2048)(hb:0≤b∧b<2048):0≤Zaq .i64 a b∧Zaq .i64 a b<2048:=by
  obtain⟨n,rfl⟩: ∃ n:Nat,a=n:=⟨a.toNat,by omega⟩
  obtain⟨m,rfl⟩: ∃ m:Nat,b=m:=⟨b.toNat,by omega⟩
  rw [ZkQ (by omega) (by omega)]
  have:=Nat.xor_lt_two_pow (x:=n) (y:=m) (n:=11) (by omega) (by omega)
  omega
theorem Zry(f:Vector Int 64)(k:Nat):0≤ckS f k∧ckS f k<4194304:=by
  unfold ckS
  have:=(pS (Zc3 f) k).isLt
  omega
theorem ZnX{f:Vector Int 64}{i:Nat}(hi:i<64)(h:wd f i=0):Qr f (i:Int) 0=f:=by
  refine Zec fun j _=> ?_
  rw [Jc f hi]
  split
  · rename_i e;subst e;exact h.symm
  · rfl
theorem Zs2{f:Vector Int 64}(hn: ∀ i,0≤wd f i∧wd f i≤4095){i:Nat}(hi:i<64)(h0:wd f i=0):
    ∃ w,XB f (i:Int)=some (Qr f (i:Int) w)∧Zal f (i:Int)=some (Qr f (i:Int) w)∧0≤w∧w≤4095:=by
  have hU:fU f:=fun j=>by have:=hn j;omega
  obtain⟨n1,n2⟩:=ZkD hU
  have hnb:=ZiB f
  obtain⟨s1,s2⟩:=ZkS hU
  have hsb:=Znb f 60
  have c1:=Zj3 hU
  have c2:=Zo5 hU
  have hcb:=Zry f 744
  have hv:=Qf f hi
  have hv61:ZA f 61=some (wd f 61):=Qf f (i:=61) (by decide)
  have h61:=hn 61
  have hii:=hn i
  by_cases i0:i=0
  · subst i0
    have hsy:=ZgP hnb.1
    have hv0:ZA f 0=some (wd f 0):=hv
    refine⟨Q9 (ZaI f),?_,?_,hsy.1,hsy.2⟩
    · unfold XB
      rw [if_pos (by decide),n1,Option.bind_some,(ZeY hnb.1).1,Option.bind_some,(ZeY hnb.1).2,Option.bind_some,hv0];rfl
    · unfold Zal
      rw [if_pos (by decide),n2,Option.bind_some,Zi0 hnb.1,Option.bind_some,hv0,ZeU (by omega)];rfl
  by_cases i61:i=61
  · subst i61
    obtain⟨w1,w2,w3,w4⟩:=ZkA (d:=Zco f 60) (by omega)
    refine⟨Zh8 (Zco f 60),?_,?_,w3,w4⟩
    · unfold XB
      rw [if_neg (by decide),if_pos (by decide),s1,Option.bind_some,w1,Option.bind_some,hv];rfl
    · unfold Zal
      rw [if_neg (by decide),if_neg (by decide),if_pos (by decide),s2,Option.bind_some,w2,Option.bind_some,hv61,ZeU (by omega)];rfl
  by_cases i62:i=62
  · subst i62
    obtain⟨w1,w2,w3,w4⟩:=ZkA (d:=ckS f 744/2048) (by omega)
    have hq:=Zks (ckS f 744) (k:=11) (by decide)
    rw [show((11:Nat):Int)=11 from rfl,show(2:Int)^11=2048 by decide] at hq
    have hq2:quo .i64 (ckS f 744) 2048=some (ckS f 744/2048):=by
      rw [(Zi6 (by decide) (by omega)).1,Int.tdiv_eq_ediv_of_nonneg hcb.1]
    have hv0:ZA f 62=some (wd f 62):=hv
    refine⟨Zh8 (ckS f 744/2048),?_,?_,w3,w4⟩
    · unfold XB
      rw [if_neg (by decide),if_neg (by decide),if_pos (by decide),c1,Option.bind_some,hq,Option.bind_some,w1,Option.bind_some,hv];rfl
    · unfold Zal
      rw [if_neg (by decide),if_neg (by decide),if_neg (by decide),if_pos (by decide),c2,Option.bind_some,hq2,Option.bind_some,w2,Option.bind_some,hv0,ZeU (by omega)];rfl
  by_cases i63:i=63
  · subst i63
    obtain⟨w1,w2,w3,w4⟩:=ZkA (d:=ckS f 744 % 2048) (by omega)
    have hm:=ZfN (v:=ckS f 744) (n:=11) (by decide)
    rw [show((2:Int)^11-1)=2047 by decide,show(2:Int)^11=2048 by decide] at hm
    have hv0:ZA f 63=some (wd f 63):=hv
    refine⟨Zh8 (ckS f 744 % 2048),?_,?_,w3,w4⟩
    · unfold XB
      rw [if_neg (by decide),if_neg (by decide),if_neg (by decide),if_pos (by decide),c1,Option.bind_some,hm,w1,Option.bind_some,hv];rfl
    · unfold Zal
      rw [if_neg (by decide),if_neg (by decide),if_neg (by decide),if_neg (by decide),c2,Option.bind_some,ZeI hcb.1 2048 (by decide),Option.bind_some,w2,Option.bind_some,hv0,ZeU (by omega)];rfl
  have d1:=ZeP (x:=wd f i) (by omega)
  have d2:=ZeP (x:=wd f 61) (by omega)
  have hx1:=ZpC (a:=Zco f 60) (b:=wd f i % 2048) (by omega) (by omega)
  have hx2:=ZpC (a:=Zaq .i64 (Zco f 60) (wd f i % 2048)) (b:=wd f 61 % 2048) hx1 (by omega)
  obtain⟨w1,w2,w3,w4⟩:=ZkA (d:=Zaq .i64 (Zaq .i64 (Zco f 60) (wd f i % 2048)) (wd f 61 % 2048)) (by omega)
  refine⟨_,?_,?_,w3,w4⟩
  · unfold XB
    rw [if_neg (by simp;omega),if_neg (by simp;omega),if_neg (by simp;omega),if_neg (by simp;omega),s1,Option.bind_some,hv,Option.bind_some,d1,Option.bind_some,hv61,Option.bind_some,d2,Option.bind_some,w1];rfl
  · unfold Zal
    rw [if_neg (by simp;omega),if_pos (by simp;omega),hv,Option.bind_some,ZY (z:=wd f i) (by omega) (by omega),ZeI hii.1 2048 (by decide),Option.bind_some,s2,Option.bind_some,hv61,Option.bind_some,ZY (z:=wd f 61) (by omega) (by omega),ZeI h61.1 2048 (by decide),Option.bind_some,
      Zmk (wd f i % 2048) (Zco f 60),w2,Option.bind_some,ZeU (by omega)];rfl
end Go.Vx

namespace Go.Vx
open Go Go.RowKit
def NoZ(r:api_Rest)(k:Nat):Prop:= ∀ i,i<k→wd r.States i≠0
def Zpx(r:api_Rest)(k j:Nat):Prop:=j<k∧wd r.States j=0∧ ∀ i,i<k→i≠j→wd r.States i≠0
def ZqP(r:api_Rest)(k:Nat):Prop:= ∃ i j,i<j∧j<k∧wd r.States i=0∧wd r.States j=0
theorem Ztc(r:api_Rest): ∃ lost place:Int,loop (t3 (Ja r)) (0,0,0)=some (lost,place)∧((lost=0∧NoZ r 64)∨(lost=1∧ ∃ j:Nat,place=j∧Zpx r 64 j)∨(2≤lost∧ZqP r 64)):=by
  obtain⟨q,e1,lost,place,rfl,e2⟩:=Zdb (body:=Ja r) (N:=64)
    (fun k lost place=>(lost=0∧NoZ r k)∨(lost=1∧ ∃ j:Nat,place=j∧Zpx r k j)∨(2≤lost∧lost≤k∧ZqP r k))
    (fun q=> ∃ lost place:Int,q=(lost,place)∧((lost=0∧NoZ r 64)∨(lost=1∧ ∃ j:Nat,place=j∧Zpx r 64 j)∨(2≤lost∧ZqP r 64)))
    (fun k lost place hk hI=>by
      left
      unfold Ja
      rw [if_pos (by simp;omega),Qf r.States hk,Option.bind_some,Xt hk (by omega)]
      by_cases h0:wd r.States k=0
      · rw [if_pos (by simpa using h0)]
        have hb:0≤lost∧lost≤64:=by rcases hI with ⟨h,_⟩ | ⟨h,_⟩ | ⟨h,h',_⟩<;>omega
        refine⟨_,_,rfl,?_⟩
        rw [ZY (by omega) (by omega)]
        rcases hI with ⟨rfl,h⟩ | ⟨rfl,j,rfl,h1,h2,h3⟩ | ⟨h1,h2,i,j,h3,h4,h5,h6⟩
        · exact .inr (.inl ⟨rfl,k,rfl,by omega,h0,fun i hi hne=>h i (by omega)⟩)
        · exact .inr (.inr ⟨by omega,by omega,j,k,h1,by omega,h2,h0⟩)
        · exact .inr (.inr ⟨by omega,by omega,i,j,h3,by omega,h5,h6⟩)
      · rw [if_neg (by simpa using h0)]
        refine⟨_,_,rfl,?_⟩
        rcases hI with ⟨rfl,h⟩ | ⟨rfl,j,rfl,h1,h2,h3⟩ | ⟨h1,h2,i,j,h3,h4,h5,h6⟩
        · refine .inl ⟨rfl,fun i hi=> ?_⟩
          by_cases e:i=k
          · subst e;exact h0
          · exact h i (by omega)
        · refine .inr (.inl ⟨rfl,j,rfl,by omega,h2,fun i hi hne=> ?_⟩)
          by_cases e:i=k
          · subst e;exact h0
          · exact h3 i (by omega) hne
        · exact .inr (.inr ⟨h1,by omega,i,j,h3,by omega,h5,h6⟩))
    (fun lost place hI=>⟨_,by unfold Ja;rw [if_neg (by simp)],lost,place,rfl,by
      rcases hI with h |h | ⟨h1,_,h2⟩
      · exact .inl h
      · exact .inr (.inl h)
      · exact .inr (.inr ⟨h1,h2⟩)⟩) (a0:=0) (b0:=0) (.inl ⟨rfl,fun i hi=>by omega⟩)
  exact⟨lost,place,e1,e2⟩
theorem Zsz(r:api_Rest): ∃ q,loop (t2 (Za0 r)) ((-1),0)=some q∧((q= .inl r∧ZqP r 64)∨(q= .inr (-1)∧NoZ r 64)∨ ∃ j:Nat,q= .inr (j:Int)∧Zpx r 64 j):=
  Xj (body := Za0 r) (N := 64) (fun k at_ => (at_ = -1 ∧ NoZ r k) ∨ ∃ j : Nat, at_ = j ∧ Zpx r k j) _
    (fun k at_ hk hI=>by
      unfold Za0
      rw [if_pos (by simp;omega),Qf r.States hk,Option.bind_some,Xt hk (by omega)]
      by_cases h0:wd r.States k=0
      · rw [if_neg (by simpa using h0)]
        rcases hI with ⟨rfl,h⟩ | ⟨j,rfl,h1,h2,h3⟩
        · left
          exact⟨_,by rw [if_neg (by decide)],.inr ⟨k,rfl,by omega,h0,fun i hi hne=>h i (by omega)⟩⟩
        · right
          exact⟨_,by rw [if_pos (by simp)],.inl ⟨rfl,j,k,h1,by omega,h2,h0⟩⟩
      · rw [if_pos (by simpa using h0)]
        left
        refine⟨_,rfl,?_⟩
        rcases hI with ⟨rfl,h⟩ | ⟨j,rfl,h1,h2,h3⟩
        · refine .inl ⟨rfl,fun i hi=> ?_⟩
          by_cases e:i=k
          · subst e;exact h0
          · exact h i (by omega)
        · refine .inr ⟨j,rfl,by omega,h2,fun i hi hne=> ?_⟩
          by_cases e:i=k
          · subst e;exact h0
          · exact h3 i (by omega) hne)
    (fun at_ hI=>⟨.inr at_,by unfold Za0;rw [if_neg (by simp)],by
      rcases hI with ⟨rfl,h⟩ | ⟨j,rfl,h⟩
      · exact .inr (.inl ⟨rfl,h⟩)
      · exact .inr (.inr ⟨j,rfl,h⟩)⟩) (.inl ⟨rfl,fun i hi=>by omega⟩)
theorem ZoO{r:api_Rest}(hn: ∀ i,0≤wd r.Frame i∧wd r.Frame i≤4095)(hz:r.Sound=false→r.Conflict=false→ ∀ i,i<64→wd r.States i=0→wd r.Frame i=0):
    ∃ o,Xy r=some o∧Zeg r=some o:=by
  obtain⟨q,e1,e2⟩:=Zsz r
  unfold Xy Zeg
  rw [e1,Option.bind_some]
  cases hsc:(r.Sound || r.Conflict)
  · have hs:r.Sound=false:=by cases h:r.Sound<;>simp_all
    have hc:r.Conflict=false:=by cases h:r.Conflict<;>simp_all
    rw [if_neg (show ¬(false=true) by decide)]
    obtain⟨lost,place,f1,f2⟩:=Ztc r
    rw [f1,Option.bind_some,QG]
    rcases e2 with ⟨rfl,i,j,h1,h2,h3,h4⟩ | ⟨rfl,h⟩ | ⟨j,rfl,h1,h2,h3⟩
    · have hl:2≤lost:=by
        rcases f2 with ⟨_,hN⟩ | ⟨_,k,_,_,_,hk⟩ | ⟨h,_⟩
        · exact(hN i (by omega) h3).elim
        · by_cases e:i=k
          · exact(hk j (by omega) (by omega) h4).elim
          · exact(hk i (by omega) e h3).elim
        · exact h
      exact⟨r,by rw [if_pos (by simp;omega)],rfl⟩
    · have hl:lost=0:=by
        rcases f2 with ⟨h0,_⟩ | ⟨_,k,_,hk,hk0,_⟩ | ⟨_,i,j,_,hj,hi0,_⟩
        · exact h0
        · exact(h k hk hk0).elim
        · exact(h i (by omega) hi0).elim
      exact⟨r,by rw [if_pos (by simp;omega)],rfl⟩
    · obtain⟨rfl,rfl⟩:lost=1∧place=j:=by
        rcases f2 with ⟨_,hN⟩ | ⟨h,k,rfl,hk,hk0,hko⟩ | ⟨_,i,k,hik,hk,hi0,hk0⟩
        · exact(hN j h1 h2).elim
        · refine⟨h,?_⟩
          by_cases e:k=j
          · rw [e]
          · exact(h3 k hk e hk0).elim
        · by_cases e:i=j
          · exact(h3 k hk (by omega) hk0).elim
          · exact(h3 i (by omega) e hi0).elim
      have hF:=hz hs hc j h1 h2
      obtain⟨w,p1,p2,p3,p4⟩:=Zs2 hn h1 hF
      have hgn: ∀ i,0≤wd (Qr r.Frame (j:Int) w) i∧wd (Qr r.Frame (j:Int) w) i≤4095:=fun i=>by
        rw [Jc _ h1]
        split
        · omega
        · exact hn i
      generalize hg:Qr r.Frame (j:Int) w=g at p1 p2 hgn
      have hgU:fU g:=fun i=>by have:=hgn i;omega
      have hnb:ZbK r.Frame=true:=by
        unfold ZbK
        rw [List.all_eq_true]
        intro k _
        exact decide_eq_true (hn k).2
      have hRp:Za3 r.Frame (j:Int)=some (if ZfE g=true then(g,true) else(Vector.replicate 64 0,false)):=by
        unfold Za3
        rw [if_neg (by simp;omega),Qf _ h1,Option.bind_some,ZnX h1 hF,ZpN,hnb,Option.bind_some,if_neg (by decide),p1,Option.bind_some,ZmV hgU,Option.bind_some,zV]
        cases ZfE g<;>rfl
      rw [if_neg (by decide),hRp,Option.bind_some]
      simp only [Sum.elim_inr,Z8]
      rw [if_neg (show ¬((false || decide ((j:Int)<0))=true) by simp),p2,Option.bind_some,Zi9 hgU,Option.bind_some,ZgK hgU (hgn 1).2 (hgn 2).2]
      have hsa:=Zj5 hgU (hgn 1).2 (hgn 2).2 r.Number
      unfold Zl9 at hsa
      cases hsn:ZfE g
      · exact⟨r,rfl,by simp [gd]⟩
      · rw [hsn] at hsa
        rw [if_pos rfl]
        simp only [Bool.not_true,show(false==false)=true from rfl,Zdj,Option.bind_some,Bool.false_or,hsa,Bool.true_and]
        by_cases he:(Zd9 g).1=r.Number
        · rw [decide_eq_true he,if_neg (by decide),if_neg (by decide),ZhB,Option.bind_some]
          have hfill:loop (t2 (ZaV)) ((Vector.replicate 64 0),0)=some (Vector.replicate 64 3):=ZmY (body:=ZaV) 3 (fun v j hj=>by
            unfold ZaV
            rw [if_pos (by simp;omega),Qf v hj,Option.bind_some,Xt hj (by omega)]) (fun v=>by unfold ZaV;rw [if_neg (by simp)]) _
          rw [hfill,Option.bind_some,Z8,Qf _ h1,Option.bind_some,Option.bind_some,hc]
          exact⟨_,rfl,rfl⟩
        · rw [decide_eq_false he]
          exact⟨r,rfl,rfl⟩
  · refine⟨r,by rw [if_pos rfl],?_⟩
    rcases e2 with ⟨rfl,_⟩ | ⟨rfl,_⟩ | ⟨j,rfl,_⟩
    · rfl
    · simp only [Sum.elim_inr,Z8,Bool.true_or,if_true]
    · simp only [Sum.elim_inr,Z8,Bool.true_or,if_true]
end Go.Vx

namespace Go.Vx
open Go Go.RowKit
theorem Zqb{H:List Int}{C:List api_Found}(hC:COK H C){i:Nat}{xi:api_Found}(hi:C[i]?=some xi){p:Int}(hp: -1000000≤p∧p≤1000000){r:api_Rest}(h:bes H C i p=some r):0≤r.Number∧r.Number<4194304∧r.Copies=0:=by
  have hH:=hC.hl
  obtain⟨⟨r0,h1,h2⟩,_,_⟩:=Zm3 hC hi hp
  have:=h2 r h
  subst this
  rw [h] at h1
  have hfw:=ZdS hC.hh p
  have hfu:=ZlC hC.hh p
  obtain⟨n,ok,e1,e2,e3,_⟩:=ZlD hC hi hp (frW H p).2 hfu hfw
  have g0:X7 (fnd H C).h_ p=some (frW H p):=Zji hC.hh hp (by show H.length≤_;omega)
  unfold QX at h1
  rw [g0,Option.bind_some,e1,Option.bind_some] at h1
  cases ok
  · rw [if_pos (by simp)] at h1
    simp at h1
  · obtain⟨n1,n2⟩:=e3 rfl
    obtain⟨r',g1,g2⟩:=Zj7 (w:=(frW H p).2) hfw n1 n2
    rw [if_neg (by simp)] at h1
    simp only at h1
    obtain⟨b,l1,_⟩:=Zpc r'
    rw [g1,Option.bind_some,Z8,l1,Option.bind_some] at h1
    have:r'=r0:=by
      have:=Option.some.inj h1
      exact congrArg Prod.fst this
    subst this
    rw [g2.num,g2.cop]
    exact⟨n1,n2,rfl⟩
theorem Zom{H:List Int}{C:List api_Found}(hC:COK H C){r:api_Rest}(hr:r∈RA H C C.length):0≤r.Number∧r.Number<4194304∧0≤r.Copies∧r.Copies≤1:=by
  unfold RA at hr
  rcases List.mem_append.1 hr with hr |hr
  · obtain⟨x,hx,rfl⟩:=List.mem_map.1 hr
    have:=Zg2 x.Frame
    exact⟨this.1,this.2,by show(0:Int)≤1;omega,by show(1:Int)≤1;omega⟩
  · obtain⟨i,hi,hr⟩:=List.mem_flatMap.1 hr
    obtain⟨x,hx⟩:=ZF (xs:=C) (k:=i) (List.mem_range.1 hi)
    obtain⟨p,hp,he⟩:=List.mem_filterMap.1 hr
    have hg:C.getD i fz=x:=ZhW hx
    rw [hg] at hp
    unfold KC at hp
    have:=(Zds.1 (List.mem_filter.1 hp).2).1
    unfold inb at this
    have hH:=hC.hl
    have:=Zqb hC hx (by omega) he
    omega
def ZqH(r:api_Rest):Prop:=(∀ i,0≤wd r.Frame i∧wd r.Frame i≤4095)∧(r.Sound=false→r.Conflict=false→ ∀ i,i<64→wd r.States i=0→wd r.Frame i=0)
theorem MG.nice{n:Int}{l:List api_Rest}(hM:MOK n l){o:api_Rest}(h:MG n l o):o.Number=n∧ZqH o:=by
  cases h with
  |clash _=>exact⟨rfl,fun i=>by show 0≤wd (Vector.replicate 64 0) i∧_;rw [Zbh];omega,fun _ h=>by cases h⟩
  |sound _ hs _=>exact⟨rfl,fun i=>hM.nar _ hs.1 i,fun h=>by cases h⟩
  |parts _ _ hp=>
    unfold prtOut
    split
    · exact⟨rfl,fun i=>Zf5 hM hp i,fun h=>by cases h⟩
    · refine⟨rfl,fun i=>Zf5 hM hp i,fun _ _ i hi h0=> ?_⟩
      rcases hp i hi with ⟨_,h1⟩ | ⟨_,h1,_⟩
      · simp only at h0;omega
      · exact h1
theorem MG.cop{n:Int}{l:List api_Rest}(hs:0≤sumC l∧sumC l≤1000000000){o:api_Rest}(h:MG n l o):0≤o.Copies∧o.Copies≤1000000000:=by
  cases h with
  |clash _=>exact hs
  |sound _ _ _=>
    unfold sndOut
    simp only
    split<;>omega
  |parts _ _ hp=>
    unfold prtOut
    split
    · simp only;omega
    · exact hs
theorem Zla: ∀ {l:List api_Rest},(∀ r∈l,0≤r.Copies∧r.Copies≤1)→0≤sumC l∧sumC l≤l.length
  | [],_=>⟨Int.le_refl 0,Int.le_refl 0⟩
  |r::l,h=>by
    have h1:=h r (by simp)
    have h2:=Zla (l:=l) fun x hx=>h x (by simp [hx])
    simp only [sumC,List.map_cons,List.sum_cons,List.length_cons] at*
    omega
theorem GR.get{l out:List api_Rest}(h:GR l out){r:api_Rest}(hr:r∈out): ∃ n,(∃ x∈l,x.Number=n)∧MG n (grp l n) r:=by
  obtain⟨y,h1,h2,h3,h4⟩:=h
  obtain⟨i,hi⟩:=List.getElem?_of_mem hr
  obtain⟨n,hn⟩:=ZF (xs:=y) (k:=i) (by rw [←h3];exact(List.getElem?_eq_some_iff.1 hi).1)
  exact⟨n,(h2 n).1 (List.mem_of_getElem? hn),h4 i n r hn hi⟩
theorem GR.nice{l out:List api_Rest}(hl:LOK l)(h:GR l out){r:api_Rest}(hr:r∈out):ZqH r:=by
  obtain⟨n,hx,hm⟩:=h.get hr
  exact(MG.nice (hl.grp (fun e=>Zix.1 e hx)) hm).2
theorem ZoP{l out:List api_Rest}(h:GR l out)(hn: ∀ r∈l,0≤r.Number∧r.Number<4194304):out.length≤4194304:=by
  obtain⟨y,h1,h2,h3,_⟩:=h
  have:y.length≤((List.range 4194304).map (fun(k:Nat)=>(k:Int))).length:=(ZlP h1).length_le_of_subset fun n hy=>by
    obtain⟨r,hr,e⟩:=(h2 n).1 hy
    have:=hn r hr
    exact List.mem_map.2 ⟨n.toNat,List.mem_range.2 (by omega),by omega⟩
  rw [List.length_map,List.length_range] at this
  omega
noncomputable def Zdh(p:api_Piece):List api_Rest:=(XZ (hv p)).getD []
theorem Zp5{p:api_Piece}(hw:JO p)(h:Zdq p=0):
    Zac p=some (hv p)∧XZ (hv p)=some (Zdh p)∧Zaf p=some (hv p)∧(ZdU (hv p)).bind Zbg=some (Zdh p)∧
    (Zdh p).length≤4194304∧ ∀ r∈Zdh p,(∀ i,0≤wd r.Frame i∧wd r.Frame i≤4095)∧0≤r.Copies∧r.Copies≤1000000000:=by
  have hu:=Zjs hw
  have hH:hL (hv p):=ZlN hu
  have hl:=Zka h
  have hC:=cok hH hl
  have h1:=Zia hH hl
  have h2:=Zpr hH hl
  generalize Zdg (scL (hv p) ((hv p).length-191))=C at hC h1 h2
  obtain⟨l,e1,e2⟩:=ZmZ hC
  have hok:=Zq2 hC
  have hok':LOK l:=⟨by rw [e2.length_eq];exact hok.len,fun r hr=>hok.nar r (e2.mem_iff.1 hr),fun r hr=>hok.cop r (e2.mem_iff.1 hr)⟩
  obtain⟨out,g1,g2,g3⟩:=ZeV hok' e2
  have hr:XZ (hv p)=some out:=by
    unfold XZ
    rw [h1,Option.bind_some,e1,Option.bind_some,Z8,g1];rfl
  have ho:Zdh p=out:=by unfold Zdh;rw [hr];rfl
  rw [ho]
  have hnum: ∀ r∈l,0≤r.Number∧r.Number<4194304:=fun r hr=>by
    have:=Zom hC (e2.mem_iff.1 hr);omega
  refine⟨Zof hu h,hr,Zj2 hu (Zgq h).1,by rw [h2,Option.bind_some,g2],ZoP g3 hnum,fun r hr=> ?_⟩
  refine⟨(g3.nice hok' hr).1,?_⟩
  obtain⟨n,_,hm⟩:=g3.get hr
  refine hm.cop ?_
  have hs:=Zla (l:=grp l n) fun x hx=>by
    have:=Zom hC (e2.mem_iff.1 (Zdt.1 hx).1);omega
  have:(grp l n).length≤l.length:=List.length_filter_le _ _
  have:=hok'.len
  omega
def ZkO(p:api_Piece):Option Int:=if Zdq p=0 then none else some (Zdq p)
theorem ZiZ{α ε:Type}{g:α→Option ε}{e:ε}: ∀ {xs:List α},Zfu g xs=some e→ ∃ x∈xs,g x=some e
  | [],h=>by cases h
  |y::tl,h=>by
    simp only [Zfu] at h
    split at h
    · rename_i hg;cases h;exact⟨y,by simp,hg⟩
    · obtain⟨x,hx,h⟩:=ZiZ h
      exact⟨x,by simp [hx],h⟩
theorem Zrw{l:List api_Piece}(hw:wfL JO l)(hl:l.length≤200):
    loop (t1 (XM l)) 0=some (Zid (fun e=> .inl (([]:List api_Rest),e)) (.inr ()) (Zfu ZkO l))∧
    loop (t1 (Jh l)) 0=some (Zid (fun e=> .inl e) (.inr ()) (Zfu ZkO l)):=by
  have hmem: ∀ (k:Nat) x,l[k]?=some x→k<l.length∧u8L x.Bytes:=fun k x hx=>⟨(List.getElem?_eq_some_iff.1 hx).1,Zjs (hw.2 x (List.mem_of_getElem? hx))⟩
  constructor
  · refine Zkk (body:=XM l) ZkO _ _ (fun k x hx=> ?_) (by unfold XM;rw [if_neg (by simp)])
    obtain⟨hk,hu⟩:=hmem k x hx
    unfold XM ZkO
    rw [if_pos (by simp;omega),Zw hx,Option.bind_some,ZkP x hu,Option.bind_some,Xt hk (by omega)]
    by_cases h:Zdq x=0
    · rw [if_neg (by simp [h]),if_pos h]
    · rw [if_pos (by simpa using h),if_neg h]
  · refine Zkk (body:=Jh l) ZkO _ _ (fun k x hx=> ?_) (by unfold Jh;rw [if_neg (by simp)])
    obtain⟨hk,hu⟩:=hmem k x hx
    unfold Jh ZkO
    rw [if_pos (by simp;omega),Zw hx,Option.bind_some,Zgh x hu,Option.bind_some,Xt hk (by omega)]
    by_cases h:Zdq x=0
    · rw [if_neg (by simp [h]),if_pos h]
    · rw [if_pos (by simpa using h),if_neg h]
theorem Zkf{l:List api_Piece}(h: ∀ p∈l,(Zdh p).length≤4194304):(l.flatMap Zdh).length≤4194304*l.length:=by
  induction l with
  |nil=>simp
  |cons a t ih=>
    have:=ih fun p hp=>h p (by simp [hp])
    have:=h a (by simp)
    rw [List.flatMap_cons,List.length_append,List.length_cons]
    omega
theorem Zno{l:List api_Piece}(hw:wfL JO l)(hl:l.length≤200)(hc: ∀ p∈l,Zdq p=0):
    loop (t2 (XQ l)) ([],0)=some (l.flatMap Zdh)∧loop (t2 (ZaA l)) ([],0)=some (l.flatMap Zdh)∧LOK (l.flatMap Zdh):=by
  have hP: ∀ p∈l,_:=fun p hp=>Zp5 (hw.2 p hp) (hc p hp)
  have hlen:=Zkf (l:=l) fun p hp=>(hP p hp).2.2.2.2.1
  have htl: ∀ k,((l.take k).flatMap Zdh).length≤4194304*200:=fun k=>by
    have:=Zkf (l:=l.take k) fun p hp=>(hP p (List.mem_of_mem_take hp)).2.2.2.2.1
    rw [List.length_take] at this
    omega
  have hts: ∀ (k:Nat) x,l[k]?=some x→(l.take (k+1)).flatMap Zdh=(l.take k).flatMap Zdh++Zdh x:=fun k x hx=>by
    rw [List.take_succ,hx,List.flatMap_append];simp
  refine⟨?_,?_,by omega,fun r hr=> ?_,fun r hr=> ?_⟩
  · obtain⟨r,e1,e2⟩:=Xj (body:=XQ l) (N:=l.length) (fun k o=>o=(l.take k).flatMap Zdh) (fun o=>o=l.flatMap Zdh) (fun k o hk hI=>by
      left
      obtain⟨x,hx⟩:=ZF hk
      obtain⟨p1,p2,p3,p4,p5,_⟩:=hP x (List.mem_of_getElem? hx)
      have:=htl k
      refine⟨o++Zdh x,?_,by rw [hts k x hx,hI]⟩
      unfold XQ
      rw [if_pos (by simp;omega),Zw hx,Option.bind_some,p1,Option.bind_some,p2,Option.bind_some,Xk (by rw [hI];omega),Option.bind_some,Xt hk (by omega)])
      (fun o hI=>⟨o,by unfold XQ;rw [if_neg (by simp)],by rw [hI,List.take_length]⟩) (s0:= []) (by simp)
    rw [e1,e2]
  · obtain⟨r,e1,e2⟩:=Xj (body:=ZaA l) (N:=l.length) (fun k o=>o=(l.take k).flatMap Zdh) (fun o=>o=l.flatMap Zdh) (fun k o hk hI=>by
      left
      obtain⟨x,hx⟩:=ZF hk
      obtain⟨p1,p2,p3,p4,p5,_⟩:=hP x (List.mem_of_getElem? hx)
      have:=htl k
      refine⟨o++Zdh x,?_,by rw [hts k x hx,hI]⟩
      unfold ZaA
      rw [if_pos (by simp;omega),Zw hx,Option.bind_some,p3,Option.bind_some]
      cases hrr:ZdU (hv x) with
      |none=>rw [hrr] at p4;cases p4
      |some z=>
        rw [hrr,Option.bind_some] at p4
        rw [Option.bind_some,p4,Option.bind_some,Xk (by rw [hI];omega),Option.bind_some,Xt hk (by omega)])
      (fun o hI=>⟨o,by unfold ZaA;rw [if_neg (by simp)],by rw [hI,List.take_length]⟩) (s0:= []) (by simp)
    rw [e1,e2]
  · obtain⟨p,hp,hr⟩:=List.mem_flatMap.1 hr
    exact((hP p hp).2.2.2.2.2 r hr).1
  · obtain⟨p,hp,hr⟩:=List.mem_flatMap.1 hr
    exact((hP p hp).2.2.2.2.2 r hr).2
end Go.Vx

namespace Go.Vx
open Go Go.RowKit
noncomputable def md(r:api_Rest):api_Rest:=(Xy r).getD r
theorem Zs3{r:api_Rest}(h:ZqH r):Xy r=some (md r)∧Zeg r=some (md r):=by
  obtain⟨o,h1,h2⟩:=ZoO h.1 h.2
  have:md r=o:=by unfold md;rw [h1];rfl
  rw [this]
  exact⟨h1,h2⟩
noncomputable def tlS(y4:List api_Rest):Option (List api_Rest×Int):=
  (gd ((decide (0<(y4.length:Int)))==true) (api_Rest.mk 0 (Vector.replicate 64 0) (Vector.replicate 64 0) false 0 false) (idx y4 (i64 ((y4.length:Int)-1)))).bind fun x3=>
  (gd ((decide (0<(y4.length:Int)))==true) (api_Rest.mk 0 (Vector.replicate 64 0) (Vector.replicate 64 0) false 0 false) (idx y4 0)).bind fun x4=>
  if((decide (0<(y4.length:Int)))&&(decide (100000<(i64 (x3.Number-x4.Number)))))=true then
  some ([],3)
  else
  some (y4.map md,0)
theorem ZoH{y:List api_Rest}(hy: ∀ r∈y,ZqH r)(hl:y.length≤1000000000):loop (t2 (XL y)) (y,0)=some (y.map md)∧loop (t2 (Zas y)) (y,0)=some (y.map md):=by
  constructor
  · refine Zlz (body:=XL y) md (fun k x acc hx hal hax=>⟨_,?_,rfl⟩) (fun acc=>by unfold XL;rw [if_neg (by simp)])
    have hk:=(List.getElem?_eq_some_iff.1 hx).1
    unfold XL
    rw [if_pos (by simp;omega),Zw hax,Option.bind_some,(Zs3 (hy x (List.mem_of_getElem? hx))).1,Option.bind_some,Option.bind_some,Xt hk (by omega),Int.toNat_natCast]
  · refine Zlz (body:=Zas y) md (fun k x acc hx hal hax=>⟨_,?_,rfl⟩) (fun acc=>by unfold Zas;rw [if_neg (by simp)])
    have hk:=(List.getElem?_eq_some_iff.1 hx).1
    unfold Zas
    rw [if_pos (by simp;omega),Zw hax,Option.bind_some,(Zs3 (hy x (List.mem_of_getElem? hx))).2,Option.bind_some,Option.bind_some,Xt hk (by omega),Int.toNat_natCast]
theorem Zs8{y:List api_Rest}(hl:y.length≤1000000000): ∃ o,tlS y=some o∧o.1.length≤1000000000:=by
  have key: ∀ a b:api_Rest,∃ o:List api_Rest×Int,(if((decide (0<(y.length:Int)))&&(decide (100000<(i64 (a.Number-b.Number)))))=true then some ([],3) else some (y.map md,0))=some o∧o.1.length≤1000000000:=fun a b=>by
    split
    · exact⟨_,rfl,by simp⟩
    · exact⟨_,rfl,by simpa using hl⟩
  unfold tlS
  by_cases h:0<y.length
  · obtain⟨a,ha⟩:=ZF (xs:=y) (k:=y.length-1) (by omega)
    obtain⟨b,hb⟩:=ZF (xs:=y) (k:=0) (by omega)
    have e:i64 ((y.length:Int)-1)=((y.length-1:Nat):Int):=by rw [ZY (by omega) (by omega)];omega
    have hb':idx y 0=some b:=Zw (k:=0) hb
    have hd:decide (0<(y.length:Int))=true:=decide_eq_true (by omega)
    obtain⟨o,h1,h2⟩:=key a b
    rw [hd] at h1 ⊢
    refine⟨o,?_,h2⟩
    rw [e,Zw ha,ZcJ,Option.bind_some,hb',ZcJ,Option.bind_some]
    exact h1
  · have hd:decide (0<(y.length:Int))=false:=decide_eq_false (by omega)
    obtain⟨o,h1,h2⟩:=key ⟨0,Vector.replicate 64 0,Vector.replicate 64 0,false,0,false⟩ ⟨0,Vector.replicate 64 0,Vector.replicate 64 0,false,0,false⟩
    rw [hd] at h1 ⊢
    exact⟨o,h1,h2⟩
theorem ZnU{l:List api_Piece}(hw:wfL JO l)(hl:l.length≤200)(hc: ∀ p∈l,Zdq p=0):
    ∃ out,GR (l.flatMap Zdh) out∧ZaB l=tlS out∧Zho l=tlS out∧out.length≤1000000000:=by
  obtain⟨p1,p2,p3⟩:=Zno hw hl hc
  obtain⟨out,g1,g2,g3⟩:=ZeV p3 (List.Perm.refl _)
  have hlen:out.length≤1000000000:=Nat.le_trans (Zrx g3) p3.len
  obtain⟨m1,m2⟩:=ZoH (fun r hr=>g3.nice p3 hr) hlen
  have hf:Zfu ZkO l=none:=by
    cases h:Zfu ZkO l with
    |none=>rfl
    |some e=>
      obtain⟨x,hx,he⟩:=ZiZ h
      unfold ZkO at he
      rw [if_pos (hc x hx)] at he
      cases he
  obtain⟨c1,c2⟩:=Zrw hw hl
  rw [hf] at c1 c2
  refine⟨out,g3,?_,?_,hlen⟩
  · unfold ZaB tlS
    rw [if_neg (by simp;omega),c1,Option.bind_some]
    simp only [Zid,Sum.elim_inr,t0]
    rw [p1,Option.bind_some,Z8,g1,Option.bind_some,m1];rfl
  · unfold Zho ZeB tlS
    rw [if_neg (by simp;omega),c2,Option.bind_some]
    simp only [Zid,Sum.elim_inr,t0,Option.bind_some]
    rw [if_neg (by simp),p2,Option.bind_some,Z8,g2,Option.bind_some,m2];rfl
end Go.Vx

namespace Go.Vx
open Go Go.RowKit
set_option maxHeartbeats 1000000
def Has(F:Vector Int 64)(o:api_Rest):Prop:=o.Conflict=true∨(o.Sound=true∧o.Frame=F)
theorem ZrE{n:Int}{l:List api_Rest}{o:api_Rest}{F:Vector Int 64}(h:MG n l o)(hr: ∃ r∈l,Has F r):o.Number=n∧Has F o:=by
  obtain⟨r,r1,r2⟩:=hr
  cases h with
  |clash hc=>exact⟨rfl,.inl rfl⟩
  |sound hn hs ht=>
    rename_i s V
    rcases r2 with q | ⟨q1,q2⟩
    · exact absurd (.inl ⟨r,r1,q⟩) hn
    · refine⟨rfl,.inr ⟨rfl,?_⟩⟩
      show s.Frame=F
      by_cases e:s.Frame=r.Frame
      · rw [e,q2]
      · exact absurd (.inr ⟨s,r,hs,⟨r1,q1⟩,e⟩) hn
  |parts hn hs hp=>
    rcases r2 with q | ⟨q1,_⟩
    · exact absurd (.inl ⟨r,r1,q⟩) hn
    · exact absurd ⟨r1,q1⟩ (hs r)
theorem Zpi{l out:List api_Rest}{n:Int}{F:Vector Int 64}(h:GR l out)(hr: ∃ r∈l,r.Number=n∧Has F r): ∃ o∈out,o.Number=n∧Has F o:=by
  obtain⟨y,_,y2,y3,y4⟩:=h
  obtain⟨r,r1,r2,r3⟩:=hr
  obtain⟨i,hi,e⟩:=List.getElem_of_mem ((y2 n).2 ⟨r,r1,r2⟩)
  have hi':i<out.length:=by omega
  have:=ZrE (y4 i n out[i] (by rw [List.getElem?_eq_getElem hi,e]) (List.getElem?_eq_getElem hi')) ⟨r,Zdt.2 ⟨r1,r2⟩,r3⟩
  exact⟨out[i],List.getElem_mem hi',this⟩
end Go.Vx

namespace Go.Vx
open Go Go.RowKit
def ZlO(m:api_Memory):Prop:=m.Sectors.length≤64∧ ∀ s∈m.Sectors,s.length≤6224
theorem ZsG{m:api_Memory}(hw:JZ m): ∃ r:Int,Q5 m=some r∧(r=0→ZlO m):=by
  unfold Q5 Xb
  simp only [Option.bind_some]
  by_cases h1:(decide (1≤m.Slots)&&decide (m.Slots≤64))=true
  · by_cases h2:(decide (1≤m.Limit)&&decide (m.Limit≤1000000))=true
    · by_cases h3:(decide (2≤(m.Sectors.length:Int))&&decide ((m.Sectors.length:Int)≤64))=true
      · rw [h1,h2,h3]
        simp only [Bool.and_eq_true,decide_eq_true_eq] at h1 h2 h3
        show ∃ r,(if((!decide ((m.Wear.length:Int)=(m.Sectors.length:Int))) || (!decide ((m.Bad.length:Int)=(m.Sectors.length:Int))))=true then some 2 else _)=some r∧_
        by_cases h4:((!decide ((m.Wear.length:Int)=(m.Sectors.length:Int))) || (!decide ((m.Bad.length:Int)=(m.Sectors.length:Int))))=true
        · exact⟨2,by rw [if_pos h4],fun h=>by omega⟩
        · rw [if_neg h4]
          simp only [Bool.or_eq_true,Bool.not_eq_true',decide_eq_false_iff_not,not_or,Decidable.not_not] at h4
          have hI:=ZbE (body:=t1 (QH m)) (fun i=> ∃ k:Nat,i=k∧k≤m.Sectors.length∧ ∀ s∈m.Sectors.take k,s.length≤6224) (fun i=>m.Sectors.length-i.toNat)
            (fun r=>(∃ e:Int,r= .inl e∧e≠0)∨(r= .inr ()∧ ∀ s∈m.Sectors,s.length≤6224)) (by
            rintro i ⟨k,rfl,hk,hs⟩
            rw [Z8]
            unfold QH Jq Xb
            rcases Nat.lt_or_ge k m.Sectors.length with hlt |hge
            · obtain⟨x,hx⟩:=ZF hlt
              obtain⟨z,hz⟩:=ZF (xs:=m.Wear) (k:=k) (by omega)
              rw [if_pos (by simp;omega),Zw hx,Option.bind_some,Option.bind_some,ZY (z:=m.Slots*97) (by omega) (by omega),ZY (z:=16+m.Slots*97) (by omega) (by omega)]
              by_cases hl:(x.length:Int)=16+m.Slots*97
              · rw [if_neg (by simp [hl]),Zw hz,Option.bind_some,Option.bind_some]
                by_cases hb:(!(decide (0≤z)&&decide (z≤m.Limit)))=true
                · rw [if_pos hb];exact .inr ⟨_,rfl,.inl ⟨9,rfl,by decide⟩⟩
                · rw [if_neg hb]
                  refine .inl ⟨_,rfl,⟨k+1,by rw [ZY (by omega) (by omega)];push_cast;rfl,hlt,?_⟩,by rw [ZY (by omega) (by omega)];omega⟩
                  intro s hsm
                  rw [List.take_add_one,hx] at hsm
                  rcases List.mem_append.1 hsm with h |h
                  · exact hs s h
                  · have:s=x:=by simpa using h
                    subst this;omega
              · rw [if_pos (by simp [hl])];exact .inr ⟨_,rfl,.inl ⟨3,rfl,by decide⟩⟩
            · rw [if_neg (by simp;omega)]
              refine .inr ⟨_,rfl,.inr ⟨rfl,?_⟩⟩
              rw [List.take_of_length_le hge] at hs
              exact hs) 0 ⟨0,rfl,Nat.zero_le _,fun s h=>by simp at h⟩
          obtain⟨r,e,hr⟩:=hI
          rw [e,Option.bind_some]
          rcases hr with ⟨e1,rfl,he⟩ | ⟨rfl,hs⟩
          · exact⟨e1,rfl,fun h=>(he h).elim⟩
          · exact⟨0,rfl,fun _=>⟨by omega,hs⟩⟩
      · have h3:(decide (2≤(m.Sectors.length:Int))&&decide ((m.Sectors.length:Int)≤64))=false:=by simpa using h3
        rw [h1,h2,h3]
        exact⟨9,rfl,fun h=>by omega⟩
    · have h2:(decide (1≤m.Limit)&&decide (m.Limit≤1000000))=false:=by simpa using h2
      rw [h1,h2]
      exact⟨9,rfl,fun h=>by omega⟩
  · have h1:(decide (1≤m.Slots)&&decide (m.Slots≤64))=false:=by simpa using h1
    rw [h1]
    exact⟨9,rfl,fun h=>by omega⟩
def Zky(l:List api_Memory):Prop:=l.length≤8∧ ∀ m∈l,ZlO m
theorem ZrG{l:List api_Memory}(hw: ∀ m∈l,JZ m): ∃ r:Int,Jy l=some r∧(r=0→Zky l):=by
  unfold Jy Jn Xb
  rw [Option.bind_some]
  by_cases h:l.length=0∨8<l.length
  · rw [if_pos (by simp only [Bool.not_eq_true',Bool.and_eq_false_iff,decide_eq_false_iff_not];omega)]
    exact⟨3,rfl,fun h=>by omega⟩
  · rw [if_neg (by simp only [Bool.not_eq_true',Bool.and_eq_false_iff,decide_eq_false_iff_not];omega)]
    have hI:=ZbE (body:=t1 (ring_checkAll_L1 l)) (fun i=> ∃ k:Nat,i=k∧k≤l.length∧ ∀ m∈l.take k,ZlO m) (fun i=>l.length-i.toNat)
      (fun r=>(∃ e:Int,r= .inl e∧e≠0)∨(r= .inr ()∧ ∀ m∈l,ZlO m)) (by
      rintro i ⟨k,rfl,hk,hs⟩
      rw [Z8]
      unfold ring_checkAll_L1
      rcases Nat.lt_or_ge k l.length with hlt |hge
      · obtain⟨x,hx⟩:=ZF hlt
        obtain⟨r,hr,hr0⟩:=ZsG (hw x (List.mem_of_getElem? hx))
        rw [if_pos (by simp;omega),Zw hx,Option.bind_some,hr,Option.bind_some]
        by_cases h0:r=0
        · rw [if_neg (by simp [h0])]
          refine .inl ⟨_,rfl,⟨k+1,by rw [ZY (by omega) (by omega)];push_cast;rfl,hlt,?_⟩,by rw [ZY (by omega) (by omega)];omega⟩
          intro s hsm
          rw [List.take_add_one,hx] at hsm
          rcases List.mem_append.1 hsm with h |h
          · exact hs s h
          · have:s=x:=by simpa using h
            subst this;exact hr0 h0
        · rw [if_pos (by simp [h0])];exact .inr ⟨_,rfl,.inl ⟨r,rfl,h0⟩⟩
      · rw [if_neg (by simp;omega)]
        refine .inr ⟨_,rfl,.inr ⟨rfl,?_⟩⟩
        rw [List.take_of_length_le hge] at hs
        exact hs) 0 ⟨0,rfl,Nat.zero_le _,fun s h=>by simp at h⟩
    obtain⟨r,e,hr⟩:=hI
    rw [e,Option.bind_some]
    rcases hr with ⟨e1,rfl,he⟩ | ⟨rfl,hs⟩
    · exact⟨e1,rfl,fun h=>(he h).elim⟩
    · exact⟨0,rfl,fun _=>⟨by omega,hs⟩⟩
def Zjy(m:api_Memory):List Int:=m.Sectors.flatten
def Zl7(l:List api_Memory):List Int:=(l.map Zjy).flatten
theorem ZfT{n:Nat}: ∀ {ls:List (List Int)},(∀ s∈ls,s.length≤n)→ls.flatten.length≤ls.length*n
  | [],_=>by simp
  |a::tl,h=>by
    have h1:=h a List.mem_cons_self
    have ih:=ZfT (ls:=tl) fun s hs=>h s (List.mem_cons_of_mem _ hs)
    rw [List.flatten_cons,List.length_append,List.length_cons,Nat.add_mul,Nat.one_mul];omega
theorem Zn1{ls:List (List Int)}{k:Nat}{x:List Int}(h:ls[k]?=some x):(ls.take (k+1)).flatten=(ls.take k).flatten++x:=by
  rw [List.take_add_one,h,List.flatten_append];simp
theorem Zsu{m:api_Memory}(hm:ZlO m)(acc:List Int)(ha:acc.length≤4000000):loop (t2 (Jb m)) (acc,0)=some (acc++Zjy m):=by
  have:=ZbM (body:=Jb m) (fun k=>acc++(m.Sectors.take k).flatten) (acc++Zjy m) (a:=0) (b:=m.Sectors.length) (Nat.zero_le _) (fun k _ hk=>by
    obtain⟨x,hx⟩:=ZF hk
    have hxl:=hm.2 x (List.mem_of_getElem? hx)
    have hfl:=ZfT (n:=6224) (ls:=m.Sectors.take k) fun s hs=>hm.2 s (List.mem_of_mem_take hs)
    have hkl:(m.Sectors.take k).length≤64:=by rw [List.length_take];have:=hm.1;omega
    have:=hm.1
    unfold Jb
    rw [if_pos (by simp;omega),Zw hx,Option.bind_some,Xk (by rw [List.length_append];omega),Option.bind_some,ZY (by omega) (by omega),Zn1 hx,List.append_assoc]) (by
    unfold Jb
    rw [if_neg (by simp),List.take_of_length_le (Nat.le_refl _)];rfl)
  simpa using this
theorem Zhq{l:List api_Memory}(hl:Zky l)(k:Nat):((l.take k).map Zjy).flatten.length≤3186688:=by
  have h1: ∀ s∈(l.take k).map Zjy,s.length≤398336:=fun s hs=>by
    obtain⟨m,hm,rfl⟩:=List.mem_map.1 hs
    have ho:=hl.2 m (List.mem_of_mem_take hm)
    have:=ZfT (n:=6224) ho.2
    have:=ho.1
    show m.Sectors.flatten.length≤_
    omega
  have h2:=ZfT h1
  have:((l.take k).map Zjy).length≤8:=by rw [List.length_map,List.length_take];have:=hl.1;omega
  omega
theorem ZsO{l:List api_Memory}(hl:Zky l):loop (t2 (Jd l)) ([],0)=some (Zl7 l):=by
  have hl8:=hl.1
  have:=ZbM (body:=Jd l) (fun k=>((l.take k).map Zjy).flatten) (Zl7 l) (a:=0) (b:=l.length) (Nat.zero_le _) (fun k _ hk=>by
    obtain⟨x,hx⟩:=ZF hk
    have hfl:=Zhq hl k
    unfold Jd
    rw [if_pos (by simp;omega),Zw hx,Option.bind_some,Zsu (hl.2 x (List.mem_of_getElem? hx)) _ (by omega),Option.bind_some,Z8,ZY (by omega) (by omega)]
    have:((l.take (k+1)).map Zjy).flatten=((l.take k).map Zjy).flatten++Zjy x:=by
      rw [List.take_add_one,hx,List.map_append,List.flatten_append];simp
    rw [this]) (by
    unfold Jd
    rw [if_neg (by simp),List.take_of_length_le (Nat.le_refl _)];rfl)
  simpa using this
theorem ZoJ{l:List api_Memory}(hl:Zky l):(Zl7 l).length≤3186688:=by
  have:=Zhq hl l.length
  rw [List.take_of_length_le (Nat.le_refl _)] at this
  exact this
theorem Zsq{l:List api_Memory}(hw: ∀ m∈l,JZ m):u8L (Zl7 l):=by
  intro x hx
  obtain⟨s,hs,hx⟩:=List.mem_flatten.1 hx
  obtain⟨m,hm,rfl⟩:=List.mem_map.1 hs
  obtain⟨t,ht,hx⟩:=List.mem_flatten.1 hx
  exact Zrc (((hw m hm).2.2.1.2 t ht).2 x hx)
def Zma(cuts:List Int)(n:Nat):Prop:= ∀ (k:Nat) (x:Int),cuts[k]?=some x→0≤x∧x≤n
theorem ZrX{cuts:List Int}(hc:cuts.length≤199){all H:List Int}(hH:H.length=2*all.length)(hl:all.length≤3186688):
    ∃ r:(List api_Piece×Int) ⊕ Unit,loop (t1 (XD cuts all)) 0=some r∧loop (t1 (Zd2 cuts H)) 0=some r∧(r= .inr ()→Zma cuts H.length)∧(∀ q,r= .inl q→q.1= []):=by
  have hb:Zd2 cuts H=XD cuts all:=by
    funext i
    unfold Zd2 XD
    rw [ZY (z:=2*(all.length:Int)) (by omega) (by omega),show(H.length:Int)=2*(all.length:Int) by omega]
  rw [hb]
  have hI:=ZbE (body:=t1 (XD cuts all)) (fun i=> ∃ k:Nat,i=k∧k≤cuts.length∧ ∀ j x,j<k→cuts[j]?=some x→0≤x∧x≤H.length) (fun i=>cuts.length-i.toNat)
    (fun r=>(∃ e:Int,r= .inl ([],e))∨(r= .inr ()∧Zma cuts H.length)) (by
    rintro i ⟨k,rfl,hk,hs⟩
    rw [Z8]
    unfold XD
    rcases Nat.lt_or_ge k cuts.length with hlt |hge
    · obtain⟨x,hx⟩:=ZF hlt
      rw [if_pos (by simp;omega),Zw hx,Option.bind_some,ZY (z:=2*(all.length:Int)) (by omega) (by omega)]
      by_cases h1:(decide (x<0) || decide (2*(all.length:Int)<x))=true
      · rw [if_pos h1];exact .inr ⟨_,rfl,.inl ⟨9,rfl⟩⟩
      · rw [if_neg h1]
        simp only [Bool.or_eq_true,decide_eq_true_eq,not_or,Int.not_lt] at h1
        obtain⟨b,hbb⟩: ∃ b:Bool,∃ y,(gd ((decide (0<(k:Int)))==true) 0 (idx cuts (i64 ((k:Int)-1))))=some y∧(decide (0<(k:Int))&&decide (x<y))=b:=by
          rcases Nat.eq_zero_or_pos k with rfl |hp
          · exact⟨_,0,rfl,rfl⟩
          · obtain⟨y,hy⟩:=ZF (xs:=cuts) (k:=k-1) (by omega)
            refine⟨_,y,?_,rfl⟩
            rw [decide_eq_true (by omega),ZY (by omega) (by omega),show(k:Int)-1=((k-1:Nat):Int) by omega,Zw hy];rfl
        obtain⟨y,e1,e2⟩:=hbb
        rw [e1,Option.bind_some,e2]
        cases b
        · rw [if_neg (by decide)]
          refine .inl ⟨_,rfl,⟨k+1,by rw [ZY (by omega) (by omega)];push_cast;rfl,hlt,?_⟩,by rw [ZY (by omega) (by omega)];omega⟩
          intro j z hj hz
          by_cases hjk:j=k
          · subst hjk
            rw [hx] at hz
            cases hz
            omega
          · exact hs j z (by omega) hz
        · rw [if_pos rfl];exact .inr ⟨_,rfl,.inl ⟨10,rfl⟩⟩
    · rw [if_neg (by simp;omega)]
      refine .inr ⟨_,rfl,.inr ⟨rfl,?_⟩⟩
      intro j z hz
      exact hs j z (by have:=(List.getElem?_eq_some_iff.1 hz).1;omega) hz) 0 ⟨0,rfl,Nat.zero_le _,fun j _ h=>by omega⟩
  obtain⟨r,e,hr⟩:=hI
  refine⟨r,e,e,?_,?_⟩
  · rintro rfl
    rcases hr with ⟨e,h⟩ | ⟨_,h⟩
    · cases h
    · exact h
  · rintro q rfl
    rcases hr with ⟨e,h⟩ | ⟨h,_⟩
    · cases h;rfl
    · cases h
end Go.Vx

namespace Go.Vx
open Go Go.RowKit
end Go.Vx

namespace Go.Vx
open Go Go.RowKit
theorem Ztm{y:List api_Rest}{o:List api_Rest×Int}(h:tlS y=some o):o.2=0∨o.2=3:=by
  unfold tlS at h
  obtain⟨a,_,h⟩:=Option.bind_eq_some_iff.1 h
  obtain⟨b,_,h⟩:=Option.bind_eq_some_iff.1 h
  split at h
  · cases h;exact .inr rfl
  · cases h;exact .inl rfl
end Go.Vx

namespace Go.Vx
open Go Go.RowKit
theorem Zok:ZdF=some true:=Zk6 _ (by decide+kernel)
theorem ZqK{p:api_Piece}(hu:u8L p.Bytes):ZeK p=some (if Zdq p=0 then(scL (hv p) ((hv p).length-191),0) else([],Zdq p)):=by
  unfold ZeK
  rw [Zgh p hu,Option.bind_some]
  by_cases h:Zdq p=0
  · have hl:=Zka h
    rw [if_neg (by simp [h]),if_pos h,Zj2 hu (Zgq h).1,Option.bind_some,(Zl1 (ZlN hu) (H:=hv p) (by omega)).2,Option.bind_some]
  · rw [if_pos (by simpa using h),if_neg h]
theorem ZmE{p:api_Piece}(hu:u8L p.Bytes)(h:Zdq p=0):Zb9 p=some (Zdg (scL (hv p) ((hv p).length-191)),0):=by
  unfold Zb9
  have hl:=Zka h
  rw [ZqK hu,if_pos h,Option.bind_some,(ZhN (ZlN hu) (H:=hv p) (by omega)).2,Option.bind_some]
theorem ZsD{n:Int}(h:0≤n∧n≤255):wfI .u8 n:=by
  show(decide (IntKind.u8.min≤n)&&decide (n≤IntKind.u8.max))=true
  have e1:IntKind.u8.min=0:=by decide
  have e2:IntKind.u8.max=255:=by decide
  rw [e1,e2]
  simpa using h
end Go.Vx

namespace Go.Vx
open Go Go.RowKit
theorem Zex{σ ρ:Type}{body:σ→Option (σ ⊕ ρ)}{s s':σ}{r:ρ}(h:body s=some (.inl s'))(k:loop body s'=some r):loop body s=some r:=by
  rw [Zei,h];exact k
theorem Zcr{σ ρ:Type}{body:σ→Option (σ ⊕ ρ)}{s:σ}{r:ρ}(h:body s=some (.inr r)):loop body s=some r:=by
  rw [Zei,h];rfl
theorem ZkF{body:Int→Int→Option ((Int×Int) ⊕ Int)}(P:Nat→Bool){lo hi:Nat}(hle:lo≤hi)
    (hst: ∀ i j:Nat,lo≤i→i<j→j≤hi→body i j=some (.inl (if P ((i+j)/2)=true then((((i+j)/2+1:Nat):Int),(j:Int)) else((i:Int),(((i+j)/2:Nat):Int)))))
    (hend: ∀ i:Nat,lo≤i→i≤hi→body i i=some (.inr (i:Int))):
    ∃ s,lo≤s∧s≤hi∧loop (t2 body) ((lo:Int),(hi:Int))=some (s:Int)∧(lo<s→P (s-1)=true)∧(s<hi→P s=false):=by
  suffices H: ∀ n i j:Nat,j-i=n→lo≤i→i≤j→j≤hi→(lo<i→P (i-1)=true)→(j<hi→P j=false)→
      ∃ s,lo≤s∧s≤hi∧loop (t2 body) ((i:Int),(j:Int))=some (s:Int)∧(lo<s→P (s-1)=true)∧(s<hi→P s=false) from
    H _ lo hi rfl (Nat.le_refl _) hle (Nat.le_refl _) (fun h=>absurd h (Nat.lt_irrefl _)) (fun h=>absurd h (Nat.lt_irrefl _))
  intro n
  induction n using Nat.strongRecOn with
  |_ n ih=>
    intro i j hn h1 h2 h3 h4 h5
    rcases Nat.lt_or_ge i j with h |h
    · by_cases hP:P ((i+j)/2)=true
      · obtain⟨s,a1,a2,a3,a4,a5⟩:=ih (j-((i+j)/2+1)) (by omega) ((i+j)/2+1) j rfl (by omega) (by omega) h3 (fun _=>by simpa using hP) h5
        exact⟨s,a1,a2,Zex (by simp only [QG];rw [hst i j h1 h h3,if_pos hP]) a3,a4,a5⟩
      · obtain⟨s,a1,a2,a3,a4,a5⟩:=ih ((i+j)/2-i) (by omega) i ((i+j)/2) rfl h1 (by omega) (by omega) h4 (fun _=>by simpa using hP)
        exact⟨s,a1,a2,Zex (by simp only [QG];rw [hst i j h1 h h3,if_neg hP]) a3,a4,a5⟩
    · have:i=j:=by omega
      subst this
      exact⟨i,h1,h3,Zcr (by simp only [QG];exact hend i h1 h3),h4,h5⟩
def LtK(key:Int→Int)(x y:Int):Prop:=key x<key y∨(key x=key y∧x<y)
theorem LtK.trans{key:Int→Int}{x y z:Int}(h:LtK key x y)(h2:LtK key y z):LtK key x z:=by unfold LtK at*;omega
theorem LtK.of_not{key:Int→Int}{x y:Int}(h: ¬LtK key x y)(hne:x≠y):LtK key y x:=by unfold LtK at*;omega
theorem LtK.of_lt{key:Int→Int}{x y:Int}(h:y<x):LtK key x y↔key x<key y:=by unfold LtK;omega
abbrev Srt(key:Int→Int)(l:List Int):Prop:=l.Pairwise (LtK key)
theorem Srt.app{key:Int→Int}{l m:List Int}(hl:Srt key l)(hm:Srt key m)(h: ∀ x∈l,∀ y∈m,LtK key x y):Srt key (l++m):=List.pairwise_append.2 ⟨hl,hm,h⟩
theorem Srt.fst{key:Int→Int}{l m:List Int}(h:Srt key (l++m)):Srt key l:=(List.pairwise_append.1 h).1
theorem Srt.snd{key:Int→Int}{l m:List Int}(h:Srt key (l++m)):Srt key m:=(List.pairwise_append.1 h).2.1
theorem Srt.mid{key:Int→Int}{l m:List Int}(h:Srt key (l++m)): ∀ x∈l,∀ y∈m,LtK key x y:=(List.pairwise_append.1 h).2.2
theorem below{key:Int→Int}{l m:List Int}{x y:Int}(hl:Srt key (l++ [x]))(hm:Srt key (y::m))(h:LtK key x y): ∀ a∈l++ [x],∀ b∈y::m,LtK key a b:=by
  have h1: ∀ a∈l++ [x],a=x∨LtK key a x:=by
    intro a ha
    rcases List.mem_append.1 ha with q |q
    · exact .inr (hl.mid a q x (List.mem_singleton.2 rfl))
    · exact .inl (List.mem_singleton.1 q)
  have h2: ∀ b∈y::m,b=y∨LtK key y b:=by
    intro b hb
    rcases List.mem_cons.1 hb with q |q
    · exact .inl q
    · exact .inr ((List.pairwise_cons.1 hm).1 b q)
  intro a ha b hb
  rcases h1 a ha with rfl |q<;>rcases h2 b hb with rfl |q2
  · exact h
  · exact h.trans q2
  · exact q.trans h
  · exact q.trans (h.trans q2)
theorem Zpd{α:Type}{l:List α}(h:l≠ []): ∃ m x,l=m++ [x]:=by
  rcases List.eq_nil_or_concat l with rfl | ⟨l',x,rfl⟩
  · exact absurd rfl h
  · exact⟨l',x,List.concat_eq_append ..⟩
theorem Zfw{key:Int→Int}{l m:List Int}(hl:Srt key l)(hm:Srt key m)(h: ∀ x y,l.getLast?=some x→m.head?=some y→LtK key x y): ∀ a∈l,∀ b∈m,LtK key a b:=by
  rcases List.eq_nil_or_concat l with rfl | ⟨l',x,rfl⟩
  · intro a ha;cases ha
  · cases m with
    |nil=>intro a _ b hb;cases hb
    |cons y m=>
      rw [List.concat_eq_append] at hl h ⊢
      exact below hl hm (h x y (by simp) rfl)
theorem ZrD{α:Type}{L X R:List α}{i:Nat}(h:i<X.length):(L++X++R)[L.length+i]?=X[i]?:=by
  rw [List.append_assoc,List.getElem?_append_right (by omega),List.getElem?_append_left (by omega)]
  congr 1;omega
theorem Zn6{α:Type}{L R:List α}{x y:α}:(L++x::R).set L.length y=L++y::R:=by
  rw [List.set_append,if_neg (Nat.lt_irrefl _),Nat.sub_self];rfl
end Go.Vx

namespace Go.Vx
open Go Go.RowKit
theorem ZiC{L M R:List Int}{x y:Int}:((L++x::M++y::R).set L.length y).set (L.length+1+M.length) x=L++y::M++x::R:=by
  have h1:(L++x::M++y::R).set L.length y=L++y::M++y::R:=by
    rw [List.append_assoc,List.cons_append,Zn6,List.append_assoc,List.cons_append]
  have h2:(L++y::M).length=L.length+1+M.length:=by simp;omega
  rw [h1,←h2,Zn6]
theorem ZsX{body:List Int→Int→Option ((List Int×Int) ⊕ List Int)}{n a b:Nat}
    (hst: ∀ (L M R:List Int) (x y:Int) (i:Nat),i<n→L.length=a+i→L.length+1+M.length=b+i→body (L++x::M++y::R) i=some (.inl (L++y::M++x::R,(i:Int)+1)))
    (hend: ∀ d,body d n=some (.inr d)):
    ∀ (A B L M R:List Int) (i:Nat),A.length=B.length→i+A.length=n→L.length=a+i→L.length+A.length+M.length=b+i→
      loop (t2 body) (L++A++M++B++R,(i:Int))=some (L++B++M++A++R):=by
  intro A
  induction A with
  |nil=>
    intro B L M R i h1 h2 h3 h4
    have:B= []:=List.length_eq_zero_iff.1 h1.symm
    subst this
    simp only [List.length_nil,Nat.add_zero] at h2
    subst h2
    exact Zcr (by simp only [QG];exact hend _)
  |cons x A ih=>
    intro B L M R i h1 h2 h3 h4
    cases B with
    |nil=>cases h1
    |cons y B=>
      simp only [List.length_cons] at h1 h2 h4
      have e:=hst L (A++M) (B++R) x y i (by omega) h3 (by rw [List.length_append];omega)
      have k:=ih B (L++ [y]) (M++ [x]) R (i+1) (by omega) (by omega) (by simp;omega) (by simp;omega)
      refine Zex (s':=(L++ [y]++A++(M++ [x])++B++R,((i+1:Nat):Int))) ?_ ?_
      · simp only [QG]
        rw [show L++x::A++M++y::B++R=L++x::(A++M)++y::(B++R) by simp,e]
        simp
      · rw [k];simp
theorem ZsM{body:List Int→Int→Option ((List Int×Int) ⊕ List Int)}{e:Nat}
    (hst: ∀ (L R:List Int) (x y:Int),L.length<e→body (L++x::y::R) L.length=some (.inl (L++y::x::R,(L.length:Int)+1)))
    (hend: ∀ d,body d e=some (.inr d)):
    ∀ (A L R:List Int) (x:Int),L.length+A.length=e→loop (t2 body) (L++x::(A++R),(L.length:Int))=some (L++A++x::R):=by
  intro A
  induction A with
  |nil=>
    intro L R x h
    simp only [List.length_nil,Nat.add_zero] at h
    rw [List.append_nil]
    exact Zcr (by simp only [QG];rw [h];exact hend _)
  |cons y A ih=>
    intro L R x h
    simp only [List.length_cons] at h
    have k:=ih (L++ [y]) R x (by simp;omega)
    refine Zex (s':=(L++ [y]++x::(A++R),(((L++ [y]).length:Nat):Int))) ?_ ?_
    · simp only [QG]
      rw [List.cons_append,hst L (A++R) x y (by omega)]
      simp
    · rw [k];simp
theorem ZsL{body:List Int→Int→Option ((List Int×Int) ⊕ List Int)}{e N:Nat}
    (hst: ∀ (L R:List Int) (x y:Int),e<L.length+1→L.length<N→body (L++x::y::R) ((L.length:Int)+1)=some (.inl (L++y::x::R,(L.length:Int))))
    (hend: ∀ d,body d e=some (.inr d)):
    ∀ (n:Nat) (A L R:List Int) (y:Int),A.length=n→L.length=e→L.length+A.length≤N→loop (t2 body) (L++A++y::R,(L.length:Int)+A.length)=some (L++y::(A++R)):=by
  intro n
  induction n with
  |zero=>
    intro A L R y hn h hN
    have:A= []:=List.length_eq_zero_iff.1 hn
    subst this
    rw [List.append_nil]
    exact Zcr (by simp only [QG,List.length_nil];rw [h];simpa using hend _)
  |succ n ih=>
    intro A L R y hn h hN
    obtain⟨A,x,rfl⟩:=Zpd (l:=A) (by intro q;rw [q] at hn;cases hn)
    have hA:A.length=n:=by simpa using hn
    rw [List.length_append] at hN
    simp only [List.length_cons,List.length_nil] at hN
    have k:=ih A L (x::R) y hA h (by omega)
    refine Zex (s':=(L++A++y::x::R,(L.length:Int)+A.length)) ?_ ?_
    · simp only [QG]
      have:=hst (L++A) R x y (by simp;omega) (by rw [List.length_append];omega)
      rw [show L++(A++ [x])++y::R=L++A++x::y::R by simp]
      rw [List.length_append] at this
      simp only [List.length_append,List.length_cons,List.length_nil]
      rw [show(L.length:Int)+((A.length+(0+1):Nat):Int)=((L.length+A.length:Nat):Int)+1 by omega,this]
      rw [show((L.length+A.length:Nat):Int)=(L.length:Int)+A.length by omega]
    · rw [k];simp
end Go.Vx

namespace Go.Vx
open Go Go.RowKit
theorem ZtD{body:List Int→Int→Int→Option ((List Int×Int×Int) ⊕ (List Int×Int))}{sr:List Int→Int→Int→Int→Option (List Int)}{m N:Nat}
    (hsr: ∀ (L A M B R:List Int),A.length=B.length→L.length+A.length+M.length+B.length+R.length=N→sr (L++A++M++B++R) (L.length:Int) ((L.length+A.length+M.length:Nat):Int) (A.length:Int)=some (L++B++M++A++R))
    (hb: ∀ (o:List Int) (i j:Nat),i≤m→m+j≤N→body o i j=if i=j then some (.inr (o,(i:Int))) else if j<i then(sr o ((m-i:Nat):Int) (m:Int) (j:Int)).bind fun y=>some (.inl (y,((i-j:Nat):Int),(j:Int)))
      else(sr o ((m-i:Nat):Int) ((m+j-i:Nat):Int) (i:Int)).bind fun y=>some (.inl (y,(i:Int),((j-i:Nat):Int)))):
    ∀ (n:Nat) (X Y L R:List Int),X.length+Y.length=n→X≠ []→Y≠ []→L.length+X.length=m→L.length+X.length+Y.length+R.length=N→
      ∃ (o':List Int) (i':Nat),loop (t3 body) (L++X++Y++R,(X.length:Int),(Y.length:Int))=some (o',(i':Int))∧i'≤m∧sr o' ((m-i':Nat):Int) (m:Int) (i':Int)=some (L++Y++X++R):=by
  intro n
  induction n using Nat.strongRecOn with
  |_ n ih=>
    intro X Y L R hn hX hY hm hN
    have pX:=List.length_pos_iff.2 hX
    have pY:=List.length_pos_iff.2 hY
    have hb':=hb (L++X++Y++R) X.length Y.length (by omega) (by omega)
    rcases Nat.lt_trichotomy X.length Y.length with h |h |h
    · rw [if_neg (by omega),if_neg (by omega)] at hb'
      have e1:(Y.take (Y.length-X.length)).length=Y.length-X.length:=by rw [List.length_take];omega
      have e2:(Y.drop (Y.length-X.length)).length=X.length:=by rw [List.length_drop];omega
      have hs:=hsr L X (Y.take (Y.length-X.length)) (Y.drop (Y.length-X.length)) R e2.symm (by omega)
      rw [e1] at hs
      rw [show L++X++Y.take (Y.length-X.length)++Y.drop (Y.length-X.length)++R=L++X++Y++R by rw [List.append_assoc (L++X),List.take_append_drop],
        show(L.length:Int)=((m-X.length:Nat):Int) by omega,show L.length+X.length+(Y.length-X.length)=m+Y.length-X.length by omega] at hs
      rw [hs,Option.bind_some] at hb'
      obtain⟨o',i',h1,h2,h3⟩:=ih Y.length (by omega) (Y.drop (Y.length-X.length)) (Y.take (Y.length-X.length)) L (X++R) (by omega) (by intro q;rw [q] at e2;simp at e2;omega) (by intro q;rw [q] at e1;simp at e1;omega) (by omega) (by rw [List.length_append];omega)
      refine⟨o',i',Zex (by simp only [Zef];exact hb') ?_,h2,?_⟩
      · rw [e1,e2] at h1
        rw [←h1];congr 2;simp
      · rw [h3];congr 1
        rw [List.append_assoc L,List.take_append_drop];simp
    · rw [if_pos h] at hb'
      refine⟨L++X++Y++R,X.length,Zcr (by simp only [Zef];exact hb'),by omega,?_⟩
      have hs:=hsr L X [] Y R h (by simp;omega)
      simp only [List.append_nil,List.length_nil,Nat.add_zero] at hs
      rw [show((m-X.length:Nat):Int)=(L.length:Int) by omega,show(m:Int)=((L.length+X.length:Nat):Int) by omega]
      exact hs
    · rw [if_neg (by omega),if_pos h] at hb'
      have e1:(X.take Y.length).length=Y.length:=by rw [List.length_take];omega
      have e2:(X.drop Y.length).length=X.length-Y.length:=by rw [List.length_drop]
      have hs:=hsr L (X.take Y.length) (X.drop Y.length) Y R e1 (by omega)
      rw [e1,e2] at hs
      rw [show L++X.take Y.length++X.drop Y.length++Y++R=L++X++Y++R by rw [List.append_assoc L,List.take_append_drop],
        show(L.length:Int)=((m-X.length:Nat):Int) by omega,show L.length+Y.length+(X.length-Y.length)=m by omega] at hs
      rw [hs,Option.bind_some] at hb'
      obtain⟨o',i',h1,h2,h3⟩:=ih X.length (by omega) (X.drop Y.length) (X.take Y.length) (L++Y) R (by omega) (by intro q;rw [q] at e2;simp at e2;omega) (by intro q;rw [q] at e1;simp at e1;omega) (by rw [List.length_append];omega) (by rw [List.length_append];omega)
      refine⟨o',i',Zex (by simp only [Zef];exact hb') ?_,h2,?_⟩
      · rw [e1,e2] at h1;exact h1
      · rw [h3];congr 1
        rw [List.append_assoc (L++Y),List.take_append_drop]
theorem Zru{key:Int→Int}{X Y:List Int}{a m b s:Nat}(ha:a+X.length=m)(hb:m+Y.length=b)(hX:Srt key X)(hY:Srt key Y)(mid:Nat)(hmid:mid=(a+b)/2)
    (lo hi:Nat) (hlo:lo=if mid<m then mid+m-b else a) (hhi:hi=if mid<m then mid else m) (h1:lo≤s) (h2:s≤hi)
    (p1:lo<s→ ∀ x y,X[s-1-a]?=some x→Y[mid-s]?=some y→LtK key x y) (p2:s<hi→ ∀ x y,X[s-a]?=some x→Y[mid-s-1]?=some y→LtK key y x):
    (∀ x∈X.take (s-a),∀ y∈Y.drop (mid-s),LtK key x y)∧(∀ y∈Y.take (mid-s),∀ x∈X.drop (s-a),LtK key y x):=by
  have hsX:Srt key (X.take (s-a)):=hX.sublist (List.take_sublist ..)
  have hdX:Srt key (X.drop (s-a)):=hX.sublist (List.drop_sublist ..)
  have hsY:Srt key (Y.take (mid-s)):=hY.sublist (List.take_sublist ..)
  have hdY:Srt key (Y.drop (mid-s)):=hY.sublist (List.drop_sublist ..)
  constructor
  · refine Zfw hsX hdY fun x y hx hy=> ?_
    rw [List.head?_drop] at hy
    rw [List.getLast?_eq_getElem?,List.length_take] at hx
    have l1:=(List.getElem?_eq_some_iff.1 hy).1
    have l2:=(List.getElem?_eq_some_iff.1 hx).1
    rw [List.length_take] at l2
    have hl:lo<s:=by
      split at hlo<;>omega
    rw [List.getElem?_take_of_lt (by omega)] at hx
    refine p1 hl x y ?_ hy
    rw [←hx];congr 1
    split at hhi<;>omega
  · refine Zfw hsY hdX fun x y hx hy=> ?_
    rw [List.head?_drop] at hy
    rw [List.getLast?_eq_getElem?,List.length_take] at hx
    have l1:=(List.getElem?_eq_some_iff.1 hy).1
    have l2:=(List.getElem?_eq_some_iff.1 hx).1
    rw [List.length_take] at l2
    have hl:s<hi:=by
      split at hhi<;>omega
    rw [List.getElem?_take_of_lt (by omega)] at hx
    refine p2 hl y x hy ?_
    rw [←hx];congr 1
    split at hlo<;>omega
end Go.Vx

namespace Go.Vx
open Go Go.RowKit
theorem Zt2{key:Int→Int}{D:Int→Prop}{body:List Int→Int→Option ((List Int×Int) ⊕ List Int)}{a N:Nat}
    (hst: ∀ (P Q:List Int) (x y:Int),D x→D y→a≤P.length→P.length<N→body (P++y::x::Q) ((P.length:Int)+1)=some (if key x<key y then .inl (P++x::y::Q,(P.length:Int)) else .inr (P++y::x::Q)))
    (hend: ∀ d,body d a=some (.inr d)) {L:List Int} (hL:L.length=a) (R:List Int) {x:Int} (hx:D x):
    ∀ (n:Nat) (S1 S2:List Int),S1.length=n→L.length+S1.length≤N→Srt key (S1++S2)→(∀ y∈S1,D y∧y<x)→(∀ z∈S2,LtK key x z)→
      ∃ S',loop (t2 body) (L++S1++x::(S2++R),((L.length+S1.length:Nat):Int))=some (L++S'++R)∧S'.Perm (S1++x::S2)∧Srt key S':=by
  intro n
  induction n with
  |zero=>
    intro S1 S2 hn hN hs h1 h2
    have:S1= []:=List.length_eq_zero_iff.1 hn
    subst this
    refine⟨x::S2,Zcr ?_,by simp,List.pairwise_cons.2 ⟨h2,hs⟩⟩
    simp only [QG,List.append_nil,List.length_nil,Nat.add_zero]
    rw [hL,hend];simp
  |succ n ih=>
    intro S1 S2 hn hN hs h1 h2
    obtain⟨S1,y,rfl⟩:=Zpd (l:=S1) (by intro q;rw [q] at hn;cases hn)
    have hy:=h1 y (by simp)
    rw [List.length_append] at hN
    simp only [List.length_cons,List.length_nil] at hN
    have e:=hst (L++S1) (S2++R) x y hx hy.1 (by simp;omega) (by rw [List.length_append];omega)
    have ee:L++(S1++ [y])++x::(S2++R)=L++S1++y::x::(S2++R):=by simp
    have el:((L.length+(S1++ [y]).length:Nat):Int)=(((L++S1).length:Nat):Int)+1:=by simp;omega
    rw [ee,el]
    by_cases hk:key x<key y
    · rw [if_pos hk] at e
      obtain⟨S',k1,k2,k3⟩:=ih S1 (y::S2) (by simpa using hn) (by omega) (by simpa using hs) (fun z hz=>h1 z (by simp [hz])) (fun z hz=>by
        rcases List.mem_cons.1 hz with rfl |q
        · exact .inl hk
        · exact h2 z q)
      refine⟨S',Zex (by simp only [QG];exact e) ?_,k2.trans ?_,k3⟩
      · rw [List.length_append];exact k1
      · simp only [List.append_assoc,List.cons_append,List.nil_append]
        exact List.Perm.append_left _ (List.Perm.swap ..)
    · rw [if_neg hk] at e
      refine⟨S1++ [y]++x::S2,Zcr (by simp only [QG];rw [e];simp),.refl _,?_⟩
      have hyx:LtK key y x:=LtK.of_not (fun q=>hk ((LtK.of_lt hy.2).1 q)) (by omega)
      have hs1:=hs.fst
      refine hs1.app (List.pairwise_cons.2 ⟨h2,hs.snd⟩) fun p hp q hq=> ?_
      have hpx:LtK key p x:=by
        rcases List.mem_append.1 hp with w |w
        · exact(hs1.mid p w y (by simp)).trans hyx
        · rw [List.mem_singleton.1 w];exact hyx
      rcases List.mem_cons.1 hq with rfl |w
      · exact hpx
      · exact hpx.trans (h2 q w)
theorem Zt1{key:Int→Int}{D:Int→Prop}{body1 body2:List Int→Int→Option ((List Int×Int) ⊕ List Int)}{a b:Nat}
    (hst: ∀ (P Q:List Int) (x y:Int),D x→D y→a≤P.length→P.length<b→body2 (P++y::x::Q) ((P.length:Int)+1)=some (if key x<key y then .inl (P++x::y::Q,(P.length:Int)) else .inr (P++y::x::Q)))
    (hend: ∀ d,body2 d a=some (.inr d))
    (h1: ∀ o (i:Nat),i<b→body1 o i=(loop (t2 body2) (o,(i:Int))).bind (fun o2=>some (.inl (o2,(i:Int)+1))))
    (h2: ∀ o (i:Nat),b≤i→body1 o i=some (.inr o)) {L:List Int} (hL:L.length=a) (R:List Int):
    ∀ (T S:List Int),L.length+S.length+T.length=b→Srt key S→(∀ y∈S++T,D y)→(∀ x∈S,∀ y∈T,x<y)→T.Pairwise (· < ·)→
      ∃ S',loop (t2 body1) (L++S++(T++R),((L.length+S.length:Nat):Int))=some (L++S'++R)∧S'.Perm (S++T)∧Srt key S':=by
  intro T
  induction T with
  |nil=>
    intro S hb hs hD _ _
    refine⟨S,Zcr ?_,by simp,hs⟩
    simp only [QG]
    rw [h2 _ _ (by simp at hb;omega)];simp
  |cons x T ih=>
    intro S hb hs hD hlt hT
    simp only [List.length_cons] at hb
    obtain⟨S',k1,k2,k3⟩:=Zt2 (D:=D) hst hend hL (T++R) (hD x (by simp)) S.length S [] rfl (by omega) (by simpa using hs) (fun y hy=>⟨hD y (by simp [hy]),hlt y hy x (by simp)⟩) (fun z hz=>by cases hz)
    have hT':=List.pairwise_cons.1 hT
    have hl:S'.length=S.length+1:=by rw [k2.length_eq];simp
    have hm: ∀ y,y∈S'→y∈S∨y=x:=fun y hy=>by have:=k2.mem_iff.1 hy;simpa using this
    obtain⟨S'',m1,m2,m3⟩:=ih S' (by omega) k3 (fun y hy=>by
      rcases List.mem_append.1 hy with q |q
      · rcases hm y q with q |rfl
        · exact hD y (by simp [q])
        · exact hD y (by simp)
      · exact hD y (by simp [q])) (fun y hy z hz=>by
      rcases hm y hy with q |rfl
      · exact hlt y q z (by simp [hz])
      · exact hT'.1 z hz) hT'.2
    refine⟨S'',Zex (s':=(L++S'++(T++R),((L.length+S'.length:Nat):Int))) ?_ m1,m2.trans ?_,m3⟩
    · simp only [QG]
      rw [h1 _ _ (by omega),List.cons_append,show L++S++x::(T++R)=L++S++x::([]++(T++R)) by simp,k1,Option.bind_some]
      congr 3;omega
    · refine(k2.append_right T).trans ?_
      simp
inductive Bl (key:Int→Int) (s:Nat):List Int→Prop
  |last (l):l.length≤s→Srt key l→Bl key s l
  |cons (B r):B.length=s→Srt key B→(∀ x∈B,∀ y∈r,x<y)→Bl key s r→Bl key s (B++r)
theorem ZsH{key:Int→Int}{D:Int→Prop}{sm:List Int→Int→Int→Int→Option (List Int)}{s n:Nat}(hs0:0<s)
    (hsm: ∀ L X Y R:List Int,X≠ []→Y≠ []→L.length+X.length+Y.length+R.length=n→Srt key X→Srt key Y→(∀ x∈X,∀ y∈Y,x<y)→(∀ x∈X++Y,D x)→
      ∃ Z,sm (L++X++Y++R) (L.length:Int) ((L.length+X.length:Nat):Int) ((L.length+X.length+Y.length:Nat):Int)=some (L++Z++R)∧Z.Perm (X++Y)∧Srt key Z)
    {body:List Int→Int→Int→Option ((List Int×Int×Int) ⊕ (List Int×Int))}
    (hb: ∀ o (a:Nat),a≤n→body o a ((a+2*s:Nat):Int)=if a+2*s≤n then(sm o (a:Int) ((a+s:Nat):Int) ((a+2*s:Nat):Int)).bind fun y=>some (.inl (y,((a+2*s:Nat):Int),((a+2*s+2*s:Nat):Int))) else some (.inr (o,(a:Int)))):
    ∀ (k:Nat) (L l:List Int),l.length=k→L.length+l.length=n→Bl key s l→(∀ x∈l,D x)→
      ∃ (o:List Int) (a:Nat) (l':List Int),loop (t3 body) (L++l,(L.length:Int),((L.length+2*s:Nat):Int))=some (o,(a:Int))∧
        a≤n∧(if a+s<n then sm o (a:Int) ((a+s:Nat):Int) (n:Int) else some o)=some (L++l')∧l'.Perm l∧Bl key (2*s) l':=by
  intro k
  induction k using Nat.strongRecOn with
  |_ k ih=>
    intro L l hk hn hB hD
    rcases Nat.lt_or_ge l.length (2*s) with h |h
    · have hex:loop (t3 body) (L++l,(L.length:Int),((L.length+2*s:Nat):Int))=some (L++l,(L.length:Int)):=Zcr (by
        simp only [Zef]
        rw [hb _ _ (by omega),if_neg (by omega)])
      refine⟨L++l,L.length,?_⟩
      cases hB with
      |last _ h1 h2=>
        exact⟨l,hex,by omega,by rw [if_neg (by omega)],.refl _,.last l (by omega) h2⟩
      |cons B r h1 h2 h3 h4=>
        rw [List.length_append] at h hn
        have hr:Srt key r:=by
          cases h4 with
          |last _ q1 q2=>exact q2
          |cons B' r' q1 q2 q3 q4=>
            rw [List.length_append] at h
            omega
        by_cases he:r= []
        · subst he
          exact⟨B++ [],hex,by omega,by rw [if_neg (by simp at hn;omega)],.refl _,.last _ (by simp;omega) (by simpa using h2)⟩
        · have pr:=List.length_pos_iff.2 he
          obtain⟨Z,e1,e2,e3⟩:=hsm L B r [] (by intro q;rw [q] at h1;simp at h1;omega) he (by simp;omega) h2 hr h3 hD
          refine⟨Z,hex,by omega,?_,e2,.last _ (by rw [e2.length_eq,List.length_append];omega) e3⟩
          rw [if_pos (by omega)]
          simp only [List.append_nil] at e1
          rw [h1,show L.length+s+r.length=n by omega] at e1
          rw [←List.append_assoc];exact e1
    · cases hB with
      |last _ h1 h2=>omega
      |cons B r h1 h2 h3 h4=>
        rw [List.length_append] at h hn hk
        have key2: ∃ B2 r2,r=B2++r2∧B2.length=s∧Srt key B2∧(∀ x∈B2,∀ y∈r2,x<y)∧Bl key s r2:=by
          cases h4 with
          |last _ q1 q2=>exact⟨r,[],by simp,by omega,q2,(fun x _ y hy=>by cases hy),Bl.last [] (by simp) List.Pairwise.nil⟩
          |cons B' r' q1 q2 q3 q4=>exact⟨B',r',rfl,q1,q2,q3,q4⟩
        obtain⟨B2,r2,rfl,g1,g2,g3,g4⟩:=key2
        rw [List.length_append] at h hn hk
        obtain⟨Z,e1,e2,e3⟩:=hsm L B B2 r2 (by intro q;rw [q] at h1;simp at h1;omega) (by intro q;rw [q] at g1;simp at g1;omega) (by omega) h2 g2 (fun x hx y hy=>h3 x hx y (by simp [hy])) (fun x hx=>hD x (by
          rcases List.mem_append.1 hx with q |q<;>simp [q]))
        have hZ:Z.length=2*s:=by rw [e2.length_eq,List.length_append];omega
        obtain⟨o,a,l',f1,fa,f2,f3,f4⟩:=ih r2.length (by omega) (L++Z) r2 rfl (by rw [List.length_append];omega) g4 (fun x hx=>hD x (by simp [hx]))
        refine⟨o,a,Z++l',?_,fa,by rw [f2];simp,?_,?_⟩
        · refine Zex (s':=(L++Z++r2,(((L++Z).length:Nat):Int),(((L++Z).length+2*s:Nat):Int))) ?_ f1
          simp only [Zef]
          rw [hb _ _ (by omega),if_pos (by omega)]
          rw [h1,g1,show L.length+s+s=L.length+2*s by omega] at e1
          rw [show L++(B++(B2++r2))=L++B++B2++r2 by simp,e1,Option.bind_some,List.length_append,hZ]
        · rw [←List.append_assoc]
          exact e2.append f3
        · refine .cons Z l' hZ e3 (fun x hx y hy=> ?_) f4
          have hy':=f3.mem_iff.1 hy
          rcases List.mem_append.1 (e2.mem_iff.1 hx) with q |q
          · exact h3 x q y (by simp [hy'])
          · exact g3 x q y hy'
end Go.Vx

namespace Go.Vx
open Go Go.RowKit
theorem ZtL{key:Int→Int}{D:Int→Prop}{ins:List Int→Int→Int→Option (List Int)}{s n:Nat}(hs0:0<s)
    (hin: ∀ L X R:List Int,L.length+X.length+R.length=n→X.Pairwise (· < ·)→(∀ x∈X,D x)→
      ∃ Z,ins (L++X++R) (L.length:Int) ((L.length+X.length:Nat):Int)=some (L++Z++R)∧Z.Perm X∧Srt key Z)
    {body:List Int→Int→Int→Option ((List Int×Int×Int) ⊕ (List Int×Int))}
    (hb: ∀ o (a:Nat),a≤n→body o a ((a+s:Nat):Int)=if a+s≤n then(ins o (a:Int) ((a+s:Nat):Int)).bind fun y=>some (.inl (y,((a+s:Nat):Int),((a+s+s:Nat):Int))) else some (.inr (o,(a:Int)))):
    ∀ (k:Nat) (L l:List Int),l.length=k→L.length+l.length=n→l.Pairwise (· < ·)→(∀ x∈l,D x)→
      ∃ (o:List Int) (a:Nat) (l':List Int),loop (t3 body) (L++l,(L.length:Int),((L.length+s:Nat):Int))=some (o,(a:Int))∧ins o (a:Int) (n:Int)=some (L++l')∧l'.Perm l∧Bl key s l':=by
  intro k
  induction k using Nat.strongRecOn with
  |_ k ih=>
    intro L l hk hn hl hD
    rcases Nat.lt_or_ge l.length s with h |h
    · obtain⟨Z,e1,e2,e3⟩:=hin L l [] (by simpa using hn) hl hD
      rw [List.append_nil,List.append_nil,hn] at e1
      refine⟨L++l,L.length,Z,Zcr (by simp only [Zef];rw [hb _ _ (by omega),if_neg (by omega)]),e1,e2,.last Z (by rw [e2.length_eq];omega) e3⟩
    · have ht:(l.take s).length=s:=by rw [List.length_take];omega
      have hd:(l.drop s).length=l.length-s:=List.length_drop ..
      have hp:=hl
      rw [←List.take_append_drop s l] at hp
      obtain⟨hp1,hp2,hp3⟩:=List.pairwise_append.1 hp
      obtain⟨Z,e1,e2,e3⟩:=hin L (l.take s) (l.drop s) (by omega) hp1 (fun x hx=>hD x (List.mem_of_mem_take hx))
      have hZ:Z.length=s:=by rw [e2.length_eq];omega
      obtain⟨o,a,l',f1,f2,f3,f4⟩:=ih (l.drop s).length (by omega) (L++Z) (l.drop s) rfl (by rw [List.length_append];omega) hp2 (fun x hx=>hD x (List.mem_of_mem_drop hx))
      refine⟨o,a,Z++l',?_,by rw [f2];simp,?_,?_⟩
      · refine Zex (s':=(L++Z++l.drop s,(((L++Z).length:Nat):Int),(((L++Z).length+s:Nat):Int))) ?_ f1
        simp only [Zef]
        rw [hb _ _ (by omega),if_pos (by omega)]
        rw [ht,List.append_assoc,List.take_append_drop] at e1
        rw [e1,Option.bind_some,List.length_append,hZ]
      · have:=e2.append f3
        rw [List.take_append_drop] at this
        exact this
      · refine .cons Z l' hZ e3 (fun x hx y hy=> ?_) f4
        exact hp3 x (e2.mem_iff.1 hx) y (f3.mem_iff.1 hy)
theorem Bl.one{key:Int→Int}{s:Nat}{l:List Int}(h:Bl key s l)(hl:l.length≤s):Srt key l:=by
  cases h with
  |last _ h1 h2=>exact h2
  |cons B r h1 h2 h3 h4=>
    rw [List.length_append] at hl
    have:r= []:=List.length_eq_zero_iff.1 (by omega)
    subst this
    simpa using h2
theorem ZtR{key:Int→Int}{D:Int→Prop}{n:Nat}{body:List Int→Int→Option ((List Int×Int) ⊕ List Int)}
    (hb: ∀ (o:List Int) (s:Nat),0<s→s≤2*n+20→o.length=n→Bl key s o→(∀ x∈o,D x)→if s<n then ∃ o',body o s=some (.inl (o',((2*s:Nat):Int)))∧o'.Perm o∧Bl key (2*s) o' else body o s=some (.inr o)):
    ∀ (k:Nat) (o:List Int) (s:Nat),n-s=k→0<s→s≤2*n+20→o.length=n→Bl key s o→(∀ x∈o,D x)→ ∃ o',loop (t2 body) (o,(s:Int))=some o'∧o'.Perm o∧Srt key o':=by
  intro k
  induction k using Nat.strongRecOn with
  |_ k ih=>
    intro o s hk h0 h2 hn hB hD
    have e:=hb o s h0 h2 hn hB hD
    split at e
    · obtain⟨o',e1,e2,e3⟩:=e
      obtain⟨o'',f1,f2,f3⟩:=ih (n-2*s) (by omega) o' (2*s) rfl (by omega) (by omega) (by rw [e2.length_eq];exact hn) e3 (fun x hx=>hD x (e2.mem_iff.1 hx))
      exact⟨o'',Zex (by simp only [QG];exact e1) f1,f2.trans e2,f3⟩
    · exact⟨o,Zcr (by simp only [QG];exact e),.refl _,hB.one (by omega)⟩
theorem ZiY{key:Int→Int}: ∀ {l m:List Int},l.Perm m→Srt key l→Srt key m→l=m
  | [],m,h,_,_=>h.nil_eq
  |x::l,m,h,h1,h2=>by
    cases m with
    |nil=>exact absurd h.length_eq (by simp)
    |cons y m=>
      have a1:=List.pairwise_cons.1 h1
      have a2:=List.pairwise_cons.1 h2
      have e:x=y:=by
        have hx:=h.mem_iff.1 (List.mem_cons_self ..)
        have hy:=h.mem_iff.2 (List.mem_cons_self ..)
        rcases List.mem_cons.1 hx with q |q
        · exact q
        · rcases List.mem_cons.1 hy with q2 |q2
          · exact q2.symm
          · have c1:=a2.1 x q
            have c2:=a1.1 y q2
            unfold LtK at c1 c2;omega
      subst e
      rw [ZiY (List.Perm.cons_inv h) a1.2 a2.2]
end Go.Vx

namespace Go.Vx
open Go Go.RowKit
end Go.Vx

namespace Go.Vx
open Go Go.RowKit
theorem Zhx{α:Type}{s:Nat}{xs ys:List α}(h:xs.length+ys.length≤140737488355328/s):apz s xs ys=some (xs++ys):=by unfold apz;rw [if_pos h]
theorem Zqx{α:Type}[DecidableEq α]{a b:List α}{body:Int→Option (Int ⊕ (Bool ⊕ Unit))}(hl:a.length=b.length)
    (h: ∀ (k:Nat) x y,a[k]?=some x→b[k]?=some y→body k=if x=y then some (.inl ((k:Int)+1)) else some (.inr (.inl false)))
    (hend:body a.length=some (.inr (.inr ()))):loop (t1 body) 0=some (if a=b then .inr () else .inl false):=by
  refine(ZgL (xs:=a) (fun k=>if a.drop k=b.drop k then(.inr ():Bool ⊕ Unit) else .inl false) (fun k x hx=> ?_) ?_).trans (by simp)
  · have hk:=(List.getElem?_eq_some_iff.1 hx).1
    obtain⟨y,hy⟩:=ZF (xs:=b) (k:=k) (by omega)
    rw [h k x y hx hy,ZeD hx,ZeD hy]
    by_cases e:x=y
    · left;subst e;refine⟨by rw [if_pos rfl],?_⟩
      simp
    · right;rw [if_neg e,if_neg (by simp [e])]
  · rw [hend,if_pos (by rw [List.drop_length,hl,List.drop_length])]
theorem eqY{a b:List Int}(ha:a.length≤9223372036854775807):XC a b=some (decide (a=b)):=by
  unfold XC
  by_cases hl:a.length=b.length
  · rw [if_neg (by simp [hl]),Zqx (a:=a) (b:=b) hl (fun k x y hx hy=> ?_) (by simp [XH])]
    · by_cases e:a=b<;>simp [e]
    · have hlt:=Zrk hx
      simp only [XH,hlt,decide_true,if_true,Zw hx,Zw hy,Option.bind_some]
      rw [show i64 ((k:Int)+1)=(k:Int)+1 from ZL (by omega) (by omega)]
      by_cases e:x=y<;>simp [e]
  · rw [if_pos (by simpa using fun e=>hl (by omega))]
    rw [decide_eq_false (fun e=>hl (by rw [e]))]
end Go.Vx

namespace Go.Vx
open Go Go.RowKit
end Go.Vx

namespace Go.Vx
open Go Go.RowKit
theorem Zbt{α:Type}{s:List α}{k:Nat}(h:k<s.length)(d:α):s[k]?=some (s.getD k d):=by
  rw [List.getD_eq_getElem?_getD,List.getElem?_eq_getElem h];rfl
theorem Zsa(w:Nat)(X:BitVec w):BitVec.ofInt w (X.toNat:Int)=X:=by
  apply BitVec.eq_of_toNat_eq;simp [BitVec.toNat_ofInt]
theorem ZqW(X:BitVec 8):IntKind.u8.wrap (X.toNat:Int)=(X.toNat:Int):=by
  have h:=X.isLt
  have: ∀ n:Nat,n<256→IntKind.u8.wrap (n:Int)=(n:Int):=by
    intro n hn
    show((n:Int) % 256)=n
    omega
  exact this _ h
theorem ZsK(a b:Int):XF .u8 a b=((BitVec.ofInt 8 a&&&BitVec.ofInt 8 b).toNat:Int):=ZqW _
theorem Zo8(a b:Int):Zlv .u8 a b=((BitVec.ofInt 8 a&&& ~~~ BitVec.ofInt 8 b).toNat:Int):=ZqW _
theorem Zmi(a:Int):Zlv .u8 a a=0:=by
  rw [Zo8];simp
theorem Zmz{x y b:Int}(h:Zlv .u8 x y=0):Zlv .u8 (XF .u8 x b) y=0:=by
  rw [Zo8] at h ⊢
  rw [ZsK,Zsa]
  have h':(BitVec.ofInt 8 x&&& ~~~ BitVec.ofInt 8 y)=0#8:=by
    apply BitVec.eq_of_toNat_eq;simpa using h
  have:(BitVec.ofInt 8 x&&&BitVec.ofInt 8 b)&&& ~~~ BitVec.ofInt 8 y=(BitVec.ofInt 8 x&&& ~~~ BitVec.ofInt 8 y)&&&BitVec.ofInt 8 b:=by
    rw [BitVec.and_assoc,BitVec.and_comm (BitVec.ofInt 8 b),←BitVec.and_assoc]
  rw [this,h'];simp
def SubB(t s:List Int):Prop:= ∀ (k:Nat) x y,t[k]?=some x→s[k]?=some y→Zlv .u8 x y=0
theorem SubB.refl(s:List Int):SubB s s:=fun k x y hx hy=>by rw [hx] at hy;cases hy;exact Zmi x
theorem SubB.set{t s:List Int}(h:SubB t s)(a:Nat)(b:Int):SubB (t.set a (XF .u8 (t.getD a 0) b)) s:=by
  intro k x y hx hy
  rw [List.getElem?_set] at hx
  split at hx
  · rename_i e
    subst e
    split at hx
    · rename_i hl
      cases hx
      exact Zmz (h a _ y (Zbt hl 0) hy)
    · cases hx
  · exact h k x y hx hy
end Go.Vx

namespace Go.Vx
open Go Go.RowKit
section
variable {σ ρ:Type} {body:σ→Option (σ ⊕ ρ)} {s s':σ} {r:ρ}
theorem XY(h:body s=some (.inl s'))(k:loop body s'=some r):loop body s=some r:=by
  obtain⟨n,hn⟩:=ZcL k
  exact Ze1 (n:=n+1) (by simp only [Zbv,h,Option.bind_some];exact hn)
theorem ZeJ(h:body s=some (.inr r)):loop body s=some r:=Ze1 (n:=1) (by simp only [Zbv,h,Option.bind_some];rfl)
end
def u8R(l:List Int):Prop:= ∀ x∈l,0≤x∧x≤255
theorem ZrP{l:List Int}(h:u8R l){k:Nat}{x:Int}(hx:l[k]?=some x):0≤x∧x≤255:=h x (List.mem_of_getElem? hx)
theorem Zc4{l:List Int}(h:u8R l)(k:Nat):0≤l.getD k 0∧l.getD k 0≤255:=by
  by_cases hk:k<l.length
  · exact ZrP h (Zbt hk 0)
  · rw [List.getD_eq_getElem?_getD,List.getElem?_eq_none (by omega)];decide
theorem Zro{a b s:Nat}(hb:b<2^s)(h:a*2^s+b<2^62):bor .i64 ((a*2^s:Nat):Int) (b:Int)=((a*2^s+b:Nat):Int):=by
  unfold bor
  have e:(BitVec.ofInt IntKind.i64.bits ((a*2^s:Nat):Int) ||| BitVec.ofInt IntKind.i64.bits (b:Int)).toNat=a*2^s+b:=by
    have h1: ∀ n:Nat,BitVec.ofInt IntKind.i64.bits (n:Int)=BitVec.ofNat 64 n:=fun n=>BitVec.ofInt_natCast ..
    rw [h1,h1]
    show(BitVec.ofNat 64 (a*2^s) ||| BitVec.ofNat 64 b).toNat=_
    rw [BitVec.toNat_or,BitVec.toNat_ofNat,BitVec.toNat_ofNat,Nat.mod_eq_of_lt (by omega),Nat.mod_eq_of_lt (by omega),←Nat.shiftLeft_eq,←Nat.shiftLeft_add_eq_or_of_lt hb]
  rw [e]
  exact ZL (by omega) (by omega)
def Zmf(a b c d:Int):Int:=a*16777216+b*65536+c*256+d
theorem Zsr{n j:Nat}(h1:n≤255)(h2:j≤24):shl .i64 (n:Int) (j:Int)=some ((n*2^j:Nat):Int):=by
  unfold shl
  rw [if_neg (by omega)]
  have e1:min (Int.toNat (j:Int)) IntKind.i64.bits=j:=by
    show min (Int.toNat (j:Int)) 64=j
    simp;omega
  have e2:(2:Nat)^j≤2^24:=Nat.pow_le_pow_right (by omega) h2
  have e3:n*2^j≤255*2^24:=Nat.mul_le_mul h1 e2
  rw [e1]
  have e4:((n:Int)*2^j)=((n*2^j:Nat):Int):=by push_cast;rfl
  rw [e4,ZL (by omega) (by omega)]
theorem ZsN{m n:Nat}(h:m=n):(m:Int)=(n:Int):=congrArg _ h
theorem ZrK{a b c d:Int}(ha:0≤a∧a≤255)(hb:0≤b∧b≤255)(hc:0≤c∧c≤255)(hd:0≤d∧d≤255):
    ∃ q q2 q3,shl .i64 (i64 a) 24=some q∧shl .i64 (i64 b) 16=some q2∧shl .i64 (i64 c) 8=some q3∧bor .i64 (bor .i64 (bor .i64 q q2) q3) (i64 d)=Zmf a b c d:=by
  obtain⟨a,rfl⟩:=Int.eq_ofNat_of_zero_le ha.1
  obtain⟨b,rfl⟩:=Int.eq_ofNat_of_zero_le hb.1
  obtain⟨c,rfl⟩:=Int.eq_ofNat_of_zero_le hc.1
  obtain⟨d,rfl⟩:=Int.eq_ofNat_of_zero_le hd.1
  have e: ∀ n:Nat,n≤255→i64 (n:Int)=n:=fun n h=>ZL (by omega) (by omega)
  rw [e a (by omega),e b (by omega),e c (by omega),e d (by omega)]
  refine⟨_,_,_,Zsr (j:=24) (by omega) (by omega),Zsr (j:=16) (by omega) (by omega),Zsr (j:=8) (by omega) (by omega),?_⟩
  have b1:bor .i64 ((a*2^24:Nat):Int) ((b*2^16:Nat):Int)=(((a*2^8+b)*2^16:Nat):Int):=
    (Zro (s:=24) (by omega) (by omega)).trans (ZsN (by omega))
  have b2:bor .i64 (((a*2^8+b)*2^16:Nat):Int) ((c*2^8:Nat):Int)=((((a*2^8+b)*2^8+c)*2^8:Nat):Int):=
    (Zro (s:=16) (by omega) (by omega)).trans (ZsN (by omega))
  rw [b1,b2]
  refine(Zro (s:=8) (by omega) (by omega)).trans ?_
  unfold Zmf;omega
def hdL(n:Int):List Int:= [79,66,n/16777216 % 256,n/65536 % 256,n/256 % 256,n % 256,255-n/16777216 % 256,255-n/65536 % 256,255-n/256 % 256,255-n % 256]
theorem Zr6(n:Int):u8R (hdL n):=by
  intro x hx
  simp only [hdL,List.mem_cons,List.not_mem_nil,or_false] at hx
  rcases hx with h |h |h |h |h |h |h |h |h |h<;>omega
theorem ZqQ{k:IntKind}{n:Int}{j:Nat}(h:j≤k.bits):shr k n (j:Int)=some (n/(2:Int)^j):=by
  unfold shr
  rw [if_neg (by omega)]
  have e1:min (Int.toNat (j:Int)) k.bits=j:=by simp;omega
  rw [e1,Int.fdiv_eq_ediv_of_nonneg _ (Int.pow_nonneg (by decide))]
theorem u8m(z:Int):u8 z=z % 256:=rfl
theorem ZoM{n:Int}(h:1≤n∧n≤1073741824):Zc0 n=some (hdL n):=by
  have st: ∀ (o:List Int) (j:Nat),j≤24→o.length≤10→JA n o (j:Int)=some (.inl (o++ [n/(2:Int)^j % 256],(j:Int)-8)):=by
    intro o j hj ho
    unfold JA
    rw [if_pos (by simp),ZqQ (by show j≤64;omega),Option.bind_some,Zhx (by simp;omega),Option.bind_some,show i64 ((j:Int)-8)=(j:Int)-8 from ZL (by omega) (by omega),u8m]
  have h1:loop (t2 (JA n)) ([79,66],24)=some [79,66,n/16777216 % 256,n/65536 % 256,n/256 % 256,n % 256]:=by
    refine XY (st [79,66] 24 (by omega) (by simp)) ?_
    refine XY (st _ 16 (by omega) (by simp)) ?_
    refine XY (st _ 8 (by omega) (by simp)) ?_
    refine XY (st _ 0 (by omega) (by simp)) ?_
    refine ZeJ ?_
    show JA n _ (((0:Nat):Int)-8)=_
    unfold JA
    rw [if_neg (by decide)]
    simp
  have bx: ∀ x:Int,0≤x→x≤255→Zaq .u8 255 x=255-x:=by
    have key:(List.range 256).all (fun n=>decide (Zaq .u8 255 (n:Int)=255-(n:Int)))=true:=by decide+kernel
    intro x h0 h1
    obtain⟨m,rfl⟩:=Int.eq_ofNat_of_zero_le h0
    exact of_decide_eq_true (List.all_eq_true.1 key m (List.mem_range.2 (by omega)))
  unfold Zc0
  rw [h1]
  simp only [Option.bind_some,Z8]
  rw [show slp [79,66,n/16777216 % 256,n/65536 % 256,n/256 % 256,n % 256] 2 6=some () from rfl,Option.bind_some]
  have st2: ∀ (o:List Int) (j:Nat) (x:Int),j<4→o.length≤10→idx [79,66,n/16777216 % 256,n/65536 % 256,n/256 % 256,n % 256] (2+(j:Int))=some x→0≤x→x≤255→
      Jt [79,66,n/16777216 % 256,n/65536 % 256,n/256 % 256,n % 256] o (j:Int)=some (.inl (o++ [255-x],(j:Int)+1)):=by
    intro o j x hj ho hx h0 h1
    unfold Jt
    have e4:(decide ((j:Int)<((Int.toNat (6-2):Nat):Int)))=true:=by simp;omega
    have e5:(decide ((0:Int)≤(j:Int)))=true:=by simp
    rw [if_pos e4,e4,e5]
    simp only [Bool.and_self,ck,if_true,Option.bind_some,hx]
    rw [Zhx (by simp;omega),Option.bind_some,show i64 ((j:Int)+1)=(j:Int)+1 from ZL (by omega) (by omega),bx x h0 h1]
  have h2:loop (t2 (Jt [79,66,n/16777216 % 256,n/65536 % 256,n/256 % 256,n % 256])) ([79,66,n/16777216 % 256,n/65536 % 256,n/256 % 256,n % 256],0)=some (hdL n):=by
    refine XY (st2 _ 0 (n/16777216 % 256) (by omega) (by simp) rfl (by omega) (by omega)) ?_
    refine XY (st2 _ 1 (n/65536 % 256) (by omega) (by simp) rfl (by omega) (by omega)) ?_
    refine XY (st2 _ 2 (n/256 % 256) (by omega) (by simp) rfl (by omega) (by omega)) ?_
    refine XY (st2 _ 3 (n % 256) (by omega) (by simp) rfl (by omega) (by omega)) ?_
    refine ZeJ ?_
    show Jt _ _ (((3:Nat):Int)+1)=_
    unfold Jt
    rw [if_neg (by decide)]
    rfl
  rw [h2];rfl
theorem Zs9{n:Nat}(h:n<4294967296):Zaq .u32 4294967295 (n:Int)=4294967295-(n:Int):=by
  unfold Zaq
  have e:(BitVec.ofInt IntKind.u32.bits 4294967295^^^BitVec.ofInt IntKind.u32.bits (n:Int)).toNat=4294967295-n:=by
    have h1:BitVec.ofInt IntKind.u32.bits (n:Int)=BitVec.ofNat 32 n:=BitVec.ofInt_natCast ..
    have h2:BitVec.ofInt IntKind.u32.bits 4294967295=BitVec.allOnes 32:=by
      show BitVec.ofInt 32 4294967295=BitVec.allOnes 32
      decide
    rw [h1,h2]
    show(BitVec.allOnes 32^^^BitVec.ofNat 32 n).toNat=_
    rw [BitVec.allOnes_xor,BitVec.toNat_not,BitVec.toNat_ofNat,Nat.mod_eq_of_lt (by omega)]
    try omega
  rw [e]
  have w: ∀ z:Int,0≤z→z<4294967296→IntKind.u32.wrap z=z:=fun z h0 h1=>by
    show z % 4294967296=z
    omega
  rw [w _ (by omega) (by omega)];omega
theorem Zpz{n:Int}(h:1≤n∧n≤1073741824):ZfS n=some (hdL n):=by
  have eu:u32 n=n:=by
    show n % 4294967296=n
    omega
  have ex:Zaq .u32 4294967295 (u32 n)=4294967295-n:=by
    rw [eu]
    obtain⟨m,rfl⟩:=Int.eq_ofNat_of_zero_le (show 0≤n by omega)
    exact Zs9 (by omega)
  have st: ∀ (x:Int) (o:List Int) (j:Nat),j≤24→o.length≤10→J8 x o (j:Int)=some (.inl (o++ [x/(2:Int)^j % 256],(j:Int)-8)):=by
    intro x o j hj ho
    unfold J8
    rw [if_pos (by simp),ZqQ (by show j≤32;omega),Option.bind_some,Zhx (by simp;omega),Option.bind_some,show i64 ((j:Int)-8)=(j:Int)-8 from ZL (by omega) (by omega),u8m]
  have lp: ∀ (x:Int) (o:List Int),o.length≤6→loop (t2 (J8 x)) (o,24)=some (o++ [x/16777216 % 256,x/65536 % 256,x/256 % 256,x % 256]):=by
    intro x o ho
    refine XY (st x o 24 (by omega) (by omega)) ?_
    refine XY (st x _ 16 (by omega) (by simp;omega)) ?_
    refine XY (st x _ 8 (by omega) (by simp;omega)) ?_
    refine XY (st x _ 0 (by omega) (by simp;omega)) ?_
    refine ZeJ ?_
    show J8 x _ (((0:Nat):Int)-8)=_
    unfold J8
    rw [if_neg (by decide)]
    simp
  have st1: ∀ (o:List Int) (j:Nat) (x:Int),j<2→o.length≤6→idx [n,4294967295-n] (j:Int)=some x→J9 n o (j:Int)=some (.inl (o++ [x/16777216 % 256,x/65536 % 256,x/256 % 256,x % 256],(j:Int)+1)):=by
    intro o j x hj ho hx
    unfold J9
    rw [ex,eu,if_pos (by simp;omega),hx,Option.bind_some,lp x o ho]
    simp only [Option.bind_some,Z8]
    rw [show i64 ((j:Int)+1)=(j:Int)+1 from ZL (by omega) (by omega)]
  have h1:loop (t2 (J9 n)) ([79,66],0)=some (hdL n):=by
    refine XY (st1 _ 0 n (by omega) (by simp) rfl) ?_
    refine XY (st1 _ 1 (4294967295-n) (by omega) (by simp) rfl) ?_
    refine ZeJ ?_
    show J9 n _ (((1:Nat):Int)+1)=_
    unfold J9
    rw [ex,eu,if_neg (by simp)]
    unfold hdL
    congr 2
    simp only [List.append_assoc,List.cons_append,List.nil_append,List.cons.injEq,true_and,and_true]
    refine⟨?_,?_,?_,?_⟩<;>omega
  unfold ZfS
  rw [h1];rfl
theorem ZmO: ∀ {l m:List Int},u8R l→u8R m→(Ze6 l=Ze6 m↔l=m)
  | [],[],_,_=>by simp
  | [],y::m,_,_=>by simp [Ze6]
  |x::l,[],_,_=>by simp [Ze6]
  |x::l,y::m,h1,h2=>by
    have hx:=h1 x (List.mem_cons_self ..)
    have hy:=h2 y (List.mem_cons_self ..)
    have ih:=ZmO (l:=l) (m:=m) (fun z hz=>h1 z (List.mem_cons_of_mem _ hz)) (fun z hz=>h2 z (List.mem_cons_of_mem _ hz))
    unfold Ze6 at ih ⊢
    simp only [List.map_cons,List.cons.injEq,ih]
    have:UInt8.ofNat x.toNat=UInt8.ofNat y.toNat↔x=y:=by
      constructor
      · intro e
        have:=congrArg UInt8.toNat e
        simp at this
        omega
      · rintro rfl;rfl
    rw [this]
def Zbk(s:List Int):Int×Bool×Bool:=
  if s.length<16 then(0,false,false) else
  let n:=Zmf (s.getD 2 0) (s.getD 3 0) (s.getD 4 0) (s.getD 5 0)
  if 1≤n∧n≤1073741824∧s.take 10=hdL n then(n,!decide (s.getD 10 0=255),true) else(0,false,false)
theorem Ziw{α:Type}{n:Nat}{v:Vector α n}{k:Nat}{x:α}(h:v.toList[k]?=some x):ZA v (k:Int)=some x:=by
  unfold ZA;rw [if_pos (by omega)];simpa using h
theorem ZgD{α:Type}{xs:List α}{a b:Nat}(h1:a≤b)(h2:b≤xs.length):slc xs (a:Int) (b:Int)=some ((xs.take b).drop a):=by
  unfold slc;rw [if_pos ⟨by omega,by omega,by omega⟩];simp
theorem Zmj{α:Type}{m:Nat}{xs:List α}(h:m≤xs.length): ∃ v:Vector α m,tov m xs=some v∧v.toList=xs.take m:=by
  have:tov m xs=some ⟨(xs.take m).toArray,by simp;omega⟩:=by unfold tov;rw [dif_pos h]
  exact⟨_,this,by simp⟩
theorem ZmL{s:List Int}(hs:u8R s):ZcO s=some (Zbk s):=by
  unfold ZcO Zbk
  by_cases hl:s.length<16
  · rw [if_pos (by simp;omega),if_pos hl]
  · rw [if_neg (by simp;omega),if_neg hl]
    rw [show slc s 0 16=some (s.take 16) from(ZgD (a:=0) (b:=16) (by omega) (by omega)).trans (by simp),Option.bind_some]
    obtain⟨v,hv,hvl⟩:=Zmj (m:=16) (xs:=s.take 16) (by simp;omega)
    rw [List.take_take,Nat.min_self] at hvl
    rw [hv,Option.bind_some]
    have hg: ∀ (z:Int) (k:Nat),z=(k:Int)→k<16→ZA v z=some (s.getD k 0):=fun z k hz hk=>by
      subst hz
      exact Ziw (by rw [hvl,List.getElem?_take_of_lt hk];exact Zbt (by omega) 0)
    obtain⟨q,q2,q3,e1,e2,e3,e4⟩:=ZrK (Zc4 hs 2) (Zc4 hs 3) (Zc4 hs 4) (Zc4 hs 5)
    rw [hg 2 2 rfl (by omega),Option.bind_some,e1,Option.bind_some,hg 3 3 rfl (by omega),Option.bind_some,e2,Option.bind_some,hg 4 4 rfl (by omega),Option.bind_some,e3,Option.bind_some,hg 5 5 rfl (by omega),Option.bind_some,e4,hg 10 10 rfl (by omega)]
    generalize Zmf (s.getD 2 0) (s.getD 3 0) (s.getD 4 0) (s.getD 5 0)=n
    unfold Xb
    simp only [Option.bind_some]
    by_cases hn:1≤n∧n≤1073741824
    · have hy:(decide (1≤n)&&decide (n≤1073741824))=true:=by simpa using hn
      rw [hy]
      simp only [Bool.not_true,gd,beq_self_eq_true,if_true,Bool.false_or]
      rw [show slc v.toList 0 10=some (s.take 10) from(ZgD (a:=0) (b:=10) (by omega) (by simp)).trans (by rw [hvl];simp [List.take_take])]
      simp only [Option.bind_some,ZoM hn]
      have hlen:(s.take 10).length≤10:=by rw [List.length_take];omega
      rw [eqY (by omega),Option.bind_some]
      by_cases e:s.take 10=hdL n
      · rw [if_neg (by simp [e]),if_pos ⟨hn.1,hn.2,e⟩]
      · rw [if_pos (by simp [e]),if_neg (fun q=>e q.2.2)]
    · have hy:(decide (1≤n)&&decide (n≤1073741824))=false:=by simpa using hn
      rw [hy]
      simp only [gd,Bool.not_false,Bool.true_eq_false,beq_iff_eq,if_false,Option.bind_some]
      rw [if_pos (by simp),if_neg (fun q=>hn ⟨q.1,q.2.1⟩)]
theorem Zpt{s:List Int}(hs:u8R s):Zf1 s=some (Zbk s):=by
  unfold Zf1 Zbk
  by_cases hl:s.length<16
  · rw [if_pos (by simp;omega),if_pos hl]
  · rw [if_neg (by simp;omega),if_neg hl]
    have hg: ∀ k:Nat,k<16→idx s (k:Int)=some (s.getD k 0):=fun k hk=>Zw (Zbt (by omega) 0)
    have st: ∀ (q:Int) (k:Nat),0≤q→q≤4294967295→k<6→Zbb s q (k:Int)=some (.inl (q*256+s.getD k 0,(k:Int)+1)):=by
      intro q k h0 h1 hk
      have hb:=Zc4 hs k
      unfold Zbb
      rw [if_pos (by simp;omega),hg k (by omega),Option.bind_some,show i64 (s.getD k 0)=s.getD k 0 from ZL (by omega) (by omega),show i64 (q*256)=q*256 from ZL (by omega) (by omega),
        show i64 (q*256+s.getD k 0)=q*256+s.getD k 0 from ZL (by omega) (by omega),show i64 ((k:Int)+1)=(k:Int)+1 from ZL (by omega) (by omega)]
    have b2:=Zc4 hs 2
    have b3:=Zc4 hs 3
    have b4:=Zc4 hs 4
    have b5:=Zc4 hs 5
    have lp:loop (t2 (Zbb s)) (0,2)=some (Zmf (s.getD 2 0) (s.getD 3 0) (s.getD 4 0) (s.getD 5 0)):=by
      refine XY (st 0 2 (by omega) (by omega) (by omega)) ?_
      refine XY (st _ 3 (by omega) (by omega) (by omega)) ?_
      refine XY (st _ 4 (by omega) (by omega) (by omega)) ?_
      refine XY (st _ 5 (by omega) (by omega) (by omega)) ?_
      refine ZeJ ?_
      show Zbb s _ (((5:Nat):Int)+1)=_
      unfold Zbb
      rw [if_neg (by decide)]
      congr 2
      unfold Zmf;omega
    rw [lp]
    simp only [Option.bind_some,Z8]
    generalize Zmf (s.getD 2 0) (s.getD 3 0) (s.getD 4 0) (s.getD 5 0)=n
    unfold JQ
    simp only [Option.bind_some]
    rw [show idx s 10=some (s.getD 10 0) from hg 10 (by omega)]
    by_cases hn:1≤n∧n≤1073741824
    · have hy:(decide (n<1) || decide (1073741824<n))=false:=by simp;omega
      rw [hy]
      simp only [gd,beq_self_eq_true,if_true,Bool.false_or,Zpz hn]
      rw [show slc s 0 10=some (s.take 10) from(ZgD (a:=0) (b:=10) (by omega) (by omega)).trans (by simp)]
      simp only [Option.bind_some]
      have hiff:=ZmO (l:=hdL n) (m:=s.take 10) (Zr6 n) (fun x hx=>hs x (List.mem_of_mem_take hx))
      by_cases e:s.take 10=hdL n
      · rw [if_neg (by simp [e]),if_pos ⟨hn.1,hn.2,e⟩]
      · rw [if_pos (by simp;intro q;exact e (hiff.1 q).symm),if_neg (fun q=>e q.2.2)]
    · have hy:(decide (n<1) || decide (1073741824<n))=true:=by simp;omega
      rw [hy]
      simp only [gd,Bool.true_eq_false,beq_iff_eq,if_false,Option.bind_some]
      rw [if_pos (by simp),if_neg (fun q=>hn ⟨q.1,q.2.1⟩)]
end Go.Vx

namespace Go.Vx
open Go Go.RowKit
section
variable {key:Int→Int} {D:Int→Prop} {cmp:Int→Int→Option Int}
theorem Zlq{L A M B R:List Int}(h:A.length=B.length)(hb:(L++A++M++B++R).length≤4611686018427387904):
    ZZ (L++A++M++B++R) (L.length:Int) ((L.length+A.length+M.length:Nat):Int) (A.length:Int) cmp=some (L++B++M++A++R):=by
  unfold ZZ
  have hb':L.length+A.length+M.length+B.length+R.length≤4611686018427387904:=by simpa [Nat.add_assoc] using hb
  refine ZsX (a:=L.length) (b:=L.length+A.length+M.length) (n:=A.length) (fun L' M' R' x y i hi h1 h2=> ?_) (fun d=> ?_) A B L M R 0 h (by omega) (by omega) (by omega)
  · unfold Qi
    have e1:i64 ((L.length:Int)+(i:Int))=((L'.length:Nat):Int):=(ZL (by omega) (by omega)).trans (by omega)
    have e2:i64 (((L.length+A.length+M.length:Nat):Int)+(i:Int))=((L'.length+1+M'.length:Nat):Int):=(ZL (by omega) (by omega)).trans (by omega)
    have g1:(L'++x::M'++y::R')[L'.length]?=some x:=by simp
    have g2:(L'++x::M'++y::R')[L'.length+1+M'.length]?=some y:=by
      rw [List.getElem?_append_right (by simp;omega)];simp;rw [show L'.length+1+M'.length-(L'.length+(M'.length+1))=0 by omega];rfl
    have g3:((L'++x::M'++y::R').set L'.length y)[L'.length+1+M'.length]?=some y:=by
      rw [List.getElem?_set_ne (by omega)];exact g2
    rw [if_pos (by simpa using hi),e1,e2,Zw g2,Option.bind_some,Zw g1,Option.bind_some,Option.bind_some]
    simp only [Int.toNat_natCast]
    rw [Zw g3,Option.bind_some,ZiC,show i64 ((i:Int)+1)=(i:Int)+1 from ZL (by omega) (by omega)]
  · unfold Qi
    rw [if_neg (by simp)]
theorem Zoi{L X Y R:List Int}(hX:X≠ [])(hY:Y≠ [])(hb:(L++X++Y++R).length≤4611686018427387904):
    Qq (L++X++Y++R) (L.length:Int) ((L.length+X.length:Nat):Int) ((L.length+X.length+Y.length:Nat):Int) cmp=some (L++Y++X++R):=by
  have hb':L.length+X.length+Y.length+R.length≤4611686018427387904:=by simpa [Nat.add_assoc] using hb
  unfold Qq
  obtain⟨o',i',h1,h2,h3⟩:=ZtD (body:=Qo ((L.length+X.length:Nat):Int) cmp) (sr:=fun d a b n=>ZZ d a b n cmp)
    (m:=L.length+X.length) (N:=L.length+X.length+Y.length+R.length) (fun L A M B R h hN=>Zlq h (by simp only [List.length_append];omega)) (fun o i j hi hj=>by
      unfold Qo
      have e1:i64 (((L.length+X.length:Nat):Int)-(i:Int))=((L.length+X.length-i:Nat):Int):=(ZL (by omega) (by omega)).trans (by omega)
      have e2:i64 (((L.length+X.length:Nat):Int)+(j:Int))=((L.length+X.length+j:Nat):Int):=(ZL (by omega) (by omega)).trans (by omega)
      have e3:i64 (((L.length+X.length+j:Nat):Int)-(i:Int))=((L.length+X.length+j-i:Nat):Int):=(ZL (by omega) (by omega)).trans (by omega)
      rw [e1,e2,e3]
      by_cases h:i=j
      · rw [if_neg (by simp [h]),if_pos h]
      · rw [if_pos (by simp;omega),if_neg h]
        by_cases h':j<i
        · rw [if_pos (by simpa using h'),if_pos h',show i64 ((i:Int)-(j:Int))=((i-j:Nat):Int) from(ZL (by omega) (by omega)).trans (by omega)]
        · rw [if_neg (by simpa using h'),if_neg h',show i64 ((j:Int)-(i:Int))=((j-i:Nat):Int) from(ZL (by omega) (by omega)).trans (by omega)]) _ X Y L R rfl hX hY rfl rfl
  have f1:i64 (((L.length+X.length:Nat):Int)-(L.length:Int))=(X.length:Int):=(ZL (by omega) (by omega)).trans (by omega)
  have f2:i64 (((L.length+X.length+Y.length:Nat):Int)-((L.length+X.length:Nat):Int))=(Y.length:Int):=(ZL (by omega) (by omega)).trans (by omega)
  have f3:i64 (((L.length+X.length:Nat):Int)-(i':Int))=((L.length+X.length-i':Nat):Int):=(ZL (by omega) (by omega)).trans (by omega)
  rw [f1,f2,h1]
  simp only [Option.bind_some,QG]
  rw [f3,h3];rfl
theorem ZkR{n:Nat}(h:n≤4611686018427387904):shr .u64 (u64 (i64 (n:Int))) 1=some ((n/2:Nat):Int):=by
  rw [show i64 (n:Int)=(n:Int) from ZL (by omega) (by omega),show u64 (n:Int)=(n:Int) from Zpo (by omega) (by omega)]
  rw [show(1:Int)=((1:Nat):Int) from rfl,ZqQ (by decide)]
  congr 1
end
end Go.Vx
