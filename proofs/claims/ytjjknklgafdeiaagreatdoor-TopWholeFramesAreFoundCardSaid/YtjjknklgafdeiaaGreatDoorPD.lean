/- A text of the proof: a verified executor of the program form, or the contracts of the functions that the law reaches. -/
import Derived.Test.YtjjknklgafdeiaaGreatDoorPC
import Derived.Test.YtjjknklgafdeiaaGreatDoorPA
set_option linter.all false
namespace Go.Vx
open Go Go.RowKit
section
variable {key:Int→Int} {D:Int→Prop} {cmp:Int→Int→Option Int}
theorem Zkv{L X R:List Int}{c:Nat}(h1:L.length≤c)(h2:c<L.length+X.length):(L++X++R)[c]?=some (X.getD (c-L.length) 0):=by
  obtain⟨t,rfl⟩: ∃ t,c=L.length+t:=⟨c-L.length,by omega⟩
  rw [ZrD (by omega),show L.length+t-L.length=t by omega]
  exact Zbt (by omega) 0
theorem ZdR{X:List Int}{t:Nat}(h:t<X.length):X.getD t 0∈X:=by
  rw [List.getD_eq_getElem?_getD,List.getElem?_eq_getElem h];exact List.getElem_mem h
theorem Zqm(hc: ∀ x y,D x→D y→ ∃ c,cmp x y=some c∧(c<0↔key x<key y)){L Y R:List Int}{x:Int}(hN:L.length+1+Y.length+R.length≤1000000)(hY:Srt key Y)(hlt: ∀ y∈Y,x<y)(hD: ∀ z∈x::Y,D z):
    ∃ Z,((loop (t2 (Qx (L++ [x]++Y++R) (L.length:Int) cmp)) (((L.length+1:Nat):Int),((L.length+1+Y.length:Nat):Int))):Option Int).bind (t1 fun(i:Int)=>
      (loop (t2 (Z0 i)) (L++ [x]++Y++R,(L.length:Int))).bind (t1 fun(o:List Int)=>some o))=some (L++Z++R)∧Z.Perm (x::Y)∧Srt key Z:=by
  obtain⟨s,h1,h2,h3,h4,h5⟩:=ZkF (body:=Qx (L++ [x]++Y++R) (L.length:Int) cmp) (fun c=>decide (key (Y.getD (c-(L.length+1)) 0)<key x)) (lo:=L.length+1) (hi:=L.length+1+Y.length) (by omega) (fun i j a1 a2 a3=>by
      have e1:i64 ((i:Int)+(j:Int))=i64 ((i+j:Nat):Int):=by push_cast;rfl
      have e2:i64 (((i+j)/2:Nat):Int)=(((i+j)/2:Nat):Int):=ZL (by omega) (by omega)
      have e3:i64 ((((i+j)/2:Nat):Int)+1)=(((i+j)/2+1:Nat):Int):=(ZL (by omega) (by omega)).trans (by omega)
      have g1:(L++ [x]++Y++R)[(i+j)/2]?=some (Y.getD ((i+j)/2-(L.length+1)) 0):=by
        have:=Zkv (L:=L++ [x]) (X:=Y) (R:=R) (c:=(i+j)/2) (by simp;omega) (by simp;omega)
        simpa using this
      have g2:(L++ [x]++Y++R)[L.length]?=some x:=by simp
      unfold Qx
      rw [if_pos (by simpa using a2),e1,ZkR (by omega),Option.bind_some,e2,Zw g1,Option.bind_some,Zw g2,Option.bind_some]
      obtain⟨c,c1,c2⟩:=hc (Y.getD ((i+j)/2-(L.length+1)) 0) x (hD _ (List.mem_cons_of_mem _ (ZdR (by omega)))) (hD _ (List.mem_cons_self ..))
      rw [c1,Option.bind_some,e3]
      by_cases q:key (Y.getD ((i+j)/2-(L.length+1)) 0)<key x
      · rw [if_pos (by simpa using c2.2 q),if_pos (by simpa using q)]
      · rw [if_neg (by simpa using fun w=>q (c2.1 w)),if_neg (by simpa using q)]) (fun i a1 a2=>by
      unfold Qx
      rw [if_neg (by simp)])
  rw [h3,Option.bind_some,Z8]
  have sU:=ZsM (body:=Z0 (s:Int)) (e:=s-1) (fun L' R' p q hl=>by
      unfold Z0
      have e1:i64 ((s:Int)-1)=((s-1:Nat):Int):=(ZL (by omega) (by omega)).trans (by omega)
      have e2:i64 ((L'.length:Int)+1)=((L'.length+1:Nat):Int):=(ZL (by omega) (by omega)).trans (by omega)
      have g1:(L'++p::q::R')[L'.length+1]?=some q:=by
        rw [List.getElem?_append_right (by omega)];simp
      have g2:(L'++p::q::R')[L'.length]?=some p:=by simp
      have g3:((L'++p::q::R').set L'.length q)[L'.length+1]?=some q:=by rw [List.getElem?_set_ne (by omega)];exact g1
      rw [e1,e2,if_pos (by simpa using hl),Zw g1,Option.bind_some,Zw g2,Option.bind_some,Option.bind_some]
      simp only [Int.toNat_natCast]
      rw [Zw g3,Option.bind_some]
      have:=ZiC (L:=L') (M:= []) (R:=R') (x:=p) (y:=q)
      simp only [List.length_nil,Nat.add_zero,List.append_nil] at this
      rw [show L'++p::q::R'=L'++ [p]++q::R' by simp,this]
      simp) (fun d=>by
      unfold Z0
      have e1:i64 ((s:Int)-1)=((s-1:Nat):Int):=(ZL (by omega) (by omega)).trans (by omega)
      rw [e1,if_neg (by simp)]) (Y.take (s-(L.length+1))) L (Y.drop (s-(L.length+1))++R) x (by rw [List.length_take];omega)
  have ed:L++ [x]++Y++R=L++x::(Y.take (s-(L.length+1))++(Y.drop (s-(L.length+1))++R)):=by
    rw [←List.append_assoc (Y.take _),List.take_append_drop];simp
  rw [ed,sU]
  refine⟨Y.take (s-(L.length+1))++x::Y.drop (s-(L.length+1)),by simp,?_,?_⟩
  · refine List.perm_middle.trans ?_
    rw [List.take_append_drop]
  · have hA:Srt key (Y.take (s-(L.length+1))):=hY.sublist (List.take_sublist ..)
    have hB:Srt key (Y.drop (s-(L.length+1))):=hY.sublist (List.drop_sublist ..)
    have hAx: ∀ a∈Y.take (s-(L.length+1)),LtK key a x:=by
      have:=Zfw (key:=key) (m:= [x]) hA (List.pairwise_singleton ..) (fun a b ha hb=>by
        cases hb
        rw [List.getLast?_eq_getElem?,List.length_take] at ha
        have l2:=(List.getElem?_eq_some_iff.1 ha).1
        rw [List.length_take] at l2
        rw [List.getElem?_take_of_lt (by omega)] at ha
        have q:=h4 (by omega)
        rw [show s-1-(L.length+1)=min (s-(L.length+1)) Y.length-1 by omega,List.getD_eq_getElem?_getD,ha] at q
        exact .inl (by simpa using q))
      exact fun a ha=>this a ha x (List.mem_singleton.2 rfl)
    have hxB: ∀ b∈Y.drop (s-(L.length+1)),LtK key x b:=by
      have:=Zfw (key:=key) (l:= [x]) (List.pairwise_singleton ..) hB (fun a b ha hb=>by
        simp only [List.getLast?_singleton,Option.some.injEq] at ha
        subst ha
        rw [List.head?_drop] at hb
        have l1:=(List.getElem?_eq_some_iff.1 hb).1
        have q:=h5 (by omega)
        rw [List.getD_eq_getElem?_getD,hb] at q
        simp only [Option.getD_some,decide_eq_false_iff_not] at q
        have:x<b:=hlt b (List.mem_of_getElem? hb)
        unfold LtK;omega)
      exact fun b hb=>this x (List.mem_singleton.2 rfl) b hb
    refine hA.app (List.pairwise_cons.2 ⟨hxB,hB⟩) fun a ha b hb=> ?_
    rcases List.mem_cons.1 hb with rfl |hb
    · exact hAx a ha
    · exact(hAx a ha).trans (hxB b hb)
theorem ZpU(hc: ∀ x y,D x→D y→ ∃ c,cmp x y=some c∧(c<0↔key x<key y)){L X R:List Int}{y:Int}(hN:L.length+X.length+1+R.length≤1000000)(hX:Srt key X)(hlt: ∀ x∈X,x<y)(hD: ∀ z∈y::X,D z):
    ∃ Z,((loop (t2 (Qv (L++X++ [y]++R) ((L.length+X.length:Nat):Int) cmp)) ((L.length:Int),((L.length+X.length:Nat):Int))):Option Int).bind (t1 fun(i:Int)=>
      (loop (t2 (Z3 i)) (L++X++ [y]++R,((L.length+X.length:Nat):Int))).bind (t1 fun(o:List Int)=>some o))=some (L++Z++R)∧Z.Perm (X++ [y])∧Srt key Z:=by
  obtain⟨s,h1,h2,h3,h4,h5⟩:=ZkF (body:=Qv (L++X++ [y]++R) ((L.length+X.length:Nat):Int) cmp) (fun c=> !decide (key y<key (X.getD (c-L.length) 0))) (lo:=L.length) (hi:=L.length+X.length) (by omega) (fun i j a1 a2 a3=>by
      have e1:i64 ((i:Int)+(j:Int))=i64 ((i+j:Nat):Int):=by push_cast;rfl
      have e2:i64 (((i+j)/2:Nat):Int)=(((i+j)/2:Nat):Int):=ZL (by omega) (by omega)
      have e3:i64 ((((i+j)/2:Nat):Int)+1)=(((i+j)/2+1:Nat):Int):=(ZL (by omega) (by omega)).trans (by omega)
      have g1:(L++X++ [y]++R)[(i+j)/2]?=some (X.getD ((i+j)/2-L.length) 0):=by
        have:=Zkv (L:=L) (X:=X) (R:= [y]++R) (c:=(i+j)/2) (by omega) (by omega)
        simpa using this
      have g2:(L++X++ [y]++R)[L.length+X.length]?=some y:=by
        rw [List.append_assoc,List.getElem?_append_right (by simp)];simp
      unfold Qv
      rw [if_pos (by simpa using a2),e1,ZkR (by omega),Option.bind_some,e2,Zw g2,Option.bind_some,Zw g1,Option.bind_some]
      obtain⟨c,c1,c2⟩:=hc y (X.getD ((i+j)/2-L.length) 0) (hD _ (List.mem_cons_self ..)) (hD _ (List.mem_cons_of_mem _ (ZdR (by omega))))
      rw [c1,Option.bind_some,e3]
      by_cases q:key y<key (X.getD ((i+j)/2-L.length) 0)
      · rw [if_neg (by simpa using c2.2 q),if_neg (by simpa using q)]
      · rw [if_pos (by simpa using fun w=>q (c2.1 w)),if_pos (by simpa using q)]) (fun i a1 a2=>by
      unfold Qv
      rw [if_neg (by simp)])
  rw [h3,Option.bind_some,Z8]
  have hdl:(X.drop (s-L.length)).length=L.length+X.length-s:=by rw [List.length_drop];omega
  have htl:(X.take (s-L.length)).length=s-L.length:=by rw [List.length_take];omega
  have sD:=ZsL (body:=Z3 (s:Int)) (e:=s) (N:=1000000) (fun L' R' p q hl hl2=>by
      unfold Z3
      have e1:i64 ((L'.length:Int)+1-1)=((L'.length:Nat):Int):=(ZL (by omega) (by omega)).trans (by omega)
      have e2:(L'.length:Int)+1=((L'.length+1:Nat):Int):=by omega
      have g1:(L'++p::q::R')[L'.length+1]?=some q:=by
        rw [List.getElem?_append_right (by omega)];simp
      have g2:(L'++p::q::R')[L'.length]?=some p:=by simp
      have g3:((L'++p::q::R').set (L'.length+1) p)[L'.length]?=some p:=by rw [List.getElem?_set_ne (by omega)];exact g2
      rw [e1,e2,if_pos (by simp;omega),Zw g2,Option.bind_some,Zw g1,Option.bind_some,Option.bind_some]
      simp only [Int.toNat_natCast]
      rw [Zw g3,Option.bind_some]
      have:=ZiC (L:=L') (M:= []) (R:=R') (x:=p) (y:=q)
      simp only [List.length_nil,Nat.add_zero,List.append_nil] at this
      rw [show L'++p::q::R'=L'++ [p]++q::R' by simp,List.set_comm _ _ (by omega),this]
      simp) (fun d=>by
      unfold Z3
      rw [if_neg (by simp)]) _ (X.drop (s-L.length)) (L++X.take (s-L.length)) R y rfl (by rw [List.length_append];omega) (by rw [List.length_append];omega)
  have ed:L++X++ [y]++R=L++X.take (s-L.length)++X.drop (s-L.length)++y::R:=by
    rw [List.append_assoc L (X.take _),List.take_append_drop];simp
  have el:((L.length+X.length:Nat):Int)=((L++X.take (s-L.length)).length:Int)+((X.drop (s-L.length)).length:Int):=by
    rw [List.length_append];omega
  rw [ed,el,sD]
  refine⟨X.take (s-L.length)++y::X.drop (s-L.length),by simp,?_,?_⟩
  · refine List.perm_middle.trans ?_
    rw [List.take_append_drop]
    exact(List.perm_append_comm (l₁:=X) (l₂:= [y])).symm
  · have hA:Srt key (X.take (s-L.length)):=hX.sublist (List.take_sublist ..)
    have hB:Srt key (X.drop (s-L.length)):=hX.sublist (List.drop_sublist ..)
    have hAy: ∀ a∈X.take (s-L.length),LtK key a y:=by
      have:=Zfw (key:=key) (m:= [y]) hA (List.pairwise_singleton ..) (fun a b ha hb=>by
        cases hb
        rw [List.getLast?_eq_getElem?,htl] at ha
        have l2:=(List.getElem?_eq_some_iff.1 ha).1
        rw [htl] at l2
        rw [List.getElem?_take_of_lt (by omega)] at ha
        have q:=h4 (by omega)
        rw [show s-1-L.length=s-L.length-1 by omega,List.getD_eq_getElem?_getD,ha] at q
        simp only [Option.getD_some,Bool.not_eq_true',decide_eq_false_iff_not] at q
        have:a<y:=hlt a (List.mem_of_getElem? ha)
        unfold LtK;omega)
      exact fun a ha=>this a ha y (List.mem_singleton.2 rfl)
    have hyB: ∀ b∈X.drop (s-L.length),LtK key y b:=by
      have:=Zfw (key:=key) (l:= [y]) (List.pairwise_singleton ..) hB (fun a b ha hb=>by
        simp only [List.getLast?_singleton,Option.some.injEq] at ha
        subst ha
        rw [List.head?_drop] at hb
        have l1:=(List.getElem?_eq_some_iff.1 hb).1
        have q:=h5 (by omega)
        rw [List.getD_eq_getElem?_getD,hb] at q
        exact .inl (by simpa using q))
      exact fun b hb=>this y (List.mem_singleton.2 rfl) b hb
    refine hA.app (List.pairwise_cons.2 ⟨hyB,hB⟩) fun a ha b hb=> ?_
    rcases List.mem_cons.1 hb with rfl |hb
    · exact hAy a ha
    · exact(hAy a ha).trans (hyB b hb)
end
end Go.Vx

namespace Go.Vx
open Go Go.RowKit
set_option maxHeartbeats 1000000
section
variable {key:Int→Int} {D:Int→Prop} {cmp:Int→Int→Option Int}
theorem ZsJ(hc: ∀ x y,D x→D y→ ∃ c,cmp x y=some c∧(c<0↔key x<key y)):
    ∀ (n:Nat) (L X Y R:List Int),X≠ []→Y≠ []→X.length+Y.length≤n→L.length+X.length+Y.length+R.length≤1000000→Srt key X→Srt key Y→(∀ x∈X,∀ y∈Y,x<y)→(∀ x∈X++Y,D x)→
      ∃ Z,Z6 n (L++X++Y++R) (L.length:Int) ((L.length+X.length:Nat):Int) ((L.length+X.length+Y.length:Nat):Int) cmp=some (L++Z++R)∧Z.Perm (X++Y)∧Srt key Z:=by
  intro n
  induction n with
  |zero=>
    intro L X Y R hX hY hn
    have:=List.length_pos_iff.2 hX
    omega
  |succ n ih=>
    intro L X Y R hX hY hn hN sX sY hlt hD
    have pX:=List.length_pos_iff.2 hX
    have pY:=List.length_pos_iff.2 hY
    show ∃ Z,Qm (Z6 n) _ _ _ _ _=_∧_
    unfold Qm
    have e1:i64 (((L.length+X.length:Nat):Int)-(L.length:Int))=(X.length:Int):=(ZL (by omega) (by omega)).trans (by omega)
    have e2:i64 (((L.length+X.length+Y.length:Nat):Int)-((L.length+X.length:Nat):Int))=(Y.length:Int):=(ZL (by omega) (by omega)).trans (by omega)
    rw [e1,e2]
    by_cases c1:X.length=1
    · rw [if_pos (by simp;omega)]
      obtain⟨x,rfl⟩:=List.length_eq_one_iff.1 c1
      have:=Zqm (key:=key) (D:=D) hc (L:=L) (Y:=Y) (R:=R) (x:=x) (by simp at hN;omega) sY (fun y hy=>hlt x (by simp) y hy) (fun z hz=>hD z (by simpa using hz))
      simpa using this
    · rw [if_neg (by simpa using fun q=>c1 (by omega))]
      by_cases c2:Y.length=1
      · rw [if_pos (by simp;omega)]
        obtain⟨y,rfl⟩:=List.length_eq_one_iff.1 c2
        have:=ZpU (key:=key) (D:=D) hc (L:=L) (X:=X) (R:=R) (y:=y) (by simp at hN;omega) sX (fun x hx=>hlt x hx y (by simp)) (fun z hz=>hD z (by
          rcases List.mem_cons.1 hz with rfl |q<;>simp_all))
        exact this
      · rw [if_neg (by simpa using fun q=>c2 (by omega))]
        generalize ha:L.length=a at*
        generalize hm:a+X.length=m at*
        generalize hb:m+Y.length=b at*
        obtain⟨mid,hmid⟩: ∃ mid,mid=(a+b)/2:=⟨_,rfl⟩
        rw [show i64 ((a:Int)+(b:Int))=i64 ((a+b:Nat):Int) by push_cast;rfl,ZkR (by omega),Option.bind_some,←hmid]
        have f1:i64 (mid:Int)=(mid:Int):=ZL (by omega) (by omega)
        have f2:i64 ((mid:Int)+(m:Int))=((mid+m:Nat):Int):=(ZL (by omega) (by omega)).trans (by omega)
        rw [f1,f2]
        obtain⟨lo,hlo⟩: ∃ lo,lo=if mid<m then mid+m-b else a:=⟨_,rfl⟩
        obtain⟨hi,hhi⟩: ∃ hi,hi=if mid<m then mid else m:=⟨_,rfl⟩
        have f3:(if decide ((mid:Int)<(m:Int))=true then some (i64 (((mid+m:Nat):Int)-(b:Int)),(mid:Int)) else some ((a:Int),(m:Int)))=some ((lo:Int),(hi:Int)):=by
          by_cases q:mid<m
          · rw [if_pos (by simpa using q),show i64 (((mid+m:Nat):Int)-(b:Int))=((mid+m-b:Nat):Int) from(ZL (by omega) (by omega)).trans (by omega),hlo,hhi,if_pos q,if_pos q]
          · rw [if_neg (by simpa using q),hlo,hhi,if_neg q,if_neg q]
        rw [f3]
        simp only [Option.bind_some,QG]
        have blo:a≤lo∧lo≤hi∧hi≤m∧hi≤mid∧mid+m-b≤lo:=by
          split at hlo<;>split at hhi<;>omega
        obtain⟨s,h1,h2,h3,h4,h5⟩:=ZkF (body:=QM (L++X++Y++R) (m:Int) cmp (mid:Int)) (fun c=> !decide (key (Y.getD (mid-1-c) 0)<key (X.getD (c-a) 0))) (lo:=lo) (hi:=hi) (by omega) (fun i j a1 a2 a3=>by
          have g1:i64 ((i:Int)+(j:Int))=i64 ((i+j:Nat):Int):=by push_cast;rfl
          have g2:i64 (((i+j)/2:Nat):Int)=(((i+j)/2:Nat):Int):=ZL (by omega) (by omega)
          have g3:i64 ((((i+j)/2:Nat):Int)+1)=(((i+j)/2+1:Nat):Int):=(ZL (by omega) (by omega)).trans (by omega)
          have g4:i64 (i64 (((mid+m:Nat):Int)-1)-(((i+j)/2:Nat):Int))=((m+(mid-1-(i+j)/2):Nat):Int):=by
            rw [show i64 (((mid+m:Nat):Int)-1)=((mid+m-1:Nat):Int) from(ZL (by omega) (by omega)).trans (by omega)]
            exact(ZL (by omega) (by omega)).trans (by omega)
          have k1:(L++X++Y++R)[m+(mid-1-(i+j)/2)]?=some (Y.getD (mid-1-(i+j)/2) 0):=by
            have:=Zkv (L:=L++X) (X:=Y) (R:=R) (c:=m+(mid-1-(i+j)/2)) (by simp;omega) (by simp;omega)
            rw [this];congr 2;simp;omega
          have k2:(L++X++Y++R)[(i+j)/2]?=some (X.getD ((i+j)/2-a) 0):=by
            have:=Zkv (L:=L) (X:=X) (R:=Y++R) (c:=(i+j)/2) (by omega) (by omega)
            rw [←ha,←this];simp
          unfold QM
          rw [if_pos (by simpa using a2),g1,ZkR (by omega),Option.bind_some,g2,f1,f2,g4,Zw k1,Option.bind_some,Zw k2,Option.bind_some]
          obtain⟨c,d1,d2⟩:=hc (Y.getD (mid-1-(i+j)/2) 0) (X.getD ((i+j)/2-a) 0) (hD _ (List.mem_append_right _ (ZdR (by omega)))) (hD _ (List.mem_append_left _ (ZdR (by omega))))
          rw [d1,Option.bind_some,g3]
          by_cases q:key (Y.getD (mid-1-(i+j)/2) 0)<key (X.getD ((i+j)/2-a) 0)
          · rw [if_neg (by simpa using d2.2 q),if_neg (by simpa using q)]
          · rw [if_pos (by simpa using fun w=>q (d2.1 w)),if_pos (by simpa using q)]) (fun i a1 a2=>by
          unfold QM
          rw [if_neg (by simp)])
        rw [h3]
        simp only [Option.bind_some,Z8]
        have cut:=Zru (key:=key) (X:=X) (Y:=Y) (a:=a) (m:=m) (b:=b) (s:=s) hm hb sX sY mid hmid lo hi hlo hhi h1 h2 (fun hl x y hx hy=>by
          have q:=h4 hl
          rw [show mid-1-(s-1)=mid-s by omega,List.getD_eq_getElem?_getD,List.getD_eq_getElem?_getD,hx,hy] at q
          simp only [Option.getD_some,Bool.not_eq_true',decide_eq_false_iff_not] at q
          have:=hlt x (List.mem_of_getElem? hx) y (List.mem_of_getElem? hy)
          unfold LtK;omega) (fun hl x y hx hy=>by
          have q:=h5 hl
          rw [show mid-1-s=mid-s-1 by omega,List.getD_eq_getElem?_getD,List.getD_eq_getElem?_getD,hx,hy] at q
          simp only [Option.getD_some,Bool.not_eq_false',decide_eq_true_eq] at q
          exact .inl q)
        have le1:(X.take (s-a)).length=s-a:=by rw [List.length_take];omega
        have le2:(X.drop (s-a)).length=m-s:=by rw [List.length_drop];omega
        have le3:(Y.take (mid-s)).length=mid-s:=by rw [List.length_take];omega
        have le4:(Y.drop (mid-s)).length=b-(mid+m-s):=by rw [List.length_drop];omega
        have sX1:Srt key (X.take (s-a)):=sX.sublist (List.take_sublist ..)
        have sX2:Srt key (X.drop (s-a)):=sX.sublist (List.drop_sublist ..)
        have sY1:Srt key (Y.take (mid-s)):=sY.sublist (List.take_sublist ..)
        have sY2:Srt key (Y.drop (mid-s)):=sY.sublist (List.drop_sublist ..)
        have mXX: ∀ x∈X.take (s-a),∀ y∈X.drop (s-a),LtK key x y:=by
          have:=sX
          rw [←List.take_append_drop (s-a) X] at this
          exact this.mid
        have mYY: ∀ x∈Y.take (mid-s),∀ y∈Y.drop (mid-s),LtK key x y:=by
          have:=sY
          rw [←List.take_append_drop (mid-s) Y] at this
          exact this.mid
        have hXe:X=X.take (s-a)++X.drop (s-a):=(List.take_append_drop ..).symm
        have hYe:Y=Y.take (mid-s)++Y.drop (mid-s):=(List.take_append_drop ..).symm
        have iX1: ∀ x∈X.take (s-a),x∈X:=fun x hx=>List.mem_of_mem_take hx
        have iX2: ∀ x∈X.drop (s-a),x∈X:=fun x hx=>List.mem_of_mem_drop hx
        have iY1: ∀ x∈Y.take (mid-s),x∈Y:=fun x hx=>List.mem_of_mem_take hx
        have iY2: ∀ x∈Y.drop (mid-s),x∈Y:=fun x hx=>List.mem_of_mem_drop hx
        generalize X.take (s-a)=X1 at*
        generalize X.drop (s-a)=X2 at*
        generalize Y.take (mid-s)=Y1 at*
        generalize Y.drop (mid-s)=Y2 at*
        subst hXe hYe
        have g5:i64 (((mid+m:Nat):Int)-(s:Int))=((mid+m-s:Nat):Int):=(ZL (by omega) (by omega)).trans (by omega)
        rw [g5]
        have rot:(if((decide ((s:Int)<(m:Int)))&&(decide ((m:Int)<((mid+m-s:Nat):Int))))=true then(Qq (L++(X1++X2)++(Y1++Y2)++R) (s:Int) (m:Int) ((mid+m-s:Nat):Int) cmp).bind fun y4=>some y4 else some (L++(X1++X2)++(Y1++Y2)++R))=some (L++X1++Y1++(X2++Y2++R)):=by
          by_cases q:s<m∧m<mid+m-s
          · rw [if_pos (by simp;omega)]
            have:=Zoi (cmp:=cmp) (L:=L++X1) (X:=X2) (Y:=Y1) (R:=Y2++R) (by intro w;subst w;simp at le2;omega) (by intro w;subst w;simp at le3;omega) (by simp only [List.length_append] at hn hN pX pY ⊢;omega)
            rw [show(L++X1).length=s by rw [List.length_append];omega,show s+X2.length=m by omega,show m+Y1.length=mid+m-s by omega] at this
            rw [show L++(X1++X2)++(Y1++Y2)++R=L++X1++X2++Y1++(Y2++R) by simp,this]
            simp
          · rw [if_neg (by simp;omega)]
            by_cases w:s<m
            · have:Y1= []:=List.length_eq_zero_iff.1 (by omega)
              subst this;simp
            · have:X2= []:=List.length_eq_zero_iff.1 (by omega)
              subst this;simp
        rw [rot]
        simp only [Option.bind_some,Z8]
        have first: ∃ Z1,(if((decide ((a:Int)<(s:Int)))&&(decide ((s:Int)<(mid:Int))))=true then(Z6 n (L++X1++Y1++(X2++Y2++R)) (a:Int) (s:Int) (mid:Int) cmp).bind fun y5=>some y5 else some (L++X1++Y1++(X2++Y2++R)))=some (L++Z1++(X2++Y2++R))∧Z1.Perm (X1++Y1)∧Srt key Z1:=by
          by_cases q:a<s∧s<mid
          · rw [if_pos (by simp;omega)]
            obtain⟨Z,z1,z2,z3⟩:=ih L X1 Y1 (X2++Y2++R) (by intro w;subst w;simp at le1;omega) (by intro w;subst w;simp at le3;omega) (by simp only [List.length_append] at hn hN pX pY c1 c2 ⊢;omega) (by simp only [List.length_append] at hn hN ⊢;omega) sX1 sY1 (fun x hx y hy=>hlt x (iX1 x hx) y (iY1 y hy)) (fun x hx=>hD x (by
              rcases List.mem_append.1 hx with w |w
              · exact List.mem_append_left _ (iX1 x w)
              · exact List.mem_append_right _ (iY1 x w)))
            rw [ha,show a+X1.length=s by omega,show s+Y1.length=mid by omega] at z1
            exact⟨Z,by rw [z1];rfl,z2,z3⟩
          · rw [if_neg (by simp;omega)]
            refine⟨X1++Y1,by simp,.refl _,?_⟩
            by_cases w:a<s
            · have:Y1= []:=List.length_eq_zero_iff.1 (by omega)
              subst this;simpa using sX1
            · have:X1= []:=List.length_eq_zero_iff.1 (by omega)
              subst this;simpa using sY1
        obtain⟨Z1,z1,z2,z3⟩:=first
        rw [z1]
        simp only [Option.bind_some,Z8]
        have hZ1:Z1.length=mid-a:=by rw [z2.length_eq,List.length_append];omega
        have second: ∃ Z2,(if((decide ((mid:Int)<((mid+m-s:Nat):Int)))&&(decide (((mid+m-s:Nat):Int)<(b:Int))))=true then(Z6 n (L++Z1++(X2++Y2++R)) (mid:Int) ((mid+m-s:Nat):Int) (b:Int) cmp).bind fun y6=>some y6 else some (L++Z1++(X2++Y2++R)))=some (L++Z1++Z2++R)∧Z2.Perm (X2++Y2)∧Srt key Z2:=by
          by_cases q:mid<mid+m-s∧mid+m-s<b
          · rw [if_pos (by simp;omega)]
            obtain⟨Z,y1,y2,y3⟩:=ih (L++Z1) X2 Y2 R (by intro w;subst w;simp at le2;omega) (by intro w;subst w;simp at le4;omega) (by simp only [List.length_append] at hn hN pX pY c1 c2 ⊢;omega) (by simp only [List.length_append] at hn hN ⊢;omega) sX2 sY2 (fun x hx y hy=>hlt x (iX2 x hx) y (iY2 y hy)) (fun x hx=>hD x (by
              rcases List.mem_append.1 hx with w |w
              · exact List.mem_append_left _ (iX2 x w)
              · exact List.mem_append_right _ (iY2 x w)))
            rw [show(L++Z1).length=mid by rw [List.length_append];omega,show mid+X2.length=mid+m-s by omega,show mid+m-s+Y2.length=b by omega] at y1
            refine⟨Z,?_,y2,y3⟩
            rw [show L++Z1++(X2++Y2++R)=L++Z1++X2++Y2++R by simp,y1];rfl
          · rw [if_neg (by simp;omega)]
            refine⟨X2++Y2,by simp,.refl _,?_⟩
            by_cases w:s<m
            · have:Y2= []:=List.length_eq_zero_iff.1 (by omega)
              subst this;simpa using sX2
            · have:X2= []:=List.length_eq_zero_iff.1 (by omega)
              subst this;simpa using sY2
        obtain⟨Z2,y1,y2,y3⟩:=second
        refine⟨Z1++Z2,by rw [y1];simp,?_,?_⟩
        · refine(z2.append y2).trans ?_
          simp only [List.append_assoc]
          refine List.Perm.append_left _ ?_
          rw [←List.append_assoc,←List.append_assoc]
          exact List.Perm.append_right _ List.perm_append_comm
        · refine z3.app y3 fun x hx y hy=> ?_
          rcases List.mem_append.1 (z2.mem_iff.1 hx) with p |p<;>rcases List.mem_append.1 (y2.mem_iff.1 hy) with q |q
          · exact mXX x p y q
          · exact cut.1 x p y q
          · exact cut.2 x p y q
          · exact mYY x p y q
end
end Go.Vx

namespace Go.Vx
open Go Go.RowKit
section
variable {key:Int→Int} {D:Int→Prop} {cmp:Int→Int→Option Int}
theorem ZsW(hc: ∀ x y,D x→D y→ ∃ c,cmp x y=some c∧(c<0↔key x<key y)){L X R:List Int}(hN:L.length+X.length+R.length≤1000000)(hX:X.Pairwise (· < ·))(hD: ∀ x∈X,D x):
    ∃ Z,ZQ (L++X++R) (L.length:Int) ((L.length+X.length:Nat):Int) cmp=some (L++Z++R)∧Z.Perm X∧Srt key Z:=by
  unfold ZQ
  have e0:i64 ((L.length:Int)+1)=((L.length+1:Nat):Int):=(ZL (by omega) (by omega)).trans (by omega)
  rw [e0]
  have hend1: ∀ o (i:Nat),L.length+X.length≤i→ZM (L.length:Int) ((L.length+X.length:Nat):Int) cmp o (i:Int)=some (.inr o):=fun o i hi=>by
    unfold ZM
    rw [if_neg (by simp;omega)]
  cases X with
  |nil=>exact⟨[],Zcr (by simp only [QG];rw [hend1 _ _ (by simp)]),.refl _,.nil⟩
  |cons x T=>
    have hT:=List.pairwise_cons.1 hX
    obtain⟨Z,z1,z2,z3⟩:=Zt1 (key:=key) (D:=D) (body1:=ZM (L.length:Int) ((L.length+(x::T).length:Nat):Int) cmp) (body2:=ZT (L.length:Int) cmp) (a:=L.length) (b:=L.length+(x::T).length)
      (fun P Q x y hx hy hP hP2=>by
        unfold ZT
        have e1:i64 ((P.length:Int)+1-1)=((P.length:Nat):Int):=(ZL (by omega) (by omega)).trans (by omega)
        have e2:(P.length:Int)+1=((P.length+1:Nat):Int):=by omega
        have g1:(P++y::x::Q)[P.length+1]?=some x:=by rw [List.getElem?_append_right (by omega)];simp
        have g2:(P++y::x::Q)[P.length]?=some y:=by simp
        have g3:((P++y::x::Q).set (P.length+1) y)[P.length]?=some y:=by rw [List.getElem?_set_ne (by omega)];exact g2
        have hg:decide ((L.length:Int)<((P.length+1:Nat):Int))=true:=by simp;omega
        obtain⟨c,d1,d2⟩:=hc x y hx hy
        rw [e1,e2,hg]
        simp only [gd,beq_self_eq_true,if_true,Bool.true_and]
        rw [Zw g1,Option.bind_some,Zw g2,Option.bind_some,d1,Option.bind_some]
        by_cases q:key x<key y
        · rw [if_pos (by simpa using d2.2 q),if_pos q]
          simp only [Option.bind_some,Int.toNat_natCast]
          rw [Zw g3,Option.bind_some]
          have:=ZiC (L:=P) (M:= []) (R:=Q) (x:=y) (y:=x)
          simp only [List.length_nil,Nat.add_zero,List.append_nil] at this
          rw [show P++y::x::Q=P++ [y]++x::Q by simp,List.set_comm _ _ (by omega),this]
          simp
        · rw [if_neg (by simpa using fun w=>q (d2.1 w)),if_neg q]) (fun d=>by
        unfold ZT
        simp [gd]) (fun o i hi=>by
        unfold ZM
        rw [if_pos (by simp only [List.length_cons] at hi ⊢;simp;omega),show i64 ((i:Int)+1)=(i:Int)+1 from ZL (by simp only [List.length_cons] at hi;omega) (by simp only [List.length_cons] at hi hN;omega)]
        rfl) hend1 rfl R T [x] (by simp;omega) (List.pairwise_singleton ..) hD (fun p hp y hy=>by rw [List.mem_singleton.1 hp];exact hT.1 y hy) hT.2
    refine⟨Z,?_,z2,z3⟩
    rw [←z1];congr 2;simp
theorem Zow(hc: ∀ x y,D x→D y→ ∃ c,cmp x y=some c∧(c<0↔key x<key y)){l:List Int}(hl:l.length≤100)(hp:l.Pairwise (· < ·))(hD: ∀ x∈l,D x):
    ∃ l',Qj l cmp=some l'∧l'.Perm l∧Srt key l':=by
  unfold Qj QU
  obtain⟨o,a,l1,b1,b2,b3,b4⟩:=ZtL (key:=key) (D:=D) (ins:=fun o a b=>ZQ o a b cmp) (s:=20) (n:=l.length) (by omega) (fun L X R hn hX hDX=>ZsW hc (by omega) hX hDX)
    (body:=Qg (l.length:Int) cmp) (fun o a ha=>by
      unfold Qg
      by_cases q:a+20≤l.length
      · rw [if_pos (by simp;omega),if_pos q,show i64 (((a+20:Nat):Int)+20)=((a+20+20:Nat):Int) from(ZL (by omega) (by omega)).trans (by omega)]
      · rw [if_neg (by simp;omega),if_neg q]) l.length [] l rfl (by simp) hp hD
  simp only [List.nil_append,List.length_nil,Nat.zero_add] at b1 b2
  rw [show loop (t3 (Qg (l.length:Int) cmp)) (l,0,20)=some (o,(a:Int)) from b1]
  simp only [Option.bind_some,QG]
  rw [b2]
  simp only [Option.bind_some]
  have hln:l1.length=l.length:=b3.length_eq
  obtain⟨o',k1,k2,k3⟩:=ZtR (key:=key) (D:=D) (n:=l.length) (body:=Qa (l.length:Int) cmp) (fun o s h0 h2 hn hB hDo=>by
    split
    · rename_i hs
      obtain⟨p,a,l',p1,pa,p2,p3,p4⟩:=ZsH (key:=key) (D:=D) (sm:=fun o a m b=>Z6 100 o a m b cmp) (s:=s) (n:=l.length) h0
        (fun L X Y R hX hY hN sX sY hlt hDX=>ZsJ hc 100 L X Y R hX hY (by omega) (by omega) sX sY hlt hDX) (body:=Z9 (l.length:Int) cmp (s:Int)) (fun o a ha=>by
          unfold Z9
          by_cases q:a+2*s≤l.length
          · rw [if_pos (by simp;omega),if_pos q,show i64 ((a:Int)+(s:Int))=((a+s:Nat):Int) from(ZL (by omega) (by omega)).trans (by omega),show i64 (2*(s:Int))=((2*s:Nat):Int) from(ZL (by omega) (by omega)).trans (by omega),
              show i64 (((a+2*s:Nat):Int)+((2*s:Nat):Int))=((a+2*s+2*s:Nat):Int) from(ZL (by omega) (by omega)).trans (by omega)]
          · rw [if_neg (by simp;omega),if_neg q]) l.length [] o hn (by simpa using hn) hB hDo
      simp only [List.nil_append,List.length_nil,Nat.zero_add] at p1 p2
      refine⟨l',?_,p3,p4⟩
      unfold Qa
      rw [if_pos (by simpa using hs),show i64 (2*(s:Int))=((2*s:Nat):Int) from(ZL (by omega) (by omega)).trans (by omega),
        show loop (t3 (Z9 (l.length:Int) cmp (s:Int))) (o,0,((2*s:Nat):Int))=some (p,(a:Int)) from p1]
      simp only [Option.bind_some,QG]
      rw [show i64 ((s:Int)*2)=((2*s:Nat):Int) from(ZL (by omega) (by omega)).trans (by omega)]
      rw [show i64 ((a:Int)+(s:Int))=((a+s:Nat):Int) from(ZL (by omega) (by omega)).trans (by omega)]
      by_cases q:a+s<l.length
      · rw [if_pos q] at p2
        rw [if_pos (by simp;omega),p2];rfl
      · rw [if_neg q] at p2
        cases p2
        rw [if_neg (by simp;omega)]
    · rename_i hs
      unfold Qa
      rw [if_neg (by simpa using hs)]) _ l1 20 rfl (by omega) (by omega) hln b4 (fun x hx=>hD x (b3.mem_iff.1 hx))
  refine⟨o',?_,k2.trans b3,k3⟩
  rw [show loop (t2 (Qa (l.length:Int) cmp)) (l1,20)=some o' from k1];rfl
end
end Go.Vx

namespace Go.Vx
open Go Go.RowKit
def ZfC(s:List Int)(i:Nat):List Int:=(s.take (16+i*97+97)).drop (16+i*97)
theorem Znz{s:List Int}{i:Nat}(h:16+i*97+97≤s.length):(ZfC s i).length=97:=by unfold ZfC;simp;omega
theorem Zpg{s:List Int}(h:u8R s)(i:Nat):u8R (ZfC s i):=fun x hx=>h x (List.mem_of_mem_take (List.mem_of_mem_drop hx))
theorem Zoy{s:List Int}{i:Nat}(hl:s.length≤140737488355328)(h:16+i*97+97≤s.length): ∃ v,Zdf s (i:Int)=some v∧v.toList=ZfC s i:=by
  unfold Zdf
  have e1:i64 ((i:Int)*97)=(i:Int)*97:=ZL (by omega) (by omega)
  have e2:i64 (16+(i:Int)*97)=((16+i*97:Nat):Int):=(ZL (by omega) (by omega)).trans (by omega)
  have e3:i64 (((16+i*97:Nat):Int)+97)=((16+i*97+97:Nat):Int):=(ZL (by omega) (by omega)).trans (by omega)
  rw [e1,e2,e3,ZgD (by omega) h,Option.bind_some]
  obtain⟨v,hv,hvl⟩:=Zmj (m:=97) (xs:=(s.take (16+i*97+97)).drop (16+i*97)) (by simp;omega)
  rw [hv]
  refine⟨v,rfl,?_⟩
  rw [hvl,List.take_of_length_le (by rw [List.length_drop,List.length_take];omega)];unfold ZfC;rfl
def stV(l:List Int):Int:=if l.getD 96 0=0 then 1 else if l.any (fun x=> !decide (x=255)) then 2 else 0
theorem Zn8{l:List Int}(hl:l.length≤9223372036854775806):QO l (fun z0=>Zab z0)=some (l.any fun x=> !decide (x=255)):=by
  have key:loop (t1 (QL l (fun z0=>Zab z0))) 0=some (match l.findIdx? (fun x=> !decide (x=255)) with |some k=> .inl (k:Int) |none=> .inr ()):=by
    refine(ZgL (xs:=l) (fun k=>(match (l.drop k).findIdx? (fun x=> !decide (x=255)) with |some j=>(.inl ((j+k:Nat):Int):Int ⊕ Unit) |none=> .inr ())) (fun k x hx=> ?_) ?_).trans (by simp)
    · have hk:=(List.getElem?_eq_some_iff.1 hx).1
      unfold QL Zab
      rw [if_pos (by simpa using hk),Zw hx]
      simp only [Option.bind_some]
      rw [show i64 ((k:Int)+1)=(k:Int)+1 from ZL (by omega) (by omega),ZeD hx,List.findIdx?_cons]
      by_cases e:x=255
      · left
        subst e
        refine⟨by simp,?_⟩
        simp only [decide_true,Bool.not_true,Bool.false_eq_true,if_false]
        cases (l.drop (k+1)).findIdx? (fun x=> !decide (x=255)) with
        |none=>rfl
        |some j=>simp only [Option.map_some];congr 2;omega
      · right
        simp [e]
    · unfold QL
      rw [if_neg (by simp)]
      simp
  unfold QO Xz
  rw [key]
  cases hf:l.findIdx? (fun x=> !decide (x=255)) with
  |none=>
    rw [List.findIdx?_eq_none_iff] at hf
    simp only [Option.bind_some,Sum.elim_inr,ZsT]
    congr 1
    symm
    rw [show decide ((0:Int)≤ -1)=false from rfl]
    rw [List.any_eq_false]
    intro x hx
    simpa using hf x hx
  |some k=>
    simp only [Option.bind_some,Sum.elim_inl]
    congr 1
    rw [decide_eq_true (by omega)]
    symm
    rw [List.any_eq_true]
    obtain⟨hk,h1,_⟩:=List.findIdx?_eq_some_iff_getElem.1 hf
    exact⟨l[k],List.getElem_mem hk,h1⟩
theorem ZnG{v:Vector Int 97}{l:List Int}(hv:v.toList=l)(hl:l.length=97):Zcz v=some (stV l):=by
  unfold Zcz
  rw [show ZA v 96=some (l.getD 96 0) from Ziw (k:=96) (by rw [hv];exact Zbt (by omega) 0),Option.bind_some]
  unfold stV
  by_cases h:l.getD 96 0=0
  · rw [if_pos (by simpa using h),if_pos h]
  · rw [if_neg (by simpa using h),if_neg h]
    rw [hv,show slc l 0 (97:Int)=some l from(ZgD (a:=0) (b:=97) (by omega) (by omega)).trans (by rw [List.take_of_length_le (by omega)];rfl),Option.bind_some,Zn8 (by omega),Option.bind_some]
    cases l.any (fun x=> !decide (x=255))<;>simp
end Go.Vx

namespace Go.Vx
open Go Go.RowKit
def rd(f:Vector Int 64)(i:Nat):Int:=f.toList.getD i 0
theorem ZhT(f:Vector Int 64){k:Nat}(hk:k<64)(x:Int)(i:Nat):rd (Qr f (k:Int) x) i=if i=k then x else rd f i:=by
  unfold rd
  rw [ZdL,Int.toNat_natCast,List.getD_eq_getElem?_getD,List.getElem?_set,List.getD_eq_getElem?_getD]
  by_cases h:i=k
  · subst h;rw [if_pos rfl,if_pos (by simpa using hk),if_pos rfl];rfl
  · rw [if_neg (fun q=>h q.symm),if_neg h]
theorem Zq4(f:Vector Int 64){k:Nat}(hk:k<64):ZA f (k:Int)=some (rd f k):=Ziw (by unfold rd;exact Zbt (by simpa using hk) 0)
theorem Zod{f g:Vector Int 64}(h: ∀ i,i<64→rd f i=rd g i):f=g:=by
  apply Vector.toList_inj.1
  apply List.ext_getElem (by simp)
  intro i h1 h2
  have:=h i (by simpa using h1)
  unfold rd at this
  rw [List.getD_eq_getElem?_getD,List.getD_eq_getElem?_getD,List.getElem?_eq_getElem h1,List.getElem?_eq_getElem h2] at this
  exact this
def Zio(g:Nat→Int):Vector Int 64:=Vector.ofFn fun j:Fin 64=>g j.val
theorem Zkw(g:Nat→Int){i:Nat}(hi:i<64):rd (Zio g) i=g i:=by
  unfold rd Zio
  rw [List.getD_eq_getElem?_getD,List.getElem?_eq_getElem (by simpa using hi)]
  simp
theorem ZpD{body:Vector Int 64→Int→Option ((Vector Int 64×Int) ⊕ Vector Int 64)}(g:Nat→Int){v0:Vector Int 64}(h0: ∀ i,i<64→rd v0 i=0)
    (hstep: ∀ v (k:Nat),k<64→rd v k=0→body v k=some (.inl (Qr v k (g k),(k:Int)+1))) (hend: ∀ v,body v (64:Nat)=some (.inr v)):loop (t2 body) (v0,0)=some (Zio g):=by
  refine Zcx (body:=t2 body) (fun p=> ∃ k:Nat,p.2=k∧k≤64∧ ∀ i,i<64→rd p.1 i=if i<k then g i else 0) (fun p=>64-p.2.toNat) (fun _=>Zio g) ?_ (v0,0) ⟨0,rfl,by omega,fun i hi=>by rw [if_neg (by omega)];exact h0 i hi⟩
  rintro⟨v,z⟩ ⟨k,hz,hk,hI⟩
  simp only at hz hI
  subst hz
  simp only [QG]
  rcases Nat.lt_or_ge k 64 with h |h
  · left
    refine⟨_,hstep v k h (by rw [hI k h,if_neg (by omega)]),⟨k+1,by push_cast;rfl,h,fun i hi=> ?_⟩,by simp only;omega,trivial⟩
    simp only
    rw [ZhT v h,hI i hi]
    by_cases e:i=k
    · subst e;rw [if_pos rfl,if_pos (by omega)]
    · rw [if_neg e]
      by_cases e2:i<k
      · rw [if_pos e2,if_pos (by omega)]
      · rw [if_neg e2,if_neg (by omega)]
  · right
    have:k=64:=by omega
    subst this
    rw [hend]
    have:v=Zio g:=Zod fun i hi=>by rw [hI i hi,if_pos hi,Zkw g hi]
    rw [this]
def ZdX(l:List Int)(i:Nat):Int:=if i % 2=0 then l.getD (3*(i/2)) 0*16+l.getD (3*(i/2)+1) 0/16 else(l.getD (3*(i/2)+1) 0 % 16)*256+l.getD (3*(i/2)+2) 0
theorem Zon:(List.range 4096).all (fun n=>decide (bor .u16 ((n/16*16:Nat):Int) ((n % 16:Nat):Int)=(n:Int))&&decide (bor .u16 ((n/256*256:Nat):Int) ((n % 256:Nat):Int)=(n:Int)))=true:=by decide+kernel
theorem bo4{a b:Int}(ha:0≤a∧a≤255)(hb:0≤b∧b≤15):bor .u16 (a*16) b=a*16+b:=by
  obtain⟨a,rfl⟩:=Int.eq_ofNat_of_zero_le ha.1
  obtain⟨b,rfl⟩:=Int.eq_ofNat_of_zero_le hb.1
  have h:=List.all_eq_true.1 Zon (a*16+b) (List.mem_range.2 (by omega))
  rw [Bool.and_eq_true] at h
  have h:=of_decide_eq_true h.1
  rw [show(a*16+b)/16*16=a*16 by omega,show(a*16+b) % 16=b by omega,show((a*16:Nat):Int)=(a:Int)*16 by omega,show((a*16+b:Nat):Int)=(a:Int)*16+b by omega] at h
  exact h
theorem bo8{a b:Int}(ha:0≤a∧a≤15)(hb:0≤b∧b≤255):bor .u16 (a*256) b=a*256+b:=by
  obtain⟨a,rfl⟩:=Int.eq_ofNat_of_zero_le ha.1
  obtain⟨b,rfl⟩:=Int.eq_ofNat_of_zero_le hb.1
  have h:=List.all_eq_true.1 Zon (a*256+b) (List.mem_range.2 (by omega))
  rw [Bool.and_eq_true] at h
  have h:=of_decide_eq_true h.2
  rw [show(a*256+b)/256*256=a*256 by omega,show(a*256+b) % 256=b by omega,show((a*256:Nat):Int)=(a:Int)*256 by omega,show((a*256+b:Nat):Int)=(a:Int)*256+b by omega] at h
  exact h
theorem Zog:(List.range 256).all (fun n=>decide (XF .u16 (n:Int) 15=((n % 16:Nat):Int)))=true:=by decide+kernel
theorem ZtZ{x:Int}(h:0≤x∧x≤255):XF .u16 x 15=x % 16:=by
  obtain⟨x,rfl⟩:=Int.eq_ofNat_of_zero_le h.1
  exact(of_decide_eq_true (List.all_eq_true.1 Zog x (List.mem_range.2 (by omega)))).trans (by omega)
theorem Zn0(z:Int):u16 z=z % 65536:=rfl
theorem Ztq{k:Nat}(h:k≤9223372036854775807):quo .i64 (k:Int) 2=some ((k/2:Nat):Int):=by
  unfold quo
  rw [if_neg (by decide)]
  have e3:Int.tdiv (k:Int) 2=((k/2:Nat):Int):=rfl
  rw [e3,ZL (by omega) (by omega)]
theorem Ztj(k:Nat):rem (k:Int) 2=some ((k % 2:Nat):Int):=by
  unfold rem
  rw [if_neg (by decide)];rfl
theorem Zpp{p:Vector Int 96}{l:List Int}(hp:p.toList=l)(hu:u8R l){i:Nat}(hi:i<64):Zcw p (i:Int)=some (ZdX l i):=by
  have hl:l.length=96:=by rw [←hp];simp
  unfold Zcw
  rw [Ztq (by omega),Option.bind_some,Ztj,Option.bind_some]
  have hg: ∀ (z:Int) (k:Nat),z=(k:Int)→k<96→ZA p z=some (l.getD k 0):=fun z k hz hk=>by
    subst hz
    exact Ziw (by rw [hp];exact Zbt (by omega) 0)
  have e1:i64 (((i/2:Nat):Int)*3)=((3*(i/2):Nat):Int):=(ZL (by omega) (by omega)).trans (by omega)
  have e2:i64 (((3*(i/2):Nat):Int)+1)=((3*(i/2)+1:Nat):Int):=(ZL (by omega) (by omega)).trans (by omega)
  have e3:i64 (((3*(i/2):Nat):Int)+2)=((3*(i/2)+2:Nat):Int):=(ZL (by omega) (by omega)).trans (by omega)
  rw [e1,e2,e3]
  have b0:=Zc4 hu (3*(i/2))
  have b1:=Zc4 hu (3*(i/2)+1)
  have b2:=Zc4 hu (3*(i/2)+2)
  rw [hg _ (3*(i/2)) rfl (by omega),hg _ (3*(i/2)+1) rfl (by omega),hg _ (3*(i/2)+2) rfl (by omega)]
  unfold ZdX
  generalize l.getD (3*(i/2)) 0=x0 at b0
  generalize l.getD (3*(i/2)+1) 0=x1 at b1
  generalize l.getD (3*(i/2)+2) 0=x2 at b2
  have u0:u16 x0=x0:=by rw [Zn0];omega
  have u1:u16 x1=x1:=by rw [Zn0];omega
  have u2:u16 x2=x2:=by rw [Zn0];omega
  by_cases h:i % 2=0
  · have s1:shl .u16 x0 4=some (x0*16):=by
      unfold shl
      rw [if_neg (by decide)]
      show some (IntKind.u16.wrap (x0*2^4))=_
      rw [show IntKind.u16.wrap (x0*2^4)=(x0*2^4) % 65536 from rfl]
      congr 1;omega
    have s2:shr .u16 x1 4=some (x1/16):=ZqQ (k:= .u16) (j:=4) (by decide)
    rw [if_pos (by simp [h]),if_pos h,Option.bind_some,u0,s1,Option.bind_some,Option.bind_some,u1,s2,Option.bind_some,bo4 b0 (by omega)]
  · have s1:shl .u16 (x1 % 16) 8=some (x1 % 16*256):=by
      unfold shl
      rw [if_neg (by decide)]
      show some (IntKind.u16.wrap (x1 % 16*2^8))=_
      rw [show IntKind.u16.wrap (x1 % 16*2^8)=(x1 % 16*2^8) % 65536 from rfl]
      congr 1;omega
    rw [if_neg (by simp;omega),if_neg h,Option.bind_some,u1,ZtZ b1,s1,Option.bind_some,Option.bind_some,u2,bo8 (by omega) b2]
theorem Zp9: ∀ i,i<64→rd (Vector.replicate 64 0) i=0:=by
  intro i hi
  unfold rd
  rw [Vector.toList_replicate,List.getD_eq_getElem?_getD,List.getElem?_replicate,if_pos hi];rfl
theorem Zrs{p:Vector Int 96}{l:List Int}(hp:p.toList=l)(hu:u8R l):ZdM p=some (Zio (ZdX l)):=by
  unfold ZdM
  rw [ZpD (body:=Zbs p) (ZdX l) Zp9 (fun v k hk h0=> ?_) (fun v=> ?_)]
  · rfl
  · unfold Zbs
    rw [if_pos (by simp;omega),Zpp hp hu hk,Option.bind_some,Zq4 v hk,Option.bind_some,show i64 ((k:Int)+1)=(k:Int)+1 from ZL (by omega) (by omega)]
  · unfold Zbs
    rw [if_neg (by decide)]
theorem Zq8(f:Vector Int 64)(i:Nat)(x y:Int):Qr (Qr f (i:Int) x) (i:Int) y=Qr f (i:Int) y:=by
  apply Vector.toList_inj.1
  rw [ZdL,ZdL,ZdL,List.set_set]
def ZdW(l:List Int)(j:Nat):Int:=if j % 2=1 then l.getD (j/2) 0 % 16 else l.getD (j/2) 0/16
theorem ZkL{l:List Int}(hu:u8R l)(h96:96≤l.length){i j:Nat}(hi:i<64)(hj:j<3)(f:Vector Int 64)(hf:0≤rd f i∧rd f i≤4095):
    ZaE l (i:Int) f (j:Int)=some (.inl (Qr f (i:Int) ((rd f i*16+ZdW l (3*i+j)) % 65536),(j:Int)+1)):=by
  unfold ZaE
  have e1:i64 (3*(i:Int))=((3*i:Nat):Int):=(ZL (by omega) (by omega)).trans (by omega)
  have e2:i64 (((3*i:Nat):Int)+(j:Int))=((3*i+j:Nat):Int):=(ZL (by omega) (by omega)).trans (by omega)
  have hb:=Zc4 hu ((3*i+j)/2)
  have hx:idx l (((3*i+j)/2:Nat):Int)=some (l.getD ((3*i+j)/2) 0):=Zw (Zbt (by omega) 0)
  rw [if_pos (by simp;omega),e1,e2,Ztq (by omega),Option.bind_some,hx,Option.bind_some,Ztj]
  unfold ZdW
  generalize l.getD ((3*i+j)/2) 0=x at hb hx
  have ix:i64 x=x:=ZL (by omega) (by omega)
  rw [ix]
  have q16:quo .i64 x 16=some (x/16):=by
    unfold quo
    rw [if_neg (by decide),Int.tdiv_eq_ediv_of_nonneg hb.1,ZL (by omega) (by omega)]
  have r16:rem x 16=some (x % 16):=by
    unfold rem
    rw [if_neg (by decide),Int.tmod_eq_emod_of_nonneg hb.1]
  rw [q16,Option.bind_some,Option.bind_some]
  have e5:i64 ((j:Int)+1)=(j:Int)+1:=ZL (by omega) (by omega)
  have fin: ∀ h:Int,0≤h∧h≤15→((ZA f (i:Int)).bind fun x3=>(ZA f (i:Int)).bind fun x4=>some (Sum.inl (Qr f (i:Int) (u16 ((u16 (x3*16))+(u16 h))),i64 ((j:Int)+1))))=(some (.inl (Qr f (i:Int) ((rd f i*16+h) % 65536),(j:Int)+1)):Option ((Vector Int 64×Int) ⊕ Vector Int 64)):=by
    intro h hh
    rw [Zq4 f hi,Option.bind_some,Option.bind_some,e5]
    congr 4
    rw [Zn0,Zn0,Zn0];omega
  by_cases hp:(3*i+j) % 2=1
  · rw [if_pos (by simp [hp]),if_pos hp,Option.bind_some,hx,Option.bind_some,ix,r16,Option.bind_some,Option.bind_some]
    exact fin _ (by omega)
  · rw [if_neg (by simp;omega),if_neg hp,Option.bind_some]
    exact fin _ (by omega)
theorem Zjt{l:List Int}(hu:u8R l)(j:Nat):0≤ZdW l j∧ZdW l j≤15:=by
  have:=Zc4 hu (j/2)
  unfold ZdW
  split<;>omega
theorem Zqz{l:List Int}(hu:u8R l)(i:Nat):ZdX l i=(ZdW l (3*i)*16+ZdW l (3*i+1))*16+ZdW l (3*i+2):=by
  have b0:=Zc4 hu (3*(i/2))
  have b1:=Zc4 hu (3*(i/2)+1)
  have b2:=Zc4 hu (3*(i/2)+2)
  unfold ZdX ZdW
  by_cases h:i % 2=0
  · rw [if_pos h,if_neg (by omega),if_pos (by omega),if_neg (by omega),show 3*i/2=3*(i/2) by omega,show(3*i+1)/2=3*(i/2) by omega,show(3*i+2)/2=3*(i/2)+1 by omega]
    omega
  · rw [if_neg h,if_pos (by omega),if_neg (by omega),if_pos (by omega),show 3*i/2=3*(i/2)+1 by omega,show(3*i+1)/2=3*(i/2)+2 by omega,show(3*i+2)/2=3*(i/2)+2 by omega]
    omega
def Zoh:Vector Int 64:= #v[0,0,0,0,0,0,0,0,0,0,0,0,0,0,0,0,0,0,0,0,0,0,0,0,0,0,0,0,0,0,0,0,0,0,0,0,0,0,0,0,0,0,0,0,0,0,0,0,0,0,0,0,0,0,0,0,0,0,0,0,0,0,0,0]
theorem ZnC:(List.range 64).all (fun i=>decide (rd Zoh i=0))=true:=by decide+kernel
theorem Zp6: ∀ i,i<64→rd Zoh i=0:=fun i hi=>of_decide_eq_true (List.all_eq_true.1 ZnC i (List.mem_range.2 hi))
theorem Zoe{l:List Int}(hu:u8R l)(h96:96≤l.length):ZgE l=some (Zio (ZdX l)):=by
  have key:=ZpD (body:=ZcW l) (ZdX l) Zp6 (fun v k hk h0=>by
    unfold ZcW
    have b0:=Zjt hu (3*k)
    have b1:=Zjt hu (3*k+1)
    have b2:=Zjt hu (3*k+2)
    have lp:loop (t2 (ZaE l (k:Int))) (v,0)=some (Qr v (k:Int) (ZdX l k)):=by
      refine XY (ZkL hu h96 hk (j:=0) (by omega) v (by omega)) ?_
      refine XY (ZkL hu h96 hk (j:=1) (by omega) _ (by rw [ZhT v hk,if_pos rfl,h0,Nat.add_zero];omega)) ?_
      refine XY (ZkL hu h96 hk (j:=2) (by omega) _ (by rw [ZhT _ hk,if_pos rfl,ZhT v hk,if_pos rfl,h0,Nat.add_zero];omega)) ?_
      refine ZeJ ?_
      show ZaE l (k:Int) _ (((2:Nat):Int)+1)=_
      unfold ZaE
      rw [if_neg (by decide),ZhT _ hk,if_pos rfl,ZhT _ hk,if_pos rfl,h0,Zq8,Zq8,Zqz hu]
      rw [show 3*k+0=3*k from rfl]
      have e:(((0*16+ZdW l (3*k)) % 65536*16+ZdW l (3*k+1)) % 65536*16+ZdW l (3*k+2)) % 65536=(ZdW l (3*k)*16+ZdW l (3*k+1))*16+ZdW l (3*k+2):=by omega
      rw [e]
    rw [if_pos (by simp;omega),lp]
    simp only [Option.bind_some,Z8]
    rw [show i64 ((k:Int)+1)=(k:Int)+1 from ZL (by omega) (by omega)]) (fun v=>by
    unfold ZcW
    rw [if_neg (by simp)])
  unfold ZgE
  rw [show(#v[0,0,0,0,0,0,0,0,0,0,0,0,0,0,0,0,0,0,0,0,0,0,0,0,0,0,0,0,0,0,0,0,0,0,0,0,0,0,0,0,0,0,0,0,0,0,0,0,0,0,0,0,0,0,0,0,0,0,0,0,0,0,0,0]:Vector Int 64)=Zoh from rfl,key];rfl
theorem Zp0{l:List Int}(hu:u8R l)(h96:96≤l.length):Zay l=some (Zio (ZdX l),0)∧ZfQ l=some (Zio (ZdX l),0):=by
  constructor
  · unfold Zay
    rw [if_neg (by simp;omega)]
    rw [show slc l 0 96=some (l.take 96) from(ZgD (a:=0) (b:=96) (by omega) (by omega)).trans (by rw [List.drop_zero]),Option.bind_some]
    obtain⟨v,hv,hvl⟩:=Zmj (m:=96) (xs:=l.take 96) (by rw [List.length_take];omega)
    rw [hv,Option.bind_some,Zrs hvl (fun x hx=>hu x (List.mem_of_mem_take (List.mem_of_mem_take hx))),Option.bind_some]
    have e:Zio (ZdX (List.take 96 (List.take 96 l)))=Zio (ZdX l):=Zod fun i hi=>by
      rw [Zkw _ hi,Zkw _ hi,List.take_take,Nat.min_self]
      have e: ∀ k,k<96→(l.take 96).getD k 0=l.getD k 0:=fun k hk=>by
        rw [List.getD_eq_getElem?_getD,List.getD_eq_getElem?_getD,List.getElem?_take_of_lt hk]
      unfold ZdX
      rw [e _ (by omega),e _ (by omega),e _ (by omega)]
    rw [e]
  · unfold ZfQ
    rw [if_neg (by simp;omega),Zoe hu h96,Option.bind_some]
end Go.Vx

namespace Go.Vx
open Go Go.RowKit
def ZdO(m:api_Memory)(i:Int):Int:=(Zbk (m.Sectors.getD i.toNat [])).1
def okM(m:api_Memory)(k:Nat):Bool:=(Zbk (m.Sectors.getD k [])).2.2&& !(m.Bad.getD k false)
def hdM(m:api_Memory):Nat→List Int
  |0=> []
  |k+1=>hdM m k++if okM m k=true then [(k:Int)] else []
theorem Zlt(m:api_Memory)(k:Nat):hdM m (k+1)=hdM m k++if okM m k=true then [(k:Int)] else []:=rfl
theorem ZiI(m:api_Memory): ∀ (k:Nat) x,x∈hdM m k→0≤x∧x<k
  |0,x,h=>by cases h
  |k+1,x,h=>by
    unfold hdM at h
    rcases List.mem_append.1 h with q |q
    · have:=ZiI m k x q;omega
    · split at q
      · rw [List.mem_singleton.1 q];omega
      · cases q
theorem Zna(m:api_Memory): ∀ k:Nat,(hdM m k).Pairwise (· < ·)
  |0=> .nil
  |k+1=>by
    unfold hdM
    refine List.pairwise_append.2 ⟨Zna m k,by split<;>simp,fun x hx y hy=> ?_⟩
    have:=ZiI m k x hx
    split at hy
    · rw [List.mem_singleton.1 hy];omega
    · cases hy
theorem Zg7(m:api_Memory): ∀ k:Nat,(hdM m k).length≤k
  |0=>Nat.le_refl _
  |k+1=>by
    unfold hdM
    have:=Zg7 m k
    rw [List.length_append]
    split<;>simp<;>omega
def ZhC(m:api_Memory):Prop:= ∀ s∈m.Sectors,u8R s
theorem Zlb(s:List Int):0≤(Zbk s).1∧(Zbk s).1≤1073741824:=by
  unfold Zbk
  split
  · simp
  · simp only
    split
    · rename_i h;exact⟨by simp only;omega,h.2.1⟩
    · simp
theorem Zhy{m:api_Memory}(h:ZhC m)(k:Nat):u8R (m.Sectors.getD k []):=by
  rw [List.getD_eq_getElem?_getD]
  cases e:m.Sectors[k]? with
  |none=>intro x hx;cases hx
  |some s=>exact h s (List.mem_of_getElem? e)
theorem ZtW{m:api_Memory}(hm:ZhC m)(x y:Int)(hx:0≤x∧x<m.Sectors.length)(hy:0≤y∧y<m.Sectors.length): ∃ c,Zad x y m=some c∧(c<0↔ZdO m x<ZdO m y):=by
  have one: ∀ z:Int,0≤z∧z<m.Sectors.length→J7 z m=some (ZdO m z):=fun z hz=>by
    obtain⟨k,rfl⟩:=Int.eq_ofNat_of_zero_le hz.1
    unfold J7 ZdO
    rw [Zw (Zbt (by omega) []),Option.bind_some,ZmL (Zhy hm k),Option.bind_some];rfl
  unfold Zad
  rw [one x hx,one y hy]
  have bx:=Zlb (m.Sectors.getD x.toNat [])
  have by_:=Zlb (m.Sectors.getD y.toNat [])
  refine⟨_,rfl,?_⟩
  unfold ZdO
  rw [show i64 ((Zbk (m.Sectors.getD x.toNat [])).1-(Zbk (m.Sectors.getD y.toNat [])).1)=_ from ZL (by omega) (by omega)]
  omega
theorem Znx{m:api_Memory}(hm:ZhC m)(hl:m.Sectors.length≤64)(hb:m.Bad.length=m.Sectors.length):
    ∃ l,JT m=some l∧l.Perm (hdM m m.Sectors.length)∧Srt (ZdO m) l:=by
  unfold JT
  obtain⟨o,h1,h2⟩:=Xj (body:=Zau m) (s0:= []) (N:=m.Sectors.length) (fun k acc=>acc=hdM m k) (fun r=>r=hdM m m.Sectors.length) (fun k acc hk hI=> .inl (by
      subst hI
      unfold Zau
      have hlen:=Zg7 m k
      rw [if_pos (by simpa using hk),Zw (Zbt hk []),Option.bind_some,ZmL (Zhy hm k),Option.bind_some,show i64 ((k:Int)+1)=(k:Int)+1 from ZL (by omega) (by omega),Zw (Zbt (by omega) false)]
      have ok:okM m k=((Zbk (m.Sectors.getD k [])).2.2&& !(m.Bad.getD k false)):=rfl
      cases hh:(Zbk (m.Sectors.getD k [])).2.2 with
      |false=>
        rw [hh] at ok
        refine⟨hdM m k,by simp [gd],?_⟩
        rw [Zlt,ok];simp
      |true=>
        rw [hh] at ok
        cases hB:m.Bad.getD k false with
        |true=>
          rw [hB] at ok
          refine⟨hdM m k,by simp [gd],?_⟩
          rw [Zlt,ok];simp
        |false=>
          rw [hB] at ok
          refine⟨hdM m k++ [(k:Int)],?_,?_⟩
          · simp only [gd,beq_self_eq_true,if_true,Option.bind_some,Bool.not_false,Bool.and_self]
            first |rw [Zhx (by simp;omega)] |rw [Xk (by simp;omega)]
            rfl
          · show _=hdM m k++_
            rw [ok];simp)) (fun acc hI=>⟨acc,by unfold Zau;rw [if_neg (by simp)],hI⟩) rfl
  subst h2
  rw [h1]
  simp only [Option.bind_some,Z8]
  have hlen:=Zg7 m m.Sectors.length
  obtain⟨l,k1,k2,k3⟩:=Zow (key:=ZdO m) (D:=fun x=>0≤x∧x<m.Sectors.length) (cmp:=fun z0 z1=>Zad z0 z1 m) (ZtW hm) (l:=hdM m m.Sectors.length) (by omega) (Zna m _) (fun x hx=>ZiI m _ x hx)
  rw [k1]
  exact⟨l,rfl,k2,k3⟩
theorem Zp7{body:Int→Option (Int ⊕ Int)}(P:Nat→Bool){n:Nat}(h1: ∀ k:Nat,0<k→k≤n→body k=if P (k-1)=true then some (.inr (k:Int)) else some (.inl ((k-1:Nat):Int)))(h0:body 0=some (.inr 0)):
    ∃ r:Nat,loop (t1 body) (n:Int)=some (r:Int)∧r≤n∧(0<r→P (r-1)=true)∧(r<n→P r=false):=by
  suffices H: ∀ k:Nat,k≤n→(k<n→P k=false)→ ∃ r:Nat,loop (t1 body) (k:Int)=some (r:Int)∧r≤n∧(0<r→P (r-1)=true)∧(r<n→P r=false) from H n (Nat.le_refl _) (fun h=>absurd h (Nat.lt_irrefl _))
  intro k
  induction k with
  |zero=>intro _ hk;exact⟨0,Zcr (by simpa using h0),by omega,fun h=>by omega,hk⟩
  |succ k ih=>
    intro hkn hk
    have e:=h1 (k+1) (by omega) hkn
    by_cases hp:P k=true
    · rw [Nat.add_sub_cancel,if_pos hp] at e
      exact⟨k+1,Zcr (by simpa using e),hkn,fun _=>hp,hk⟩
    · rw [Nat.add_sub_cancel,if_neg hp] at e
      obtain⟨r,k1,k2⟩:=ih (by omega) (fun _=>by simpa using hp)
      exact⟨r,Zex (by simpa using e) k1,k2⟩
theorem Zos{m:api_Memory}(hm:ZhC m)(hl:m.Sectors.length≤64)(hb:m.Bad.length=m.Sectors.length):
    ∃ l,Zeh m=some l∧l.Perm (hdM m m.Sectors.length)∧Srt (ZdO m) l:=by
  unfold Zeh
  obtain⟨o,h1,h2⟩:=Xj (body:=Zcy m) (s0:= []) (N:=m.Sectors.length) (fun k acc=>acc.Perm (hdM m k)∧Srt (ZdO m) acc) (fun r=>r.Perm (hdM m m.Sectors.length)∧Srt (ZdO m) r) (fun k acc hk hI=> .inl (by
      obtain⟨i1,i2⟩:=hI
      have hlen:=Zg7 m k
      have hal:acc.length≤k:=by rw [i1.length_eq];exact hlen
      unfold Zcy
      rw [if_pos (by simpa using hk),Zw (Zbt hk []),Option.bind_some,Zpt (Zhy hm k),Option.bind_some,show i64 ((k:Int)+1)=(k:Int)+1 from ZL (by omega) (by omega),Zw (Zbt (by omega) false)]
      have ok:okM m k=((Zbk (m.Sectors.getD k [])).2.2&& !(m.Bad.getD k false)):=rfl
      cases hh:(Zbk (m.Sectors.getD k [])).2.2 with
      |false=>
        rw [hh] at ok
        refine⟨acc,by simp [gd],?_,i2⟩
        rw [Zlt,ok];simpa using i1
      |true=>
        rw [hh] at ok
        cases hB:m.Bad.getD k false with
        |true=>
          rw [hB] at ok
          refine⟨acc,by simp [gd],?_,i2⟩
          rw [Zlt,ok];simpa using i1
        |false=>
          rw [hB] at ok
          have mem: ∀ z∈acc,0≤z∧z<(k:Int):=fun z hz=>ZiI m k z (i1.mem_iff.1 hz)
          obtain⟨r,q1,q2,q3,q4⟩:=Zp7 (body:=Zcv m acc (Zbk (m.Sectors.getD k []))) (fun j=>decide (ZdO m (acc.getD j 0)≤(Zbk (m.Sectors.getD k [])).1)) (n:=acc.length) (fun j j0 jn=>by
            unfold Zcv
            have hj:=mem (acc.getD (j-1) 0) (ZdR (by omega))
            obtain⟨z,hz⟩:=Int.eq_ofNat_of_zero_le hj.1
            rw [if_pos (by simpa using j0),show i64 ((j:Int)-1)=((j-1:Nat):Int) from(ZL (by omega) (by omega)).trans (by omega),Zw (Zbt (by omega) 0),Option.bind_some,hz,
              Zw (Zbt (by omega) []),Option.bind_some,Zpt (Zhy hm z),Option.bind_some]
            by_cases q:ZdO m (z:Int)≤(Zbk (m.Sectors.getD k [])).1
            · rw [if_pos (by simpa [ZdO] using q),if_pos (by simpa using q)]
            · rw [if_neg (by simpa [ZdO] using q),if_neg (by simpa using q)]) (by unfold Zcv;rw [if_neg (by simp)])
          refine⟨acc.take r++(k:Int)::acc.drop r,?_,?_,?_⟩
          · simp only [gd,beq_self_eq_true,if_true,Option.bind_some,Bool.not_true,Bool.or_self,Bool.false_eq_true,if_false]
            rw [q1]
            simp only [Option.bind_some,Z8]
            rw [show apz 8 acc [0]=some (acc++ [0]) from Zhx (by simp;omega),Option.bind_some]
            rw [show i64 ((r:Int)+1)=((r+1:Nat):Int) from(ZL (by omega) (by omega)).trans (by omega)]
            have hL:(acc++ [(0:Int)]).length=acc.length+1:=by simp
            have sq: ∀ j:Nat,j≤acc.length+1→slq (acc++ [(0:Int)]) (j:Int) ((acc++ [(0:Int)]).length:Int)=some ():=fun j hj=>by
              unfold slq;rw [hL]
              have a1:(j:Int)≤((acc.length+1:Nat):Int):=by omega
              simp only [decide_eq_true (show(0:Int)≤(j:Int) by omega),decide_eq_true a1,decide_eq_true (Nat.succ_pos _),decide_eq_true (Nat.le_refl _),Bool.and_self]
              simp [ck]
            rw [sq (r+1) (by omega),Option.bind_some,sq r (by omega),Option.bind_some]
            have t1:Int.toNat (((acc++ [(0:Int)]).length:Int)-((r+1:Nat):Int))=(acc.length+1)-(r+1):=by rw [hL];omega
            have t2':Int.toNat (((acc++ [(0:Int)]).length:Int)-(r:Int))=(acc.length+1)-r:=by rw [hL];omega
            rw [t1,t2']
            simp only [Int.toNat_natCast]
            obtain⟨z,hz⟩:=ZF (xs:=cpy (acc++ [(0:Int)]) (r+1) ((acc.length+1)-(r+1)) r ((acc.length+1)-r)) (k:=r) (by rw [ZiD (by rw [hL];omega) (by rw [hL];omega),hL];omega)
            rw [Zw hz,Option.bind_some,Zo0 q2]
          · refine List.perm_middle.trans ?_
            rw [List.take_append_drop]
            refine(List.Perm.cons _ i1).trans ?_
            rw [Zlt,ok]
            simpa using (List.perm_append_comm (l₁:= [(k:Int)]) (l₂:=hdM m k))
          · have hk':ZdO m (k:Int)=(Zbk (m.Sectors.getD k [])).1:=rfl
            have hA:Srt (ZdO m) (acc.take r):=i2.sublist (List.take_sublist ..)
            have hB':Srt (ZdO m) (acc.drop r):=i2.sublist (List.drop_sublist ..)
            have hAy: ∀ a∈acc.take r,LtK (ZdO m) a k:=by
              have:=Zfw (key:=ZdO m) (m:= [(k:Int)]) hA (List.pairwise_singleton ..) (fun a b ha hb=>by
                simp only [List.head?_cons,Option.some.injEq] at hb
                subst hb
                rw [List.getLast?_eq_getElem?,List.length_take,Nat.min_eq_left q2] at ha
                have l2:=(List.getElem?_eq_some_iff.1 ha).1
                rw [List.length_take] at l2
                rw [List.getElem?_take_of_lt (by omega)] at ha
                have q:=q3 (by omega)
                rw [List.getD_eq_getElem?_getD,ha] at q
                have q:=of_decide_eq_true q
                simp only [Option.getD_some] at q
                have:=(mem a (List.mem_of_getElem? ha)).2
                unfold LtK;omega)
              exact fun a ha=>this a ha k (List.mem_singleton.2 rfl)
            have hyB: ∀ b∈acc.drop r,LtK (ZdO m) k b:=by
              have:=Zfw (key:=ZdO m) (l:= [(k:Int)]) (List.pairwise_singleton ..) hB' (fun a b ha hb=>by
                simp only [List.getLast?_singleton,Option.some.injEq] at ha
                subst ha
                rw [List.head?_drop] at hb
                have l1:=(List.getElem?_eq_some_iff.1 hb).1
                have q:=q4 (by omega)
                rw [List.getD_eq_getElem?_getD,hb] at q
                have q:=of_decide_eq_false q
                simp only [Option.getD_some] at q
                exact .inl (by omega))
              exact fun b hb=>this k (List.mem_singleton.2 rfl) b hb
            refine hA.app (List.pairwise_cons.2 ⟨hyB,hB'⟩) fun a ha b hb=> ?_
            rcases List.mem_cons.1 hb with rfl |hb
            · exact hAy a ha
            · exact(hAy a ha).trans (hyB b hb))) (fun acc hI=>⟨acc,by unfold Zcy;rw [if_neg (by simp)],hI⟩) ⟨.refl _,.nil⟩
  rw [h1]
  exact⟨o,rfl,h2⟩
theorem Zp1{m:api_Memory}(hm:ZhC m)(hl:m.Sectors.length≤64)(hb:m.Bad.length=m.Sectors.length):
    ∃ l,JT m=some l∧Zeh m=some l∧l.Perm (hdM m m.Sectors.length)∧Srt (ZdO m) l:=by
  obtain⟨l,a1,a2,a3⟩:=Znx hm hl hb
  obtain⟨l',b1,b2,b3⟩:=Zos hm hl hb
  have:l'=l:=ZiY (b2.trans a2.symm) b3 a3
  subst this
  exact⟨l',a1,b1,a2,a3⟩
end Go.Vx

namespace Go.Vx
open Go Go.RowKit
structure MemOK (m:api_Memory):Prop where
  slots:1≤m.Slots∧m.Slots≤64
  limit:1≤m.Limit∧m.Limit≤1000000
  n:2≤m.Sectors.length∧m.Sectors.length≤64
  wear:m.Wear.length=m.Sectors.length
  bad:m.Bad.length=m.Sectors.length
  row: ∀ s∈m.Sectors,(s.length:Int)=16+m.Slots*97
  wr: ∀ x∈m.Wear,0≤x∧x≤m.Limit
theorem Zsn(x a b:Int):(decide (x<a) || decide (b<x))= !(decide (a≤x)&&decide (x≤b)):=by
  by_cases h1:a≤x<;>by_cases h2:x≤b<;>simp [h1,h2]<;>omega
theorem ZfI(x a b:Int):Xb x a b=some (decide (a≤x)&&decide (x≤b)):=by
  unfold Xb
  by_cases h1:a≤x<;>simp [h1,gd]
theorem ZjT(x a b:Int):JQ x a b=some (!(decide (a≤x)&&decide (x≤b))):=by
  rw [←Zsn]
  unfold JQ
  by_cases h1:x<a<;>simp [h1,gd]
theorem ZrS(m:api_Memory):ZcS m=Q5 m:=by
  have hb:Zbl m=QH m:=by
    funext i
    unfold Zbl QH Jq
    simp only [Option.bind_some,ZfI,ZjT]
  unfold ZcS Q5
  rw [hb]
  simp only [ZfI,ZjT]
  generalize (decide (1≤m.Slots)&&decide (m.Slots≤64))=A
  generalize (decide (1≤m.Limit)&&decide (m.Limit≤1000000))=B
  generalize (decide ((2:Int)≤(m.Sectors.length:Int))&&decide ((m.Sectors.length:Int)≤64))=C
  cases A<;>cases B<;>cases C<;>simp [gd]
theorem ZsC(m:api_Memory): ∃ c,Q5 m=some c∧(c=0→MemOK m)∧(MemOK m→c=0):=by
  unfold Q5
  simp only [ZfI,Option.bind_some]
  by_cases hA:1≤m.Slots∧m.Slots≤64
  · by_cases hB:1≤m.Limit∧m.Limit≤1000000
    · by_cases hC:2≤m.Sectors.length∧m.Sectors.length≤64
      · by_cases hD:m.Wear.length=m.Sectors.length∧m.Bad.length=m.Sectors.length
        · obtain⟨r,h1,h2⟩:=Zm4 (body:=QH m) (N:=m.Sectors.length) (fun k=> ∀ j,j<k→((m.Sectors.getD j []).length:Int)=16+m.Slots*97∧0≤m.Wear.getD j 0∧m.Wear.getD j 0≤m.Limit)
            (fun r=>(∃ e,r= .inl e∧e≠0∧ ¬MemOK m)∨(r= .inr ()∧ ∀ j,j<m.Sectors.length→((m.Sectors.getD j []).length:Int)=16+m.Slots*97∧0≤m.Wear.getD j 0∧m.Wear.getD j 0≤m.Limit)) (fun k hk hI=>by
              unfold QH Jq
              have gS:=Zbt (s:=m.Sectors) hk []
              have gW:=Zbt (s:=m.Wear) (k:=k) (by omega) 0
              rw [if_pos (by simpa using hk),Zw gS,Option.bind_some,show i64 (m.Slots*97)=m.Slots*97 from ZL (by omega) (by omega),show i64 (16+m.Slots*97)=16+m.Slots*97 from ZL (by omega) (by omega),Option.bind_some,
                Zw gW,Option.bind_some,ZfI,Option.bind_some,show i64 ((k:Int)+1)=(k:Int)+1 from ZL (by omega) (by omega)]
              by_cases q:((m.Sectors.getD k []).length:Int)=16+m.Slots*97
              · rw [if_neg (by simpa using q)]
                by_cases q2:0≤m.Wear.getD k 0∧m.Wear.getD k 0≤m.Limit
                · left
                  rw [if_neg (by simpa using q2)]
                  refine⟨rfl,fun j hj=> ?_⟩
                  by_cases e:j=k
                  · subst e;exact⟨q,q2⟩
                  · exact hI j (by omega)
                · right
                  exact⟨_,by rw [if_pos (by rw [Bool.not_eq_true',Bool.and_eq_false_iff,decide_eq_false_iff_not,decide_eq_false_iff_not];omega)],.inl ⟨9,rfl,by decide,fun w=>q2 (w.wr _ (ZdR (by omega)))⟩⟩
              · right
                exact⟨_,by rw [if_pos (by simpa using q)],.inl ⟨3,rfl,by decide,fun w=>q (w.row _ (List.mem_of_getElem? gS))⟩⟩)
            (fun hI=>⟨.inr (),by unfold QH;rw [if_neg (by simp)],.inr ⟨rfl,hI⟩⟩) (fun j hj=>absurd hj (Nat.not_lt_zero _))
          have hw1:((m.Wear.length:Int)=(m.Sectors.length:Int)):=by omega
          have hw2:((m.Bad.length:Int)=(m.Sectors.length:Int)):=by omega
          have hc1:(2:Int)≤(m.Sectors.length:Int):=by omega
          have hc2:(m.Sectors.length:Int)≤64:=by omega
          simp only [decide_eq_true hA.1,decide_eq_true hA.2,decide_eq_true hB.1,decide_eq_true hB.2,decide_eq_true hc1,decide_eq_true hc2,decide_eq_true hw1,decide_eq_true hw2,Bool.and_self,Bool.not_true,Bool.or_self,gd,beq_self_eq_true,if_true,Option.bind_some,Bool.false_eq_true,if_false]
          rw [h1]
          rcases h2 with ⟨e,rfl,he,hno⟩ | ⟨rfl,hall⟩
          · exact⟨e,rfl,fun q=>absurd q he,fun w=>absurd w hno⟩
          · refine⟨0,rfl,fun _=>⟨hA,hB,hC,hD.1,hD.2,fun s hs=> ?_,fun x hx=> ?_⟩,fun _=>rfl⟩
            · obtain⟨j,hj,rfl⟩:=List.getElem_of_mem hs
              have:=(hall j hj).1
              rwa [List.getD_eq_getElem?_getD,List.getElem?_eq_getElem hj] at this
            · obtain⟨j,hj,rfl⟩:=List.getElem_of_mem hx
              have:=(hall j (by omega)).2
              rwa [List.getD_eq_getElem?_getD,List.getElem?_eq_getElem hj] at this
        · refine⟨2,?_,fun q=>by simp at q,fun w=>absurd ⟨w.wear,w.bad⟩ hD⟩
          have hc1:(2:Int)≤(m.Sectors.length:Int):=by omega
          have hc2:(m.Sectors.length:Int)≤64:=by omega
          simp only [decide_eq_true hA.1,decide_eq_true hA.2,decide_eq_true hB.1,decide_eq_true hB.2,decide_eq_true hc1,decide_eq_true hc2,Bool.and_self,Bool.not_true,Bool.or_self,gd,beq_self_eq_true,if_true,Option.bind_some,Bool.false_eq_true,if_false]
          rw [if_pos]
          simp;omega
      · refine⟨9,?_,fun q=>by simp at q,fun w=>absurd w.n hC⟩
        have hc:(decide ((2:Int)≤(m.Sectors.length:Int))&&decide ((m.Sectors.length:Int)≤64))=false:=by simp;omega
        simp only [decide_eq_true hA.1,decide_eq_true hA.2,decide_eq_true hB.1,decide_eq_true hB.2,hc,Bool.and_self,Bool.not_true,Bool.or_self,gd,beq_self_eq_true,if_true,Option.bind_some]
        simp
    · refine⟨9,?_,fun q=>by simp at q,fun w=>absurd w.limit hB⟩
      have hc:(decide (1≤m.Limit)&&decide (m.Limit≤1000000))=false:=by simpa using hB
      simp [decide_eq_true hA.1,decide_eq_true hA.2,hc,gd]
  · refine⟨9,?_,fun q=>by simp at q,fun w=>absurd w.slots hA⟩
    have hc:(decide (1≤m.Slots)&&decide (m.Slots≤64))=false:=by simpa using hA
    simp [hc,gd]
end Go.Vx

namespace Go.Vx
open Go Go.RowKit
end Go.Vx

namespace Go.Vx
open Go Go.RowKit
theorem Zrp:Zev=ring_checkAll_L1:=by
  funext l i
  unfold Zev ring_checkAll_L1
  simp only [ZrS]
theorem ZsI(l:List api_Memory): ∃ c,Jn l=some c∧ZiF l=some c∧(c=0→(1≤l.length∧l.length≤8)∧ ∀ m∈l,MemOK m)∧(((1≤l.length∧l.length≤8)∧ ∀ m∈l,MemOK m)→c=0):=by
  unfold Jn ZiF
  rw [ZfI,Zrp]
  simp only [Option.bind_some]
  by_cases h:1≤l.length∧l.length≤8
  · have a1:((1:Int)≤(l.length:Int)):=by omega
    have a2:((l.length:Int)≤8):=by omega
    have a3: ¬((l.length:Int)=0):=by omega
    have a4: ¬(8<(l.length:Int)):=by omega
    simp only [decide_eq_true a1,decide_eq_true a2,decide_eq_false a3,decide_eq_false a4,Bool.and_self,Bool.not_true,Bool.or_self,Bool.false_eq_true,if_false]
    obtain⟨r,h1,h2⟩:=Zm4 (body:=ring_checkAll_L1 l) (N:=l.length) (fun k=> ∀ j,j<k→ ∀ m,l[j]?=some m→MemOK m)
      (fun r=>(∃ e,r= .inl e∧e≠0∧ ¬ ∀ m∈l,MemOK m)∨(r= .inr ()∧ ∀ m∈l,MemOK m)) (fun k hk hI=>by
        obtain⟨m,hm⟩:=ZF hk
        obtain⟨c,c1,c2,c3⟩:=ZsC m
        unfold ring_checkAll_L1
        rw [if_pos (by simpa using hk),Zw hm,Option.bind_some,c1,Option.bind_some,show i64 ((k:Int)+1)=(k:Int)+1 from ZL (by omega) (by omega)]
        by_cases q:c=0
        · left
          refine⟨by rw [if_neg (by simp [q])],fun j hj m' hm'=> ?_⟩
          by_cases e:j=k
          · subst e;rw [hm] at hm';cases hm';exact c2 q
          · exact hI j (by omega) m' hm'
        · right
          exact⟨_,by rw [if_pos (by simp [q])],.inl ⟨c,rfl,q,fun w=>q (c3 (w m (List.mem_of_getElem? hm)))⟩⟩) (fun hI=>⟨.inr (),by unfold ring_checkAll_L1;rw [if_neg (by simp)],.inr ⟨rfl,fun m hm=>by
        obtain⟨j,hj,e⟩:=List.getElem_of_mem hm
        exact hI j hj m (by rw [List.getElem?_eq_getElem hj,e])⟩⟩) (fun j hj=>absurd hj (Nat.not_lt_zero _))
    rw [h1]
    rcases h2 with ⟨e,rfl,he,hno⟩ | ⟨rfl,hall⟩
    · exact⟨e,rfl,rfl,fun q=>absurd q he,fun w=>absurd w.2 hno⟩
    · exact⟨0,rfl,rfl,fun _=>⟨h,hall⟩,fun _=>rfl⟩
  · have a1:(decide ((1:Int)≤(l.length:Int))&&decide ((l.length:Int)≤8))=false:=by simp;omega
    have a2:(decide ((l.length:Int)=0) || decide (8<(l.length:Int)))=true:=by rw [Bool.or_eq_true,decide_eq_true_eq,decide_eq_true_eq];omega
    rw [a1,a2]
    exact⟨3,by simp,by simp,fun q=>by simp at q,fun w=>absurd w.1 h⟩
theorem Zjj{α:Type}{n:Nat}{body:List α→Int→Option ((List α×Int) ⊕ List α)}(g:Nat→List α){c B:Nat}(acc0:List α)(hB:acc0.length+n*c≤B)(hg: ∀ k,k<n→(g k).length≤c)
    (h: ∀ (k:Nat) acc,k<n→acc.length+c≤B→body acc (k:Int)=some (.inl (acc++g k,(k:Int)+1))) (hend: ∀ acc,body acc (n:Int)=some (.inr acc)):
    loop (t2 body) (acc0,0)=some (acc0++(List.range n).flatMap g):=by
  obtain⟨r,h1,h2⟩:=Xj (body:=body) (s0:=acc0) (N:=n) (fun k acc=>acc=acc0++(List.range k).flatMap g∧acc.length≤acc0.length+k*c) (fun r=>r=acc0++(List.range n).flatMap g) (fun k acc hk hI=> .inl (by
    have e:(k+1)*c≤n*c:=Nat.mul_le_mul_right _ hk
    rw [Nat.add_mul] at e
    refine⟨acc++g k,h k acc hk (by omega),?_,?_⟩
    · rw [List.range_succ,List.flatMap_append,←List.append_assoc,←hI.1];simp
    · have:=hg k hk
      rw [List.length_append,Nat.add_mul];omega)) (fun acc hI=>⟨acc,hend acc,hI.1⟩) ⟨by simp,by omega⟩
  rw [h1,h2]
theorem Zjp{α β:Type}{l:List α}{g:α→List β}{c:Nat}(h: ∀ x∈l,(g x).length≤c):(l.flatMap g).length≤l.length*c:=by
  induction l with
  |nil=>simp
  |cons x l ih=>
    have h1:=h x (List.mem_cons_self ..)
    have h2:=ih fun y hy=>h y (List.mem_cons_of_mem _ hy)
    rw [List.flatMap_cons,List.length_append,List.length_cons,Nat.add_mul];omega
theorem Zmd{α β:Type}(l:List α)(d:α)(g:α→List β):(List.range l.length).flatMap (fun k=>g (l.getD k d))=l.flatMap g:=by
  induction l with
  |nil=>rfl
  |cons x l ih=>
    rw [List.length_cons,List.range_succ_eq_map,List.flatMap_cons,List.flatMap_map,List.flatMap_cons]
    congr 1
noncomputable def ZgT(m:api_Memory):List Int:=(JT m).getD []
theorem Zrf{m:api_Memory}(hm:ZhC m)(ok:MemOK m):JT m=some (ZgT m)∧Zeh m=some (ZgT m)∧(ZgT m).Perm (hdM m m.Sectors.length)∧Srt (ZdO m) (ZgT m):=by
  obtain⟨l,a1,a2,a3,a4⟩:=Zp1 hm ok.n.2 ok.bad
  have:ZgT m=l:=by unfold ZgT;rw [a1];rfl
  rw [this]
  exact⟨a1,a2,a3,a4⟩
theorem Znc{m:api_Memory}(hm:ZhC m)(ok:MemOK m):(ZgT m).length≤64∧ ∀ i∈ZgT m,0≤i∧i<m.Sectors.length:=by
  obtain⟨_,_,p,_⟩:=Zrf hm ok
  refine⟨by rw [p.length_eq];have:=Zg7 m m.Sectors.length;have:=ok.n;omega,fun i hi=>ZiI m _ i (p.mem_iff.1 hi)⟩
def frV(s:List Int)(j:Nat):Vector Int 64:=Zio (ZdX (ZfC s j))
def Zj6(m:api_Memory)(mi i:Int):List api_Kept:=(List.range m.Slots.toNat).flatMap fun j=>if stV (ZfC (m.Sectors.getD i.toNat []) j)=1 then [api_Kept.mk mi i (Zbk (m.Sectors.getD i.toNat [])).1 (j:Int) (frV (m.Sectors.getD i.toNat []) j)] else []
def dfM:api_Memory:=⟨0,0,[],[],[]⟩
noncomputable def Zke(m:api_Memory)(mi:Int):List api_Kept:=(ZgT m).flatMap (Zj6 m mi)
noncomputable def ZnL(l:List api_Memory):List api_Kept:=(List.range l.length).flatMap fun k=>Zke (l.getD k dfM) (k:Int)
theorem ZjR{m:api_Memory}(ok:MemOK m)(mi i:Int):(Zj6 m mi i).length≤64:=by
  have:=Zjp (l:=List.range m.Slots.toNat) (c:=1) (g:=fun j=>if stV (ZfC (m.Sectors.getD i.toNat []) j)=1 then [api_Kept.mk mi i (Zbk (m.Sectors.getD i.toNat [])).1 (j:Int) (frV (m.Sectors.getD i.toNat []) j)] else []) (fun x _=>by split<;>simp)
  have h:=ok.slots
  rw [List.length_range] at this
  unfold Zj6;omega
theorem Zj9{m:api_Memory}(hm:ZhC m)(ok:MemOK m)(mi:Int):(Zke m mi).length≤4096:=by
  have:=Zjp (l:=ZgT m) (c:=64) (g:=Zj6 m mi) (fun x _=>ZjR ok mi x)
  have:=(Znc hm ok).1
  unfold Zke;omega
theorem Zrt{m:api_Memory}(ok:MemOK m){i:Nat}(hi:i<m.Sectors.length){j:Nat}(hj:(j:Int)<m.Slots):(m.Sectors.getD i []).length≤7000∧16+j*97+97≤(m.Sectors.getD i []).length:=by
  have h:=ok.row _ (getD_memL hi)
  have:=ok.slots
  omega
where
  getD_memL {α:Type} {l:List (List α)} {i:Nat} (h:i<l.length):l.getD i []∈l:=by
    rw [List.getD_eq_getElem?_getD,List.getElem?_eq_getElem h];exact List.getElem_mem h
theorem ZrW{m:api_Memory}(hm:ZhC m)(ok:MemOK m){mi:Int}{i:Nat}(hi:i<m.Sectors.length)(acc:List api_Kept)(ha:acc.length≤40000):
    loop (t2 (Zax mi m (i:Int) (Zbk (m.Sectors.getD i [])))) (acc,0)=some (acc++Zj6 m mi (i:Int)):=by
  have hs:=ok.slots
  refine Zjj (n:=m.Slots.toNat) (c:=1) (B:=40064) _ acc (by omega) (fun k _=>by split<;>simp) (fun k a hk hl=> ?_) (fun a=> ?_)
  · obtain⟨b1,b2⟩:=Zrt ok hi (j:=k) (by omega)
    have hd:=Zbt (s:=m.Sectors) hi []
    obtain⟨v,hv,hvl⟩:=Zoy (by omega) b2
    have h97:=Znz b2
    unfold Zax
    rw [if_pos (by simp;omega),Zw hd,Option.bind_some,hv,Option.bind_some,ZnG hvl h97,Option.bind_some,show i64 ((k:Int)+1)=(k:Int)+1 from ZL (by omega) (by omega)]
    simp only [Int.toNat_natCast]
    by_cases q:stV (ZfC (m.Sectors.getD i []) k)=1
    · rw [if_pos (by simpa using q),if_pos q,hvl,show slc (ZfC (m.Sectors.getD i []) k) 0 (97:Int)=some (ZfC (m.Sectors.getD i []) k) from(ZgD (a:=0) (b:=97) (by omega) (by omega)).trans (by rw [List.take_of_length_le (by omega),List.drop_zero]),Option.bind_some,
        (Zp0 (Zpg (Zhy hm i) k) (by omega)).1,Option.bind_some,Zhx (by simp;omega),Option.bind_some]
      rfl
    · rw [if_neg (by simpa using q),if_neg q,List.append_nil]
  · unfold Zax
    rw [if_neg (by simp;omega)]
theorem ZrV{m:api_Memory}(hm:ZhC m)(ok:MemOK m){mi:Int}(acc:List api_Kept)(ha:acc.length≤35000):
    loop (t2 (Zaz mi m (ZgT m))) (acc,0)=some (acc++Zke m mi):=by
  obtain⟨l1,l2⟩:=Znc hm ok
  have e:Zke m mi=(List.range (ZgT m).length).flatMap fun k=>Zj6 m mi ((ZgT m).getD k 0):=(Zmd _ 0 _).symm
  rw [e]
  refine Zjj (n:=(ZgT m).length) (c:=64) (B:=39200) _ acc (by omega) (fun k _=>ZjR ok _ _) (fun k a hk hl=> ?_) (fun a=> ?_)
  · have hd:=Zbt hk 0
    have hb:=l2 _ (ZdR hk)
    unfold Zaz
    rw [if_pos (by simpa using hk),Zw hd,Option.bind_some]
    obtain⟨i,hi⟩:=Int.eq_ofNat_of_zero_le hb.1
    rw [hi,Zw (Zbt (s:=m.Sectors) (k:=i) (by omega) []),Option.bind_some,ZmL (Zhy hm i),Option.bind_some,ZrW hm ok (by omega) a (by omega),Option.bind_some,Z8,show i64 ((k:Int)+1)=(k:Int)+1 from ZL (by omega) (by omega)]
  · unfold Zaz
    rw [if_neg (by simp)]
theorem Zni{l:List api_Memory}{k:Nat}(h:k<l.length):l.getD k dfM∈l∧l[k]?=some (l.getD k dfM):=by
  rw [List.getD_eq_getElem?_getD,List.getElem?_eq_getElem h]
  exact⟨List.getElem_mem h,rfl⟩
theorem Zot{l:List api_Memory}(hl:l.length≤8)(hR: ∀ m∈l,ZhC m)(hO: ∀ m∈l,MemOK m):(ZnL l).length≤32768:=by
  have:=Zjp (l:=List.range l.length) (c:=4096) (g:=fun k=>Zke (l.getD k dfM) (k:Int)) (fun k hk=>by
    have:=Zni (List.mem_range.1 hk)
    exact Zj9 (hR _ this.1) (hO _ this.1) _)
  rw [List.length_range] at this
  unfold ZnL;omega
theorem ZrJ{l:List api_Memory}(hR: ∀ m∈l,ZhC m): ∃ c,Jn l=some c∧Zca l=some (if c=0 then ZnL l else [],c)∧(c=0→(1≤l.length∧l.length≤8)∧ ∀ m∈l,MemOK m):=by
  obtain⟨c,c1,c2,c3,c4⟩:=ZsI l
  refine⟨c,c1,?_,c3⟩
  unfold Zca
  rw [c1]
  simp only [Option.bind_some]
  by_cases q:c=0
  · obtain⟨hl,hO⟩:=c3 q
    rw [if_pos q,if_neg (by simp [q])]
    have A:loop (t2 (Zat l)) ([],0)=some ([]++ZnL l):=by
      refine Zjj (n:=l.length) (c:=4096) (B:=35000) _ [] (by simp;omega) (fun k hk=>Zj9 (hR _ (Zni hk).1) (hO _ (Zni hk).1) _) (fun k a hk hb=> ?_) (fun a=> ?_)
      · obtain⟨g1,g2⟩:=Zni hk
        unfold Zat
        rw [if_pos (by simpa using hk),Zw g2,Option.bind_some,(Zrf (hR _ g1) (hO _ g1)).1,Option.bind_some,ZrV (hR _ g1) (hO _ g1) a (by omega),Option.bind_some,Z8,show i64 ((k:Int)+1)=(k:Int)+1 from ZL (by omega) (by omega)]
      · unfold Zat
        rw [if_neg (by simp)]
    rw [A]
    simp only [Option.bind_some,Z8,List.nil_append]
    rw [q]
  · rw [if_neg q,if_pos (by simp [q])]
end Go.Vx

namespace Go.Vx
open Go Go.RowKit
set_option maxHeartbeats 1000000
def goodP(p:api_Piece):Prop:=u8L p.Bytes∧Zdq p=0
theorem goodP.wf{p:api_Piece}(h:goodP p):JO p:=⟨⟨by have:=(Zgq h.2).1;omega,fun y hy=>ZsD (h.1 y hy)⟩,trivial,trivial⟩
theorem Zte{H:List Int}(hH0:hL H){f t:Nat}(hft:f<t)(ht:t≤H.length)(hs:(pk (Zdx H f t)).length≤200000):goodP ⟨pk (Zdx H f t),decide (f % 2=1)⟩:=by
  have hH:=ZqS hH0 f t
  have hpl:(Zdx H f t).length=f % 2+(t-f):=ZiJ (by omega) ht
  have hpkl:(pk (Zdx H f t)).length=(f % 2+(t-f)+1)/2:=by unfold pk;rw [List.length_map,List.length_range,hpl]
  refine⟨?_,?_⟩
  · intro x hx
    obtain⟨k,_,rfl⟩:=List.mem_map.1 hx
    have b1:=ZfW hH (2*k)
    have b2:=ZfW hH (2*k+1)
    omega
  · unfold Zdq
    rw [if_neg (by simp only;omega)]
    by_cases ho:f % 2=1
    · have hlow:Zku (pk (Zdx H f t))=true:=by
        obtain⟨x,hx⟩:=ZF (xs:=pk (Zdx H f t)) (k:=0) (by rw [hpkl];omega)
        have hg:(pk (Zdx H f t))[0]?=some (16*(Zdx H f t).getD (2*0) 0+(Zdx H f t).getD (2*0+1) 0):=by
          unfold pk;rw [List.getElem?_map,List.getElem?_range (by rw [hpl];omega)];rfl
        have e0:(Zdx H f t).getD (2*0) 0=0:=by rw [Zi7,if_pos ⟨ho,rfl⟩]
        have b2:=ZfW hH (2*0+1)
        rw [e0] at hg
        generalize (Zdx H f t).getD (2*0+1) 0=z at hg b2
        cases hq:pk (Zdx H f t) with
        |nil=>rw [hq] at hg;cases hg
        |cons y tl=>rw [hq] at hg;simp at hg;simp only [Zku];subst hg;simp;omega
      rw [hlow];simp
    · simp [ho]
theorem ZqF{b:List Int}(hu:u8L b)(hl:b.length≤3186688){cuts:List Int}(hc:cuts.length≤199)(ho:Zma cuts (hvB b).length):
    ∃ r:(List api_Piece×Int) ⊕ List api_Piece,loop (t4 (QA cuts)) (b,[],0,0)=some r∧(∀ q,r= .inl q→q.1= [])∧(∀ q,r= .inr q→q.length≤200∧ ∀ p∈q,goodP p):=by
  have hlen:(hvB b).length=2*b.length:=ZeR b
  have main: ∀ (n k:Nat) (out:List api_Piece) (f:Nat),n+k=cuts.length+1→out.length≤k→(∀ p∈out,goodP p)→f≤2*b.length→
      ∃ r:(List api_Piece×Int) ⊕ List api_Piece,loop (t4 (QA cuts)) (b,out,(f:Int),(k:Int))=some r∧(∀ q,r= .inl q→q.1= [])∧(∀ q,r= .inr q→q.length≤200∧ ∀ p∈q,goodP p):=by
    intro n
    induction n with
    |zero=>
      intro k out f hn hout hg hf
      refine⟨.inr out,?_,(fun q h=>by cases h),(fun q h=>by cases h;exact⟨by omega,hg⟩)⟩
      rw [Zei]
      show((QA cuts b out (f:Int) (k:Int)).bind _)=_
      have hS:QA cuts b out (f:Int) (k:Int)=some (.inr (.inr out)):=by
        unfold QA
        rw [ZY (by omega) (by omega),if_neg (by simp;omega)]
      rw [hS];rfl
    |succ n ih=>
      intro k out f hn hout hg hf
      obtain⟨t,ht,h1⟩: ∃ t:Nat,t≤2*b.length∧((if(decide ((k:Int)<(cuts.length:Int)))=true then(idx cuts (k:Int)).bind fun x5=>some x5 else some (i64 (2*(b.length:Int)))):Option Int)=some (t:Int):=by
        by_cases hk:k<cuts.length
        · obtain⟨x,hx⟩:=ZF hk
          have hb:=ho k x hx
          obtain⟨t,rfl⟩: ∃ t:Nat,x=t:=⟨x.toNat,by omega⟩
          exact⟨t,by omega,by rw [if_pos (by simp;omega),Zw hx,Option.bind_some]⟩
        · exact⟨2*b.length,Nat.le_refl _,by rw [if_neg (by simp;omega),ZY (by omega) (by omega)];push_cast;rfl⟩
      have ei:i64 ((k:Int)+1)=((k+1:Nat):Int):=by rw [ZY (by omega) (by omega)];push_cast;rfl
      have hS0:QA cuts b out (f:Int) (k:Int)=if(decide ((f:Int)<(t:Int)))=true then(Zb3 b (f:Int) (t:Int)).bind fun y2=>if(decide (200000<(y2.Bytes.length:Int)))=true then some (.inr (.inl ([],3))) else(app out ([y2]:List api_Piece)).bind fun l3=>some (.inl (b,l3,(t:Int),((k+1:Nat):Int))) else some (.inl (b,out,(t:Int),((k+1:Nat):Int))):=by
        unfold QA
        rw [ZY (z:=(cuts.length:Int)+1) (by omega) (by omega),if_pos (by simp;omega),h1,Option.bind_some,Z8,ei]
      rw [Zei (t4 _)]
      show ∃ r,((QA cuts b out (f:Int) (k:Int)).bind _)=_∧_
      rw [hS0]
      by_cases hft:f<t
      · have hd:decide ((f:Int)<(t:Int))=true:=by rw [decide_eq_true_eq];omega
        have hpg:(⟨pk (Zdx (hvB b) f t),decide (f % 2=1)⟩:api_Piece).Bytes.length≤200000→goodP ⟨pk (Zdx (hvB b) f t),decide (f % 2=1)⟩:=Zte (Zl8 hu) hft (by omega)
        rw [hd,if_pos rfl,ZsS hu (by omega) hft ht,Option.bind_some]
        generalize (⟨pk (Zdx (hvB b) f t),decide (f % 2=1)⟩:api_Piece)=pc at hpg ⊢
        by_cases hbig:(200000:Int)<(pc.Bytes.length:Int)
        · rw [decide_eq_true hbig,if_pos rfl]
          exact⟨.inl ([],3),rfl,(fun q h=>by cases h;rfl),(fun q h=>by cases h)⟩
        · rw [decide_eq_false hbig,if_neg Bool.false_ne_true,Xk (by simp;omega),Option.bind_some]
          refine ih (k+1) (out++ [pc]) t (by omega) (by simp;omega) (fun p hp=> ?_) ht
          rcases List.mem_append.1 hp with hp |hp
          · exact hg p hp
          · rw [List.mem_singleton.1 hp];exact hpg (by omega)
      · have hd:decide ((f:Int)<(t:Int))=false:=by rw [decide_eq_false_iff_not];omega
        rw [hd,if_neg Bool.false_ne_true]
        exact ih (k+1) out t (by omega) (by omega) hg ht
  exact main (cuts.length+1) 0 [] 0 (by omega) (by simp) (fun p hp=>by cases hp) (by omega)
theorem Zny{l:List api_Memory}{cuts:List Int}(hw: ∀ m∈l,JZ m): ∃ r:List api_Piece×Int,ZaT l cuts=some r∧r.1.length≤200∧ ∀ p∈r.1,goodP p:=by
  obtain⟨r0,hr,hr0⟩:=ZrG hw
  have nil: ∀ e:Int,(([]:List api_Piece),e).1.length≤200∧ ∀ p∈(([]:List api_Piece),e).1,goodP p:=fun e=>⟨by simp,fun p hp=>by cases hp⟩
  unfold ZaT
  rw [hr,Option.bind_some]
  by_cases h0:r0=0
  · rw [decide_eq_true h0,if_neg (by decide)]
    by_cases hc:(199:Int)<(cuts.length:Int)
    · rw [if_pos (by simpa using hc)]
      exact⟨_,rfl,nil _⟩
    · rw [if_neg (by simpa using hc)]
      have hl:=hr0 h0
      have hal:=ZoJ hl
      have hau:=Zsq hw
      rw [ZsO hl,Option.bind_some,Z8]
      obtain⟨q,q1,_,q3,q4⟩:=ZrX (cuts:=cuts) (by omega) (all:=Zl7 l) (H:=hvB (Zl7 l)) (ZeR _) hal
      rw [q1,Option.bind_some]
      cases q with
      |inl q=>
        refine⟨q,rfl,?_⟩
        rw [q4 q rfl];exact nil 0
      |inr u=>
        obtain⟨r,s1,s3,s4⟩:=ZqF hau hal (cuts:=cuts) (by omega) (q3 rfl)
        show ∃ r,((loop (t4 (QA cuts)) (Zl7 l,[],0,0)).bind _=some r)∧_
        rw [s1,Option.bind_some]
        cases r with
        |inl q=>
          refine⟨q,rfl,?_⟩
          rw [s3 q rfl];exact nil 0
        |inr q=>exact⟨(q,0),rfl,s4 q rfl⟩
  · rw [if_pos (by simp [h0])]
    exact⟨_,rfl,nil _⟩
theorem ZqJ{p:api_Piece}(hw:JO p)(h:Zdq p=0):GR (RA (hv p) (Zdg (scL (hv p) ((hv p).length-191))) (Zdg (scL (hv p) ((hv p).length-191))).length) (Zdh p):=by
  have hH:hL (hv p):=ZlN (Zjs hw)
  have hl:=Zka h
  have hC:=cok hH hl
  have h1:=Zia hH hl
  generalize Zdg (scL (hv p) ((hv p).length-191))=C at hC h1 ⊢
  obtain⟨l,e1,e2⟩:=ZmZ hC
  have hok:=Zq2 hC
  have hok':LOK l:=⟨by rw [e2.length_eq];exact hok.len,fun r hr=>hok.nar r (e2.mem_iff.1 hr),fun r hr=>hok.cop r (e2.mem_iff.1 hr)⟩
  obtain⟨out,g1,g2,g3⟩:=ZeV hok' e2
  have hr:XZ (hv p)=some out:=by
    unfold XZ
    rw [h1,Option.bind_some,e1,Option.bind_some,Z8,g1];rfl
  have ho:Zdh p=out:=by unfold Zdh;rw [hr];rfl
  rw [ho]
  obtain⟨out',g4,g5⟩:=ZjW hok
  have:=GR.uniq e2 g3 g5
  subst this
  exact g5
theorem Zsl{y:List api_Rest}{o:List api_Rest×Int}(h:tlS y=some o)(h0:o.2=0):o.1=y.map md:=by
  unfold tlS at h
  obtain⟨a,_,h⟩:=Option.bind_eq_some_iff.1 h
  obtain⟨b,_,h⟩:=Option.bind_eq_some_iff.1 h
  split at h
  · cases h;exact absurd h0 (by decide)
  · cases h;rfl
theorem Zsb{o:api_Rest}{F:Vector Int 64}(h:Has F o):md o=o:=by
  have:Xy o=some o:=by
    unfold Xy
    rcases h with h | ⟨h,_⟩
    · rw [if_pos (by simp [h])]
    · rw [if_pos (by simp [h])]
  unfold md;rw [this];rfl
theorem Zmo(l:List api_Memory)(cuts:List Int)(hl:wfL JZ l):Xx l cuts=some true:=by
  have hR: ∀ m∈l,ZhC m:=fun m hm s hs x hx=>by
    have:=((hl.2 m hm).2.2.1.2 s hs).2 x hx
    have:=(by simpa [wfI,Lit.wf] using this:IntKind.u8.min≤x∧x≤IntKind.u8.max)
    exact⟨this.1,this.2⟩
  obtain⟨c,_,r1,r3⟩:=ZrJ hR
  unfold Xx
  rw [Zok,Option.bind_some,if_neg (by decide),r1,Option.bind_some]
  by_cases hc:c=0
  rotate_left
  · rw [if_pos (by simp [hc])]
  rw [if_neg (by simp [hc]),if_pos hc]
  obtain⟨c1,c2⟩:=r3 hc
  have hlen:=Zot c1.2 hR c2
  obtain⟨pr,p1,pl,pg⟩:=Zny (cuts:=cuts) hl.2
  rw [p1,Option.bind_some]
  by_cases hp:pr.2=0
  rotate_left
  · rw [if_pos (by simpa using hp)]
  rw [if_neg (by simp [hp])]
  have hwl:wfL JO pr.1:=⟨by omega,fun p hp=>(pg p hp).wf⟩
  obtain⟨out,g1,g2,_,g4⟩:=ZnU hwl pl (fun p hp=>(pg p hp).2)
  obtain⟨o,t1',t2'⟩:=Zs8 g4
  rw [g2,t1',Option.bind_some]
  rcases Ztm t1' with h0 |h3
  rotate_left
  · rw [h3];rfl
  rw [if_neg (by simp [h0])]
  have ho:o.1=out.map md:=Zsl t1' h0
  have hL3: ∀ (x:api_Kept) (C:List api_Found),C.length≤1000000→ ∀ w:Bool,∃ w':Bool,loop (t2 (Qw x (C,0))) (w,0)=some w'∧(w'=true→w=true∨ ∃ y∈C,y.Frame=x.Frame):=fun x C hC w=>
    Xj (body := Qw x (C, 0)) (N := C.length) (fun _ s => s = true → w = true ∨ ∃ y ∈ C, y.Frame = x.Frame) _ (fun k s hk hI => by
      left
      obtain⟨y,hy⟩:=ZF hk
      refine⟨s || decide (y.Frame=x.Frame),?_,fun ht=> ?_⟩
      · unfold Qw
        rw [if_pos (by simp;omega),Zw hy,Option.bind_some,Xt hk (by omega)]
      · rw [Bool.or_eq_true,decide_eq_true_eq] at ht
        rcases ht with ht |ht
        · exact hI ht
        · exact .inr ⟨y,List.mem_of_getElem? hy,ht⟩)
      (fun s hI=>⟨s,by unfold Qw;rw [if_neg (by simp)],hI⟩) (fun h=> .inl h)
  have hL2: ∀ x:api_Kept,∃ r,loop (t2 (Qu pr x)) (false,0)=some r∧ ∃ w:Bool,r=(.inr w:Bool ⊕ Bool)∧(w=true→ ∃ p∈pr.1,∃ y∈Zdg (scL (hv p) ((hv p).length-191)),y.Frame=x.Frame):=fun x=>
    Xj (body := Qu pr x) (N := pr.1.length) (fun _ w => w = true → ∃ p ∈ pr.1, ∃ y ∈ Zdg (scL (hv p) ((hv p).length - 191)), y.Frame = x.Frame) _ (fun k w hk hI => by
      left
      obtain⟨p,hp⟩:=ZF hk
      have hm:=List.mem_of_getElem? hp
      obtain⟨q1,q2⟩:=pg p hm
      have hql:=Zka q2
      have hcl:(Zdg (scL (hv p) ((hv p).length-191))).length≤1000000:=by
        have h1:=Zhi (scL (hv p) ((hv p).length-191)) (scL (hv p) ((hv p).length-191)).length
        have h2:=ZfZ (hv p) ((hv p).length-191)
        unfold Zdg
        omega
      obtain⟨w',e1,e2⟩:=hL3 x _ hcl w
      refine⟨w',?_,fun ht=> ?_⟩
      · unfold Qu
        rw [if_pos (by simp;omega),Zw hp,Option.bind_some,ZmE q1 q2,Option.bind_some,if_neg (by simp),e1,Option.bind_some,Option.bind_some,Sum.elim_inr,Z8,Xt hk (by omega)]
      · rcases e2 ht with h | ⟨y,hy,e⟩
        · exact hI h
        · exact⟨p,hm,y,hy,e⟩)
      (fun w hI=>⟨_,by unfold Qu;rw [if_neg (by simp)],w,rfl,hI⟩) (fun h=>by cases h)
  have hL4: ∀ (x:api_Kept) (n:Int×Bool),loop (t2 (Qt o x n)) (false,0)=some (o.1.any fun r=>decide (r.Number=n.1)&&(r.Conflict || (r.Sound&&decide (r.Frame=x.Frame)))):=fun x n=>by
    obtain⟨r,e1,e2⟩:=Xj (body:=Qt o x n) (N:=o.1.length) (fun k s=>s=(o.1.take k).any fun r=>decide (r.Number=n.1)&&(r.Conflict || (r.Sound&&decide (r.Frame=x.Frame))))
      (fun r=>r=o.1.any fun r=>decide (r.Number=n.1)&&(r.Conflict || (r.Sound&&decide (r.Frame=x.Frame)))) (fun k s hk hI=>by
      left
      obtain⟨y,hy⟩:=ZF hk
      refine⟨_,by unfold Qt;rw [if_pos (by simp;omega),Zw hy,Option.bind_some,Xt hk (by omega)],?_⟩
      rw [List.take_add_one,hy,List.any_append,hI]
      simp)
      (fun s hI=>⟨s,by unfold Qt;rw [if_neg (by simp)],by rw [hI,List.take_length]⟩) (s0:=false) (by simp)
    rw [e1,e2]
  have hfound: ∀ x:api_Kept,(∃ p∈pr.1,∃ y∈Zdg (scL (hv p) ((hv p).length-191)),y.Frame=x.Frame)→ ∃ n,Zag x.Frame=some n∧(o.1.any fun r=>decide (r.Number=n.1)&&(r.Conflict || (r.Sound&&decide (r.Frame=x.Frame))))=true:=fun x ⟨p,hm,y,hy,e⟩=>by
    obtain⟨q1,q2⟩:=pg p hm
    have hC:=cok (ZlN q1) (Zka q2)
    obtain⟨k,hk⟩:=List.getElem?_of_mem hy
    obtain⟨u,w⟩:=hC.fU hk
    rw [←e]
    refine⟨Zd9 y.Frame,(Zfs u (w 1).2 (w 2).2).2,?_⟩
    have hRA:Zgs y∈RA (hv p) (Zdg (scL (hv p) ((hv p).length-191))) (Zdg (scL (hv p) ((hv p).length-191))).length:=by
      unfold RA
      refine List.mem_append.2 (.inl (List.mem_map.2 ⟨y,?_,rfl⟩))
      rw [List.take_length];exact hy
    obtain⟨o1,a1,a2,a3⟩:=Zpi (n:=nm y) (F:=y.Frame) (ZqJ (pg p hm).wf q2) ⟨Zgs y,hRA,rfl,.inr ⟨rfl,rfl⟩⟩
    obtain⟨o2,b1,b2,b3⟩:=Zpi g1 ⟨o1,List.mem_flatMap.2 ⟨p,hm,a1⟩,a2,a3⟩
    rw [List.any_eq_true]
    refine⟨o2,by rw [ho];exact List.mem_map.2 ⟨o2,b1,Zsb b3⟩,?_⟩
    have:nm y=(Zd9 y.Frame).1:=rfl
    rcases b3 with h | ⟨h1,h2⟩
    · simp [b2,this,h]
    · simp [b2,this,h1,h2]
  have hL1:=ZgL (xs:=ZnL l) (body:=QN (ZnL l,c) pr o) (fun _=>(Sum.inr ():Bool ⊕ Unit)) (fun k x hx=>by
    have hk:=(List.getElem?_eq_some_iff.1 hx).1
    left
    refine⟨?_,rfl⟩
    unfold QN
    obtain⟨_,e2,w,rfl,e3⟩:=hL2 x
    rw [if_pos (by simp;omega),Zw hx,Option.bind_some,Xt hk (by omega),e2,Option.bind_some,Sum.elim_inr,Z8]
    cases w
    · rfl
    · obtain⟨n,n1,n2⟩:=hfound x (e3 rfl)
      rw [if_neg (by decide),n1,Option.bind_some,hL4,Option.bind_some,Z8,n2]
      rfl) (by
    unfold QN
    rw [if_neg (by simp)])
  rw [hL1]
  rfl
end Go.Vx
