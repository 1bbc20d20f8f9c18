/- A text of the proof: a verified executor of the program form, or the contracts of the functions that the law reaches. -/
import Derived.Test.YtjjknklgafdeiaaGreatDoorVR
import Derived.Shelf.Slices.In.SortNone
import Derived.Test.YtjjknklgafdeiaaGreatDoorVP
import Derived.Test.YtjjknklgafdeiaaGreatDoorVM
import Derived.Test.YtjjknklgafdeiaaGreatDoorVH
import Derived.Test.YtjjknklgafdeiaaGreatDoorVK
set_option linter.all false
namespace Go.Vx
open Go Go.RowKit Go.Lib Go.Sort
def Zh1(xs:List Int):Option (List Int):=if xs.length<4611686018427387904 then some (xs.mergeSort fun x y=>decide (x≤y)) else none
theorem ZfD{xs r:List Int}(h:Zh1 xs=some r):r.length=xs.length:=by
  unfold Zh1 at h
  split at h
  · cases h;simp
  · cases h
theorem ZoD{P:Program}{gl:Gl}{f e:Nat}{xs r:List Int}{g:Int→List AV}(hg: ∀ z,g z= [.int .i64 z])(hc:callable P f=true)(he:P.cellsOf e=1)
    (C: ∀ (blk off cap:Nat) (zs:List Int) (w:World),Holds (Value.int .i64) w blk off zs.toArray→blk<w.heap.size→zs.length<4611686018427387904→
      Calls P f #[.slice (some ⟨blk,off,none⟩) zs.length cap] w fun e w'=>e= .returned (.tuple #[])∧ ∃ n os,w'=grow (putRow (Value.int .i64) (Sort.ahead w n) blk off (zs.mergeSort fun x y=>decide (x≤y)).toArray) os)
    (C0: ∀ (p:Option Addr) (cap:Nat) (w:World),Calls P f #[.slice p 0 cap] w fun e w'=>e= .returned (.tuple #[])∧w'=w)
    (h:Zh1 xs=some r):GSpec P gl f [.own 0 xs.length] [some ⟨e,xs.map g⟩] (.tuple []) [some ⟨e,r.map g⟩]:=by
  by_cases hne:xs= []
  · subst hne
    obtain rfl:r= []:=by
      have:=ZfD h
      exact List.eq_nil_of_length_eq_zero this
    refine⟨hc,fun A W w φ vals hok hsz hr=> ?_⟩
    have hO:=hok.obj 0 _ rfl
    have h0:=hr 0 (by simp)
    have hx:=Za7 h0 (by rw [hO.len];simp)
    have hvals:vals= #[.slice ((φ 0).blk.map fun b=>⟨b,0,none⟩) 0 (φ 0).cap]:=by
      obtain⟨l⟩:=vals
      match l,hsz with
      | [x],_=>
        have e1:x= .slice ((φ 0).blk.map fun b=>⟨b,0,none⟩) 0 (φ 0).cap:=hx
        rw [e1]
    rw [hvals]
    refine(C0 _ _ w).mono ?_
    rintro e' w' ⟨rfl,rfl⟩
    exact⟨.tuple #[],φ,rfl,hok,Zz (.tuple [] #[] rfl fun i hi=>by cases hi)⟩
  · refine Zou hg hc he C ?_
    unfold Zh1 at h
    unfold Zlg
    split at h
    · rename_i hl
      rw [if_pos ⟨hne,hl⟩];exact h
    · cases h
end Go.Vx

namespace Go.Vx
open Go Go.RowKit
end Go.Vx

namespace Go.Vx
open Go Go.RowKit
def flB:AV→Bool
  | .int _ _ | .bool _ | .str _ | .lit _ | .nils | .any=>true
  |_=>false
inductive DeepC (P:Program):AV→Prop
  |flat {av:AV}:flB av=true→DeepC P av
  |sub {e:TypeId} {l:List (List AV)}:(∀ row∈l,row.length=P.cellsOf e)→(∀ i j,DeepC P (cellAt l i j))→DeepC P (.osub e l)
def ZoI(P:Program)(l:List AV):Prop:= ∀ j,DeepC P (l.getD j .any)
theorem dlF{P:Program}{l:List AV}(h:l.all flB=true):ZoI P l:=fun j=>by
  by_cases hj:j<l.length
  · have e:l.getD j .any=l[j]:=by simp [List.getD_eq_getElem?_getD,hj]
    rw [e];exact .flat (List.all_eq_true.1 h _ (List.getElem_mem _))
  · rw [List.getD_eq_getElem?_getD,List.getElem?_eq_none (by omega)];exact .flat rfl
section rows
variable {P:Program} {α:Type} {f g:α→List AV} {e:TypeId} {xs:List α}
theorem Zl6{i j:Nat}(hi:i<xs.length):cellAt (xs.map f) i j=(f xs[i]).getD j .any:=by
  unfold cellAt;congr 1;simp [List.getD_eq_getElem?_getD,hi]
end rows
section ent
variable {c:Ctx} {tm:List (Nat×AV)} {hp:List (Option Own)} {α β:Type} {f:α→List AV} {e e':TypeId} {xs:List α} {r i j q n:Nat} {x y:α} {row:List AV} {l:List (List AV)}
end ent
section melt
variable {P:Program} {α:Type} {f g:α→List AV} {e:TypeId} {xs:List α}
end melt
section view
variable {c:Ctx} {st:St} {α:Type} {f g:α→List AV} {e:TypeId} {xs:List α} {r n:Nat}
end view
section ops
variable {c:Ctx} {ops:Array Oper} {st:St} {dst:Option Tmp} {ty:TypeId} {pos:String} {after:Array Edge} {α:Type} {f:α→List AV} {e:TypeId} {xs:List α} {r n:Nat}
inductive ElemsO (c:Ctx) (st:St) (sz:Nat):List (Nat×Operand)→Nat→List (List AV)→Prop
  |nil {k:Nat}:ElemsO c st sz [] k []
  |cons {k:Nat} {x:Operand} {l:List AV} {ps:List (Nat×Operand)} {ls:List (List AV)}:CellV c st x l→l.length=sz→ElemsO c st sz ps (k+1) ls→ElemsO c st sz ((k,x)::ps) k (l::ls)
theorem ElemsO.spec{sz:Nat}{ps:List (Nat×Operand)}{k:Nat}{ls:List (List AV)}(h:ElemsO c st sz ps k ls){φ:Phi}{a:Act}{w:World}(hc:Conc c φ st a w):
    ps.length=ls.length∧(∀ row∈ls,row.length=sz)∧(∀ q,q<ps.length→((ps.map fun p=>(p.1,a.eval p.2)).getD q (0,undef)).1=k+q)∧(∀ p∈ps.map (fun p=>(p.1,a.eval p.2)),p.2.cells.size=sz)∧
      ∀ q j,q<ps.length→j<sz→RelF c.P w (Mut c.A φ st.hp) st.hp.length φ (cellAt ls q j) ((((ps.map fun p=>(p.1,a.eval p.2)).getD q (0,undef)).2.cells).getD j undef):=by
  induction h with
  |nil=>exact⟨rfl,by simp,(fun q hq=>by cases hq),by simp,(fun q j hq=>by cases hq)⟩
  | @cons k x l ps ls hx hl _ ih=>
    obtain⟨h1,h2,h3,h4,h5⟩:=ih
    obtain⟨c1,c2⟩:=hx φ a w hc
    refine⟨by simp [h1],?_,fun q hq=> ?_,?_,fun q j hq hj=> ?_⟩
    · intro row hrow
      rcases List.mem_cons.1 hrow with rfl |hrow
      · exact hl
      · exact h2 row hrow
    · cases q with
      |zero=>simp
      |succ q=>
        have:=h3 q (by simpa using hq)
        simp at this ⊢
        omega
    · intro p hp
      rcases List.mem_cons.1 hp with rfl |hp
      · exact c1.trans hl
      · exact h4 p hp
    · cases q with
      |zero=>
        have:=c2 j (by omega)
        simpa [cellAt] using this
      |succ q=>
        have:=h5 q j (by simpa using hq) hj
        simpa [cellAt] using this
end ops
def ZmX:AV→Bool
  | .own _ _ | .ptr _ _ _ _ | .mref _ _ | .bptr _ _=>true
  |av=>flB av
def Zkj:AV→Bool
  | .agg l=>l.all ZmX
  |av=>ZmX av
def Zr2:AV→Bool
  | .tuple l=>l.all Zkj
  |av=>Zkj av
theorem ZrO{P:Program}{w:World}{M M':Nat→Prop}{φ:Phi}{av:AV}{v:Value}(hb:ZmX av=true)(h:Rel P w M φ av v):Rel P w M' φ av v:=by
  cases h with
  |data h=>
    cases h<;>first | (exact .data (.int _ _)) | (exact .data (.bool _)) | (exact .data (.str _)) | (exact .data (.lit _)) | (exact .data .nils) | (exact .data (.any _)) | (cases hb)
  |own r n v hv h0 h=>exact .own r n v hv h0 h
  |ptr r n i j v hv h0 h=>exact .ptr r n i j v hv h0 h
  |mref r n v hv h0 h=>exact .mref r n v hv h0 h
  |bptr r n v hv h0 h=>exact .bptr r n v hv h0 h
  |_=>cases hb
theorem Zhl{p:AV→Bool}{l:List AV}(h:l.all p=true){i:Nat}(hi:i<l.length):p (l.getD i .any)=true:=by
  have e:l.getD i .any=l[i]:=by simp [List.getD_eq_getElem?_getD,hi]
  rw [e];exact List.all_eq_true.1 h _ (List.getElem_mem _)
theorem ZpK{P:Program}{w:World}{M M':Nat→Prop}{φ:Phi}{av:AV}{v:Value}(hb:Zkj av=true)(h:Rel P w M φ av v):Rel P w M' φ av v:=by
  by_cases hg: ∃ l,av= .agg l
  · obtain⟨l,rfl⟩:=hg
    cases h with
    |data h=>cases h with |agg _ vs h1 h2=>exact .agg l vs h1 fun i hi=>ZrO (Zhl hb hi) (.data (h2 i hi))
    |agg _ vs h1 h2=>exact .agg l vs h1 fun i hi=>ZrO (Zhl hb hi) (h2 i hi)
  · have:ZmX av=true:=by cases av<;>first |exact hb |exact absurd ⟨_,rfl⟩ hg
    exact ZrO this h
theorem ZtF{P:Program}{w:World}{M M':Nat→Prop}{φ:Phi}{av:AV}{v:Value}(hb:Zr2 av=true)(h:Rel P w M φ av v):Rel P w M' φ av v:=by
  by_cases hg: ∃ l,av= .tuple l
  · obtain⟨l,rfl⟩:=hg
    cases h with
    |data h=>cases h with |tuple _ vs h1 h2=>exact .tuple l vs h1 fun i hi=>ZpK (Zhl hb hi) (.data (h2 i hi))
    |tuple _ vs h1 h2=>exact .tuple l vs h1 fun i hi=>ZpK (Zhl hb hi) (h2 i hi)
  · have:Zkj av=true:=by cases av<;>first |exact hb |exact absurd ⟨_,rfl⟩ hg
    exact ZpK this h
def FreC(P:Program)(av:AV):Prop:=DeepC P av∨Zkj av=true
theorem FreC.trel{P:Program}{w:World}{M M':Nat→Prop}{n:Nat}{φ:Phi}{S:Nat→Prop}{av:AV}{v:Value}(hf:FreC P av)(h:TRel P w M n φ S av v):TRel P w M' n φ S av v:=by
  rcases hf with hf |hb
  · induction hf generalizing S v with
    | @flat av hb=>
      have hb1:Zkj av=true:=by cases av<;>first |exact hb |cases hb
      cases h with
      |leaf h=>exact .leaf fun ψ hψ=>ZpK hb1 (h ψ hψ)
      |nil=>cases hb
      |osub=>cases hb
      |mcon=>cases hb
    | @sub e l h0 h1 ih=>
      cases h with
      |leaf h=>have:=Zda h;cases this
      |nil e=>exact .nil e
      |osub _ _ b cap cs T g1 g2 g3 g4 g5 g6 g7 g8 g9=>exact .osub e l b cap cs T g1 g2 g3 g4 g5 g6 g7 g8 fun i j hi hj=>ih i j (g9 i j hi hj)
  · cases h with
    |leaf h=>exact .leaf fun ψ hψ=>ZpK hb (h ψ hψ)
    |nil=>cases hb
    |osub=>cases hb
    |mcon=>cases hb
inductive FreOs (P:Program):List (Option Own)→Prop
  |nil:FreOs P []
  |none {tl:List (Option Own)}:FreOs P tl→FreOs P (none::tl)
  |cons {o:Own} {tl:List (Option Own)}:(∀ i j,i<o.es.length→j<P.cellsOf o.elem→FreC P (cellAt o.es i j))→FreOs P tl→FreOs P (some o::tl)
theorem FreOs.get{P:Program}{os:List (Option Own)}(h:FreOs P os): ∀ i o,nth os i=some o→ ∀ i' j,i'<o.es.length→j<P.cellsOf o.elem→FreC P (cellAt o.es i' j):=by
  induction h with
  |nil=>intro i o h;cases h
  |none _ ih=>
    intro i o h
    cases i with
    |zero=>cases h
    |succ i=>exact ih i o h
  |cons h1 _ ih=>
    intro i o h
    cases i with
    |zero=>cases h;exact h1
    |succ i=>exact ih i o h
theorem frM{P:Program}{α:Type}{f:α→List AV}{e:TypeId}{xs:List α}(h: ∀ x,(f x).length=P.cellsOf e∧ZoI P (f x)): ∀ i j,i<(⟨e,xs.map f⟩:Own).es.length→j<P.cellsOf (⟨e,xs.map f⟩:Own).elem→FreC P (cellAt (⟨e,xs.map f⟩:Own).es i j):=fun i j hi _=>by
  simp only [List.length_map] at hi
  rw [Zl6 hi];exact .inl ((h _).2 j)
section callV
variable {c:Ctx} {ops:Array Oper} {st:St} {dst:Option Tmp} {ty:TypeId} {pos:String} {after:Array Edge}
theorem ZqL{f:FuncId}{xs:List Operand}{ts:Array TypeId}{ds:List AV}{os' hp':List (Option Own)}{res res':AV}(hs:GSpec c.P c.gl f ds [] res os')(ha:ArgsV c st xs ds)
    (hb:Back c.P [] st.hp.length st.hp os' 0 hp') (hlen:st.hp.length+os'.length=hp'.length) (hr:RenR (rwR (callR [] st.hp.length)) res res') (hfr:Zr2 res=true) (hfo:FreOs c.P os'):
    WVal c ops st ⟨dst,.call {callee:= .value (.func f),args:=xs.toArray,argTypes:=ts},ty,pos,after,none⟩ res' hp':=by
  intro φ a w hc
  refine⟨rfl,?_⟩
  obtain⟨hl,hrel⟩:=ha.rel hc
  unfold Oper.wp
  have e:(execOp a.eval ⟨dst,.call {callee:= .value (.func f),args:=xs.toArray,argTypes:=ts},ty,pos,after,none⟩).run c.P w= .ok (.enter f (xs.map a.eval).toArray) w:=by
    simp [execOp,resolve,Act.eval,Deferred.ofValue,invoke,Zbc hs.call]
  rw [e]
  have hok:=hc.hok
  have hmutlt:=ZgA hc
  have hgl:=ZeL hc
  have hok0:HeapOK ⟨c.P,0,w,c.A,[],c.gl,0,φ⟩ φ [] w:=
    ⟨rfl,rfl,rfl,Nat.le_refl _,fun _ _ _=>rfl,(fun r o b h=>by cases h),(fun r r' o o' b h=>by cases h),(fun r o h=>by cases h),(fun b hb=>⟨hmutlt b (.inl hb),by simp⟩),⟨hgl.len,hgl.W,fun p hp=>let ⟨h1,h2,h3⟩:=hgl.tab p hp;⟨h1,h2,fun h=>h3 (.inl h)⟩⟩,Nat.zero_le _,fun r hr=>by cases hr⟩
  refine(hs.spec c.A [] w φ (xs.map a.eval).toArray hok0 (by simpa using hl) (fun i hi=>Zz (by
    have:=hrel i hi
    have e1:(xs.map a.eval).toArray.getD i undef=(xs.map a.eval).getD i undef:=by simp [Array.getD_eq_getD_getElem?,List.getD_eq_getElem?_getD]
    rw [e1]
    exact this.mono (Nat.le_refl _) (fun _ _ _=>rfl) (fun b _ hm=>fun h=>h.elim hm fun⟨r,o,hr,_⟩=>by cases hr)))).mono ?_
  rintro e w' ⟨v,φ',rfl,hq,hv⟩
  generalize hhp:st.hp=hp at*
  have hBl:Below w.heap.size w w':=⟨hq.os,hq.tape,hq.output,hq.heap,fun b hb=>hq.frame b hb (by simp)⟩
  let φ'':Phi:=fun r=>if r<hp.length then φ r else φ' (r-hp.length)
  have hφo: ∀ r,r<hp.length→φ'' r=φ r:=fun r h=>by simp only [φ'',if_pos h]
  have hφn: ∀ i r,callR [] hp.length i r→φ'' r=φ' i:=by
    rintro i r (h | ⟨_,rfl⟩)
    · simp at h
    · simp only [List.length_nil,Nat.sub_zero,φ'',if_neg (show ¬hp.length+i<hp.length by omega)];congr 1;omega
  have hback: ∀ r o2,nth hp' r=some o2→(∃ i o,callR [] hp.length i r∧nth os' i=some o∧RenOO c.P (rwR (callR [] hp.length)) o o2)∨nth hp r=some o2:=fun r o2 h=>by
    have:=hb.get r o2 h
    rw [Nat.zero_add] at this
    exact this.imp id fun h=>h.1
  have hnewb: ∀ i o b,nth os' i=some o→(φ' i).has b→w.heap.size≤b∧ ¬c.A b:=fun i o b h1 h2=>by
    obtain⟨h3,h4⟩:=hq.owned i o b h1 h2
    exact⟨h3.resolve_left (by simp),h4⟩
  have hmm: ∀ b,b<w.heap.size→ ¬Mut c.A φ hp b→ ¬Mut c.A φ'' hp' b:=by
    rintro b hlt hm (ha | ⟨r,o2,hr2,hbk⟩)
    · exact hm (.inl ha)
    · rcases hback r o2 hr2 with ⟨i,o,h1,h2,_⟩ |h1
      · rw [hφn i r h1] at hbk
        have:=(hnewb i o b h2 hbk).1;omega
      · rw [hφo r (Xp h1)] at hbk
        exact hm (.inr ⟨r,o2,h1,hbk⟩)
  have htr: ∀ av x,RelF c.P w (Mut c.A φ hp) hp.length φ av x→RelF c.P w' (Mut c.A φ'' hp') hp'.length φ'' av x:=by
    intro av x hx ψ hψ
    refine((hx (fun s=>if s<hp.length then φ s else ψ s) fun s hs=>by simp only [if_pos hs]).mono hBl.size (fun b hb _=>hBl.block b hb) hmm).loc fun s=> ?_
    by_cases hs:s<hp.length
    · rw [if_pos hs,hψ s (by omega),hφo s hs];exact .inl (.refl _)
    · rw [if_neg hs];exact .inl (.refl _)
  have hren0: ∀ ψ,ZeA hp'.length φ'' ψ→ ∃ χ,ZeA os'.length φ' χ∧RwOK (rwR (callR [] hp.length)) c.P w' (Mut c.A φ'' hp') (Mut c.A φ'' hp') χ ψ:=by
    intro ψ hψ
    let χ:Phi:=fun i=>if i<os'.length then φ' i else ψ (hp.length+i)
    refine⟨χ,fun i hi=>by simp only [χ,if_pos hi],Zjr (fun i r hir=> ?_) (fun _ _ h=>h)⟩
    by_cases hi:i<os'.length
    · simp only [χ,if_pos hi]
      have hlt:r<hp'.length:=by
        rcases hir with h | ⟨_,rfl⟩
        · simp at h
        · simp;omega
      rw [hψ r hlt,hφn i r hir]
    · simp only [χ,if_neg hi]
      rcases hir with h | ⟨_,rfl⟩
      · simp at h
      · rfl
  have hren: ∀ (av av':AV) (x:Value),Zr2 av=true→RenR (rwR (callR [] hp.length)) av av'→RelF c.P w' (Mut c.A φ' os') os'.length φ' av x→RelF c.P w' (Mut c.A φ'' hp') hp'.length φ'' av' x:=by
    intro av av' x hf h1 h2 ψ hψ
    obtain⟨χ,hχ,hok2⟩:=hren0 ψ hψ
    exact h1.rel hok2 (ZtF hf (h2 χ hχ))
  refine⟨v,φ'',rfl,⟨hq.os.trans hok.os,hq.tape.trans hok.tape,hq.output.trans hok.output,Nat.le_trans hok.heap hq.heap,?_,?_,?_,?_,hok.amb,hok.glob,Nat.le_trans (by have:=hok.len;exact this) (by omega),?_⟩,htr,hren _ _ _ hfr hr hv⟩
  · intro b hlt hnW
    rw [hBl.block b (Nat.lt_of_lt_of_le hlt hok.heap)]
    exact hok.frame b hlt hnW
  · intro r o2 b hr2 hbk
    rcases hback r o2 hr2 with ⟨i,o,h1,h2,_⟩ |h1
    · rw [hφn i r h1] at hbk
      obtain⟨h3,h4⟩:=hnewb i o b h2 hbk
      have:=hok.heap
      exact⟨.inr (by omega),h4⟩
    · rw [hφo r (Xp h1)] at hbk
      exact hok.owned r o2 b h1 hbk
  · intro r r' o o' b hr1 hr1' hbk hbk'
    have mix: ∀ i x o y q,callR [] hp.length i x→nth os' i=some o→(φ' i).has b→nth hp y=some q→(φ y).has b→False:=by
      intro i x o y q h1 h2 h3 h4 h6
      have:=(hnewb i o b h2 h3).1
      have:=hmutlt b (.inr ⟨y,q,h4,h6⟩);omega
    rcases hback r o hr1 with ⟨i,oi,h1,h2,_⟩ |h1
    · rw [hφn i r h1] at hbk
      rcases hback r' o' hr1' with ⟨i',oi',h1',h2',_⟩ |h1'
      · rw [hφn i' r' h1'] at hbk'
        have:=hq.apart i i' oi oi' b h2 h2' hbk hbk'
        subst this
        rcases h1 with h1 | ⟨_,rfl⟩
        · simp at h1
        · rcases h1' with h1' | ⟨_,rfl⟩
          · simp at h1'
          · rfl
      · rw [hφo r' (Xp h1')] at hbk'
        exact(mix i r oi r' o' h1 h2 hbk h1' hbk').elim
    · rw [hφo r (Xp h1)] at hbk
      rcases hback r' o' hr1' with ⟨i',oi',h1',h2',_⟩ |h1'
      · rw [hφn i' r' h1'] at hbk'
        exact(mix i' r' oi' r o h1' h2' hbk' h1 hbk).elim
      · rw [hφo r' (Xp h1')] at hbk'
        exact hok.apart r r' o o' b h1 h1' hbk hbk'
  · intro r o2 hr2
    rcases hback r o2 hr2 with ⟨i,o,h1,h2,h3⟩ |h1
    · have hO:=hq.obj i o h2
      obtain⟨g1,g2,g4,g5⟩:=h3
      have he:=hφn i r h1
      refine⟨by rw [he,←g2];exact hO.len,by rw [he,←g1];exact hO.sz,g4,by rw [he,←g2];exact hO.room,by rw [he];exact hO.cap,fun hb=> ?_,by rw [he];exact hO.subl,by rw [he];exact hO.subn,fun b hb=> ?_⟩
      · rw [he] at hb ⊢
        obtain⟨e1,e2⟩:=hO.none hb
        exact⟨List.eq_nil_of_length_eq_zero (by rw [←g2,e1];rfl),e2⟩
      · rw [he] at hb ⊢
        obtain⟨cs,e1,e2,T,t1,t2,e3⟩:=hO.some b hb
        refine⟨cs,by rw [←g1];exact e1,by rw [←g1];exact e2,T,t1,t2,fun i' j' hi' hj'=> ?_⟩
        rw [←g1] at hj' ⊢
        have hi'':i'<o.es.length:=by rw [g2];exact hi'
        exact(g5 i' j' hi'' hj').relX (fun ψ hψ=>hren0 ψ hψ) ((hfo.get i o h2 i' j' hi'' hj').trel (e3 i' j' hi'' hj'))
    · have hO:=hok.obj r o2 h1
      have he:=hφo r (Xp h1)
      refine⟨by rw [he];exact hO.len,by rw [he];exact hO.sz,hO.rows,by rw [he];exact hO.room,by rw [he];exact hO.cap,by rw [he];exact hO.none,by rw [he];exact fun b hb=>Nat.lt_of_lt_of_le (hO.subl b hb) hq.heap,by rw [he];exact hO.subn,fun b hb=> ?_⟩
      rw [he] at hb ⊢
      obtain⟨cs,e1,e2,e3⟩:=hO.some b hb
      exact⟨cs,e1.congr (hBl.block b e1.lt),e2,e3.tr (fun x hx=>hBl.block x (hO.subl x hx)) htr⟩
  · intro r hr0
    have hl0:c.n0≤hp.length:=hok.len
    rw [hφo r (by omega)]
    exact hok.mono r hr0
end callV
end Go.Vx

namespace Go.Vx
open Go Go.RowKit
section
variable {c:Ctx} {ops:Array Oper} {st:St} {dst:Option Tmp} {ty:TypeId} {pos:String} {after:Array Edge} {α:Type} {f:α→List AV}
end
end Go.Vx

namespace Go.Vx
open Go Go.RowKit
theorem Zbd{σ ρ:Type}{body:σ→Option (σ ⊕ ρ)}(I:σ→Prop)(Q:ρ→Prop)(h1: ∀ s s',I s→body s=some (.inl s')→I s')(h2: ∀ s r,I s→body s=some (.inr r)→Q r){s:σ}{r:ρ}(hs:I s)(h:loop body s=some r):Q r:=by
  obtain⟨n,hn⟩:=ZcL h
  induction n generalizing s with
  |zero=>cases hn
  |succ n ih=>
    simp only [Zbv] at hn
    cases hb:body s with
    |none=>rw [hb] at hn;cases hn
    |some o=>
      rw [hb] at hn
      cases o with
      |inl s'=>
        have hn':Zbv body n s'=some r:=hn
        exact ih (h1 s s' hs hb) (Ze1 hn') hn'
      |inr r'=>cases hn;exact h2 s _ hs hb
section t9
variable {α β γ δ ε ζ η θ μ ι κ ρ:Type}
def t9(f:α→β→γ→δ→ε→ζ→η→θ→μ→ι)(p:α×β×γ×δ×ε×ζ×η×θ×μ):ι:=f p.1 p.2.1 p.2.2.1 p.2.2.2.1 p.2.2.2.2.1 p.2.2.2.2.2.1 p.2.2.2.2.2.2.1 p.2.2.2.2.2.2.2.1 p.2.2.2.2.2.2.2.2
@[simp] theorem Zt4 (f:α→β→γ→δ→ε→ζ→η→θ→μ→ι) (a:α) (b:β) (c:γ) (d:δ) (e:ε) (g:ζ) (h:η) (i:θ) (j:μ):t9 f (a,b,c,d,e,g,h,i,j)=f a b c d e g h i j:=rfl
end t9
section
variable {c:Ctx} {ops:Array Oper} {st:St} {dst:Option Tmp} {ty:TypeId} {pos:String} {after:Array Edge} {α:Type} {f:α→List AV}
theorem ZrL{y:Operand}{t e sz by_ r n j len:Nat}{o:Own}(h:Opv c st y (.osl r n j len))(ho:nth st.hp r=some o)(hn:o.es.length=n)(ht:tSl c.P t e sz by_=true):
    SVal c ops st ⟨dst,.call {callee:= .builtin .len,args:= #[y],argTypes:= #[t]},ty,pos,after,none⟩ (.int .i64 (len:Int)):=
  .pure rfl fun φ a w hc=>by
    have hO:=hc.hok.obj r _ ho
    obtain⟨b,j',cap,_,_,_,hx⟩:=Zi2 (h φ a w hc) (by rw [hO.len];exact hn)
    obtain⟨hu,_⟩:=tSl.spec ht
    refine⟨.int .i64 (len:Int),?_,Zz (.int _ _)⟩
    simp [execOp,resolve,invoke,builtin,hx,Builtin.len_,run_underlying hu,goInt]
theorem Zq7{x y:Operand}{t e by_ r n len:Nat}{k:IntKind}{p z:Int}{xs:List α}{u:α}{u':Unit}(h:Opv c st x (.osl r n p.toNat len))(hy:Opv c st y (.int k z))(ht:tSl c.P t e 1 by_=true)
    (ho:nth st.hp r=some ⟨e,xs.map f⟩) (hn:xs.length=n) (hp:0≤p) (hz:ck (decide (0≤z)&&decide (z<(len:Int)))=some u') (hx:idx xs (p+z)=some u):
    SVal c ops st ⟨dst,.indexAddr t x y,ty,pos,after,none⟩ (.ptr r n (p+z).toNat 0):=
  .pure rfl fun φ a w hc=>by
    have hz':=ZmQ hz
    simp only [Bool.and_eq_true,decide_eq_true_eq] at hz'
    obtain⟨z1,z2⟩:=hz'
    obtain⟨zn,rfl⟩:=Int.eq_ofNat_of_zero_le z1
    have hO:=hc.hok.obj r _ ho
    have hnn:(φ r).n=n:=by rw [hO.len];simpa using hn
    obtain⟨b,j',cap,hb,_,hj,hxx⟩:=Zi2 (h φ a w hc) hnn
    have hmp:=Zlc (h φ a w hc) hnn
    have hj':=hj (by omega)
    subst hj'
    have e1:=hy.int hc
    obtain⟨hu,i,zz,hi,hs,hby,hn0,_,_,hcs⟩:=tSl.spec ht
    refine⟨.pointer (some ⟨b,p.toNat+zn*1,none⟩),?_,fun φ' hφ=> ?_⟩
    · simp [execOp,hxx,e1,Instr.indexAt,asIntOf,run_underlying hu,sizeOf,typeInfo,hi,hs,Zby];intro h';omega
    · have e:φ' r=φ r:=hφ r (Xp ho)
      refine .ptr r n _ 0 _ rfl (by rw [e,hnn];exact Nat.le_refl _) fun _=>⟨by rw [e];exact hmp,b,by rw [e];exact hb,?_⟩
      have hsz:(φ r).sz=1:=by rw [hO.sz];exact hcs
      rw [e,hsz]
      congr 3
      omega
theorem Zsv{rest:List Oper}{K:Exit→St→Prop}{x y:Operand}{t e sz by_ r n m tp p len:Nat}{o:Own}{ys:List (List AV)}(hd:dstLt dst c.nt=true)(h:Opv c st x (.own r n))(hy:SlV c st y sz ys)(ht:tSl c.P t e sz by_=true)
    (ho:nth st.hp r=some o) (hn:o.es.length=n) (he:o.elem=e) (hm:ys.length=m) (hpos:0<m) (h1: ∀ row∈ys,∀ u∈row,Zgj c st u) (hb:(n+m)*by_≤140737488355328) (h63:n+m<2^63) (hns: ∀ row∈o.es,NS row)
    (htp:look st.tm tp=some (.osl r n p len))
    (hA:R c ops rest (St.puto ⟨(tp,.osl r (n+m) p len)::st.tm,Q7 st.hp r (some ⟨e,o.es++ys⟩)⟩ dst (.own r (n+m))) K)
    (hB:R c ops rest (St.puto ⟨st.tm,st.hp++ [some ⟨e,o.es++ys⟩]⟩ dst (.own st.hp.length (n+m))) K):
    R c ops (⟨dst,.call {callee:= .builtin .append,args:= #[x,y],argTypes:= #[t,t]},ty,pos,after,none⟩::rest) st K:=by
  subst he
  intro φ a w hc
  obtain⟨hu,inf,z,hi,hs,hby,hn0,hz,hzs,hcs⟩:=tSl.spec ht
  have hO:=hc.hok.obj r o ho
  have hnn:(φ r).n=n:=by rw [hO.len,hn]
  have hx:=Za7 (h φ a w hc) hnn
  obtain⟨base,cap,hyv,_,hyr,hyc⟩:=hy φ a w hc
  have hyne:ys≠ []:=fun e=>by rw [e] at hm;simp at hm;omega
  obtain⟨b,off,us,rfl,hc1,hc2⟩:=hyc hyne
  obtain⟨news,hnl,hn1,hn2⟩:=Zk1 hc hc1 hn0
  rw [hm] at hnl hyv
  have hone: ∀ u∈news,u.oneCell'=true:=by
    intro u hu'
    obtain⟨k,hk,rfl⟩:=List.getElem_of_mem hu'
    have hk':k<ys.length*sz:=by rw [hm];omega
    have hdi:k/sz<ys.length:=Nat.div_lt_of_lt_mul (by rw [Nat.mul_comm];exact hk')
    have hmo:k % sz<sz:=Nat.mod_lt _ hn0
    have e1:k/sz*sz+k % sz=k:=by rw [Nat.mul_comm];exact Nat.div_add_mod k sz
    have e2:=hn2 (k/sz) (k % sz) hdi hmo
    rw [e1] at e2
    have e3:news[k]=us (k/sz) (k % sz):=by rw [←e2];simp [List.getD_eq_getElem?_getD,hk]
    rw [e3]
    have hrow:ys[k/sz]∈ys:=List.getElem_mem hdi
    refine h1 _ hrow (cellAt ys (k/sz) (k % sz)) ?_ φ a w hc _ (hc2 _ _ hdi hmo)
    have hl:=hyr _ hrow
    have:cellAt ys (k/sz) (k % sz)=ys[k/sz][k % sz]'(by omega):=by simp [cellAt,List.getD_eq_getElem?_getD,hdi,hl,hmo]
    rw [this]
    exact List.getElem_mem _
  have hmp:=ZaW (h φ a w hc) hnn
  have h2n:(o.es++ys).length=n+m:=by simp [hn,hm]
  have hrl:r<st.hp.length:=Xp ho
  have hml:n+m≤maxLen:=by simp only [maxLen];omega
  obtain⟨g,jp,capp,hbk,hcapp,hjp,hxp⟩:=Zi2 (hc.tm tp _ htp) hnn
  obtain⟨cs,h4,h5,T,tt1,tt2,h6⟩:=hO.some g hbk
  have h4:=h4.cells hmp
  rw [hcs] at h5
  have hroom:=hO.room
  have hcap63:=hO.cap
  rw [hbk] at hx
  simp only [Option.map_some] at hx
  have hwant:Region.wanted ⟨dst,.call {callee:= .builtin .append,args:= #[x,y],argTypes:= #[t,t]},ty,pos,after,none⟩ (yielded ops a.tmps)=true:=rfl
  unfold wpList
  rw [if_pos hwant]
  have hold: ∀ i j,i<n→j<sz→RelF c.P w (Mut c.A φ st.hp) st.hp.length φ (cellAt o.es i j) (cs.getD (i*sz+j) undef):=fun i j hi' hj'=>by
    have:=(h6 i j (by rw [hn];exact hi') (by rw [hcs];exact hj')).plain (ZoN hns i j)
    rwa [hcs] at this
  by_cases hfit:n+m≤(φ r).cap
  · have hbnd:n*sz+news.length≤cs.size:=by
      rw [hnl,h5,←Nat.add_mul];exact Nat.mul_le_mul_right _ hfit
    have hr:=run_append_room (P:=c.P) w t ty o.elem inf hu hi g n (φ r).cap cs h4 ⟨b,off,none⟩ m cap news (by rw [hnl,hs]) hn1 hone hfit (by rw [hs];exact hbnd)
    rw [hs] at hr
    have hL: ∃ L:Loc,L=⟨some g,(φ r).cap,n+m,sz,false,(φ r).sub⟩:=⟨_,rfl⟩
    obtain⟨L,hLe⟩:=hL
    have hgsub: ¬(φ r).sub g:=hO.subn g hbk
    have hupd:=ZdT (L:=L) (o':=⟨o.elem,o.es++ys⟩) (w':=w.setRow g (cs.toList.take (n*sz)++news++cs.toList.drop (n*sz+news.length)).toArray) hc.hok ho rfl rfl rfl (by simp)
      (fun b' _ hne=>setRow_other w g b' _ (fun e=>hne (by rw [hbk,e]))) (.inl (by rw [hLe,hbk])) (.inr (by rw [hLe];show(φ r).n<n+m;omega)) (fun htr=>by
      refine⟨by simp only [if_true,hLe,h2n],by simp [hLe,hcs],?_,by simp [hLe,hn,hm];exact hfit,by simp [hLe];exact hcap63,(fun h=>by simp [hLe] at h),(by simp only [if_true,hLe];exact fun b hb=>Nat.lt_of_lt_of_le (hO.subl b hb) (by simp)),(by simp only [if_true,hLe];rintro b hb;cases hb;exact hgsub),fun b' hb'=> ?_⟩
      · intro row hrow
        rcases List.mem_append.1 hrow with hrow |hrow
        · exact hO.rows row hrow
        · rw [hcs];exact hyr row hrow
      · simp only [if_true,hLe] at hb'
        cases hb'
        refine⟨_,(by simp only [if_true,hLe];exact setRow_heap w g cs _ o.elem _ h4),by simp [hLe,hcs];omega,fun _ _ _=>False,(fun _ _ _ h=>h.elim),(fun _ _ _ _ _ h=>h.elim),fun i j hi' hj'=> ?_⟩
        simp only [hcs] at hj' ⊢
        by_cases hin:i<n
        · rw [Zb1 (by rw [hn];exact hin)]
          have e3:i*sz+j<n*sz:=ZcK hin hj'
          rw [Zbf cs news _ _ hbnd,if_pos e3]
          exact .leaf (htr _ _ (hold i j hin hj'))
        · rw [Zbm (by rw [hn];omega),hn]
          have hlt:i-n<m:=by simp [hn,hm] at hi';omega
          have h7:(i-n)*sz+j<news.length:=by rw [hnl];exact ZcK hlt hj'
          have e9:i*sz+j=n*sz+((i-n)*sz+j):=by rw [←Nat.add_assoc,←Nat.add_mul,show n+(i-n)=i by omega]
          rw [e9,Zbf cs news _ _ hbnd,if_neg (by omega),if_pos (by omega),show n*sz+((i-n)*sz+j)-n*sz=(i-n)*sz+j by omega,hn2 (i-n) j (by rw [hm];exact hlt) hj']
          exact .leaf (htr _ _ (hc2 (i-n) j (by rw [hm];exact hlt) hj'))) (by rw [hLe])
    obtain⟨g1,g2⟩:=hupd
    refine .inl ?_
    have hrun:(execOp a.eval ⟨dst,.call {callee:= .builtin .append,args:= #[x,y],argTypes:= #[t,t]},ty,pos,after,none⟩).run c.P w= .ok (.value (.slice (some ⟨g,0,none⟩) (n+m) (φ r).cap)) (w.setRow g (cs.toList.take (n*sz)++news++cs.toList.drop (n*sz+news.length)).toArray):=by
      simp [execOp,resolve,invoke,builtin,hx,hyv,hr]
    unfold Oper.wp
    rw [hrun,Oper.upon_value]
    have hlen:(Q7 st.hp r (some ⟨o.elem,o.es++ys⟩)).length=st.hp.length:=Za4 ..
    have eL: ∀ φ',ZeA (Q7 st.hp r (some ⟨o.elem,o.es++ys⟩)).length (fun x=>if x=r then L else φ x) φ'→φ' r=L:=fun φ' hφ=>by
      have:=hφ r (by rw [hlen];exact hrl)
      simpa using this
    refine hA _ _ _ (Conc.puto (st:=⟨(tp,.osl r (n+m) p len)::st.tm,Q7 st.hp r (some ⟨o.elem,o.es++ys⟩)⟩) ⟨hc.size,hc.defers,g1,fun t' av ht'=> ?_⟩ hd fun φ' hφ=> ?_)
    · show RelF _ _ _ _ _ _ _
      unfold look at ht'
      cases hb':Nat.beq tp t' with
      |true=>
        rw [hb'] at ht'
        cases ht'
        obtain rfl:tp=t':=Nat.eq_of_beq_eq_true hb'
        rw [hxp]
        refine fun φ' hφ=> ?_
        have e:=eL φ' hφ
        exact .osl r (n+m) p len _ rfl (by rw [e,hLe];exact Nat.le_refl _) fun _=>by rw [e,hLe];exact⟨rfl,g,jp,capp,rfl,hcapp,hjp,rfl⟩
      |false=>
        rw [hb'] at ht'
        exact g2 _ _ (hc.tm t' av ht')
    · have e:=eL φ' hφ
      exact .own r (n+m) _ rfl (by rw [e,hLe];exact Nat.le_refl _) fun _=>by rw [e,hLe];exact⟨rfl,rfl⟩
  · obtain⟨olds,holdl,holds,holdv⟩: ∃ olds:List Value,olds.length=n*sz∧(∀ j u,olds[j]?=some u→w.cell? ((⟨g,0,none⟩:Addr).add j)=some u)∧(∀ k,k<n*sz→olds.getD k undef=cs.getD k undef):=by
      refine⟨cs.toList.take (n*sz),?_,fun j u hu'=> ?_,fun k hk=> ?_⟩
      · have:n*sz≤cs.size:=by rw [h5];exact Nat.mul_le_mul_right _ (by omega)
        simp;omega
      · rw [Zby,Nat.zero_add,Qs h4]
        rw [List.getElem?_take] at hu'
        split at hu'
        · simpa using hu'
        · cases hu'
      · rw [List.getD_eq_getElem?_getD,List.getElem?_take,if_pos hk]
        simp [Array.getD_eq_getD_getElem?]
    have hr:=run_append_grow (P:=c.P) w t ty o.elem inf z hu hi hz ⟨g,0,none⟩ n (φ r).cap olds (by rw [holdl,hs]) holds ⟨b,off,none⟩ m cap news (by rw [hnl,hs]) hn1 (by omega) (by omega) (growslice_fits (by omega) (by rw [hby];exact hb))
    have hBl:Below w.heap.size w w.drew:=⟨rfl,rfl,rfl,Nat.le_refl _,fun _ _=>rfl⟩
    have hcapB:grownCap w (n+m) (φ r).cap o.elem<2^63:=by have:=grownCap_le_maxLen w (n+m) (φ r).cap o.elem hml;simp only [maxLen] at this;omega
    have hge:=grownCap_ge w (n+m) (φ r).cap o.elem
    obtain⟨g1,g2⟩:=Zhh (o:=⟨o.elem,o.es++ys⟩) (cs:=olds.toArray++news.toArray++Builtin.zeroCells z.cells (grownCap w (n+m) (φ r).cap o.elem-(n+m))) (cap:=grownCap w (n+m) (φ r).cap o.elem) (hc.hok.below hBl)
      (by
        simp only [hcs]
        rw [Array.size_append,Array.size_append,List.size_toArray,List.size_toArray,size_zeroCells,hzs,hnl,holdl,←Nat.add_mul,←Nat.add_mul,Nat.add_sub_cancel' hge]) hcapB (by simp only [h2n];exact hge) (fun row hrow=>by
        rcases List.mem_append.1 hrow with hrow |hrow
        · exact hO.rows row hrow
        · simp only [hcs];exact hyr row hrow) (fun i j hi' hj'=>by
        simp only [hcs] at hj' ⊢
        simp only [h2n] at hi'
        refine RelF.below ?_ hBl
        by_cases hin:i<n
        · have h8:i*sz+j<n*sz:=ZcK hin hj'
          rw [ZgN,holdl,if_pos h8,holdv _ h8,Zb1 (by rw [hn];exact hin)]
          exact hold i j hin hj'
        · have hlt:i-n<m:=by omega
          have h7:(i-n)*sz+j<news.length:=by rw [hnl];exact ZcK hlt hj'
          have e9:i*sz+j=n*sz+((i-n)*sz+j):=by rw [←Nat.add_assoc,←Nat.add_mul,show n+(i-n)=i by omega]
          rw [e9,ZgN,holdl,if_neg (by omega),if_pos (by omega),show n*sz+((i-n)*sz+j)-n*sz=(i-n)*sz+j by omega,hn2 (i-n) j (by rw [hm];exact hlt) hj',Zbm (by rw [hn];omega),hn]
          exact hc2 (i-n) j (by rw [hm];exact hlt) hj')
    refine .inl ?_
    have hrun:(execOp a.eval ⟨dst,.call {callee:= .builtin .append,args:= #[x,y],argTypes:= #[t,t]},ty,pos,after,none⟩).run c.P w= .ok (.value (.slice (some ⟨w.heap.size,0,none⟩) (n+m) (grownCap w (n+m) (φ r).cap o.elem))) (w.drew.alloc (.cells (olds.toArray++news.toArray++Builtin.zeroCells z.cells (grownCap w (n+m) (φ r).cap o.elem-(n+m))) o.elem)):=by
      simp [execOp,resolve,invoke,builtin,hx,hyv,hr]
    unfold Oper.wp
    rw [hrun,Oper.upon_value]
    refine hB _ _ _ (Conc.puto (st:=⟨st.tm,st.hp++ [some ⟨o.elem,o.es++ys⟩]⟩) ⟨hc.size,hc.defers,g1,fun t' av ht'=>g2 _ _ ((hc.tm t' av ht').below hBl)⟩ hd fun φ' hφ=> ?_)
    have e:=hφ st.hp.length (by simp)
    simp only [if_true] at e
    exact .own _ (n+m) _ rfl (by rw [e,h2n];exact Nat.le_refl _) fun _=>by rw [e];exact⟨rfl,rfl⟩
theorem Zp3{rest:List Oper}{K:Exit→St→Prop}{x y:Operand}{t e sz by_ r n tp p len s:Nat}{xs ys zs:List α}(hd:dstLt dst c.nt=true)(h:Opv c st x (.own r n))(hy:SlV c st y sz (ys.map f))(ht:tSl c.P t e sz by_=true)
    (ho:nth st.hp r=some ⟨e,xs.map f⟩) (hn:xs.length=n) (hpos:Nat.blt 0 ys.length=true) (h1: ∀ u,∀ q∈f u,Zgj c st q) (hby:Nat.ble by_ s=true) (hns: ∀ u,NS (f u)) (hz:apz s xs ys=some zs)
    (htp:look st.tm tp=some (.osl r n p len))
    (hA:R c ops rest (St.puto ⟨(tp,.osl r zs.length p len)::st.tm,Q7 st.hp r (some ⟨e,zs.map f⟩)⟩ dst (.own r zs.length)) K)
    (hB:R c ops rest (St.puto ⟨st.tm,st.hp++ [some ⟨e,zs.map f⟩]⟩ dst (.own st.hp.length zs.length)) K):
    R c ops (⟨dst,.call {callee:= .builtin .append,args:= #[x,y],argTypes:= #[t,t]},ty,pos,after,none⟩::rest) st K:=by
  unfold apz at hz
  split at hz
  case isFalse=>cases hz
  rename_i hle
  cases hz
  have hby:=Nat.le_of_ble_eq_true hby
  have hpos:0<ys.length:=by simpa using hpos
  have hle2:n+ys.length≤140737488355328/s:=hn▸hle
  have hmul:(n+ys.length)*by_≤140737488355328:=Zk4 hle2 hby
  have el:(xs++ys).length=n+ys.length:=by rw [List.length_append,hn]
  have em:(xs++ys).map f=xs.map f++ys.map f:=List.map_append ..
  rw [el,em] at hA hB
  exact Zsv (m:=ys.length) hd h hy ht ho (by simpa using hn) rfl (by simp) hpos (fun row hr q hq=>by
    obtain⟨u,_,rfl⟩:=List.mem_map.1 hr
    exact h1 u q hq) hmul (ZlV hle2) (fun row hr=>by
    obtain⟨u,_,rfl⟩:=List.mem_map.1 hr
    exact hns u) htp hA hB
theorem Zm0{xs ys:List α}{z:Int}{x:α}(hp: ∃ tl,ys=xs++tl)(h:idx xs z=some x):idx ys z=some x:=by
  obtain⟨tl,rfl⟩:=hp
  obtain⟨h1,h2⟩:=ZeF h
  have hl:=(List.getElem?_eq_some_iff.1 h2).1
  unfold idx at h ⊢
  split at h
  · rename_i h0
    rw [if_pos h0,List.getElem?_append_left hl];exact h2
  · cases h
theorem Zqc{s:Nat}{xs ys zs ws:List α}(hp: ∃ tl,ys=xs++tl)(h:apz s ys zs=some ws): ∃ tl,ws=xs++tl:=by
  obtain⟨tl,rfl⟩:=hp
  unfold apz at h
  split at h
  · cases h;exact⟨tl++zs,by rw [List.append_assoc]⟩
  · cases h
theorem Zo7{xs:List α}: ∃ tl,xs=xs++tl:=⟨[],(List.append_nil _).symm⟩
theorem Zqe{τ σ ρ:Type}{code:Code}{K:Exit→St→Prop}(body:σ→Option (σ ⊕ ρ))(I:τ→σ→St)(C:τ→σ→Prop)(b0:τ)(s0:σ){r:ρ}(h:loop body s0=some r)(hC0:C b0 s0)(h0:Ent c st (I b0 s0))
    (hr: ∀ b n s,C b s→(body s).bind (Sum.elim (Zbv body n) some)=some r→T c code (I b s) (Zfi (fun st'=> ∃ b' s',C b' s'∧Zbv body n s'=some r∧Ent c st' (I b' s')) K)):T c (.loop code) st K:=by
  obtain⟨N,hN⟩:=ZcL h
  refine Zpf (ι:=τ×Nat×σ) (fun p=>C p.1 p.2.2∧Zbv body p.2.1 p.2.2=some r) (fun p=>I p.1 p.2.2) (fun p=>p.2.1) (b0,N,s0) ⟨hC0,hN⟩ h0 ?_
  rintro⟨b,n,s⟩ ⟨hCs,hC⟩
  cases n with
  |zero=>cases hC
  |succ n=>
    refine Zmy (hr b n s hCs hC) ?_
    intro e st' hk
    cases e with
    |normal=>
      obtain⟨b',s',h0,h1,h2⟩:=hk
      exact⟨(b',n,s'),⟨h0,h1⟩,Nat.lt_succ_self n,h2⟩
    |exit id=>exact hk
    |goto l=>exact hk
    |ret=>exact hk
    |panic=>exact hk
    |outgrown=>exact hk
end
end Go.Vx

namespace Go.Vx
open Go Go.RowKit
section t10
variable {α β γ δ ε ζ η θ μ ν ι κ ρ:Type}
def t10(f:α→β→γ→δ→ε→ζ→η→θ→μ→ν→ι)(p:α×β×γ×δ×ε×ζ×η×θ×μ×ν):ι:=f p.1 p.2.1 p.2.2.1 p.2.2.2.1 p.2.2.2.2.1 p.2.2.2.2.2.1 p.2.2.2.2.2.2.1 p.2.2.2.2.2.2.2.1 p.2.2.2.2.2.2.2.2.1 p.2.2.2.2.2.2.2.2.2
@[simp] theorem ZtC (f:α→β→γ→δ→ε→ζ→η→θ→μ→ν→ι) (a:α) (b:β) (c:γ) (d:δ) (e:ε) (g:ζ) (h:η) (i:θ) (j:μ) (l:ν):t10 f (a,b,c,d,e,g,h,i,j,l)=f a b c d e g h i j l:=rfl
end t10
section ops
variable {c:Ctx} {ops:Array Oper} {st:St} {dst:Option Tmp} {ty:TypeId} {pos:String} {after:Array Edge}
variable {α:Type} {f:α→List AV}
end ops
theorem arF{α:Type}{n:Nat}{v:Vector α n}{f:α→AV}(h: ∀ x,flB (f x)=true):(v.toList.map f).all flB=true:=by simp [List.all_eq_true,h]
end Go.Vx

namespace Go.Vx
open Go Go.RowKit
theorem Y{α:Sort _}{a:α}:a=a:=rfl
class SzD (P:Program) (e:TypeId) (n:outParam Nat):Prop where
  h:P.cellsOf e=n
class RowD (P:Program) {α:Type} (e:TypeId) (f:α→List AV):Prop where
  h: ∀ x,(f x).length=P.cellsOf e∧(f x).all datB=true
section
variable {c:Ctx} {ops:Array Oper} {st:St} {K:Exit→St→Prop} {dst:Option Tmp} {x y:Operand} {ty:TypeId} {pos:String} {after:Array Edge} {rest:List Oper} {o:Oper} {v P Q:AV}
theorem Rq(hd:dstLt o.dst c.nt=true)(hv:SVal c ops st o v)(h:R c ops rest (st.puto o.dst v) K):R c ops (o::rest) st K:=R_q v hd hv h
theorem Rx{hp':List (Option Own)}(hd:dstLt o.dst c.nt=true)(hv:WVal c ops st o v hp')(h:R c ops rest (St.puto ⟨st.tm,hp'⟩ o.dst v) K):R c ops (o::rest) st K:=R_w v hp' hd hv h
theorem Rm(e:(dstLt dst c.nt,opv st.tm x)=(true,some v))(k:R c ops rest (st.puto dst v) K):R c ops (⟨dst,.move x,ty,pos,after,none⟩::rest) st K:=R_q v (congrArg Prod.fst e) (Zc (ov (congrArg Prod.snd e))) k
theorem Ra(e:(dstLt dst c.nt,opv st.tm x)=(true,some v))(k:R c ops rest (st.puto dst v) K):R c ops (⟨dst,.assign x,ty,pos,after,none⟩::rest) st K:=R_q v (congrArg Prod.fst e) (QK (ov (congrArg Prod.snd e))) k
theorem R1(L:Opv c st x P→SVal c ops st o v)(e:(dstLt o.dst c.nt,opv st.tm x)=(true,some P))(k:R c ops rest (st.puto o.dst v) K):R c ops (o::rest) st K:=R_q v (congrArg Prod.fst e) (L (ov (congrArg Prod.snd e))) k
theorem R2(L:Opv c st x P→Opv c st y Q→SVal c ops st o v)(e:(dstLt o.dst c.nt,opv st.tm x,opv st.tm y)=(true,some P,some Q))(k:R c ops rest (st.puto o.dst v) K):R c ops (o::rest) st K:=
  R_q v (congrArg Prod.fst e) (L (ov (congrArg (·.2.1) e)) (ov (congrArg (·.2.2) e))) k
theorem Rl{α:Type}{f:α→List AV}{xs:List α}{t e sz by_:Nat}(hsz:c.P.cellsOf e=sz)(ht:tSl c.P t e sz by_=true)(e':(dstLt dst c.nt,opv st.tm y)=(true,some (.sl e (xs.map f))))
    (k:R c ops rest (st.puto dst (.int .i64 (xs.length:Int))) K):R c ops (⟨dst,.call {callee:= .builtin .len,args:= #[y],argTypes:= #[t]},ty,pos,after,none⟩::rest) st K:=
  R_q _ (congrArg Prod.fst e') (ZfO (ZH (ov (congrArg Prod.snd e')) hsz) ht (Zcs _ _)) k
theorem Tr{id:Nat}{l:List Oper}{y:Code}(h:R c l.toArray l st (Zfi (fun st'=>T c y st' K) K)):T c (.seq (.region id l.toArray false) y) st K:=Zl (Zt h)
theorem If{β γ:Type}{X Y:Option β}{k:β→Option γ}{r:γ}{t:Nat}{b:Bool}{x y:Code}(h:(if b=true then X else Y).bind k=some r)(hl:look st.tm t=some (.bool b))
    (h1:X.bind k=some r→T c x st K) (h2:Y.bind k=some r→T c y st K):T c (.cond (.tmp t) x y) st K:=Znq h hl (fun _=>h1) fun _=>h2
theorem bE{α β γ:Type}{k:β→Option γ}{r:γ}{G:Prop}{o:Option α}{f:α→Option β}(h:(o.bind f).bind k=some r)(g: ∀ x,o=some x→(f x).bind k=some r→G):G:=let ⟨x,h1,h2⟩:=bnd h;g x h1 h2
theorem ZX{k:IntKind}{m n:Int}{t u:TypeId}(h:Opv c st x (.int k m))(h':Opv c st y (.int k n)):SVal c ops st ⟨dst,.binOp .add t x y u,ty,pos,after,none⟩ (.int k (k.wrap (m+n))):=Zh4 h h' rfl
theorem ZaO{k:IntKind}{m n:Int}{t u:TypeId}(h:Opv c st x (.int k m))(h':Opv c st y (.int k n)):SVal c ops st ⟨dst,.binOp .sub t x y u,ty,pos,after,none⟩ (.int k (k.wrap (m-n))):=Zdo h h' rfl
theorem Zd7{k:IntKind}{m n:Int}{t u:TypeId}(h:Opv c st x (.int k m))(h':Opv c st y (.int k n)):SVal c ops st ⟨dst,.binOp .mul t x y u,ty,pos,after,none⟩ (.int k (k.wrap (m*n))):=Zrh h h' rfl
theorem rb{t:Nat}(e:(look st.tm t,datB v)=(some v,true)):RetV c st (.tmp t) v:= .tmp (congrArg Prod.fst e) (Dat.view (.b (congrArg Prod.snd e)))
end
theorem So{P:Program}{gl:Gl}{f:FuncId}{fn:Func}{code:Code}{args:List AV}{res:AV}(hf:P.funcs[f]?=some fn)(e:(fn.body,Nat.ble args.length fn.ntmps)=(some code,true))
    (hT: ∀ w0 A,T ⟨P,fn.ntmps,w0,A,[],gl,0,φz⟩ code ⟨Zfa 0 args,[]⟩ (ZrY ⟨P,fn.ntmps,w0,A,[],gl,0,φz⟩ fn.results res)) (hc:callable P f=true:=by kernel_rfl):CSpec P gl f args res:=ZqB hc hf (congrArg Prod.fst e) (congrArg Prod.snd e) hT
theorem K1{c:Ctx}{code:Code}{st:St}{K:Exit→St→Prop}{a0:AV}(i0:Nat)(e:look st.tm i0=some a0)(k:T c code ⟨[(i0,a0)],st.hp⟩ K):T c code st K:=Jk (.cons (e) rfl (.nil)) rfl k
theorem K2{c:Ctx}{code:Code}{st:St}{K:Exit→St→Prop}{a0 a1:AV}(i0 i1:Nat)(e:(look st.tm i0,look st.tm i1)=(some a0,some a1))(k:T c code ⟨[(i0,a0),(i1,a1)],st.hp⟩ K):T c code st K:=Jk (.cons (congrArg (·.1) e) rfl (.cons (congrArg (·.2) e) rfl (.nil))) rfl k
theorem K3{c:Ctx}{code:Code}{st:St}{K:Exit→St→Prop}{a0 a1 a2:AV}(i0 i1 i2:Nat)(e:(look st.tm i0,look st.tm i1,look st.tm i2)=(some a0,some a1,some a2))(k:T c code ⟨[(i0,a0),(i1,a1),(i2,a2)],st.hp⟩ K):T c code st K:=Jk (.cons (congrArg (·.1) e) rfl (.cons (congrArg (·.2.1) e) rfl (.cons (congrArg (·.2.2) e) rfl (.nil)))) rfl k
theorem K4{c:Ctx}{code:Code}{st:St}{K:Exit→St→Prop}{a0 a1 a2 a3:AV}(i0 i1 i2 i3:Nat)(e:(look st.tm i0,look st.tm i1,look st.tm i2,look st.tm i3)=(some a0,some a1,some a2,some a3))(k:T c code ⟨[(i0,a0),(i1,a1),(i2,a2),(i3,a3)],st.hp⟩ K):T c code st K:=Jk (.cons (congrArg (·.1) e) rfl (.cons (congrArg (·.2.1) e) rfl (.cons (congrArg (·.2.2.1) e) rfl (.cons (congrArg (·.2.2.2) e) rfl (.nil))))) rfl k
theorem K5{c:Ctx}{code:Code}{st:St}{K:Exit→St→Prop}{a0 a1 a2 a3 a4:AV}(i0 i1 i2 i3 i4:Nat)(e:(look st.tm i0,look st.tm i1,look st.tm i2,look st.tm i3,look st.tm i4)=(some a0,some a1,some a2,some a3,some a4))(k:T c code ⟨[(i0,a0),(i1,a1),(i2,a2),(i3,a3),(i4,a4)],st.hp⟩ K):T c code st K:=Jk (.cons (congrArg (·.1) e) rfl (.cons (congrArg (·.2.1) e) rfl (.cons (congrArg (·.2.2.1) e) rfl (.cons (congrArg (·.2.2.2.1) e) rfl (.cons (congrArg (·.2.2.2.2) e) rfl (.nil)))))) rfl k
theorem K6{c:Ctx}{code:Code}{st:St}{K:Exit→St→Prop}{a0 a1 a2 a3 a4 a5:AV}(i0 i1 i2 i3 i4 i5:Nat)(e:(look st.tm i0,look st.tm i1,look st.tm i2,look st.tm i3,look st.tm i4,look st.tm i5)=(some a0,some a1,some a2,some a3,some a4,some a5))(k:T c code ⟨[(i0,a0),(i1,a1),(i2,a2),(i3,a3),(i4,a4),(i5,a5)],st.hp⟩ K):T c code st K:=Jk (.cons (congrArg (·.1) e) rfl (.cons (congrArg (·.2.1) e) rfl (.cons (congrArg (·.2.2.1) e) rfl (.cons (congrArg (·.2.2.2.1) e) rfl (.cons (congrArg (·.2.2.2.2.1) e) rfl (.cons (congrArg (·.2.2.2.2.2) e) rfl (.nil))))))) rfl k
theorem K7{c:Ctx}{code:Code}{st:St}{K:Exit→St→Prop}{a0 a1 a2 a3 a4 a5 a6:AV}(i0 i1 i2 i3 i4 i5 i6:Nat)(e:(look st.tm i0,look st.tm i1,look st.tm i2,look st.tm i3,look st.tm i4,look st.tm i5,look st.tm i6)=(some a0,some a1,some a2,some a3,some a4,some a5,some a6))(k:T c code ⟨[(i0,a0),(i1,a1),(i2,a2),(i3,a3),(i4,a4),(i5,a5),(i6,a6)],st.hp⟩ K):T c code st K:=Jk (.cons (congrArg (·.1) e) rfl (.cons (congrArg (·.2.1) e) rfl (.cons (congrArg (·.2.2.1) e) rfl (.cons (congrArg (·.2.2.2.1) e) rfl (.cons (congrArg (·.2.2.2.2.1) e) rfl (.cons (congrArg (·.2.2.2.2.2.1) e) rfl (.cons (congrArg (·.2.2.2.2.2.2) e) rfl (.nil)))))))) rfl k
theorem K8{c:Ctx}{code:Code}{st:St}{K:Exit→St→Prop}{a0 a1 a2 a3 a4 a5 a6 a7:AV}(i0 i1 i2 i3 i4 i5 i6 i7:Nat)(e:(look st.tm i0,look st.tm i1,look st.tm i2,look st.tm i3,look st.tm i4,look st.tm i5,look st.tm i6,look st.tm i7)=(some a0,some a1,some a2,some a3,some a4,some a5,some a6,some a7))(k:T c code ⟨[(i0,a0),(i1,a1),(i2,a2),(i3,a3),(i4,a4),(i5,a5),(i6,a6),(i7,a7)],st.hp⟩ K):T c code st K:=Jk (.cons (congrArg (·.1) e) rfl (.cons (congrArg (·.2.1) e) rfl (.cons (congrArg (·.2.2.1) e) rfl (.cons (congrArg (·.2.2.2.1) e) rfl (.cons (congrArg (·.2.2.2.2.1) e) rfl (.cons (congrArg (·.2.2.2.2.2.1) e) rfl (.cons (congrArg (·.2.2.2.2.2.2.1) e) rfl (.cons (congrArg (·.2.2.2.2.2.2.2) e) rfl (.nil))))))))) rfl k
theorem K9{c:Ctx}{code:Code}{st:St}{K:Exit→St→Prop}{a0 a1 a2 a3 a4 a5 a6 a7 a8:AV}(i0 i1 i2 i3 i4 i5 i6 i7 i8:Nat)(e:(look st.tm i0,look st.tm i1,look st.tm i2,look st.tm i3,look st.tm i4,look st.tm i5,look st.tm i6,look st.tm i7,look st.tm i8)=(some a0,some a1,some a2,some a3,some a4,some a5,some a6,some a7,some a8))(k:T c code ⟨[(i0,a0),(i1,a1),(i2,a2),(i3,a3),(i4,a4),(i5,a5),(i6,a6),(i7,a7),(i8,a8)],st.hp⟩ K):T c code st K:=Jk (.cons (congrArg (·.1) e) rfl (.cons (congrArg (·.2.1) e) rfl (.cons (congrArg (·.2.2.1) e) rfl (.cons (congrArg (·.2.2.2.1) e) rfl (.cons (congrArg (·.2.2.2.2.1) e) rfl (.cons (congrArg (·.2.2.2.2.2.1) e) rfl (.cons (congrArg (·.2.2.2.2.2.2.1) e) rfl (.cons (congrArg (·.2.2.2.2.2.2.2.1) e) rfl (.cons (congrArg (·.2.2.2.2.2.2.2.2) e) rfl (.nil)))))))))) rfl k
theorem K10{c:Ctx}{code:Code}{st:St}{K:Exit→St→Prop}{a0 a1 a2 a3 a4 a5 a6 a7 a8 a9:AV}(i0 i1 i2 i3 i4 i5 i6 i7 i8 i9:Nat)(e:(look st.tm i0,look st.tm i1,look st.tm i2,look st.tm i3,look st.tm i4,look st.tm i5,look st.tm i6,look st.tm i7,look st.tm i8,look st.tm i9)=(some a0,some a1,some a2,some a3,some a4,some a5,some a6,some a7,some a8,some a9))(k:T c code ⟨[(i0,a0),(i1,a1),(i2,a2),(i3,a3),(i4,a4),(i5,a5),(i6,a6),(i7,a7),(i8,a8),(i9,a9)],st.hp⟩ K):T c code st K:=Jk (.cons (congrArg (·.1) e) rfl (.cons (congrArg (·.2.1) e) rfl (.cons (congrArg (·.2.2.1) e) rfl (.cons (congrArg (·.2.2.2.1) e) rfl (.cons (congrArg (·.2.2.2.2.1) e) rfl (.cons (congrArg (·.2.2.2.2.2.1) e) rfl (.cons (congrArg (·.2.2.2.2.2.2.1) e) rfl (.cons (congrArg (·.2.2.2.2.2.2.2.1) e) rfl (.cons (congrArg (·.2.2.2.2.2.2.2.2.1) e) rfl (.cons (congrArg (·.2.2.2.2.2.2.2.2.2) e) rfl (.nil))))))))))) rfl k
theorem K11{c:Ctx}{code:Code}{st:St}{K:Exit→St→Prop}{a0 a1 a2 a3 a4 a5 a6 a7 a8 a9 a10:AV}(i0 i1 i2 i3 i4 i5 i6 i7 i8 i9 i10:Nat)(e:(look st.tm i0,look st.tm i1,look st.tm i2,look st.tm i3,look st.tm i4,look st.tm i5,look st.tm i6,look st.tm i7,look st.tm i8,look st.tm i9,look st.tm i10)=(some a0,some a1,some a2,some a3,some a4,some a5,some a6,some a7,some a8,some a9,some a10))(k:T c code ⟨[(i0,a0),(i1,a1),(i2,a2),(i3,a3),(i4,a4),(i5,a5),(i6,a6),(i7,a7),(i8,a8),(i9,a9),(i10,a10)],st.hp⟩ K):T c code st K:=Jk (.cons (congrArg (·.1) e) rfl (.cons (congrArg (·.2.1) e) rfl (.cons (congrArg (·.2.2.1) e) rfl (.cons (congrArg (·.2.2.2.1) e) rfl (.cons (congrArg (·.2.2.2.2.1) e) rfl (.cons (congrArg (·.2.2.2.2.2.1) e) rfl (.cons (congrArg (·.2.2.2.2.2.2.1) e) rfl (.cons (congrArg (·.2.2.2.2.2.2.2.1) e) rfl (.cons (congrArg (·.2.2.2.2.2.2.2.2.1) e) rfl (.cons (congrArg (·.2.2.2.2.2.2.2.2.2.1) e) rfl (.cons (congrArg (·.2.2.2.2.2.2.2.2.2.2) e) rfl (.nil)))))))))))) rfl k
theorem K12{c:Ctx}{code:Code}{st:St}{K:Exit→St→Prop}{a0 a1 a2 a3 a4 a5 a6 a7 a8 a9 a10 a11:AV}(i0 i1 i2 i3 i4 i5 i6 i7 i8 i9 i10 i11:Nat)(e:(look st.tm i0,look st.tm i1,look st.tm i2,look st.tm i3,look st.tm i4,look st.tm i5,look st.tm i6,look st.tm i7,look st.tm i8,look st.tm i9,look st.tm i10,look st.tm i11)=(some a0,some a1,some a2,some a3,some a4,some a5,some a6,some a7,some a8,some a9,some a10,some a11))(k:T c code ⟨[(i0,a0),(i1,a1),(i2,a2),(i3,a3),(i4,a4),(i5,a5),(i6,a6),(i7,a7),(i8,a8),(i9,a9),(i10,a10),(i11,a11)],st.hp⟩ K):T c code st K:=Jk (.cons (congrArg (·.1) e) rfl (.cons (congrArg (·.2.1) e) rfl (.cons (congrArg (·.2.2.1) e) rfl (.cons (congrArg (·.2.2.2.1) e) rfl (.cons (congrArg (·.2.2.2.2.1) e) rfl (.cons (congrArg (·.2.2.2.2.2.1) e) rfl (.cons (congrArg (·.2.2.2.2.2.2.1) e) rfl (.cons (congrArg (·.2.2.2.2.2.2.2.1) e) rfl (.cons (congrArg (·.2.2.2.2.2.2.2.2.1) e) rfl (.cons (congrArg (·.2.2.2.2.2.2.2.2.2.1) e) rfl (.cons (congrArg (·.2.2.2.2.2.2.2.2.2.2.1) e) rfl (.cons (congrArg (·.2.2.2.2.2.2.2.2.2.2.2) e) rfl (.nil))))))))))))) rfl k
theorem K0{c:Ctx}{code:Code}{st:St}{K:Exit→St→Prop}(k:T c code ⟨[],st.hp⟩ K):T c code st K:=Jk .nil rfl k
theorem J0{τ β γ:Type}{c:Ctx}{st:St}{K:Exit→St→Prop}{k:β→Option γ}{r:γ}{G:τ→Option β}{X:Option τ}{x y:Code}(inj:(Unit)→τ)(J:St)(h:(X.bind G).bind k=some r)
    (hx:X.bind (fun o=>(G o).bind k)=some r→T c x st (Zfi (fun st'=> ∃ i,(G (inj i)).bind k=some r∧Ent c st' (t0 J i)) K))
    (ky:(G (inj ())).bind k=some r→T c y (J) K):T c (.seq x y) st K:=
  ZgH inj (t0 J) h hx fun i h=>ky h
theorem I0{β γ:Type}{c:Ctx}{st:St}{K:Exit→St→Prop}{k:β→Option γ}{r:γ}{g:Option β}{X:Option (Unit)}{x y:Code}(J:St)(h:(X.bind (t0 g)).bind k=some r)
    (hx:X.bind (fun o=>(t0 g o).bind k)=some r→T c x st (Zfi (fun st'=> ∃ i,(t0 g i).bind k=some r∧Ent c st' (t0 J i)) K))
    (ky:(g).bind k=some r→T c y (J) K):T c (.seq x y) st K:=
  ZgH (G:=t0 g) id (t0 J) h hx fun i h=>ky h
theorem L1{ρ:Type}{α0:Type}{c:Ctx}{code:Code}{st:St}{K:Exit→St→Prop}{body:(α0)→Option ((α0) ⊕ ρ)}(I:α0→St){s0:α0}{r:ρ}(h:loop body s0=some r)(h0:Ent c st (t1 I s0))
    (hr: ∀ (n:Nat) (a0:α0),(body a0).bind (Sum.elim (Zbv body n) some)=some r→T c code (I a0) (Zfi (fun st'=> ∃ s',Zbv body n s'=some r∧Ent c st' (t1 I s')) K)):T c (.loop code) st K:=
  Zit body (t1 I) s0 h h0 fun n s h=>hr n s h
theorem J1{τ β γ:Type}{α0:Type}{c:Ctx}{st:St}{K:Exit→St→Prop}{k:β→Option γ}{r:γ}{G:τ→Option β}{X:Option τ}{x y:Code}(inj:(α0)→τ)(J:α0→St)(h:(X.bind G).bind k=some r)
    (hx:X.bind (fun o=>(G o).bind k)=some r→T c x st (Zfi (fun st'=> ∃ i,(G (inj i)).bind k=some r∧Ent c st' (t1 J i)) K))
    (ky: ∀ (a0:α0),(G (inj a0)).bind k=some r→T c y (J a0) K):T c (.seq x y) st K:=
  ZgH inj (t1 J) h hx fun i h=>ky i h
theorem I1{β γ:Type}{α0:Type}{c:Ctx}{st:St}{K:Exit→St→Prop}{k:β→Option γ}{r:γ}{g:α0→Option β}{X:Option (α0)}{x y:Code}(J:α0→St)(h:(X.bind (t1 g)).bind k=some r)
    (hx:X.bind (fun o=>(t1 g o).bind k)=some r→T c x st (Zfi (fun st'=> ∃ i,(t1 g i).bind k=some r∧Ent c st' (t1 J i)) K))
    (ky: ∀ (a0:α0),(g a0).bind k=some r→T c y (J a0) K):T c (.seq x y) st K:=
  ZgH (G:=t1 g) id (t1 J) h hx fun i h=>ky i h
theorem L2{ρ:Type}{α0 α1:Type}{c:Ctx}{code:Code}{st:St}{K:Exit→St→Prop}{body:(α0×α1)→Option ((α0×α1) ⊕ ρ)}(I:α0→α1→St){s0:α0×α1}{r:ρ}(h:loop body s0=some r)(h0:Ent c st (t2 I s0))
    (hr: ∀ (n:Nat) (a0:α0) (a1:α1),(body (a0,a1)).bind (Sum.elim (Zbv body n) some)=some r→T c code (I a0 a1) (Zfi (fun st'=> ∃ s',Zbv body n s'=some r∧Ent c st' (t2 I s')) K)):T c (.loop code) st K:=
  Zit body (t2 I) s0 h h0 fun n s h=>hr n (s.1) (s.2) h
theorem I2{β γ:Type}{α0 α1:Type}{c:Ctx}{st:St}{K:Exit→St→Prop}{k:β→Option γ}{r:γ}{g:α0→α1→Option β}{X:Option (α0×α1)}{x y:Code}(J:α0→α1→St)(h:(X.bind (t2 g)).bind k=some r)
    (hx:X.bind (fun o=>(t2 g o).bind k)=some r→T c x st (Zfi (fun st'=> ∃ i,(t2 g i).bind k=some r∧Ent c st' (t2 J i)) K))
    (ky: ∀ (a0:α0) (a1:α1),(g a0 a1).bind k=some r→T c y (J a0 a1) K):T c (.seq x y) st K:=
  ZgH (G:=t2 g) id (t2 J) h hx fun i h=>ky (i.1) (i.2) h
theorem L3{ρ:Type}{α0 α1 α2:Type}{c:Ctx}{code:Code}{st:St}{K:Exit→St→Prop}{body:(α0×α1×α2)→Option ((α0×α1×α2) ⊕ ρ)}(I:α0→α1→α2→St){s0:α0×α1×α2}{r:ρ}(h:loop body s0=some r)(h0:Ent c st (t3 I s0))
    (hr: ∀ (n:Nat) (a0:α0) (a1:α1) (a2:α2),(body (a0,a1,a2)).bind (Sum.elim (Zbv body n) some)=some r→T c code (I a0 a1 a2) (Zfi (fun st'=> ∃ s',Zbv body n s'=some r∧Ent c st' (t3 I s')) K)):T c (.loop code) st K:=
  Zit body (t3 I) s0 h h0 fun n s h=>hr n (s.1) (s.2.1) (s.2.2) h
theorem L4{ρ:Type}{α0 α1 α2 α3:Type}{c:Ctx}{code:Code}{st:St}{K:Exit→St→Prop}{body:(α0×α1×α2×α3)→Option ((α0×α1×α2×α3) ⊕ ρ)}(I:α0→α1→α2→α3→St){s0:α0×α1×α2×α3}{r:ρ}(h:loop body s0=some r)(h0:Ent c st (t4 I s0))
    (hr: ∀ (n:Nat) (a0:α0) (a1:α1) (a2:α2) (a3:α3),(body (a0,a1,a2,a3)).bind (Sum.elim (Zbv body n) some)=some r→T c code (I a0 a1 a2 a3) (Zfi (fun st'=> ∃ s',Zbv body n s'=some r∧Ent c st' (t4 I s')) K)):T c (.loop code) st K:=
  Zit body (t4 I) s0 h h0 fun n s h=>hr n (s.1) (s.2.1) (s.2.2.1) (s.2.2.2) h
section
variable {cw:Md} {c:Ctx} {ops:Array Oper} {m:Nat} {st:St} {K:Exit→St→Prop} {dst:Option Tmp} {x y:Operand} {ty:TypeId} {pos:String} {after:Array Edge} {o o':Oper} {v v' P Q:AV} {hp':List (Option Own)}
theorem Dq(i:Nat)(e:(ops[i]?,dstLt o.dst c.nt,noWrite cw.cw o.op)=(some o,true,true))(h:SVal c ops ⟨restr st.tm (o.looksAt ops),st.hp⟩ o v)(k:Dv cw c ops (KE c K) (setBit m i) (st.puto o.dst v))
    (ht:takeQ cw ops m i=true:=by kernel_rfl):Dv cw c ops (KE c K) m st:=Zkz i v (congrArg Prod.fst e) ht (congrArg (·.2.1) e) (congrArg (·.2.2) e) h k
theorem D1(i:Nat)(L:Opv c ⟨restr st.tm (o.looksAt ops),st.hp⟩ x P→SVal c ops ⟨restr st.tm (o.looksAt ops),st.hp⟩ o v)(e:(ops[i]?,dstLt o.dst c.nt,noWrite cw.cw o.op,opv (restr st.tm (o.looksAt ops)) x)=(some o,true,true,some P))
    (k:Dv cw c ops (KE c K) (setBit m i) (st.puto o.dst v)) (ht:takeQ cw ops m i=true:=by kernel_rfl):Dv cw c ops (KE c K) m st:=Zkz i v (congrArg Prod.fst e) ht (congrArg (·.2.1) e) (congrArg (·.2.2.1) e) (L (ov (congrArg (·.2.2.2) e))) k
theorem D2(i:Nat)(L:Opv c ⟨restr st.tm (o.looksAt ops),st.hp⟩ x P→Opv c ⟨restr st.tm (o.looksAt ops),st.hp⟩ y Q→SVal c ops ⟨restr st.tm (o.looksAt ops),st.hp⟩ o v)
    (e:(ops[i]?,dstLt o.dst c.nt,noWrite cw.cw o.op,opv (restr st.tm (o.looksAt ops)) x,opv (restr st.tm (o.looksAt ops)) y)=(some o,true,true,some P,some Q))
    (k:Dv cw c ops (KE c K) (setBit m i) (st.puto o.dst v)) (ht:takeQ cw ops m i=true:=by kernel_rfl):Dv cw c ops (KE c K) m st:=
  Zkz i v (congrArg Prod.fst e) ht (congrArg (·.2.1) e) (congrArg (·.2.2.1) e) (L (ov (congrArg (·.2.2.2.1) e)) (ov (congrArg (·.2.2.2.2) e))) k
theorem Do(i:Nat)(e:(ops[i]?,dstLt o.dst c.nt,noWrite cw.cw o.op)=(some o,true,false))(h:WVal c ops ⟨restr st.tm (o.looksAt ops),st.hp⟩ o v hp')(k:Dv cw c ops (KE c K) (setBit m i) (St.puto ⟨st.tm,hp'⟩ o.dst v))(ht:onlyAt ops m i=true:=by kernel_rfl)
    (hx:extOp o.op=true→Ext st.hp hp':=by intro h;cases h) (hy:cw.fr=true→ExtW cw.wl cw.base hp':=by intro h;cases h):Dv cw c ops (KE c K) m st:=ZoG i v hp' (congrArg Prod.fst e) ht (congrArg (·.2.1) e) (congrArg (·.2.2) e) hx hy h k
theorem Dw(i j:Nat)(e:(ops[i]?,ops[j]?,dstLt o.dst c.nt,dstLt o'.dst c.nt,noWrite cw.cw o.op,noWrite cw.cw o'.op)=(some o,some o',true,true,true,false))
    (h:SVal c ops ⟨restr st.tm (o.looksAt ops),st.hp⟩ o v) (h':WVal c ops ⟨restr st.tm (o'.looksAt ops),st.hp⟩ o' v' hp')
    (k:Dv cw c ops (KE c K) (setBit m i) (st.puto o.dst v)) (k':Dv cw c ops (KE c K) (setBit m j) (St.puto ⟨st.tm,hp'⟩ o'.dst v')) (ht:Zop ops m i j=true:=by kernel_rfl)
    (hx':extOp o'.op=true→Ext st.hp hp':=by intro h;cases h) (hy':cw.fr=true→ExtW cw.wl cw.base hp':=by intro h;cases h):Dv cw c ops (KE c K) m st:=
  Zrr i j (congrArg (·.1) e) (congrArg (·.2.1) e) ht (congrArg (·.2.2.1) e) (congrArg (·.2.2.2.1) e) (congrArg (·.2.2.2.2.1) e) (congrArg (·.2.2.2.2.2) e) hx' hy' h h' k k'
theorem Dd(k:K .normal st)(h:ZkB ops m=true:=by kernel_rfl):Dv cw c ops (KE c K) m st:=Zrv h k
end
theorem ES{c:Ctx}{st:St}{tm':List (Nat×AV)}{hp':List (Option Own)}(s:List (Option Nat))
    (htm:SelTm (ZgR s st.hp) st.tm tm':=by repeat (first |exact sn |refine sd _ rfl rfl ?_ | (refine sr _ rfl ?_ ?_;(· first |exact .dat rfl |exact .own _ rfl |exact .ptr _ _ _ rfl |exact .mref _ rfl |exact .row rfl |exact .nils _ | (refine ZsR ?_;(· first |exact rld rfl | (refine rld ?_;(· first |rfl |exact arD fun _=>rfl |exact arC fun _=>rfl |exact ZlM fun x=>(RowD.h (P:=_) x).2 | ((repeat (first |exact alN |refine alC rfl ?_ | (refine alA ?_ ?_;(· first |exact arD fun _=>rfl |exact arC fun _=>rfl))));done))) | ((repeat (first |exact rln | (refine rlc ?_ ?_;(· first |exact .dat rfl |exact .own _ rfl |exact .ptr _ _ _ rfl |exact .mref _ rfl |exact .row rfl |exact .nils _)) | (refine rla ?_ ?_;(· refine rld ?_;(first |rfl |exact arD fun _=>rfl |exact arC fun _=>rfl |exact ZlM fun x=>(RowD.h (P:=_) x).2 | ((repeat (first |exact alN |refine alC rfl ?_ | (refine alA ?_ ?_;(· first |exact arD fun _=>rfl |exact arC fun _=>rfl))));done))))));done))) | (refine ZbA ?_;(· first |exact rld rfl | (refine rld ?_;(· first |rfl |exact arD fun _=>rfl |exact arC fun _=>rfl |exact ZlM fun x=>(RowD.h (P:=_) x).2 | ((repeat (first |exact alN |refine alC rfl ?_ | (refine alA ?_ ?_;(· first |exact arD fun _=>rfl |exact arC fun _=>rfl))));done))) | ((repeat (first |exact rln | (refine rlc ?_ ?_;(· first |exact .dat rfl |exact .own _ rfl |exact .ptr _ _ _ rfl |exact .mref _ rfl |exact .row rfl |exact .nils _)) | (refine rla ?_ ?_;(· refine rld ?_;(first |rfl |exact arD fun _=>rfl |exact arC fun _=>rfl |exact ZlM fun x=>(RowD.h (P:=_) x).2 | ((repeat (first |exact alN |refine alC rfl ?_ | (refine alA ?_ ?_;(· first |exact arD fun _=>rfl |exact arC fun _=>rfl))));done))))));done))) | (refine rFn ?_;(· first |exact rld rfl | (refine rld ?_;(· first |rfl |exact arD fun _=>rfl |exact arC fun _=>rfl |exact ZlM fun x=>(RowD.h (P:=_) x).2 | ((repeat (first |exact alN |refine alC rfl ?_ | (refine alA ?_ ?_;(· first |exact arD fun _=>rfl |exact arC fun _=>rfl))));done))) | ((repeat (first |exact rln | (refine rlc ?_ ?_;(· first |exact .dat rfl |exact .own _ rfl |exact .ptr _ _ _ rfl |exact .mref _ rfl |exact .row rfl |exact .nils _)) | (refine rla ?_ ?_;(· refine rld ?_;(first |rfl |exact arD fun _=>rfl |exact arC fun _=>rfl |exact ZlM fun x=>(RowD.h (P:=_) x).2 | ((repeat (first |exact alN |refine alC rfl ?_ | (refine alA ?_ ?_;(· first |exact arD fun _=>rfl |exact arC fun _=>rfl))));done))))));done)))))))
    (hhp:SelHp c.P (ZgR s st.hp) st.hp s hp':=by repeat (first |exact .nil | (refine .cons rfl ?_ ?_;(· first |exact roM RowD.h |exact roE | (refine ro1 ?_ ?_;(· first |exact(SzD.h).symm | (refine Eq.trans ?_ (SzD.h).symm;(· simp)));(· first |exact rld rfl | (refine rld ?_;(· first |rfl |exact arD fun _=>rfl |exact arC fun _=>rfl |exact ZlM fun x=>(RowD.h (P:=_) x).2 | ((repeat (first |exact alN |refine alC rfl ?_ | (refine alA ?_ ?_;(· first |exact arD fun _=>rfl |exact arC fun _=>rfl))));done))) | ((repeat (first |exact rln | (refine rlc ?_ ?_;(· first |exact .dat rfl |exact .own _ rfl |exact .ptr _ _ _ rfl |exact .mref _ rfl |exact .row rfl |exact .nils _)) | (refine rla ?_ ?_;(· refine rld ?_;(first |rfl |exact arD fun _=>rfl |exact arC fun _=>rfl |exact ZlM fun x=>(RowD.h (P:=_) x).2 | ((repeat (first |exact alN |refine alC rfl ?_ | (refine alA ?_ ?_;(· first |exact arD fun _=>rfl |exact arC fun _=>rfl))));done))))));done))))) |refine .dead ?_ |refine .row _ ?_))
    (hnd:dupL s hp'=true:=by rfl) (hfx:Zhr 0 c.n0 s=true:=by rfl):Ent c st ⟨tm',hp'⟩:=Ent.sel s htm hhp hnd hfx
end Go.Vx
