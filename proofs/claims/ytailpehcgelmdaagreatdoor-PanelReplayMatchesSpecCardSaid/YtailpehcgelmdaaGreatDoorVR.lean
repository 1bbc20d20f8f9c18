/- A text of the proof: a verified executor of the program form, or the contracts of the functions that the law reaches. -/
import Derived.Test.YtailpehcgelmdaaGreatDoorVQ
import Derived.Shelf.Slices.In.SortNone
import Derived.Test.YtailpehcgelmdaaGreatDoorVO
import Derived.Test.YtailpehcgelmdaaGreatDoorVL
import Derived.Test.YtailpehcgelmdaaGreatDoorVG
import Derived.Test.YtailpehcgelmdaaGreatDoorVJ
set_option linter.all false
namespace Go.Vx
open Go Go.RowKit Go.Lib Go.Sort
end Go.Vx

namespace Go.Vx
open Go Go.RowKit
end Go.Vx

namespace Go.Vx
open Go Go.RowKit
def flB:AV→Bool
  | .int _ _ | .bool _ | .str _ | .lit _ | .nils | .any=>true
  |_=>false
inductive DeepC (P:Program):AV→Prop
  |flat {av:AV}:flB av=true→DeepC P av
  |sub {e:TypeId} {l:List (List AV)}:(∀ row∈l,row.length=P.cellsOf e)→(∀ i j,DeepC P (cellAt l i j))→DeepC P (.osub e l)
def Zol(P:Program)(l:List AV):Prop:= ∀ j,DeepC P (l.getD j .any)
theorem dlF{P:Program}{l:List AV}(h:l.all flB=true):Zol P l:=fun j=>by
  by_cases hj:j<l.length
  · have e:l.getD j .any=l[j]:=by simp [List.getD_eq_getElem?_getD,hj]
    rw [e];exact .flat (List.all_eq_true.1 h _ (List.getElem_mem _))
  · rw [List.getD_eq_getElem?_getD,List.getElem?_eq_none (by omega)];exact .flat rfl
section rows
variable {P:Program} {α:Type} {f g:α→List AV} {e:TypeId} {xs:List α}
theorem Zmv{i j:Nat}(hi:i<xs.length):cellAt (xs.map f) i j=(f xs[i]).getD j .any:=by
  unfold cellAt;congr 1;simp [List.getD_eq_getElem?_getD,hi]
end rows
section ent
variable {c:Ctx} {tm:List (Nat×AV)} {hp:List (Option Own)} {α β:Type} {f:α→List AV} {e e':TypeId} {xs:List α} {r i j q n:Nat} {x y:α} {row:List AV} {l:List (List AV)}
end ent
section melt
variable {P:Program} {α:Type} {f g:α→List AV} {e:TypeId} {xs:List α}
end melt
section view
variable {c:Ctx} {st:St} {α:Type} {f g:α→List AV} {e:TypeId} {xs:List α} {r n:Nat}
end view
section ops
variable {c:Ctx} {ops:Array Oper} {st:St} {dst:Option Tmp} {ty:TypeId} {pos:String} {after:Array Edge} {α:Type} {f:α→List AV} {e:TypeId} {xs:List α} {r n:Nat}
inductive ElemsO (c:Ctx) (st:St) (sz:Nat):List (Nat×Operand)→Nat→List (List AV)→Prop
  |nil {k:Nat}:ElemsO c st sz [] k []
  |cons {k:Nat} {x:Operand} {l:List AV} {ps:List (Nat×Operand)} {ls:List (List AV)}:CellV c st x l→l.length=sz→ElemsO c st sz ps (k+1) ls→ElemsO c st sz ((k,x)::ps) k (l::ls)
theorem ElemsO.spec{sz:Nat}{ps:List (Nat×Operand)}{k:Nat}{ls:List (List AV)}(h:ElemsO c st sz ps k ls){φ:Phi}{a:Act}{w:World}(hc:Conc c φ st a w):
    ps.length=ls.length∧(∀ row∈ls,row.length=sz)∧(∀ q,q<ps.length→((ps.map fun p=>(p.1,a.eval p.2)).getD q (0,undef)).1=k+q)∧(∀ p∈ps.map (fun p=>(p.1,a.eval p.2)),p.2.cells.size=sz)∧
      ∀ q j,q<ps.length→j<sz→RelF c.P w (Mut c.A φ st.hp) st.hp.length φ (cellAt ls q j) ((((ps.map fun p=>(p.1,a.eval p.2)).getD q (0,undef)).2.cells).getD j undef):=by
  induction h with
  |nil=>exact⟨rfl,by simp,(fun q hq=>by cases hq),by simp,(fun q j hq=>by cases hq)⟩
  | @cons k x l ps ls hx hl _ ih=>
    obtain⟨h1,h2,h3,h4,h5⟩:=ih
    obtain⟨c1,c2⟩:=hx φ a w hc
    refine⟨by simp [h1],?_,fun q hq=> ?_,?_,fun q j hq hj=> ?_⟩
    · intro row hrow
      rcases List.mem_cons.1 hrow with rfl |hrow
      · exact hl
      · exact h2 row hrow
    · cases q with
      |zero=>simp
      |succ q=>
        have:=h3 q (by simpa using hq)
        simp at this ⊢
        omega
    · intro p hp
      rcases List.mem_cons.1 hp with rfl |hp
      · exact c1.trans hl
      · exact h4 p hp
    · cases q with
      |zero=>
        have:=c2 j (by omega)
        simpa [cellAt] using this
      |succ q=>
        have:=h5 q j (by simpa using hq) hj
        simpa [cellAt] using this
end ops
def ZmQ:AV→Bool
  | .own _ _ | .ptr _ _ _ _ | .mref _ _ | .bptr _ _=>true
  |av=>flB av
def ZjT:AV→Bool
  | .agg l=>l.all ZmQ
  |av=>ZmQ av
def Zql:AV→Bool
  | .tuple l=>l.all ZjT
  |av=>ZjT av
theorem Zp7{P:Program}{w:World}{M M':Nat→Prop}{φ:Phi}{av:AV}{v:Value}(hb:ZmQ av=true)(h:Rel P w M φ av v):Rel P w M' φ av v:=by
  cases h with
  |data h=>
    cases h<;>first | (exact .data (.int _ _)) | (exact .data (.bool _)) | (exact .data (.str _)) | (exact .data (.lit _)) | (exact .data .nils) | (exact .data (.any _)) | (cases hb)
  |own r n v hv h0 h=>exact .own r n v hv h0 h
  |ptr r n i j v hv h0 h=>exact .ptr r n i j v hv h0 h
  |mref r n v hv h0 h=>exact .mref r n v hv h0 h
  |bptr r n v hv h0 h=>exact .bptr r n v hv h0 h
  |_=>cases hb
theorem ZgD{p:AV→Bool}{l:List AV}(h:l.all p=true){i:Nat}(hi:i<l.length):p (l.getD i .any)=true:=by
  have e:l.getD i .any=l[i]:=by simp [List.getD_eq_getElem?_getD,hi]
  rw [e];exact List.all_eq_true.1 h _ (List.getElem_mem _)
theorem ZnL{P:Program}{w:World}{M M':Nat→Prop}{φ:Phi}{av:AV}{v:Value}(hb:ZjT av=true)(h:Rel P w M φ av v):Rel P w M' φ av v:=by
  by_cases hg: ∃ l,av= .agg l
  · obtain⟨l,rfl⟩:=hg
    cases h with
    |data h=>cases h with |agg _ vs h1 h2=>exact .agg l vs h1 fun i hi=>Zp7 (ZgD hb hi) (.data (h2 i hi))
    |agg _ vs h1 h2=>exact .agg l vs h1 fun i hi=>Zp7 (ZgD hb hi) (h2 i hi)
  · have:ZmQ av=true:=by cases av<;>first |exact hb |exact absurd ⟨_,rfl⟩ hg
    exact Zp7 this h
theorem Zq7{P:Program}{w:World}{M M':Nat→Prop}{φ:Phi}{av:AV}{v:Value}(hb:Zql av=true)(h:Rel P w M φ av v):Rel P w M' φ av v:=by
  by_cases hg: ∃ l,av= .tuple l
  · obtain⟨l,rfl⟩:=hg
    cases h with
    |data h=>cases h with |tuple _ vs h1 h2=>exact .tuple l vs h1 fun i hi=>ZnL (ZgD hb hi) (.data (h2 i hi))
    |tuple _ vs h1 h2=>exact .tuple l vs h1 fun i hi=>ZnL (ZgD hb hi) (h2 i hi)
  · have:ZjT av=true:=by cases av<;>first |exact hb |exact absurd ⟨_,rfl⟩ hg
    exact ZnL this h
def FreC(P:Program)(av:AV):Prop:=DeepC P av∨ZjT av=true
theorem FreC.trel{P:Program}{w:World}{M M':Nat→Prop}{n:Nat}{φ:Phi}{S:Nat→Prop}{av:AV}{v:Value}(hf:FreC P av)(h:TRel P w M n φ S av v):TRel P w M' n φ S av v:=by
  rcases hf with hf |hb
  · induction hf generalizing S v with
    | @flat av hb=>
      have hb1:ZjT av=true:=by cases av<;>first |exact hb |cases hb
      cases h with
      |leaf h=>exact .leaf fun ψ hψ=>ZnL hb1 (h ψ hψ)
      |nil=>cases hb
      |osub=>cases hb
      |mcon=>cases hb
    | @sub e l h0 h1 ih=>
      cases h with
      |leaf h=>have:=Zio h;cases this
      |nil e=>exact .nil e
      |osub _ _ b cap cs T g1 g2 g3 g4 g5 g6 g7 g8 g9=>exact .osub e l b cap cs T g1 g2 g3 g4 g5 g6 g7 g8 fun i j hi hj=>ih i j (g9 i j hi hj)
  · cases h with
    |leaf h=>exact .leaf fun ψ hψ=>ZnL hb (h ψ hψ)
    |nil=>cases hb
    |osub=>cases hb
    |mcon=>cases hb
inductive FreOs (P:Program):List (Option Own)→Prop
  |nil:FreOs P []
  |none {tl:List (Option Own)}:FreOs P tl→FreOs P (none::tl)
  |cons {o:Own} {tl:List (Option Own)}:(∀ i j,i<o.es.length→j<P.cellsOf o.elem→FreC P (cellAt o.es i j))→FreOs P tl→FreOs P (some o::tl)
theorem FreOs.get{P:Program}{os:List (Option Own)}(h:FreOs P os): ∀ i o,nth os i=some o→ ∀ i' j,i'<o.es.length→j<P.cellsOf o.elem→FreC P (cellAt o.es i' j):=by
  induction h with
  |nil=>intro i o h;cases h
  |none _ ih=>
    intro i o h
    cases i with
    |zero=>cases h
    |succ i=>exact ih i o h
  |cons h1 _ ih=>
    intro i o h
    cases i with
    |zero=>cases h;exact h1
    |succ i=>exact ih i o h
theorem frM{P:Program}{α:Type}{f:α→List AV}{e:TypeId}{xs:List α}(h: ∀ x,(f x).length=P.cellsOf e∧Zol P (f x)): ∀ i j,i<(⟨e,xs.map f⟩:Own).es.length→j<P.cellsOf (⟨e,xs.map f⟩:Own).elem→FreC P (cellAt (⟨e,xs.map f⟩:Own).es i j):=fun i j hi _=>by
  simp only [List.length_map] at hi
  rw [Zmv hi];exact .inl ((h _).2 j)
theorem fr1{P:Program}{e:TypeId}{l:List AV}(h:l.all ZjT=true): ∀ i j,i<(⟨e,[l]⟩:Own).es.length→j<P.cellsOf (⟨e,[l]⟩:Own).elem→FreC P (cellAt (⟨e,[l]⟩:Own).es i j):=fun i j hi _=>by
  simp only [List.length_singleton] at hi
  obtain rfl:i=0:=by omega
  have e1:cellAt [l] 0 j=l.getD j .any:=rfl
  rw [e1]
  by_cases hj:j<l.length
  · exact .inr (ZgD h hj)
  · rw [List.getD_eq_getElem?_getD,List.getElem?_eq_none (by omega)];exact .inr rfl
section callV
variable {c:Ctx} {ops:Array Oper} {st:St} {dst:Option Tmp} {ty:TypeId} {pos:String} {after:Array Edge}
theorem ZoI{f:FuncId}{xs:List Operand}{ts:Array TypeId}{ds:List AV}{os' hp':List (Option Own)}{res res':AV}(hs:GSpec c.P c.gl f ds [] res os')(ha:ArgsV c st xs ds)
    (hb:Back c.P [] st.hp.length st.hp os' 0 hp') (hlen:st.hp.length+os'.length=hp'.length) (hr:RenR (rwR (callR [] st.hp.length)) res res') (hfr:Zql res=true) (hfo:FreOs c.P os'):
    WVal c ops st ⟨dst,.call {callee:= .value (.func f),args:=xs.toArray,argTypes:=ts},ty,pos,after,none⟩ res' hp':=by
  intro φ a w hc
  refine⟨rfl,?_⟩
  obtain⟨hl,hrel⟩:=ha.rel hc
  unfold Oper.wp
  have e:(execOp a.eval ⟨dst,.call {callee:= .value (.func f),args:=xs.toArray,argTypes:=ts},ty,pos,after,none⟩).run c.P w= .ok (.enter f (xs.map a.eval).toArray) w:=by
    simp [execOp,resolve,Act.eval,Deferred.ofValue,invoke,Za9 hs.call]
  rw [e]
  have hok:=hc.hok
  have hmutlt:=ZhQ hc
  have hgl:=ZgN hc
  have hok0:HeapOK ⟨c.P,0,w,c.A,[],c.gl,0,φ⟩ φ [] w:=
    ⟨rfl,rfl,rfl,Nat.le_refl _,fun _ _ _=>rfl,(fun r o b h=>by cases h),(fun r r' o o' b h=>by cases h),(fun r o h=>by cases h),(fun b hb=>⟨hmutlt b (.inl hb),by simp⟩),⟨hgl.len,hgl.W,fun p hp=>let ⟨h1,h2,h3⟩:=hgl.tab p hp;⟨h1,h2,fun h=>h3 (.inl h)⟩⟩,Nat.zero_le _,fun r hr=>by cases hr⟩
  refine(hs.spec c.A [] w φ (xs.map a.eval).toArray hok0 (by simpa using hl) (fun i hi=>ZI (by
    have:=hrel i hi
    have e1:(xs.map a.eval).toArray.getD i undef=(xs.map a.eval).getD i undef:=by simp [Array.getD_eq_getD_getElem?,List.getD_eq_getElem?_getD]
    rw [e1]
    exact this.mono (Nat.le_refl _) (fun _ _ _=>rfl) (fun b _ hm=>fun h=>h.elim hm fun⟨r,o,hr,_⟩=>by cases hr)))).mono ?_
  rintro e w' ⟨v,φ',rfl,hq,hv⟩
  generalize hhp:st.hp=hp at*
  have hBl:Below w.heap.size w w':=⟨hq.os,hq.tape,hq.output,hq.heap,fun b hb=>hq.frame b hb (by simp)⟩
  let φ'':Phi:=fun r=>if r<hp.length then φ r else φ' (r-hp.length)
  have hφo: ∀ r,r<hp.length→φ'' r=φ r:=fun r h=>by simp only [φ'',if_pos h]
  have hφn: ∀ i r,callR [] hp.length i r→φ'' r=φ' i:=by
    rintro i r (h | ⟨_,rfl⟩)
    · simp at h
    · simp only [List.length_nil,Nat.sub_zero,φ'',if_neg (show ¬hp.length+i<hp.length by omega)];congr 1;omega
  have hback: ∀ r o2,nth hp' r=some o2→(∃ i o,callR [] hp.length i r∧nth os' i=some o∧RenOO c.P (rwR (callR [] hp.length)) o o2)∨nth hp r=some o2:=fun r o2 h=>by
    have:=hb.get r o2 h
    rw [Nat.zero_add] at this
    exact this.imp id fun h=>h.1
  have hnewb: ∀ i o b,nth os' i=some o→(φ' i).has b→w.heap.size≤b∧ ¬c.A b:=fun i o b h1 h2=>by
    obtain⟨h3,h4⟩:=hq.owned i o b h1 h2
    exact⟨h3.resolve_left (by simp),h4⟩
  have hmm: ∀ b,b<w.heap.size→ ¬Mut c.A φ hp b→ ¬Mut c.A φ'' hp' b:=by
    rintro b hlt hm (ha | ⟨r,o2,hr2,hbk⟩)
    · exact hm (.inl ha)
    · rcases hback r o2 hr2 with ⟨i,o,h1,h2,_⟩ |h1
      · rw [hφn i r h1] at hbk
        have:=(hnewb i o b h2 hbk).1;omega
      · rw [hφo r (XA h1)] at hbk
        exact hm (.inr ⟨r,o2,h1,hbk⟩)
  have htr: ∀ av x,RelF c.P w (Mut c.A φ hp) hp.length φ av x→RelF c.P w' (Mut c.A φ'' hp') hp'.length φ'' av x:=by
    intro av x hx ψ hψ
    refine((hx (fun s=>if s<hp.length then φ s else ψ s) fun s hs=>by simp only [if_pos hs]).mono hBl.size (fun b hb _=>hBl.block b hb) hmm).loc fun s=> ?_
    by_cases hs:s<hp.length
    · rw [if_pos hs,hψ s (by omega),hφo s hs];exact .inl (.refl _)
    · rw [if_neg hs];exact .inl (.refl _)
  have hren0: ∀ ψ,ZfO hp'.length φ'' ψ→ ∃ χ,ZfO os'.length φ' χ∧RwOK (rwR (callR [] hp.length)) c.P w' (Mut c.A φ'' hp') (Mut c.A φ'' hp') χ ψ:=by
    intro ψ hψ
    let χ:Phi:=fun i=>if i<os'.length then φ' i else ψ (hp.length+i)
    refine⟨χ,fun i hi=>by simp only [χ,if_pos hi],Zks (fun i r hir=> ?_) (fun _ _ h=>h)⟩
    by_cases hi:i<os'.length
    · simp only [χ,if_pos hi]
      have hlt:r<hp'.length:=by
        rcases hir with h | ⟨_,rfl⟩
        · simp at h
        · simp;omega
      rw [hψ r hlt,hφn i r hir]
    · simp only [χ,if_neg hi]
      rcases hir with h | ⟨_,rfl⟩
      · simp at h
      · rfl
  have hren: ∀ (av av':AV) (x:Value),Zql av=true→RenR (rwR (callR [] hp.length)) av av'→RelF c.P w' (Mut c.A φ' os') os'.length φ' av x→RelF c.P w' (Mut c.A φ'' hp') hp'.length φ'' av' x:=by
    intro av av' x hf h1 h2 ψ hψ
    obtain⟨χ,hχ,hok2⟩:=hren0 ψ hψ
    exact h1.rel hok2 (Zq7 hf (h2 χ hχ))
  refine⟨v,φ'',rfl,⟨hq.os.trans hok.os,hq.tape.trans hok.tape,hq.output.trans hok.output,Nat.le_trans hok.heap hq.heap,?_,?_,?_,?_,hok.amb,hok.glob,Nat.le_trans (by have:=hok.len;exact this) (by omega),?_⟩,htr,hren _ _ _ hfr hr hv⟩
  · intro b hlt hnW
    rw [hBl.block b (Nat.lt_of_lt_of_le hlt hok.heap)]
    exact hok.frame b hlt hnW
  · intro r o2 b hr2 hbk
    rcases hback r o2 hr2 with ⟨i,o,h1,h2,_⟩ |h1
    · rw [hφn i r h1] at hbk
      obtain⟨h3,h4⟩:=hnewb i o b h2 hbk
      have:=hok.heap
      exact⟨.inr (by omega),h4⟩
    · rw [hφo r (XA h1)] at hbk
      exact hok.owned r o2 b h1 hbk
  · intro r r' o o' b hr1 hr1' hbk hbk'
    have mix: ∀ i x o y q,callR [] hp.length i x→nth os' i=some o→(φ' i).has b→nth hp y=some q→(φ y).has b→False:=by
      intro i x o y q h1 h2 h3 h4 h6
      have:=(hnewb i o b h2 h3).1
      have:=hmutlt b (.inr ⟨y,q,h4,h6⟩);omega
    rcases hback r o hr1 with ⟨i,oi,h1,h2,_⟩ |h1
    · rw [hφn i r h1] at hbk
      rcases hback r' o' hr1' with ⟨i',oi',h1',h2',_⟩ |h1'
      · rw [hφn i' r' h1'] at hbk'
        have:=hq.apart i i' oi oi' b h2 h2' hbk hbk'
        subst this
        rcases h1 with h1 | ⟨_,rfl⟩
        · simp at h1
        · rcases h1' with h1' | ⟨_,rfl⟩
          · simp at h1'
          · rfl
      · rw [hφo r' (XA h1')] at hbk'
        exact(mix i r oi r' o' h1 h2 hbk h1' hbk').elim
    · rw [hφo r (XA h1)] at hbk
      rcases hback r' o' hr1' with ⟨i',oi',h1',h2',_⟩ |h1'
      · rw [hφn i' r' h1'] at hbk'
        exact(mix i' r' oi' r o h1' h2' hbk' h1 hbk).elim
      · rw [hφo r' (XA h1')] at hbk'
        exact hok.apart r r' o o' b h1 h1' hbk hbk'
  · intro r o2 hr2
    rcases hback r o2 hr2 with ⟨i,o,h1,h2,h3⟩ |h1
    · have hO:=hq.obj i o h2
      obtain⟨g1,g2,g4,g5⟩:=h3
      have he:=hφn i r h1
      refine⟨by rw [he,←g2];exact hO.len,by rw [he,←g1];exact hO.sz,g4,by rw [he,←g2];exact hO.room,by rw [he];exact hO.cap,fun hb=> ?_,by rw [he];exact hO.subl,by rw [he];exact hO.subn,fun b hb=> ?_⟩
      · rw [he] at hb ⊢
        obtain⟨e1,e2⟩:=hO.none hb
        exact⟨List.eq_nil_of_length_eq_zero (by rw [←g2,e1];rfl),e2⟩
      · rw [he] at hb ⊢
        obtain⟨cs,e1,e2,T,t1,t2,e3⟩:=hO.some b hb
        refine⟨cs,by rw [←g1];exact e1,by rw [←g1];exact e2,T,t1,t2,fun i' j' hi' hj'=> ?_⟩
        rw [←g1] at hj' ⊢
        have hi'':i'<o.es.length:=by rw [g2];exact hi'
        exact(g5 i' j' hi'' hj').relX (fun ψ hψ=>hren0 ψ hψ) ((hfo.get i o h2 i' j' hi'' hj').trel (e3 i' j' hi'' hj'))
    · have hO:=hok.obj r o2 h1
      have he:=hφo r (XA h1)
      refine⟨by rw [he];exact hO.len,by rw [he];exact hO.sz,hO.rows,by rw [he];exact hO.room,by rw [he];exact hO.cap,by rw [he];exact hO.none,by rw [he];exact fun b hb=>Nat.lt_of_lt_of_le (hO.subl b hb) hq.heap,by rw [he];exact hO.subn,fun b hb=> ?_⟩
      rw [he] at hb ⊢
      obtain⟨cs,e1,e2,e3⟩:=hO.some b hb
      exact⟨cs,e1.congr (hBl.block b e1.lt),e2,e3.tr (fun x hx=>hBl.block x (hO.subl x hx)) htr⟩
  · intro r hr0
    have hl0:c.n0≤hp.length:=hok.len
    rw [hφo r (by omega)]
    exact hok.mono r hr0
end callV
end Go.Vx

namespace Go.Vx
open Go Go.RowKit
section
variable {c:Ctx} {ops:Array Oper} {st:St} {dst:Option Tmp} {ty:TypeId} {pos:String} {after:Array Edge} {α:Type} {f:α→List AV}
end
end Go.Vx

namespace Go.Vx
open Go Go.RowKit
section t9
variable {α β γ δ ε ζ η θ μ ι κ ρ:Type}
def t9(f:α→β→γ→δ→ε→ζ→η→θ→μ→ι)(p:α×β×γ×δ×ε×ζ×η×θ×μ):ι:=f p.1 p.2.1 p.2.2.1 p.2.2.2.1 p.2.2.2.2.1 p.2.2.2.2.2.1 p.2.2.2.2.2.2.1 p.2.2.2.2.2.2.2.1 p.2.2.2.2.2.2.2.2
@[simp] theorem Zrk (f:α→β→γ→δ→ε→ζ→η→θ→μ→ι) (a:α) (b:β) (c:γ) (d:δ) (e:ε) (g:ζ) (h:η) (i:θ) (j:μ):t9 f (a,b,c,d,e,g,h,i,j)=f a b c d e g h i j:=rfl
end t9
section
variable {c:Ctx} {ops:Array Oper} {st:St} {dst:Option Tmp} {ty:TypeId} {pos:String} {after:Array Edge} {α:Type} {f:α→List AV}
end
end Go.Vx

namespace Go.Vx
open Go Go.RowKit
section t10
variable {α β γ δ ε ζ η θ μ ν ι κ ρ:Type}
def t10(f:α→β→γ→δ→ε→ζ→η→θ→μ→ν→ι)(p:α×β×γ×δ×ε×ζ×η×θ×μ×ν):ι:=f p.1 p.2.1 p.2.2.1 p.2.2.2.1 p.2.2.2.2.1 p.2.2.2.2.2.1 p.2.2.2.2.2.2.1 p.2.2.2.2.2.2.2.1 p.2.2.2.2.2.2.2.2.1 p.2.2.2.2.2.2.2.2.2
@[simp] theorem Zrh (f:α→β→γ→δ→ε→ζ→η→θ→μ→ν→ι) (a:α) (b:β) (c:γ) (d:δ) (e:ε) (g:ζ) (h:η) (i:θ) (j:μ) (l:ν):t10 f (a,b,c,d,e,g,h,i,j,l)=f a b c d e g h i j l:=rfl
end t10
section ops
variable {c:Ctx} {ops:Array Oper} {st:St} {dst:Option Tmp} {ty:TypeId} {pos:String} {after:Array Edge}
variable {α:Type} {f:α→List AV}
theorem Zne{t e by_ r m sz:Nat}{x:Operand}{lo hi:Option Operand}{xs:List α}{p q:Int}{u:Unit}(h:Opv c st x (.own r m))(ho:nth st.hp r=some ⟨e,xs.map f⟩)(hm:xs.length=m)(ht:tSl c.P t e sz by_=true)
    (hl:Zjm c st 0 lo p) (hh:Zjm c st (xs.length:Int) hi q) (hz:slq xs p q=some u):SVal c ops st ⟨dst,.slice t x lo hi none,ty,pos,after,none⟩ (.osl r m (p.toNat*sz) (q-p).toNat):=
  .pure rfl fun φ a w hc=>by
    obtain⟨h0,h1,h2,h3⟩:=ZlS hz
    obtain⟨hu,inf,z,hi',hs,hby,hn0,hz,hzs,hcs⟩:=tSl.spec ht
    have hO:=hc.hok.obj r _ ho
    have hv:=Zcu (h φ a w hc) (by rw [hO.len];simpa using hm)
    have hroom:=hO.room
    simp only [List.length_map] at hroom
    have hsz:(sizeOf e).run c.P w= .ok sz w:=by simp [sizeOf,typeInfo,hi',hs]
    have hrb:=Zf8 hc (isS:=true) hl hh h0 h1 (show q≤(((φ r).cap:Nat):Int) by omega) hroom
    cases hb:(φ r).blk with
    |none=>have:=(hO.none hb).1;simp at this;rw [this] at h3;simp at h3
    |some b=>
      rw [hb] at hv
      simp only [Option.map_some] at hv
      have hrun: ∀ j',(if(φ r).cap=p.toNat then(some ⟨b,0,none⟩:Option Addr) else some ⟨b,0+p.toNat*sz,none⟩)=some ⟨b,j',none⟩→
          (execOp a.eval ⟨dst,.slice t x lo hi none,ty,pos,after,none⟩).run c.P w= .ok (.value (.slice (some ⟨b,j',none⟩) (q.toNat-p.toNat) ((φ r).cap-p.toNat))) w:=by
        intro j' hj'
        show((do pure (Next.value (←Instr.sliceAt t (a.eval x) (lo.map a.eval) (hi.map a.eval) none)):Sem Next)).run c.P w=_
        rw [hv,Sem.run_bind]
        have e:(Instr.sliceAt t (.slice (some ⟨b,0,none⟩) m (φ r).cap) (lo.map a.eval) (hi.map a.eval) none).run c.P w= .ok (.slice (some ⟨b,j',none⟩) (q.toNat-p.toNat) ((φ r).cap-p.toNat)) w:=by
          unfold Instr.sliceAt
          rw [Sem.run_bind,run_underlying hu]
          simp only [Result.andThen_ok]
          unfold Instr.slice
          rw [Sem.run_bind,run_underlying hu]
          simp only [Result.andThen_ok]
          rw [hm] at hrb
          rw [Sem.run_bind,hrb]
          simp only [Result.andThen_ok]
          rw [Sem.run_bind,hsz,←hj']
          simp only [Result.andThen_ok,Option.map_some,Zby]
          rfl
        rw [e]
        rfl
      have hrel: ∀ j',(p.toNat<q.toNat→j'=p.toNat*sz)→ ∀ φ',ZfO st.hp.length φ φ'→Rel c.P w (Mut c.A φ st.hp) φ' (.osl r m (p.toNat*sz) (q-p).toNat) (.slice (some ⟨b,j',none⟩) (q.toNat-p.toNat) ((φ r).cap-p.toNat)):=by
        intro j' hj' φ' hφ
        have e:φ' r=φ r:=hφ r (XA ho)
        refine .osl r m (p.toNat*sz) _ _ rfl (by rw [e,hO.len];simp [hm]) fun _=>⟨by rw [e];exact Za2 (h φ a w hc) (by rw [hO.len];simpa using hm),b,j',(φ r).cap-p.toNat,by rw [e];exact hb,by omega,fun hp=>hj' (by omega),?_⟩
        rw [show(q-p).toNat=q.toNat-p.toNat by omega]
      by_cases hcp:(φ r).cap=p.toNat
      · exact⟨_,hrun 0 (by rw [if_pos hcp]),hrel 0 (fun hlt=>by omega)⟩
      · exact⟨_,hrun (0+p.toNat*sz) (by rw [if_neg hcp]),hrel _ (fun _=>Nat.zero_add _)⟩
theorem Zcx{P:Program}(w:World)(dT sT ty elem:TypeId)(g o dLen dCap:Nat)(a:Addr)(sLen sCap:Nat)(cur:Array Value)(t:TypeId)(cs:List Value)(sz:Nat)
    (hu:P.underlying dT=some (.slice elem)) (hs:(P.info? elem).map (·.size)=some sz)
    (hg:w.heap[g]?=some (.cells cur t (0,0))) (hn:cs.length=Nat.min sLen dLen*sz)
    (hsrc: ∀ j v,cs[j]?=some v→w.cell? (a.add j)=some v) (hfit:o+cs.length≤cur.size) (h1: ∀ v∈cs,v.oneCell'=true):
    (Builtin.copy_ #[dT,sT] ty #[.slice (some ⟨g,o,none⟩) dLen dCap,.slice (some a) sLen sCap]).run P w=
      .ok (goInt (Nat.min sLen dLen)) (w.setRow g (cur.toList.take o++cs++cur.toList.drop (o+cs.length)).toArray):=by
  have hl:=run_loadCells_list (P:=P) w a cs hsrc
  have hst:=run_storeCells_at P g o t cs 0 cur w hg (by simpa using hfit) h1
  cases hq:P.info? elem with
  |none=>simp [hq] at hs
  |some i=>
    have hi:i.size=sz:=by simpa [hq] using hs
    simp [Builtin.copy_,run_underlying hu,Builtin.lenOf,Builtin.firstCells,sizeOf,typeInfo,hq,hi,←hn,hl,hst]
theorem ZhZ{P:Program}(w:World)(dT sT ty elem:TypeId)(d:Option Addr)(b:Nat)(j2:Nat)(dLen dCap sLen sCap sz:Nat)(hu:P.underlying dT=some (.slice elem))(hs:(P.info? elem).map (·.size)=some sz)(h0:Nat.min sLen dLen=0):
    (Builtin.copy_ #[dT,sT] ty #[.slice d dLen dCap,.slice (some ⟨b,j2,none⟩) sLen sCap]).run P w= .ok (goInt 0) w:=by
  cases hq:P.info? elem with
  |none=>simp [hq] at hs
  |some i=>
    cases d<;>simp [Builtin.copy_,run_underlying hu,Builtin.lenOf,Builtin.firstCells,sizeOf,typeInfo,hq,h0,loadCells,loadCellsFrom,storeCells]
theorem ZmO{t t2 e by_ r m p1 n1 p2 n2 sz:Nat}{x y:Operand}{xs:List α}(h:Opv c st x (.osl r m (p1*sz) n1))(h':Opv c st y (.osl r m (p2*sz) n2))(ho:nth st.hp r=some ⟨e,xs.map f⟩)
    (hm:xs.length=m) (hf: ∀ u,(f u).length=c.P.cellsOf e∧(f u).all datB=true) (h1: ∀ u,(f u).all c1B=true) (ht:tSl c.P t e sz by_=true) (hp1:p1+n1≤xs.length) (hp2:p2+n2≤xs.length):
    WVal c ops st ⟨dst,.call {callee:= .builtin .copy,args:= #[x,y],argTypes:= #[t,t2]},ty,pos,after,none⟩ (.int .i64 ((min n2 n1:Nat):Int)) (JE st.hp r (some ⟨e,(cpy xs p1 n1 p2 n2).map f⟩)):=by
  refine .run rfl fun φ a w hc=> ?_
  obtain⟨hu,inf,z,hi',hs,hby,hn0,hz,hzs,hcs⟩:=tSl.spec ht
  have hO:=hc.hok.obj r _ ho
  have hlen:(φ r).n=xs.length:=by rw [hO.len];simp
  obtain⟨b,j1,c1,hb,hc1,hj1,hx⟩:=Zkj (h φ a w hc) (by omega)
  obtain⟨b',j2,c2,hb',hc2,hj2,hy⟩:=Zkj (h' φ a w hc) (by omega)
  have hmp:=Zi4 (h φ a w hc) (by omega)
  rw [hb] at hb';cases hb'
  obtain⟨cs,k1,k2,k3⟩:=hO.some b hb
  have k1:=k1.cells hmp
  have hroom:=hO.room
  simp only [List.length_map] at hroom
  rw [hcs] at k2
  have hcsz:xs.length*sz≤cs.size:=by rw [k2];exact Nat.mul_le_mul_right _ hroom
  have hcell: ∀ i j,i<xs.length→j<sz→RelF c.P w (Mut c.A φ st.hp) st.hp.length φ (cellAt (xs.map f) i j) (cs.getD (i*sz+j) undef)∧c1B (cellAt (xs.map f) i j)=true:=by
    intro i j hi hj
    have hfl:=(hf xs[i]).1
    rw [hcs] at hfl
    have e:cellAt (xs.map f) i j=(f xs[i])[j]'(by omega):=by simp [cellAt,List.getD_eq_getElem?_getD,hi,hfl,hj]
    have hd:=List.all_eq_true.1 (hf xs[i]).2 _ (List.getElem_mem (show j<(f xs[i]).length by omega))
    have hc1':=List.all_eq_true.1 (h1 xs[i]) _ (List.getElem_mem (show j<(f xs[i]).length by omega))
    have:=k3.plain (i:=i) (j:=j) (by simpa using hi) (by rw [hcs];omega) (by simp only;rw [e];exact ZcJ hd)
    simp only at this
    rw [hcs] at this
    refine⟨this,by rw [e];exact hc1'⟩
  have hφ:(fun x=>if x=r then φ r else φ x)=φ:=by funext x;split;subst_vars;rfl;rfl
  have hrun0: ∀ v w1,(Builtin.copy_ #[t,t2] ty #[a.eval x,a.eval y]).run c.P w= .ok v w1→(execOp a.eval ⟨dst,.call {callee:= .builtin .copy,args:= #[x,y],argTypes:= #[t,t2]},ty,pos,after,none⟩).run c.P w= .ok (.value v) w1:=by
    intro v w1 hr
    simp [execOp,resolve,invoke,builtin,hr]
  have main: ∃ w' cs',(Builtin.copy_ #[t,t2] ty #[a.eval x,a.eval y]).run c.P w= .ok (goInt ((min n2 n1:Nat):Int)) w'∧w'.os=w.os∧w'.tape=w.tape∧w'.output=w.output∧w.heap.size≤w'.heap.size∧
      (∀ b',b'≠b→w'.heap[b']?=w.heap[b']?)∧w'.heap[b]?=some (.cells cs' e (0,0))∧cs'.size=cs.size∧
      ∀ i j,i<xs.length→j<sz→cs'.getD (i*sz+j) undef=cs.getD ((if p1≤i∧i<p1+min n2 n1 then p2+(i-p1) else i)*sz+j) undef:=by
    by_cases h0:min n2 n1=0
    · refine⟨w,cs,?_,rfl,rfl,rfl,Nat.le_refl _,fun _ _=>rfl,k1,rfl,fun i j hi hj=>by rw [if_neg (by omega)]⟩
      rw [hx,hy,h0]
      exact ZhZ (P:=c.P) w t t2 ty e _ _ _ n1 c1 n2 c2 sz hu (by simp [hi',hs]) h0
    · rw [hj1 (by omega)] at hx
      rw [hj2 (by omega)] at hy
      have q2:(p2+min n2 n1)*sz≤xs.length*sz:=Nat.mul_le_mul_right _ (by omega)
      have q1:(p1+min n2 n1)*sz≤xs.length*sz:=Nat.mul_le_mul_right _ (by omega)
      rw [Nat.add_mul] at q1 q2
      have hl:((cs.toList.drop (p2*sz)).take (min n2 n1*sz)).length=min n2 n1*sz:=by simp;omega
      have:=Zcx (P:=c.P) w t t2 ty e b (p1*sz) n1 c1 ⟨b,p2*sz,none⟩ n2 c2 cs e ((cs.toList.drop (p2*sz)).take (min n2 n1*sz)) sz hu (by simp [hi',hs]) k1 hl ?_ (by rw [hl];omega) ?_
      · refine⟨w.setRow b (cs.toList.take (p1*sz)++(cs.toList.drop (p2*sz)).take (min n2 n1*sz)++cs.toList.drop (p1*sz+min n2 n1*sz)).toArray,(cs.toList.take (p1*sz)++(cs.toList.drop (p2*sz)).take (min n2 n1*sz)++cs.toList.drop (p1*sz+min n2 n1*sz)).toArray,by rw [hx,hy];rw [hl] at this;exact this,rfl,rfl,rfl,(by simp [World.setRow]),fun b' hb'=>setRow_other w b b' _ hb',setRow_heap w b cs _ e _ k1,by simp;omega,fun i j hi hj=> ?_⟩
        have e2:=JG cs ((cs.toList.drop (p2*sz)).take (min n2 n1*sz)) (p1*sz) (i*sz+j) (by rw [hl];omega)
        rw [hl] at e2
        rw [e2]
        by_cases hi1:i<p1
        · have:(i+1)*sz≤p1*sz:=Nat.mul_le_mul_right _ hi1
          rw [Nat.add_mul] at this
          rw [if_pos (by omega),if_neg (by omega)]
        · have g1:p1*sz≤i*sz:=Nat.mul_le_mul_right _ (by omega)
          rw [if_neg (by omega)]
          by_cases hi2:i<p1+min n2 n1
          · have g2:(i+1)*sz≤(p1+min n2 n1)*sz:=Nat.mul_le_mul_right _ hi2
            rw [Nat.add_mul,Nat.add_mul] at g2
            have g3:(p2+(i-p1))*sz=p2*sz+(i*sz-p1*sz):=by rw [Nat.add_mul,Nat.sub_mul]
            rw [if_pos (by omega),if_pos (by omega),List.getD_eq_getElem?_getD,List.getElem?_take_of_lt (by omega),List.getElem?_drop,g3]
            rw [show p2*sz+(i*sz+j-p1*sz)=p2*sz+(i*sz-p1*sz)+j by omega]
            simp [Array.getD_eq_getD_getElem?]
          · have g2:(p1+min n2 n1)*sz≤i*sz:=Nat.mul_le_mul_right _ (by omega)
            rw [Nat.add_mul] at g2
            rw [if_neg (by omega),if_neg (by omega)]
      · intro j v hj
        rw [Zby]
        have hjl:j<min n2 n1*sz:=by have:=(List.getElem?_eq_some_iff.1 hj).1;omega
        rw [List.getElem?_take_of_lt hjl,List.getElem?_drop] at hj
        simp only [Array.getElem?_toList] at hj
        simp [World.cell?,k1,hj]
      · intro v hv
        obtain⟨j,hj,rfl⟩:=List.getElem_of_mem hv
        have hjl:j<min n2 n1*sz:=by omega
        have hd:=Nat.div_add_mod j sz
        have hmod:=Nat.mod_lt j hn0
        have hdl:j/sz<min n2 n1:=Nat.div_lt_of_lt_mul (by rw [Nat.mul_comm];exact hjl)
        have hq:=hcell (p2+j/sz) (j % sz) (by omega) hmod
        have e3:((cs.toList.drop (p2*sz)).take (min n2 n1*sz))[j]=cs.getD ((p2+j/sz)*sz+j % sz) undef:=by
          have hcz:p2*sz+j<cs.size:=by omega
          have:(p2+j/sz)*sz+j % sz=p2*sz+j:=by rw [Nat.add_mul,Nat.mul_comm (j/sz)];omega
          rw [this]
          simp [Array.getD_eq_getD_getElem?,hcz]
        rw [e3]
        exact ZfY hq.1 hq.2
  obtain⟨w',cs',hrun,e1,e2,e3,e4,e5,e6,e7,e8⟩:=main
  have hu':=ZfW (L:=φ r) (o':=⟨e,(cpy xs p1 n1 p2 n2).map f⟩) (w':=w') hc.hok ho e1 e2 e3 e4 (fun b' _ hne=>e5 b' (fun e=>hne (by rw [hb,e]))) (.inl rfl) (.inl (.refl _)) (fun htr=>by
      simp only [hφ] at htr ⊢
      refine⟨by rw [hO.len];simp [Zcg hp1 hp2],hO.sz,?_,by simpa [Zcg hp1 hp2] using hroom,hO.cap,(fun h=>by rw [hb] at h;cases h),(fun b' hs'=>Nat.lt_of_lt_of_le (hO.subl b' hs') e4),hO.subn,fun b' hb'=> ?_⟩
      · intro row hr
        obtain⟨u,_,rfl⟩:=List.mem_map.1 hr
        exact(hf u).1
      · rw [hb] at hb';cases hb'
        refine⟨cs',by rw [hmp];exact e6,by rw [hcs,e7,k2],Cells.of fun i j hi hj=> ?_⟩
        simp only [List.length_map,Zcg hp1 hp2] at hi
        rw [hcs] at hj ⊢
        have hget:=Zm8 (p:=p1) (m:=n1) (q:=p2) (n:=n2) hp1 hp2 hi
        have hσ:(if p1≤i∧i<p1+min n2 n1 then p2+(i-p1) else i)<xs.length:=by split<;>omega
        have ec:cellAt ((cpy xs p1 n1 p2 n2).map f) i j=cellAt (xs.map f) (if p1≤i∧i<p1+min n2 n1 then p2+(i-p1) else i) j:=by
          simp only [cellAt,List.getD_eq_getElem?_getD,List.getElem?_map,hget]
        rw [ec,e8 i j hi hj]
        exact htr _ _ (hcell _ _ hσ hj).1)
  simp only [hφ] at hu'
  refine⟨goInt ((min n2 n1:Nat):Int),w',φ,?_,hu'.1,hu'.2,ZI (.int _ _)⟩
  exact hrun0 _ _ hrun
end ops
end Go.Vx

namespace Go.Vx
open Go Go.RowKit
theorem Y{α:Sort _}{a:α}:a=a:=rfl
class SzD (P:Program) (e:TypeId) (n:outParam Nat):Prop where
  h:P.cellsOf e=n
class RowD (P:Program) {α:Type} (e:TypeId) (f:α→List AV):Prop where
  h: ∀ x,(f x).length=P.cellsOf e∧(f x).all datB=true
section
variable {c:Ctx} {ops:Array Oper} {st:St} {K:Exit→St→Prop} {dst:Option Tmp} {x y:Operand} {ty:TypeId} {pos:String} {after:Array Edge} {rest:List Oper} {o:Oper} {v P Q:AV}
theorem Rq(hd:dstLt o.dst c.nt=true)(hv:SVal c ops st o v)(h:R c ops rest (st.puto o.dst v) K):R c ops (o::rest) st K:=R_q v hd hv h
theorem Rx{hp':List (Option Own)}(hd:dstLt o.dst c.nt=true)(hv:WVal c ops st o v hp')(h:R c ops rest (St.puto ⟨st.tm,hp'⟩ o.dst v) K):R c ops (o::rest) st K:=R_w v hp' hd hv h
theorem Rm(e:(dstLt dst c.nt,opv st.tm x)=(true,some v))(k:R c ops rest (st.puto dst v) K):R c ops (⟨dst,.move x,ty,pos,after,none⟩::rest) st K:=R_q v (congrArg Prod.fst e) (Zf (ov (congrArg Prod.snd e))) k
theorem Ra(e:(dstLt dst c.nt,opv st.tm x)=(true,some v))(k:R c ops rest (st.puto dst v) K):R c ops (⟨dst,.assign x,ty,pos,after,none⟩::rest) st K:=R_q v (congrArg Prod.fst e) (Qp (ov (congrArg Prod.snd e))) k
theorem R1(L:Opv c st x P→SVal c ops st o v)(e:(dstLt o.dst c.nt,opv st.tm x)=(true,some P))(k:R c ops rest (st.puto o.dst v) K):R c ops (o::rest) st K:=R_q v (congrArg Prod.fst e) (L (ov (congrArg Prod.snd e))) k
theorem R2(L:Opv c st x P→Opv c st y Q→SVal c ops st o v)(e:(dstLt o.dst c.nt,opv st.tm x,opv st.tm y)=(true,some P,some Q))(k:R c ops rest (st.puto o.dst v) K):R c ops (o::rest) st K:=
  R_q v (congrArg Prod.fst e) (L (ov (congrArg (·.2.1) e)) (ov (congrArg (·.2.2) e))) k
theorem Rl{α:Type}{f:α→List AV}{xs:List α}{t e sz by_:Nat}(hsz:c.P.cellsOf e=sz)(ht:tSl c.P t e sz by_=true)(e':(dstLt dst c.nt,opv st.tm y)=(true,some (.sl e (xs.map f))))
    (k:R c ops rest (st.puto dst (.int .i64 (xs.length:Int))) K):R c ops (⟨dst,.call {callee:= .builtin .len,args:= #[y],argTypes:= #[t]},ty,pos,after,none⟩::rest) st K:=
  R_q _ (congrArg Prod.fst e') (Zni (XW (ov (congrArg Prod.snd e')) hsz) ht (ZjH _ _)) k
theorem Tr{id:Nat}{l:List Oper}{y:Code}(h:R c l.toArray l st (Zfn (fun st'=>T c y st' K) K)):T c (.seq (.region id l.toArray false) y) st K:=Zm (Zw h)
theorem Td(cw:Md){id:Nat}{y:Code}(h:Dv cw c ops (KE c (Zfn (fun st'=>T c y st' K) K)) 0 st)(hm:c.P.follows .mixedOrders=true:=by kernel_rfl):T c (.seq (.region id ops true) y) st K:=Zm (ZbM (cw:=cw) hm h)
theorem If{β γ:Type}{X Y:Option β}{k:β→Option γ}{r:γ}{t:Nat}{b:Bool}{x y:Code}(h:(if b=true then X else Y).bind k=some r)(hl:look st.tm t=some (.bool b))
    (h1:X.bind k=some r→T c x st K) (h2:Y.bind k=some r→T c y st K):T c (.cond (.tmp t) x y) st K:=ZhL h hl (fun _=>h1) fun _=>h2
theorem bE{α β γ:Type}{k:β→Option γ}{r:γ}{G:Prop}{o:Option α}{f:α→Option β}(h:(o.bind f).bind k=some r)(g: ∀ x,o=some x→(f x).bind k=some r→G):G:=let ⟨x,h1,h2⟩:=bnd h;g x h1 h2
theorem QB{k:IntKind}{m n:Int}{t u:TypeId}(h:Opv c st x (.int k m))(h':Opv c st y (.int k n)):SVal c ops st ⟨dst,.binOp .add t x y u,ty,pos,after,none⟩ (.int k (k.wrap (m+n))):=ZqQ h h' rfl
theorem Zdi{k:IntKind}{m n:Int}{t u:TypeId}(h:Opv c st x (.int k m))(h':Opv c st y (.int k n)):SVal c ops st ⟨dst,.binOp .sub t x y u,ty,pos,after,none⟩ (.int k (k.wrap (m-n))):=Ze9 h h' rfl
theorem Zjz{k:IntKind}{m n:Int}{t u:TypeId}(h:Opv c st x (.int k m))(h':Opv c st y (.int k n)):SVal c ops st ⟨dst,.binOp .mul t x y u,ty,pos,after,none⟩ (.int k (k.wrap (m*n))):=ZqS h h' rfl
theorem rb{t:Nat}(e:(look st.tm t,datB v)=(some v,true)):RetV c st (.tmp t) v:= .tmp (congrArg Prod.fst e) (Dat.view (.b (congrArg Prod.snd e)))
theorem cb{xs:List Operand}{ds:List AV}(e:(opv st.tm x,datB v)=(some v,true))(k:ArgsD c st xs ds):ArgsD c st (x::xs) (v::ds):= .cons (ov (congrArg Prod.fst e)) (.b (congrArg Prod.snd e)) k
end
theorem So{P:Program}{gl:Gl}{f:FuncId}{fn:Func}{code:Code}{args:List AV}{res:AV}(hf:P.funcs[f]?=some fn)(e:(fn.body,Nat.ble args.length fn.ntmps)=(some code,true))
    (hT: ∀ w0 A,T ⟨P,fn.ntmps,w0,A,[],gl,0,φz⟩ code ⟨Zjb 0 args,[]⟩ (Zqe ⟨P,fn.ntmps,w0,A,[],gl,0,φz⟩ fn.results res)) (hc:callable P f=true:=by kernel_rfl):CSpec P gl f args res:=Zpq hc hf (congrArg Prod.fst e) (congrArg Prod.snd e) hT
theorem K1{c:Ctx}{code:Code}{st:St}{K:Exit→St→Prop}{a0:AV}(i0:Nat)(e:look st.tm i0=some a0)(k:T c code ⟨[(i0,a0)],st.hp⟩ K):T c code st K:=Zdx (.cons (e) rfl (.nil)) rfl k
theorem K2{c:Ctx}{code:Code}{st:St}{K:Exit→St→Prop}{a0 a1:AV}(i0 i1:Nat)(e:(look st.tm i0,look st.tm i1)=(some a0,some a1))(k:T c code ⟨[(i0,a0),(i1,a1)],st.hp⟩ K):T c code st K:=Zdx (.cons (congrArg (·.1) e) rfl (.cons (congrArg (·.2) e) rfl (.nil))) rfl k
theorem K3{c:Ctx}{code:Code}{st:St}{K:Exit→St→Prop}{a0 a1 a2:AV}(i0 i1 i2:Nat)(e:(look st.tm i0,look st.tm i1,look st.tm i2)=(some a0,some a1,some a2))(k:T c code ⟨[(i0,a0),(i1,a1),(i2,a2)],st.hp⟩ K):T c code st K:=Zdx (.cons (congrArg (·.1) e) rfl (.cons (congrArg (·.2.1) e) rfl (.cons (congrArg (·.2.2) e) rfl (.nil)))) rfl k
theorem K4{c:Ctx}{code:Code}{st:St}{K:Exit→St→Prop}{a0 a1 a2 a3:AV}(i0 i1 i2 i3:Nat)(e:(look st.tm i0,look st.tm i1,look st.tm i2,look st.tm i3)=(some a0,some a1,some a2,some a3))(k:T c code ⟨[(i0,a0),(i1,a1),(i2,a2),(i3,a3)],st.hp⟩ K):T c code st K:=Zdx (.cons (congrArg (·.1) e) rfl (.cons (congrArg (·.2.1) e) rfl (.cons (congrArg (·.2.2.1) e) rfl (.cons (congrArg (·.2.2.2) e) rfl (.nil))))) rfl k
theorem K5{c:Ctx}{code:Code}{st:St}{K:Exit→St→Prop}{a0 a1 a2 a3 a4:AV}(i0 i1 i2 i3 i4:Nat)(e:(look st.tm i0,look st.tm i1,look st.tm i2,look st.tm i3,look st.tm i4)=(some a0,some a1,some a2,some a3,some a4))(k:T c code ⟨[(i0,a0),(i1,a1),(i2,a2),(i3,a3),(i4,a4)],st.hp⟩ K):T c code st K:=Zdx (.cons (congrArg (·.1) e) rfl (.cons (congrArg (·.2.1) e) rfl (.cons (congrArg (·.2.2.1) e) rfl (.cons (congrArg (·.2.2.2.1) e) rfl (.cons (congrArg (·.2.2.2.2) e) rfl (.nil)))))) rfl k
theorem K6{c:Ctx}{code:Code}{st:St}{K:Exit→St→Prop}{a0 a1 a2 a3 a4 a5:AV}(i0 i1 i2 i3 i4 i5:Nat)(e:(look st.tm i0,look st.tm i1,look st.tm i2,look st.tm i3,look st.tm i4,look st.tm i5)=(some a0,some a1,some a2,some a3,some a4,some a5))(k:T c code ⟨[(i0,a0),(i1,a1),(i2,a2),(i3,a3),(i4,a4),(i5,a5)],st.hp⟩ K):T c code st K:=Zdx (.cons (congrArg (·.1) e) rfl (.cons (congrArg (·.2.1) e) rfl (.cons (congrArg (·.2.2.1) e) rfl (.cons (congrArg (·.2.2.2.1) e) rfl (.cons (congrArg (·.2.2.2.2.1) e) rfl (.cons (congrArg (·.2.2.2.2.2) e) rfl (.nil))))))) rfl k
theorem K7{c:Ctx}{code:Code}{st:St}{K:Exit→St→Prop}{a0 a1 a2 a3 a4 a5 a6:AV}(i0 i1 i2 i3 i4 i5 i6:Nat)(e:(look st.tm i0,look st.tm i1,look st.tm i2,look st.tm i3,look st.tm i4,look st.tm i5,look st.tm i6)=(some a0,some a1,some a2,some a3,some a4,some a5,some a6))(k:T c code ⟨[(i0,a0),(i1,a1),(i2,a2),(i3,a3),(i4,a4),(i5,a5),(i6,a6)],st.hp⟩ K):T c code st K:=Zdx (.cons (congrArg (·.1) e) rfl (.cons (congrArg (·.2.1) e) rfl (.cons (congrArg (·.2.2.1) e) rfl (.cons (congrArg (·.2.2.2.1) e) rfl (.cons (congrArg (·.2.2.2.2.1) e) rfl (.cons (congrArg (·.2.2.2.2.2.1) e) rfl (.cons (congrArg (·.2.2.2.2.2.2) e) rfl (.nil)))))))) rfl k
theorem K8{c:Ctx}{code:Code}{st:St}{K:Exit→St→Prop}{a0 a1 a2 a3 a4 a5 a6 a7:AV}(i0 i1 i2 i3 i4 i5 i6 i7:Nat)(e:(look st.tm i0,look st.tm i1,look st.tm i2,look st.tm i3,look st.tm i4,look st.tm i5,look st.tm i6,look st.tm i7)=(some a0,some a1,some a2,some a3,some a4,some a5,some a6,some a7))(k:T c code ⟨[(i0,a0),(i1,a1),(i2,a2),(i3,a3),(i4,a4),(i5,a5),(i6,a6),(i7,a7)],st.hp⟩ K):T c code st K:=Zdx (.cons (congrArg (·.1) e) rfl (.cons (congrArg (·.2.1) e) rfl (.cons (congrArg (·.2.2.1) e) rfl (.cons (congrArg (·.2.2.2.1) e) rfl (.cons (congrArg (·.2.2.2.2.1) e) rfl (.cons (congrArg (·.2.2.2.2.2.1) e) rfl (.cons (congrArg (·.2.2.2.2.2.2.1) e) rfl (.cons (congrArg (·.2.2.2.2.2.2.2) e) rfl (.nil))))))))) rfl k
theorem K9{c:Ctx}{code:Code}{st:St}{K:Exit→St→Prop}{a0 a1 a2 a3 a4 a5 a6 a7 a8:AV}(i0 i1 i2 i3 i4 i5 i6 i7 i8:Nat)(e:(look st.tm i0,look st.tm i1,look st.tm i2,look st.tm i3,look st.tm i4,look st.tm i5,look st.tm i6,look st.tm i7,look st.tm i8)=(some a0,some a1,some a2,some a3,some a4,some a5,some a6,some a7,some a8))(k:T c code ⟨[(i0,a0),(i1,a1),(i2,a2),(i3,a3),(i4,a4),(i5,a5),(i6,a6),(i7,a7),(i8,a8)],st.hp⟩ K):T c code st K:=Zdx (.cons (congrArg (·.1) e) rfl (.cons (congrArg (·.2.1) e) rfl (.cons (congrArg (·.2.2.1) e) rfl (.cons (congrArg (·.2.2.2.1) e) rfl (.cons (congrArg (·.2.2.2.2.1) e) rfl (.cons (congrArg (·.2.2.2.2.2.1) e) rfl (.cons (congrArg (·.2.2.2.2.2.2.1) e) rfl (.cons (congrArg (·.2.2.2.2.2.2.2.1) e) rfl (.cons (congrArg (·.2.2.2.2.2.2.2.2) e) rfl (.nil)))))))))) rfl k
theorem K10{c:Ctx}{code:Code}{st:St}{K:Exit→St→Prop}{a0 a1 a2 a3 a4 a5 a6 a7 a8 a9:AV}(i0 i1 i2 i3 i4 i5 i6 i7 i8 i9:Nat)(e:(look st.tm i0,look st.tm i1,look st.tm i2,look st.tm i3,look st.tm i4,look st.tm i5,look st.tm i6,look st.tm i7,look st.tm i8,look st.tm i9)=(some a0,some a1,some a2,some a3,some a4,some a5,some a6,some a7,some a8,some a9))(k:T c code ⟨[(i0,a0),(i1,a1),(i2,a2),(i3,a3),(i4,a4),(i5,a5),(i6,a6),(i7,a7),(i8,a8),(i9,a9)],st.hp⟩ K):T c code st K:=Zdx (.cons (congrArg (·.1) e) rfl (.cons (congrArg (·.2.1) e) rfl (.cons (congrArg (·.2.2.1) e) rfl (.cons (congrArg (·.2.2.2.1) e) rfl (.cons (congrArg (·.2.2.2.2.1) e) rfl (.cons (congrArg (·.2.2.2.2.2.1) e) rfl (.cons (congrArg (·.2.2.2.2.2.2.1) e) rfl (.cons (congrArg (·.2.2.2.2.2.2.2.1) e) rfl (.cons (congrArg (·.2.2.2.2.2.2.2.2.1) e) rfl (.cons (congrArg (·.2.2.2.2.2.2.2.2.2) e) rfl (.nil))))))))))) rfl k
theorem K11{c:Ctx}{code:Code}{st:St}{K:Exit→St→Prop}{a0 a1 a2 a3 a4 a5 a6 a7 a8 a9 a10:AV}(i0 i1 i2 i3 i4 i5 i6 i7 i8 i9 i10:Nat)(e:(look st.tm i0,look st.tm i1,look st.tm i2,look st.tm i3,look st.tm i4,look st.tm i5,look st.tm i6,look st.tm i7,look st.tm i8,look st.tm i9,look st.tm i10)=(some a0,some a1,some a2,some a3,some a4,some a5,some a6,some a7,some a8,some a9,some a10))(k:T c code ⟨[(i0,a0),(i1,a1),(i2,a2),(i3,a3),(i4,a4),(i5,a5),(i6,a6),(i7,a7),(i8,a8),(i9,a9),(i10,a10)],st.hp⟩ K):T c code st K:=Zdx (.cons (congrArg (·.1) e) rfl (.cons (congrArg (·.2.1) e) rfl (.cons (congrArg (·.2.2.1) e) rfl (.cons (congrArg (·.2.2.2.1) e) rfl (.cons (congrArg (·.2.2.2.2.1) e) rfl (.cons (congrArg (·.2.2.2.2.2.1) e) rfl (.cons (congrArg (·.2.2.2.2.2.2.1) e) rfl (.cons (congrArg (·.2.2.2.2.2.2.2.1) e) rfl (.cons (congrArg (·.2.2.2.2.2.2.2.2.1) e) rfl (.cons (congrArg (·.2.2.2.2.2.2.2.2.2.1) e) rfl (.cons (congrArg (·.2.2.2.2.2.2.2.2.2.2) e) rfl (.nil)))))))))))) rfl k
theorem K12{c:Ctx}{code:Code}{st:St}{K:Exit→St→Prop}{a0 a1 a2 a3 a4 a5 a6 a7 a8 a9 a10 a11:AV}(i0 i1 i2 i3 i4 i5 i6 i7 i8 i9 i10 i11:Nat)(e:(look st.tm i0,look st.tm i1,look st.tm i2,look st.tm i3,look st.tm i4,look st.tm i5,look st.tm i6,look st.tm i7,look st.tm i8,look st.tm i9,look st.tm i10,look st.tm i11)=(some a0,some a1,some a2,some a3,some a4,some a5,some a6,some a7,some a8,some a9,some a10,some a11))(k:T c code ⟨[(i0,a0),(i1,a1),(i2,a2),(i3,a3),(i4,a4),(i5,a5),(i6,a6),(i7,a7),(i8,a8),(i9,a9),(i10,a10),(i11,a11)],st.hp⟩ K):T c code st K:=Zdx (.cons (congrArg (·.1) e) rfl (.cons (congrArg (·.2.1) e) rfl (.cons (congrArg (·.2.2.1) e) rfl (.cons (congrArg (·.2.2.2.1) e) rfl (.cons (congrArg (·.2.2.2.2.1) e) rfl (.cons (congrArg (·.2.2.2.2.2.1) e) rfl (.cons (congrArg (·.2.2.2.2.2.2.1) e) rfl (.cons (congrArg (·.2.2.2.2.2.2.2.1) e) rfl (.cons (congrArg (·.2.2.2.2.2.2.2.2.1) e) rfl (.cons (congrArg (·.2.2.2.2.2.2.2.2.2.1) e) rfl (.cons (congrArg (·.2.2.2.2.2.2.2.2.2.2.1) e) rfl (.cons (congrArg (·.2.2.2.2.2.2.2.2.2.2.2) e) rfl (.nil))))))))))))) rfl k
theorem K0{c:Ctx}{code:Code}{st:St}{K:Exit→St→Prop}(k:T c code ⟨[],st.hp⟩ K):T c code st K:=Zdx .nil rfl k
theorem L0{ρ:Type}{c:Ctx}{code:Code}{st:St}{K:Exit→St→Prop}{body:(Unit)→Option ((Unit) ⊕ ρ)}(I:St){s0:Unit}{r:ρ}(h:loop body s0=some r)(h0:Ent c st (t0 I s0))
    (hr: ∀ (n:Nat),(body ()).bind (Sum.elim (Zdq body n) some)=some r→T c code (I) (Zfn (fun st'=> ∃ s',Zdq body n s'=some r∧Ent c st' (t0 I s')) K)):T c (.loop code) st K:=
  Zg5 body (t0 I) s0 h h0 fun n s h=>hr n h
theorem J0{τ β γ:Type}{c:Ctx}{st:St}{K:Exit→St→Prop}{k:β→Option γ}{r:γ}{G:τ→Option β}{X:Option τ}{x y:Code}(inj:(Unit)→τ)(J:St)(h:(X.bind G).bind k=some r)
    (hx:X.bind (fun o=>(G o).bind k)=some r→T c x st (Zfn (fun st'=> ∃ i,(G (inj i)).bind k=some r∧Ent c st' (t0 J i)) K))
    (ky:(G (inj ())).bind k=some r→T c y (J) K):T c (.seq x y) st K:=
  ZdJ inj (t0 J) h hx fun i h=>ky h
theorem I0{β γ:Type}{c:Ctx}{st:St}{K:Exit→St→Prop}{k:β→Option γ}{r:γ}{g:Option β}{X:Option (Unit)}{x y:Code}(J:St)(h:(X.bind (t0 g)).bind k=some r)
    (hx:X.bind (fun o=>(t0 g o).bind k)=some r→T c x st (Zfn (fun st'=> ∃ i,(t0 g i).bind k=some r∧Ent c st' (t0 J i)) K))
    (ky:(g).bind k=some r→T c y (J) K):T c (.seq x y) st K:=
  ZdJ (G:=t0 g) id (t0 J) h hx fun i h=>ky h
theorem L1{ρ:Type}{α0:Type}{c:Ctx}{code:Code}{st:St}{K:Exit→St→Prop}{body:(α0)→Option ((α0) ⊕ ρ)}(I:α0→St){s0:α0}{r:ρ}(h:loop body s0=some r)(h0:Ent c st (t1 I s0))
    (hr: ∀ (n:Nat) (a0:α0),(body a0).bind (Sum.elim (Zdq body n) some)=some r→T c code (I a0) (Zfn (fun st'=> ∃ s',Zdq body n s'=some r∧Ent c st' (t1 I s')) K)):T c (.loop code) st K:=
  Zg5 body (t1 I) s0 h h0 fun n s h=>hr n s h
theorem J1{τ β γ:Type}{α0:Type}{c:Ctx}{st:St}{K:Exit→St→Prop}{k:β→Option γ}{r:γ}{G:τ→Option β}{X:Option τ}{x y:Code}(inj:(α0)→τ)(J:α0→St)(h:(X.bind G).bind k=some r)
    (hx:X.bind (fun o=>(G o).bind k)=some r→T c x st (Zfn (fun st'=> ∃ i,(G (inj i)).bind k=some r∧Ent c st' (t1 J i)) K))
    (ky: ∀ (a0:α0),(G (inj a0)).bind k=some r→T c y (J a0) K):T c (.seq x y) st K:=
  ZdJ inj (t1 J) h hx fun i h=>ky i h
theorem I1{β γ:Type}{α0:Type}{c:Ctx}{st:St}{K:Exit→St→Prop}{k:β→Option γ}{r:γ}{g:α0→Option β}{X:Option (α0)}{x y:Code}(J:α0→St)(h:(X.bind (t1 g)).bind k=some r)
    (hx:X.bind (fun o=>(t1 g o).bind k)=some r→T c x st (Zfn (fun st'=> ∃ i,(t1 g i).bind k=some r∧Ent c st' (t1 J i)) K))
    (ky: ∀ (a0:α0),(g a0).bind k=some r→T c y (J a0) K):T c (.seq x y) st K:=
  ZdJ (G:=t1 g) id (t1 J) h hx fun i h=>ky i h
theorem L2{ρ:Type}{α0 α1:Type}{c:Ctx}{code:Code}{st:St}{K:Exit→St→Prop}{body:(α0×α1)→Option ((α0×α1) ⊕ ρ)}(I:α0→α1→St){s0:α0×α1}{r:ρ}(h:loop body s0=some r)(h0:Ent c st (t2 I s0))
    (hr: ∀ (n:Nat) (a0:α0) (a1:α1),(body (a0,a1)).bind (Sum.elim (Zdq body n) some)=some r→T c code (I a0 a1) (Zfn (fun st'=> ∃ s',Zdq body n s'=some r∧Ent c st' (t2 I s')) K)):T c (.loop code) st K:=
  Zg5 body (t2 I) s0 h h0 fun n s h=>hr n (s.1) (s.2) h
theorem I2{β γ:Type}{α0 α1:Type}{c:Ctx}{st:St}{K:Exit→St→Prop}{k:β→Option γ}{r:γ}{g:α0→α1→Option β}{X:Option (α0×α1)}{x y:Code}(J:α0→α1→St)(h:(X.bind (t2 g)).bind k=some r)
    (hx:X.bind (fun o=>(t2 g o).bind k)=some r→T c x st (Zfn (fun st'=> ∃ i,(t2 g i).bind k=some r∧Ent c st' (t2 J i)) K))
    (ky: ∀ (a0:α0) (a1:α1),(g a0 a1).bind k=some r→T c y (J a0 a1) K):T c (.seq x y) st K:=
  ZdJ (G:=t2 g) id (t2 J) h hx fun i h=>ky (i.1) (i.2) h
theorem L3{ρ:Type}{α0 α1 α2:Type}{c:Ctx}{code:Code}{st:St}{K:Exit→St→Prop}{body:(α0×α1×α2)→Option ((α0×α1×α2) ⊕ ρ)}(I:α0→α1→α2→St){s0:α0×α1×α2}{r:ρ}(h:loop body s0=some r)(h0:Ent c st (t3 I s0))
    (hr: ∀ (n:Nat) (a0:α0) (a1:α1) (a2:α2),(body (a0,a1,a2)).bind (Sum.elim (Zdq body n) some)=some r→T c code (I a0 a1 a2) (Zfn (fun st'=> ∃ s',Zdq body n s'=some r∧Ent c st' (t3 I s')) K)):T c (.loop code) st K:=
  Zg5 body (t3 I) s0 h h0 fun n s h=>hr n (s.1) (s.2.1) (s.2.2) h
theorem I3{β γ:Type}{α0 α1 α2:Type}{c:Ctx}{st:St}{K:Exit→St→Prop}{k:β→Option γ}{r:γ}{g:α0→α1→α2→Option β}{X:Option (α0×α1×α2)}{x y:Code}(J:α0→α1→α2→St)(h:(X.bind (t3 g)).bind k=some r)
    (hx:X.bind (fun o=>(t3 g o).bind k)=some r→T c x st (Zfn (fun st'=> ∃ i,(t3 g i).bind k=some r∧Ent c st' (t3 J i)) K))
    (ky: ∀ (a0:α0) (a1:α1) (a2:α2),(g a0 a1 a2).bind k=some r→T c y (J a0 a1 a2) K):T c (.seq x y) st K:=
  ZdJ (G:=t3 g) id (t3 J) h hx fun i h=>ky (i.1) (i.2.1) (i.2.2) h
theorem I5{β γ:Type}{α0 α1 α2 α3 α4:Type}{c:Ctx}{st:St}{K:Exit→St→Prop}{k:β→Option γ}{r:γ}{g:α0→α1→α2→α3→α4→Option β}{X:Option (α0×α1×α2×α3×α4)}{x y:Code}(J:α0→α1→α2→α3→α4→St)(h:(X.bind (t5 g)).bind k=some r)
    (hx:X.bind (fun o=>(t5 g o).bind k)=some r→T c x st (Zfn (fun st'=> ∃ i,(t5 g i).bind k=some r∧Ent c st' (t5 J i)) K))
    (ky: ∀ (a0:α0) (a1:α1) (a2:α2) (a3:α3) (a4:α4),(g a0 a1 a2 a3 a4).bind k=some r→T c y (J a0 a1 a2 a3 a4) K):T c (.seq x y) st K:=
  ZdJ (G:=t5 g) id (t5 J) h hx fun i h=>ky (i.1) (i.2.1) (i.2.2.1) (i.2.2.2.1) (i.2.2.2.2) h
theorem J6{τ β γ:Type}{α0 α1 α2 α3 α4 α5:Type}{c:Ctx}{st:St}{K:Exit→St→Prop}{k:β→Option γ}{r:γ}{G:τ→Option β}{X:Option τ}{x y:Code}(inj:(α0×α1×α2×α3×α4×α5)→τ)(J:α0→α1→α2→α3→α4→α5→St)(h:(X.bind G).bind k=some r)
    (hx:X.bind (fun o=>(G o).bind k)=some r→T c x st (Zfn (fun st'=> ∃ i,(G (inj i)).bind k=some r∧Ent c st' (t6 J i)) K))
    (ky: ∀ (a0:α0) (a1:α1) (a2:α2) (a3:α3) (a4:α4) (a5:α5),(G (inj (a0,a1,a2,a3,a4,a5))).bind k=some r→T c y (J a0 a1 a2 a3 a4 a5) K):T c (.seq x y) st K:=
  ZdJ inj (t6 J) h hx fun i h=>ky (i.1) (i.2.1) (i.2.2.1) (i.2.2.2.1) (i.2.2.2.2.1) (i.2.2.2.2.2) h
theorem I6{β γ:Type}{α0 α1 α2 α3 α4 α5:Type}{c:Ctx}{st:St}{K:Exit→St→Prop}{k:β→Option γ}{r:γ}{g:α0→α1→α2→α3→α4→α5→Option β}{X:Option (α0×α1×α2×α3×α4×α5)}{x y:Code}(J:α0→α1→α2→α3→α4→α5→St)(h:(X.bind (t6 g)).bind k=some r)
    (hx:X.bind (fun o=>(t6 g o).bind k)=some r→T c x st (Zfn (fun st'=> ∃ i,(t6 g i).bind k=some r∧Ent c st' (t6 J i)) K))
    (ky: ∀ (a0:α0) (a1:α1) (a2:α2) (a3:α3) (a4:α4) (a5:α5),(g a0 a1 a2 a3 a4 a5).bind k=some r→T c y (J a0 a1 a2 a3 a4 a5) K):T c (.seq x y) st K:=
  ZdJ (G:=t6 g) id (t6 J) h hx fun i h=>ky (i.1) (i.2.1) (i.2.2.1) (i.2.2.2.1) (i.2.2.2.2.1) (i.2.2.2.2.2) h
theorem L7{ρ:Type}{α0 α1 α2 α3 α4 α5 α6:Type}{c:Ctx}{code:Code}{st:St}{K:Exit→St→Prop}{body:(α0×α1×α2×α3×α4×α5×α6)→Option ((α0×α1×α2×α3×α4×α5×α6) ⊕ ρ)}(I:α0→α1→α2→α3→α4→α5→α6→St){s0:α0×α1×α2×α3×α4×α5×α6}{r:ρ}(h:loop body s0=some r)(h0:Ent c st (t7 I s0))
    (hr: ∀ (n:Nat) (a0:α0) (a1:α1) (a2:α2) (a3:α3) (a4:α4) (a5:α5) (a6:α6),(body (a0,a1,a2,a3,a4,a5,a6)).bind (Sum.elim (Zdq body n) some)=some r→T c code (I a0 a1 a2 a3 a4 a5 a6) (Zfn (fun st'=> ∃ s',Zdq body n s'=some r∧Ent c st' (t7 I s')) K)):T c (.loop code) st K:=
  Zg5 body (t7 I) s0 h h0 fun n s h=>hr n (s.1) (s.2.1) (s.2.2.1) (s.2.2.2.1) (s.2.2.2.2.1) (s.2.2.2.2.2.1) (s.2.2.2.2.2.2) h
section
variable {cw:Md} {c:Ctx} {ops:Array Oper} {m:Nat} {st:St} {K:Exit→St→Prop} {dst:Option Tmp} {x y:Operand} {ty:TypeId} {pos:String} {after:Array Edge} {o o':Oper} {v v' P Q:AV} {hp':List (Option Own)}
theorem Dq(i:Nat)(e:(ops[i]?,dstLt o.dst c.nt,noWrite cw.cw o.op)=(some o,true,true))(h:SVal c ops ⟨restr st.tm (o.looksAt ops),st.hp⟩ o v)(k:Dv cw c ops (KE c K) (setBit m i) (st.puto o.dst v))
    (ht:takeQ cw ops m i=true:=by kernel_rfl):Dv cw c ops (KE c K) m st:=Zmb i v (congrArg Prod.fst e) ht (congrArg (·.2.1) e) (congrArg (·.2.2) e) h k
theorem D1(i:Nat)(L:Opv c ⟨restr st.tm (o.looksAt ops),st.hp⟩ x P→SVal c ops ⟨restr st.tm (o.looksAt ops),st.hp⟩ o v)(e:(ops[i]?,dstLt o.dst c.nt,noWrite cw.cw o.op,opv (restr st.tm (o.looksAt ops)) x)=(some o,true,true,some P))
    (k:Dv cw c ops (KE c K) (setBit m i) (st.puto o.dst v)) (ht:takeQ cw ops m i=true:=by kernel_rfl):Dv cw c ops (KE c K) m st:=Zmb i v (congrArg Prod.fst e) ht (congrArg (·.2.1) e) (congrArg (·.2.2.1) e) (L (ov (congrArg (·.2.2.2) e))) k
theorem D2(i:Nat)(L:Opv c ⟨restr st.tm (o.looksAt ops),st.hp⟩ x P→Opv c ⟨restr st.tm (o.looksAt ops),st.hp⟩ y Q→SVal c ops ⟨restr st.tm (o.looksAt ops),st.hp⟩ o v)
    (e:(ops[i]?,dstLt o.dst c.nt,noWrite cw.cw o.op,opv (restr st.tm (o.looksAt ops)) x,opv (restr st.tm (o.looksAt ops)) y)=(some o,true,true,some P,some Q))
    (k:Dv cw c ops (KE c K) (setBit m i) (st.puto o.dst v)) (ht:takeQ cw ops m i=true:=by kernel_rfl):Dv cw c ops (KE c K) m st:=
  Zmb i v (congrArg Prod.fst e) ht (congrArg (·.2.1) e) (congrArg (·.2.2.1) e) (L (ov (congrArg (·.2.2.2.1) e)) (ov (congrArg (·.2.2.2.2) e))) k
theorem Do(i:Nat)(e:(ops[i]?,dstLt o.dst c.nt,noWrite cw.cw o.op)=(some o,true,false))(h:WVal c ops ⟨restr st.tm (o.looksAt ops),st.hp⟩ o v hp')(k:Dv cw c ops (KE c K) (setBit m i) (St.puto ⟨st.tm,hp'⟩ o.dst v))(ht:onlyAt ops m i=true:=by kernel_rfl)
    (hx:extOp o.op=true→Ext st.hp hp':=by intro h;cases h) (hy:cw.fr=true→ExtW cw.wl cw.base hp':=by intro h;cases h):Dv cw c ops (KE c K) m st:=Zod i v hp' (congrArg Prod.fst e) ht (congrArg (·.2.1) e) (congrArg (·.2.2) e) hx hy h k
theorem Dw(i j:Nat)(e:(ops[i]?,ops[j]?,dstLt o.dst c.nt,dstLt o'.dst c.nt,noWrite cw.cw o.op,noWrite cw.cw o'.op)=(some o,some o',true,true,true,false))
    (h:SVal c ops ⟨restr st.tm (o.looksAt ops),st.hp⟩ o v) (h':WVal c ops ⟨restr st.tm (o'.looksAt ops),st.hp⟩ o' v' hp')
    (k:Dv cw c ops (KE c K) (setBit m i) (st.puto o.dst v)) (k':Dv cw c ops (KE c K) (setBit m j) (St.puto ⟨st.tm,hp'⟩ o'.dst v')) (ht:ZoH ops m i j=true:=by kernel_rfl)
    (hx':extOp o'.op=true→Ext st.hp hp':=by intro h;cases h) (hy':cw.fr=true→ExtW cw.wl cw.base hp':=by intro h;cases h):Dv cw c ops (KE c K) m st:=
  Zqj i j (congrArg (·.1) e) (congrArg (·.2.1) e) ht (congrArg (·.2.2.1) e) (congrArg (·.2.2.2.1) e) (congrArg (·.2.2.2.2.1) e) (congrArg (·.2.2.2.2.2) e) hx' hy' h h' k k'
theorem Dd(k:K .normal st)(h:Zm7 ops m=true:=by kernel_rfl):Dv cw c ops (KE c K) m st:=ZpX h k
end
theorem ES{c:Ctx}{st:St}{tm':List (Nat×AV)}{hp':List (Option Own)}(s:List (Option Nat))
    (htm:SelTm (Zij s st.hp) st.tm tm':=by repeat (first |exact sn |refine sd _ rfl rfl ?_ | (refine sr _ rfl ?_ ?_;(· first |exact .dat rfl |exact .own _ rfl |exact .ptr _ _ _ rfl |exact .mref _ rfl |exact .row rfl |exact .nils _ | (refine Zbw ?_;(· first |exact rld rfl | (refine rld ?_;(· first |rfl |exact arD fun _=>rfl |exact arC fun _=>rfl |exact Zmc fun x=>(RowD.h (P:=_) x).2 | ((repeat (first |exact alN |refine alC rfl ?_ | (refine alA ?_ ?_;(· first |exact arD fun _=>rfl |exact arC fun _=>rfl))));done))) | ((repeat (first |exact rln | (refine rlc ?_ ?_;(· first |exact .dat rfl |exact .own _ rfl |exact .ptr _ _ _ rfl |exact .mref _ rfl |exact .row rfl |exact .nils _)) | (refine rla ?_ ?_;(· refine rld ?_;(first |rfl |exact arD fun _=>rfl |exact arC fun _=>rfl |exact Zmc fun x=>(RowD.h (P:=_) x).2 | ((repeat (first |exact alN |refine alC rfl ?_ | (refine alA ?_ ?_;(· first |exact arD fun _=>rfl |exact arC fun _=>rfl))));done))))));done))) | (refine JO ?_;(· first |exact rld rfl | (refine rld ?_;(· first |rfl |exact arD fun _=>rfl |exact arC fun _=>rfl |exact Zmc fun x=>(RowD.h (P:=_) x).2 | ((repeat (first |exact alN |refine alC rfl ?_ | (refine alA ?_ ?_;(· first |exact arD fun _=>rfl |exact arC fun _=>rfl))));done))) | ((repeat (first |exact rln | (refine rlc ?_ ?_;(· first |exact .dat rfl |exact .own _ rfl |exact .ptr _ _ _ rfl |exact .mref _ rfl |exact .row rfl |exact .nils _)) | (refine rla ?_ ?_;(· refine rld ?_;(first |rfl |exact arD fun _=>rfl |exact arC fun _=>rfl |exact Zmc fun x=>(RowD.h (P:=_) x).2 | ((repeat (first |exact alN |refine alC rfl ?_ | (refine alA ?_ ?_;(· first |exact arD fun _=>rfl |exact arC fun _=>rfl))));done))))));done))) | (refine rFn ?_;(· first |exact rld rfl | (refine rld ?_;(· first |rfl |exact arD fun _=>rfl |exact arC fun _=>rfl |exact Zmc fun x=>(RowD.h (P:=_) x).2 | ((repeat (first |exact alN |refine alC rfl ?_ | (refine alA ?_ ?_;(· first |exact arD fun _=>rfl |exact arC fun _=>rfl))));done))) | ((repeat (first |exact rln | (refine rlc ?_ ?_;(· first |exact .dat rfl |exact .own _ rfl |exact .ptr _ _ _ rfl |exact .mref _ rfl |exact .row rfl |exact .nils _)) | (refine rla ?_ ?_;(· refine rld ?_;(first |rfl |exact arD fun _=>rfl |exact arC fun _=>rfl |exact Zmc fun x=>(RowD.h (P:=_) x).2 | ((repeat (first |exact alN |refine alC rfl ?_ | (refine alA ?_ ?_;(· first |exact arD fun _=>rfl |exact arC fun _=>rfl))));done))))));done)))))))
    (hhp:SelHp c.P (Zij s st.hp) st.hp s hp':=by repeat (first |exact .nil | (refine .cons rfl ?_ ?_;(· first |exact roM RowD.h |exact roE | (refine ro1 ?_ ?_;(· first |exact(SzD.h).symm | (refine Eq.trans ?_ (SzD.h).symm;(· simp)));(· first |exact rld rfl | (refine rld ?_;(· first |rfl |exact arD fun _=>rfl |exact arC fun _=>rfl |exact Zmc fun x=>(RowD.h (P:=_) x).2 | ((repeat (first |exact alN |refine alC rfl ?_ | (refine alA ?_ ?_;(· first |exact arD fun _=>rfl |exact arC fun _=>rfl))));done))) | ((repeat (first |exact rln | (refine rlc ?_ ?_;(· first |exact .dat rfl |exact .own _ rfl |exact .ptr _ _ _ rfl |exact .mref _ rfl |exact .row rfl |exact .nils _)) | (refine rla ?_ ?_;(· refine rld ?_;(first |rfl |exact arD fun _=>rfl |exact arC fun _=>rfl |exact Zmc fun x=>(RowD.h (P:=_) x).2 | ((repeat (first |exact alN |refine alC rfl ?_ | (refine alA ?_ ?_;(· first |exact arD fun _=>rfl |exact arC fun _=>rfl))));done))))));done))))) |refine .dead ?_ |refine .row _ ?_))
    (hnd:dupL s hp'=true:=by rfl) (hfx:Zif 0 c.n0 s=true:=by rfl):Ent c st ⟨tm',hp'⟩:=Ent.sel s htm hhp hnd hfx
end Go.Vx
