/- A text of the proof: a verified executor of the program form, or the contracts of the functions that the law reaches. -/
import Derived.Test.YtgohgnaapbpggaaGreatDoorVU
import Derived.Maps.RangeRun
set_option linter.all false
namespace Go.Vx
open Go Go.RowKit
open Go.ChangeMaps (setBlock)
section fold
variable {α σ:Type}
end fold
theorem HRel.toW{P:Program}{w w':World}{M M':Nat→Prop}{n:Nat}{φ:Phi}{r:Nat}{o:Own}(h:HRel P w M n φ r o)(hsz:w.heap.size≤w'.heap.size)(hb: ∀ b,(φ r).has b→w'.heap[b]?=w.heap[b]?)
    (hr: ∀ av x,RelF P w M n φ av x→RelF P w' M' n φ av x):HRel P w' M' n φ r o:=by
  refine⟨h.len,h.sz,h.rows,h.room,h.cap,h.none,fun b hs=>Nat.lt_of_lt_of_le (h.subl b hs) hsz,h.subn,fun b hbk=> ?_⟩
  obtain⟨cs,h1,h2,h3⟩:=h.some b hbk
  exact⟨cs,h1.congr (hb b (.inl hbk)),h2,h3.tr (fun x hx=>hb x (.inr hx)) hr⟩
open Classical in
noncomputable def Znz(φ:Phi)(hp:List (Option Own))(w:World):List Nat:=(List.range w.heap.size).filter fun b=>decide (∃ r o,nth hp r=some o∧(φ r).has b)
theorem Zh8{φ:Phi}{hp:List (Option Own)}{w:World}{b:Nat}:b∈Znz φ hp w↔b<w.heap.size∧ ∃ r o,nth hp r=some o∧(φ r).has b:=by
  simp only [Znz,List.mem_filter,List.mem_range,decide_eq_true_eq]
noncomputable def cxN(c:Ctx)(A':Nat→Prop)(φ:Phi)(hp:List (Option Own))(w:World):Ctx:=⟨c.P,c.nt,w,A',Znz φ hp w,c.gl,hp.length,φ⟩
theorem mkD{c:Ctx}{φ:Phi}{hp:List (Option Own)}{w w':World}{A':Nat→Prop}(h:HeapOK c φ hp w)(hA': ∀ b,A' b→b<w'.heap.size∧ ∀ r o,nth hp r=some o→ ¬(φ r).has b)(hsz:w.heap.size≤w'.heap.size)
    (hown: ∀ r o b,nth hp r=some o→(φ r).has b→w'.heap[b]?=w.heap[b]?) (hrel: ∀ av x,RelF c.P w (Mut c.A φ hp) hp.length φ av x→RelF c.P w' (Mut A' φ hp) hp.length φ av x)
    (hg:c.gl.n≤w'.heap.size) (hgt: ∀ p∈c.gl.tabs,p.1<c.gl.n∧(∃ e fr,w'.heap[p.1]?=some (.cells p.2 e fr))∧ ¬A' p.1) (hgW: ∀ r o b,nth hp r=some o→(φ r).has b→c.gl.n≤b):
    HeapOK (cxN c A' φ hp w') φ hp w':=by
  refine⟨rfl,rfl,rfl,Nat.le_refl _,fun _ _ _=>rfl,fun r o b hr hb=>⟨.inl (Zh8.2 ⟨?_,r,o,hr,hb⟩),fun ha=>(hA' b ha).2 r o hr hb⟩,fun r r' o o' b h1 h2 h3 h4=>h.apart r r' o o' b h1 h2 h3 h4,fun r o hr=> ?_,fun b hb=>⟨(hA' b hb).1,fun hw=> ?_⟩,⟨hg,fun b hb=> ?_,hgt⟩,Nat.le_refl _,fun r _=> .inl (.refl _)⟩
  · exact Nat.lt_of_lt_of_le ((h.obj r o hr).has_lt hb) hsz
  · exact(h.obj r o hr).toW hsz (fun b hb=>hown r o b hr hb) hrel
  · obtain⟨_,r,o,hr,h2⟩:=Zh8.1 hw
    exact(hA' b hb).2 r o hr h2
  · obtain⟨_,r,o,hr,h2⟩:=Zh8.1 hb
    exact hgW r o b hr h2
structure Sit (c:Ctx) (bi:Nat) (φ:Phi) (st:St) (a:Act) (w:World):Prop where
  k:Conc c φ st a w
  d:HeapOK (cxN c (fun b=>c.A b∨b=bi) φ st.hp w) φ st.hp w
  t: ∀ t av,look st.tm t=some av→RelF c.P w (Mut (fun b=>c.A b∨b=bi) φ st.hp) st.hp.length φ av (a.tmps.getD t undef)
  bi:c.w0.heap.size≤bi
theorem Sit.D{c:Ctx}{bi:Nat}{φ:Phi}{st:St}{a:Act}{w:World}(h:Sit c bi φ st a w):Conc (cxN c (fun b=>c.A b∨b=bi) φ st.hp w) φ st a w:=⟨h.k.size,h.k.defers,h.d,h.t⟩
theorem glW{c:Ctx}{φ:Phi}{hp:List (Option Own)}{w:World}(h:HeapOK c φ hp w): ∀ r o b,nth hp r=some o→(φ r).has b→c.gl.n≤b:=fun r o b hr hb=>by
  rcases(h.owned r o b hr hb).1 with h1 |h1
  · exact h.glob.W b h1
  · exact Nat.le_trans h.glob.len h1
theorem Sit.new{c:Ctx}{φ:Phi}{st:St}{a:Act}{w:World}(h:Conc c φ st a w)(ob:Obj):Sit c w.heap.size φ st a (w.alloc ob):=by
  have hBl:Below w.heap.size w (w.alloc ob):=(Below.refl _ _).alloc (Nat.le_refl _) _
  have hc':=h.below hBl
  have hrel: ∀ av x,RelF c.P w (Mut c.A φ st.hp) st.hp.length φ av x→RelF c.P (w.alloc ob) (Mut (fun b=>c.A b∨b=w.heap.size) φ st.hp) st.hp.length φ av x:=fun av x hx ψ hψ=>
    (hx ψ hψ).mono hBl.size (fun b hb _=>hBl.block b hb) (fun b hb hm hm'=>hm (hm'.elim (fun q=>q.elim .inl fun e=>by omega) .inr))
  have hgl:=ZeZ h
  refine⟨hc',mkD h.hok (fun b hb=> ?_) hBl.size (fun r o b hr hb=>hBl.block b ((h.hok.obj r o hr).has_lt hb)) hrel (Nat.le_trans hgl.len hBl.size) (fun p hp=> ?_) (glW h.hok),fun t av ht=>hrel _ _ (h.tm t av ht),h.hok.heap⟩
  · have hs:(w.alloc ob).heap.size=w.heap.size+1:=by show(w.heap.push _).size=_;simp
    rcases hb with hb |rfl
    · have h1:=(h.hok.amb b hb).1
      have h2:=h.hok.heap
      exact⟨by omega,fun r o hr hb2=>(h.hok.owned r o b hr hb2).2 hb⟩
    · exact⟨by omega,fun r o hr hb2=>by have:=(h.hok.obj r o hr).has_lt hb2;omega⟩
  · obtain⟨h1,⟨e,fr,h2⟩,h3⟩:=hgl.tab p hp
    have hlt:=(Array.getElem?_eq_some_iff.1 h2).1
    exact⟨h1,⟨e,fr,(hBl.block _ hlt).trans h2⟩,fun hq=>hq.elim (fun q=>h3 (.inl q)) fun e=>by omega⟩
end Go.Vx

namespace Go.Vx
open Go Go.RowKit
open Go.ChangeMaps (setBlock)
section picked
variable {α:Type}
def pick(m:List α)(l:List Nat):List α:=l.filterMap fun i=>m[i]?
end picked
end Go.Vx

namespace Go.Vx
open Go Go.RowKit
section ops
variable {c:Ctx} {ops:Array Oper} {st:St} {dst:Option Tmp} {ty:TypeId} {pos:String} {after:Array Edge}
end ops
end Go.Vx
namespace Go.Vx
open Go Go.RowKit
end Go.Vx

namespace Go.Vx
open Go Go.RowKit
section ops
variable {c:Ctx} {ops:Array Oper} {st:St} {dst:Option Tmp} {ty:TypeId} {pos:String} {after:Array Edge}
end ops
end Go.Vx
