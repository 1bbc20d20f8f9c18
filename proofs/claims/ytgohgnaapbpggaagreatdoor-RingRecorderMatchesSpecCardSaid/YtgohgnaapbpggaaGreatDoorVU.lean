/- A text of the proof: a verified executor of the program form, or the contracts of the functions that the law reaches. -/
import Derived.Test.YtgohgnaapbpggaaGreatDoorVT
import Derived.Lib.AppendZerosOnto
import Derived.Lib.Overlaps
import Derived.Shelf.Spec.SlicesInsert
set_option linter.all false
namespace Go.Vx
open Go Go.RowKit Go.Lib
structure InsK (P:Program) (f ov:FuncId) (t tn:TypeId) (sz:Nat):Prop where
  fin0: ∀ (vb voff vc:Nat) (v':Value) (w w':World),
    (Builtin.append_ #[t,t] t #[.slice none 0 0,.slice (some ⟨vb,voff,none⟩) 1 vc]).run P w= .ok v' w'→
    Calls P f #[.slice none 0 0,.int .i64 (0:Nat),.slice (some ⟨vb,voff,none⟩) 1 vc] w fun e W=>e= .returned v'∧W=w'
  fin: ∀ (b n c vb voff vc:Nat) (v':Value) (w w':World),n≤c→c≤9223372036854775807→
    (Builtin.append_ #[t,t] t #[.slice (some ⟨b,0,none⟩) n c,.slice (some ⟨vb,voff,none⟩) 1 vc]).run P w= .ok v' w'→
    Calls P f #[.slice (some ⟨b,0,none⟩) n c,.int .i64 n,.slice (some ⟨vb,voff,none⟩) 1 vc] w fun e W=>e= .returned v'∧W=w'
  room: ∀ (b n c i vb voff vc:Nat) (w w1 w2:World),i<n→n+1≤c→c≤9223372036854775807→
    (∀ lb cb,(callFunc ov #[.slice (some ⟨vb,voff,none⟩) 1 vc,.slice (some ⟨b,(i+1)*sz,none⟩) lb cb]).run P w= .ok (.value (.bool false)) w)→
    (∀ ty dc sc,(Builtin.copy_ #[t,t] ty #[.slice (some ⟨b,(i+1)*sz,none⟩) (n-i) dc,.slice (some ⟨b,i*sz,none⟩) (n+1-i) sc]).run P w.drew= .ok (goInt (n-i:Nat)) w1)→
    (∀ ty dc,(Builtin.copy_ #[t,t] ty #[.slice (some ⟨b,i*sz,none⟩) (n+1-i) dc,.slice (some ⟨vb,voff,none⟩) 1 vc]).run P w1= .ok (goInt 1) w2)→
    Calls P f #[.slice (some ⟨b,0,none⟩) n c,.int .i64 i,.slice (some ⟨vb,voff,none⟩) 1 vc] w fun e W=>e= .returned (.slice (some ⟨b,0,none⟩) (n+1) c)∧W=w2
  grow: ∀ (b n c i vb voff vc g c':Nat) (w w1 w2 w3:World),i<n→n≤c→c<n+1→c≤9223372036854775806→n+1≤c'→c'≤9223372036854775807→
    (∀ ty,(Builtin.append_ #[t,tn] ty #[.slice (some ⟨b,0,none⟩) i c,.int .i64 ((n+1-i:Nat):Int)]).run P w= .ok (.slice (some ⟨g,0,none⟩) (n+1) c') w1)→
    (∀ ty dc,(Builtin.copy_ #[t,t] ty #[.slice (some ⟨g,i*sz,none⟩) (n+1-i) dc,.slice (some ⟨vb,voff,none⟩) 1 vc]).run P w1= .ok (goInt 1) w2)→
    (∀ ty dc sc,(Builtin.copy_ #[t,t] ty #[.slice (some ⟨g,(i+1)*sz,none⟩) (n-i) dc,.slice (some ⟨b,i*sz,none⟩) (n-i) sc]).run P w2.drew= .ok (goInt (n-i:Nat)) w3)→
    Calls P f #[.slice (some ⟨b,0,none⟩) n c,.int .i64 i,.slice (some ⟨vb,voff,none⟩) 1 vc] w fun e W=>e= .returned (.slice (some ⟨g,0,none⟩) (n+1) c')∧W=w3
def ins{α:Type}(xs:List α)(i:Int)(vs:List α):Option (List α):=
  if 0≤i∧i≤xs.length∧xs.length+1≤4294967296∧vs.length=1 then some (xs.take i.toNat++vs++xs.drop i.toNat) else none
section ins
variable {c:Ctx} {ops:Array Oper} {st:St} {dst:Option Tmp} {ty:TypeId} {pos:String} {after:Array Edge}
end ins
end Go.Vx

namespace Go.Vx
open Go Go.RowKit
def t13{α0 α1 α2 α3 α4 α5 α6 α7 α8 α9 α10 α11 α12 ι:Type}(f:α0→α1→α2→α3→α4→α5→α6→α7→α8→α9→α10→α11→α12→ι)(p:α0×α1×α2×α3×α4×α5×α6×α7×α8×α9×α10×α11×α12):ι:=f p.1 p.2.1 p.2.2.1 p.2.2.2.1 p.2.2.2.2.1 p.2.2.2.2.2.1 p.2.2.2.2.2.2.1 p.2.2.2.2.2.2.2.1 p.2.2.2.2.2.2.2.2.1 p.2.2.2.2.2.2.2.2.2.1 p.2.2.2.2.2.2.2.2.2.2.1 p.2.2.2.2.2.2.2.2.2.2.2.1 p.2.2.2.2.2.2.2.2.2.2.2.2
@[simp] theorem ZtL {α0 α1 α2 α3 α4 α5 α6 α7 α8 α9 α10 α11 α12 ι:Type} (f:α0→α1→α2→α3→α4→α5→α6→α7→α8→α9→α10→α11→α12→ι) (a0:α0) (a1:α1) (a2:α2) (a3:α3) (a4:α4) (a5:α5) (a6:α6) (a7:α7) (a8:α8) (a9:α9) (a10:α10) (a11:α11) (a12:α12):t13 f (a0,a1,a2,a3,a4,a5,a6,a7,a8,a9,a10,a11,a12)=f a0 a1 a2 a3 a4 a5 a6 a7 a8 a9 a10 a11 a12:=rfl
def t18{α0 α1 α2 α3 α4 α5 α6 α7 α8 α9 α10 α11 α12 α13 α14 α15 α16 α17 ι:Type}(f:α0→α1→α2→α3→α4→α5→α6→α7→α8→α9→α10→α11→α12→α13→α14→α15→α16→α17→ι)(p:α0×α1×α2×α3×α4×α5×α6×α7×α8×α9×α10×α11×α12×α13×α14×α15×α16×α17):ι:=f p.1 p.2.1 p.2.2.1 p.2.2.2.1 p.2.2.2.2.1 p.2.2.2.2.2.1 p.2.2.2.2.2.2.1 p.2.2.2.2.2.2.2.1 p.2.2.2.2.2.2.2.2.1 p.2.2.2.2.2.2.2.2.2.1 p.2.2.2.2.2.2.2.2.2.2.1 p.2.2.2.2.2.2.2.2.2.2.2.1 p.2.2.2.2.2.2.2.2.2.2.2.2.1 p.2.2.2.2.2.2.2.2.2.2.2.2.2.1 p.2.2.2.2.2.2.2.2.2.2.2.2.2.2.1 p.2.2.2.2.2.2.2.2.2.2.2.2.2.2.2.1 p.2.2.2.2.2.2.2.2.2.2.2.2.2.2.2.2.1 p.2.2.2.2.2.2.2.2.2.2.2.2.2.2.2.2.2
@[simp] theorem ZtA {α0 α1 α2 α3 α4 α5 α6 α7 α8 α9 α10 α11 α12 α13 α14 α15 α16 α17 ι:Type} (f:α0→α1→α2→α3→α4→α5→α6→α7→α8→α9→α10→α11→α12→α13→α14→α15→α16→α17→ι) (a0:α0) (a1:α1) (a2:α2) (a3:α3) (a4:α4) (a5:α5) (a6:α6) (a7:α7) (a8:α8) (a9:α9) (a10:α10) (a11:α11) (a12:α12) (a13:α13) (a14:α14) (a15:α15) (a16:α16) (a17:α17):t18 f (a0,a1,a2,a3,a4,a5,a6,a7,a8,a9,a10,a11,a12,a13,a14,a15,a16,a17)=f a0 a1 a2 a3 a4 a5 a6 a7 a8 a9 a10 a11 a12 a13 a14 a15 a16 a17:=rfl
end Go.Vx

namespace Go.Vx
open Go Go.RowKit
def MX(c:Ctx)(st:St)(φ:Phi)(ρ:List Nat):Nat→Prop:=fun b=>c.A b∨ ∃ r o,ρ.contains r=true∧nth st.hp r=some o∧(φ r).has b
def ViewX(c:Ctx)(st:St)(ρ:List Nat)(av dv:AV):Prop:= ∀ φ a w,Conc c φ st a w→ ∀ v,RelF c.P w (Mut c.A φ st.hp) st.hp.length φ av v→RelD c.P w (MX c st φ ρ) dv v
theorem Dat.viewX{c:Ctx}{st:St}{ρ:List Nat}{av dv:AV}(h:Dat c st av dv):ViewX c st ρ av dv:=fun φ a w hc v hv=>
  (h φ a w hc v hv).mono (Nat.le_refl _) (fun _ _ _=>rfl) (fun _ _ hm ha=>hm (ha.elim .inl fun⟨r,o,_,h1,h2⟩=> .inr ⟨r,o,h1,h2⟩))
theorem ViewX.agg{c:Ctx}{st:St}{ρ:List Nat}{l l':List AV}(hl:l.length=l'.length)(h: ∀ i,i<l.length→ViewX c st ρ (l.getD i .any) (l'.getD i .any)):ViewX c st ρ (.agg l) (.agg l'):=by
  intro φ a w hc v hv
  obtain⟨vs,rfl,h1,h2⟩:=Zcg hv
  exact .agg l' vs (by omega) fun i hi=>h i (by omega) φ a w hc _ (h2 i (by omega))
theorem ViewX.aggL{c:Ctx}{st:St}{ρ:List Nat}{l l':List AV}(h:Pw (ViewX c st ρ) l l'):ViewX c st ρ (.agg l) (.agg l'):= .agg h.len h.get
theorem ViewX.nils{c:Ctx}{st:St}{ρ:List Nat}(e:TypeId):ViewX c st ρ .nils (.sl e []):=(Dat.nils e).viewX
theorem ViewX.own{c:Ctx}{st:St}{ρ:List Nat}{r n:Nat}{o:Own}{es:List (List AV)}(ho:nth st.hp r=some o)(hn:o.es.length=n)(hes:es.length=n)(hrows: ∀ row∈es,row.length=c.P.cellsOf o.elem)
    (h: ∀ i j,i<n→j<c.P.cellsOf o.elem→ViewX c st ρ (cellAt o.es i j) (cellAt es i j)) (hns: ∀ row∈o.es,NS row) (hρ:ρ.contains r=false):ViewX c st ρ (.own r n) (.sl o.elem es):=by
  intro φ a w hc v hv
  have hO:=hc.hok.obj r o ho
  have hx:=JZ hv (by rw [hO.len,hn])
  rw [hx]
  have h63:n<2^63:=by have:=hO.room;have:=hO.cap;omega
  cases hb:(φ r).blk with
  |none=>
    have:=(hO.none hb).1
    rw [this] at hn
    simp at hn
    subst hn
    have:es= []:=List.eq_nil_of_length_eq_zero hes
    subst this
    exact .sl0 _ _ _
  |some b=>
    obtain⟨cs,h3,h4,h5⟩:=hO.some b hb
    have h3:=h3.cells (XY hv (by rw [hO.len,hn]))
    have hnM: ¬MX c st φ ρ b:=by
      rintro(h | ⟨r',o',e1,e2,e3⟩)
      · exact(hc.hok.owned r o b ho (.inl hb)).2 h
      · have:=hc.hok.apart r r' o o' b ho e2 (.inl hb) e3
        subst this
        rw [hρ] at e1;cases e1
    have hlt:b<w.heap.size:=(Array.getElem?_eq_some_iff.1 h3).1
    have hcells: ∀ i j,i<es.length→j<c.P.cellsOf o.elem→w.cell? ⟨b,0+(i*c.P.cellsOf o.elem+j),none⟩=some (cs.getD (i*c.P.cellsOf o.elem+j) undef):=fun i j hi hj=>by
      rw [Z0 h3]
      have hroom:=hO.room
      have:i*c.P.cellsOf o.elem+j<cs.size:=by rw [h4];exact ZbD (by omega) hj
      simp [this]
    have:=RelD.sl (P:=c.P) (w:=w) (M:=MX c st φ ρ) o.elem es b 0 (φ r).cap (fun i j=>cs.getD (i*c.P.cellsOf o.elem+j) undef) hlt hnM (by omega) (by have:=hO.room;omega) hrows hcells
      (fun i j hi hj=>h i j (by omega) hj φ a w hc _ (h5.plain (by omega) hj (Zme hns i j)))
    rw [hes] at this
    exact this
theorem ViewX.ownB{c:Ctx}{st:St}{ρ:List Nat}{r n:Nat}{o:Own}(ho:nth st.hp r=some o)(hn:o.es.length=n)(h: ∀ row∈o.es,row.length=c.P.cellsOf o.elem∧row.all datB=true)(hρ:ρ.contains r=false):ViewX c st ρ (.own r n) (.sl o.elem o.es):=by
  refine .own ho hn hn (fun row hr=>(h row hr).1) (fun i j hi hj=> ?_) (fun row hr=>ZnQ (h row hr).2) hρ
  have hi':i<o.es.length:=by omega
  have hrow:=h _ (List.getElem_mem hi')
  have:cellAt o.es i j=o.es[i][j]'(by omega):=by simp [cellAt,gQ,hi',hrow.1,hj]
  rw [this]
  exact(Dat.b (List.all_eq_true.1 hrow.2 _ (List.getElem_mem _))).viewX
theorem ViewX.ownM{c:Ctx}{st:St}{ρ:List Nat}{α:Type}{f:α→List AV}{r n:Nat}{e:TypeId}{xs:List α}(hρ:ρ.contains r=false)(ho:nth st.hp r=some ⟨e,xs.map f⟩)(hn:xs.length=n)(h: ∀ x,(f x).length=c.P.cellsOf e∧(f x).all datB=true):ViewX c st ρ (.own r n) (.sl e (xs.map f)):=
  ViewX.ownB (o:=⟨e,xs.map f⟩) ho (by simpa using hn) (fun row hr=>by obtain⟨x,_,rfl⟩:=List.mem_map.1 hr;exact h x) hρ
def FreM(P:Program)(av:AV):Prop:=FreC P av∨ ∃ l,av= .mcon l∧ ∀ i,ZkG (cellAt l i 0)=true∧FreC P (cellAt l i 1)
theorem FreM.trel{P:Program}{w:World}{M M':Nat→Prop}{n:Nat}{φ:Phi}{S:Nat→Prop}{av:AV}{v:Value}(hf:FreM P av)(h:TRel P w M n φ S av v):TRel P w M' n φ S av v:=by
  rcases hf with hf | ⟨l,rfl,hf⟩
  · exact hf.trel h
  · cases h with
    |leaf h=>have:=Zfg h;cases this
    |mcon _ ks vs es T h1 h2 h3 h4 h5 h6=>exact .mcon l ks vs es T h1 h2 h3 h4 (fun i hi ψ hψ=>ZoB (hf i).1 (h5 i hi ψ hψ)) fun i hi=>(hf i).2.trel (h6 i hi)
inductive FreMs (P:Program):List (Option Own)→Prop
  |nil:FreMs P []
  |none {tl:List (Option Own)}:FreMs P tl→FreMs P (none::tl)
  |cons {o:Own} {tl:List (Option Own)}:(∀ i j,i<o.es.length→j<P.cellsOf o.elem→FreM P (cellAt o.es i j))→FreMs P tl→FreMs P (some o::tl)
theorem FreMs.get{P:Program}{os:List (Option Own)}(h:FreMs P os): ∀ i o,nth os i=some o→ ∀ i' j,i'<o.es.length→j<P.cellsOf o.elem→FreM P (cellAt o.es i' j):=by
  induction h with
  |nil=>intro i o h;cases h
  |none _ ih=>
    intro i o h
    cases i with
    |zero=>cases h
    |succ i=>exact ih i o h
  |cons h1 _ ih=>
    intro i o h
    cases i with
    |zero=>cases h;exact h1
    |succ i=>exact ih i o h
inductive ArgsX (c:Ctx) (st:St) (ρ:List Nat):List Operand→List AV→Prop
  |nil:ArgsX c st ρ [] []
  |cons {x:Operand} {av d:AV} {xs:List Operand} {ds:List AV}:Opv c st x av→RenR (rwR fun r i=>ρ[i]?=some r) av d→ArgsX c st ρ xs ds→ArgsX c st ρ (x::xs) (d::ds)
  |view {x:Operand} {av d:AV} {xs:List Operand} {ds:List AV}:Opv c st x av→ViewX c st ρ av d→ArgsX c st ρ xs ds→ArgsX c st ρ (x::xs) (d::ds)
theorem ArgsX.rel{c:Ctx}{st:St}{ρ:List Nat}{xs:List Operand}{ds:List AV}(h:ArgsX c st ρ xs ds){φ:Phi}{a:Act}{w:World}(hc:Conc c φ st a w):
    xs.length=ds.length∧ ∀ i,i<ds.length→(∃ av,RenR (rwR fun r i=>ρ[i]?=some r) av (ds.getD i .any)∧RelF c.P w (Mut c.A φ st.hp) st.hp.length φ av ((xs.map a.eval).getD i undef))∨RelD c.P w (MX c st φ ρ) (ds.getD i .any) ((xs.map a.eval).getD i undef):=by
  induction h with
  |nil=>exact⟨rfl,fun i hi=>by cases hi⟩
  | @cons x av d xs ds h1 h2 _ ih=>
    refine⟨by simp [ih.1],fun i hi=> ?_⟩
    cases i with
    |zero=>exact .inl ⟨av,by simpa using h2,by simpa using h1 φ a w hc⟩
    |succ i=>simpa using ih.2 i (by simpa using hi)
  | @view x av d xs ds h1 h2 _ ih=>
    refine⟨by simp [ih.1],fun i hi=> ?_⟩
    cases i with
    |zero=>exact .inr (by simpa using h2 φ a w hc _ (h1 φ a w hc))
    |succ i=>simpa using ih.2 i (by simpa using hi)
section
variable {c:Ctx} {ops:Array Oper} {st:St} {dst:Option Tmp} {ty:TypeId} {pos:String} {after:Array Edge}
end
end Go.Vx
