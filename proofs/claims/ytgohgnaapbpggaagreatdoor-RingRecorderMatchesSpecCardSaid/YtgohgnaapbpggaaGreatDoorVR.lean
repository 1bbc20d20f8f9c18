/- A text of the proof: a verified executor of the program form, or the contracts of the functions that the law reaches. -/
import Derived.Test.YtgohgnaapbpggaaGreatDoorVQ
import Derived.Shelf.Slices.In.SortNone
import Derived.Test.YtgohgnaapbpggaaGreatDoorVO
import Derived.Test.YtgohgnaapbpggaaGreatDoorVL
set_option linter.all false
namespace Go.Vx
open Go Go.RowKit Go.Lib Go.Sort
def ZjC(xs:List Int):Option (List Int):=if xs.length<4611686018427387904 then some (xs.mergeSort fun x y=>decide (x≤y)) else none
theorem Zk8{xs r:List Int}(h:ZjC xs=some r):r.length=xs.length:=by
  unfold ZjC at h
  split at h
  · cases h;simp
  · cases h
theorem Zp3{P:Program}{gl:Gl}{f e:Nat}{xs r:List Int}{g:Int→List AV}(hg: ∀ z,g z= [.int .i64 z])(hc:callable P f=true)(he:P.cellsOf e=1)
    (C: ∀ (blk off cap:Nat) (zs:List Int) (w:World),Holds (Value.int .i64) w blk off zs.toArray→blk<w.heap.size→zs.length<4611686018427387904→
      Calls P f #[.slice (some ⟨blk,off,none⟩) zs.length cap] w fun e w'=>e= .returned (.tuple #[])∧ ∃ n os,w'=grow (putRow (Value.int .i64) (Sort.ahead w n) blk off (zs.mergeSort fun x y=>decide (x≤y)).toArray) os)
    (C0: ∀ (p:Option Addr) (cap:Nat) (w:World),Calls P f #[.slice p 0 cap] w fun e w'=>e= .returned (.tuple #[])∧w'=w)
    (h:ZjC xs=some r):GSpec P gl f [.own 0 xs.length] [some ⟨e,xs.map g⟩] (.tuple []) [some ⟨e,r.map g⟩]:=by
  by_cases hne:xs= []
  · subst hne
    obtain rfl:r= []:=by
      have:=Zk8 h
      exact List.eq_nil_of_length_eq_zero this
    refine⟨hc,fun A W w φ vals hok hsz hr=> ?_⟩
    have hO:=hok.obj 0 _ rfl
    have h0:=hr 0 (by simp)
    have hx:=JZ h0 (by rw [hO.len];simp)
    have hvals:vals= #[.slice ((φ 0).blk.map fun b=>⟨b,0,none⟩) 0 (φ 0).cap]:=by
      obtain⟨l⟩:=vals
      match l,hsz with
      | [x],_=>
        have e1:x= .slice ((φ 0).blk.map fun b=>⟨b,0,none⟩) 0 (φ 0).cap:=hx
        rw [e1]
    rw [hvals]
    refine(C0 _ _ w).mono ?_
    rintro e' w' ⟨rfl,rfl⟩
    exact⟨.tuple #[],φ,rfl,hok,Zt (.tuple [] #[] rfl fun i hi=>by cases hi)⟩
  · refine Zpc hg hc he C ?_
    unfold ZjC at h
    unfold Zm4
    split at h
    · rename_i hl
      rw [pG ⟨hne,hl⟩];exact h
    · cases h
end Go.Vx

namespace Go.Vx
open Go Go.RowKit
theorem Zjf{s:Sh}{ss:List Sh}{l:List AV}(h:ZcJ (s::ss) l): ∃ a tl,l=a::tl∧Fits s a∧ZcJ ss tl:=by
  obtain⟨h1,h2⟩:=h
  match l,h1 with
  |a::tl,h1=>
    refine⟨a,tl,rfl,by simpa using h2 0 (by simp),by simpa using h1,fun j hj=> ?_⟩
    simpa using h2 (j+1) (by simpa using hj)
theorem ZpS{l:List AV}(h:ZcJ [] l):l= []:=List.length_eq_zero_iff.1 h.1
theorem Zm5: ∀ {a b:List Sh} {l:List AV},ZcJ (a++b) l→ ∃ x y,l=x++y∧ZcJ a x∧ZcJ b y
  | [],b,l,h=>⟨[],l,rfl,⟨rfl,fun j hj=>absurd hj (Nat.not_lt_zero j)⟩,h⟩
  |s::a,b,l,h=>by
    obtain⟨c,tl,rfl,hc,ht⟩:=Zjf (show ZcJ (s::(a++b)) l from h)
    obtain⟨x,y,rfl,hx,hy⟩:=Zm5 ht
    refine⟨c::x,y,rfl,⟨by simpa using hx.1,fun j hj=> ?_⟩,hy⟩
    cases j with
    |zero=>simpa using hc
    |succ j=>simpa using hx.2 j (by simpa using hj)
end Go.Vx

namespace Go.Vx
open Go Go.RowKit
def flB:AV→Bool
  | .int _ _ | .bool _ | .str _ | .lit _ | .nils | .any=>true
  |_=>false
theorem ZnM{av:AV}(h:flB av=true):datB av=true:=by cases av<;>first |rfl |cases h
inductive DeepC (P:Program):AV→Prop
  |flat {av:AV}:flB av=true→DeepC P av
  |sub {e:TypeId} {l:List (List AV)}:(∀ row∈l,row.length=P.cellsOf e)→(∀ i j,DeepC P (cellAt l i j))→DeepC P (.osub e l)
theorem DeepC.renC{P:Program}{q:Rw}{av:AV}(h:DeepC P av):RenC q av av:=by
  induction h with
  |flat hb=>exact .ren (.dat (ZnM hb))
  |sub _ _ ih=>exact .sub ih
def Zei(P:Program)(l:List AV):Prop:= ∀ j,DeepC P (l.getD j .any)
theorem dlN{P:Program}:Zei P []:=fun _=> .flat rfl
theorem dlC{P:Program}{x:AV}{l:List AV}(h:DeepC P x)(k:Zei P l):Zei P (x::l):=fun j=>by
  cases j with
  |zero=>simpa using h
  |succ j=>simpa using k j
theorem dlF{P:Program}{l:List AV}(h:l.all flB=true):Zei P l:=fun j=>by
  by_cases hj:j<l.length
  · have e:l.getD j .any=l[j]:=by simp [gQ,hj]
    rw [e];exact .flat (List.all_eq_true.1 h _ (List.getElem_mem _))
  · rw [gQ,List.getElem?_eq_none (by omega)];exact .flat rfl
section rows
variable {P:Program} {α:Type} {f g:α→List AV} {e:TypeId} {xs:List α}
theorem dcS(h: ∀ x,(f x).length=P.cellsOf e∧Zei P (f x)):DeepC P (.osub e (xs.map f)):=by
  refine .sub (fun row hr=>by obtain⟨x,_,rfl⟩:=List.mem_map.1 hr;exact(h x).1) fun i j=> ?_
  unfold cellAt
  by_cases hi:i<xs.length
  · have:(xs.map f).getD i []=f xs[i]:=by simp [gQ,hi]
    rw [this];exact(h _).2 j
  · have:(xs.map f).getD i []= []:=by rw [gQ,List.getElem?_eq_none (by simp;omega)];rfl
    rw [this];exact .flat rfl
theorem ZbO{i j:Nat}(hi:i<xs.length):cellAt (xs.map f) i j=(f xs[i]).getD j .any:=by
  unfold cellAt;congr 1;simp [gQ,hi]
theorem roO{q:Rw}(h: ∀ x,(f x).length=P.cellsOf e∧Zei P (f x)):RenOO P q ⟨e,xs.map f⟩ ⟨e,xs.map f⟩:=
  ⟨rfl,rfl,fun row hr=>by obtain⟨x,_,rfl⟩:=List.mem_map.1 hr;exact(h x).1,fun i j hi hj=>by
    simp only [lM] at hi
    rw [ZbO hi];exact((h _).2 j).renC⟩
theorem Zja{hp:List (Option Own)}{r:Nat}{o:Own}(h:nth hp r=some o):Xh hp r (some o)=hp:=by
  induction hp generalizing r with
  |nil=>cases h
  |cons x hp ih=>
    cases r with
    |zero=>simp only [nth] at h;simp [Xh,h]
    |succ r=>simp only [nth] at h;simp only [Xh];rw [ih h]
end rows
section ent
variable {c:Ctx} {tm:List (Nat×AV)} {hp:List (Option Own)} {α β:Type} {f:α→List AV} {e e':TypeId} {xs:List α} {r i j q n:Nat} {x y:α} {row:List AV} {l:List (List AV)}
theorem Ent.of_eq{st st':St}(h:st=st'):Ent c st st':=h▸Ent.refl
theorem Ent.focusH{ys:List β}{g:β→List AV}(ho:nth hp r=some ⟨e,xs.map f⟩)(hx:xs[i]?=some x)(hc:(f x)[j]?=some (.osub e' (ys.map g)))(hl: ∀ y,(g y).length=c.P.cellsOf e'∧Zei c.P (g y)):
    Ent c ⟨tm,hp⟩ ⟨tm,Xh hp r (some ⟨e,(xs.map f).set i ((f x).set j (.own hp.length ys.length))⟩)++ [some ⟨e',ys.map g⟩]⟩:=by
  have:=Ent.focus (c:=c) (tm:=tm) (i:=i) (j:=j) (row:=f x) ho (by simp [hx]) hc (fun r hr=>by obtain⟨y,_,rfl⟩:=List.mem_map.1 hr;exact(hl y).1)
  simpa using this
theorem Ent.focusI{ys:List β}{g:β→List AV}(ho:nth hp r=some ⟨e,(xs.map f).set i row⟩)(hx:xs[i]?=some x)(hc:row[j]?=some (.osub e' (ys.map g)))(hl: ∀ y,(g y).length=c.P.cellsOf e'∧Zei c.P (g y)):
    Ent c ⟨tm,hp⟩ ⟨tm,Xh hp r (some ⟨e,(xs.map f).set i (row.set j (.own hp.length ys.length))⟩)++ [some ⟨e',ys.map g⟩]⟩:=by
  have hi:i<xs.length:=(List.getElem?_eq_some_iff.1 hx).1
  have:=Ent.focus (c:=c) (tm:=tm) (i:=i) (j:=j) (row:=row) ho (by simp [hi]) hc (fun r hr=>by obtain⟨y,_,rfl⟩:=List.mem_map.1 hr;exact(hl y).1)
  simpa [List.set_set] using this
theorem Ent.absorbH(ho:nth hp r=some ⟨e,(xs.map f).set i row⟩)(hx:xs[i]?=some x)(hc:row[j]?=some (.own q n))(hq:nth hp q=some ⟨e',l⟩)(hn:l.length=n)(hqr:Nat.beq q r=false):
    Ent c ⟨tm,hp⟩ ⟨tm,Xh (Xh hp r (some ⟨e,(xs.map f).set i (row.set j (.osub e' l))⟩)) q none⟩:=by
  have hi:i<xs.length:=(List.getElem?_eq_some_iff.1 hx).1
  have:=Ent.absorb (c:=c) (tm:=tm) (i:=i) (j:=j) (n:=n) (row:=row) ho (by simp [hi]) hc hq hn hqr
  simpa [List.set_set] using this
theorem Ent.closeH(ho:nth hp r=some ⟨e,(xs.map f).set i row⟩)(hr:row=f y):Ent c ⟨tm,hp⟩ ⟨tm,Xh hp r (some ⟨e,(xs.set i y).map f⟩)⟩:=by
  subst hr
  refine Ent.of_eq ?_
  rw [List.map_set,Zja ho]
theorem Ent.closeS(ho:nth hp r=some ⟨e,(xs.map f).set i row⟩)(hx:xs[i]?=some y)(hr:row=f y):Ent c ⟨tm,hp⟩ ⟨tm,Xh hp r (some ⟨e,xs.map f⟩)⟩:=by
  subst hr
  have e1:(xs.map f).set i (f y)=xs.map f:=by
    rw [←List.map_set];congr 1
    obtain⟨hi,rfl⟩:=List.getElem?_eq_some_iff.1 hx
    simp
  rw [e1] at ho
  refine Ent.of_eq ?_
  rw [Zja ho]
theorem Ent.meltO{g:α→List AV}(ho:nth hp r=some ⟨e,xs.map f⟩)(hf: ∀ x,(f x).length=c.P.cellsOf e∧Zei c.P (f x))(hg: ∀ x,(g x).length=c.P.cellsOf e)(hm: ∀ x,Pw (MeltC c.P) (f x) (g x)):
    Ent c ⟨tm,hp⟩ ⟨tm,Xh hp r (some ⟨e,xs.map g⟩)⟩:=by
  refine Ent.melt ho (by simp) (fun row hr=>by obtain⟨x,_,rfl⟩:=List.mem_map.1 hr;exact hg x) fun i j hi hj=> ?_
  simp only [lM] at hi
  rw [ZbO hi,ZbO hi]
  exact(hm _).get j (by rw [(hf _).1];exact hj)
theorem ZF{s:Nat}{xs zs:List α}{x:α}(h:apz s xs [x]=some zs):zs[xs.length]?=some x:=by
  unfold apz at h;split at h
  · cases h;simp
  · cases h
end ent
section melt
variable {P:Program} {α:Type} {f g:α→List AV} {e:TypeId} {xs:List α}
theorem mcS(hf: ∀ x,(f x).length=P.cellsOf e∧Zei P (f x))(hg: ∀ x,(g x).length=P.cellsOf e)(h: ∀ x,Pw (MeltC P) (f x) (g x)):MeltC P (.osub e (xs.map f)) (.sl e (xs.map g)):=by
  refine .sub (by simp) (fun row hr=>by obtain⟨x,_,rfl⟩:=List.mem_map.1 hr;exact hg x) fun i j hi hj=> ?_
  simp only [lM] at hi
  rw [ZbO hi,ZbO hi]
  exact(h _).get j (by rw [(hf _).1];exact hj)
theorem mcF{l:List AV}(h:l.all flB=true):Pw (MeltC P) l l:= .refl fun x hx=> .dat (ZnM (List.all_eq_true.1 h x hx))
end melt
section view
variable {c:Ctx} {st:St} {α:Type} {f g:α→List AV} {e:TypeId} {xs:List α} {r n:Nat}
theorem View.ownO(ho:nth st.hp r=some ⟨e,xs.map f⟩)(hn:xs.length=n)(hf: ∀ x,(f x).length=c.P.cellsOf e∧Zei c.P (f x))(hg: ∀ x,(g x).length=c.P.cellsOf e)(hm: ∀ x,Pw (MeltC c.P) (f x) (g x)):
    View c st (.own r n) (.sl e (xs.map g)):=by
  intro φ a w hc v hv
  have hO:=hc.hok.obj r _ ho
  have hx:=JZ hv (by rw [hO.len];simpa using hn)
  rw [hx]
  have hroom:=hO.room
  have hcap:=hO.cap
  simp only [lM] at hroom
  cases hb:(φ r).blk with
  |none=>
    have:=(hO.none hb).1
    simp at this
    subst this
    simp at hn
    subst hn
    exact .sl0 _ _ _
  |some b=>
    obtain⟨cs,h3,h4,T,t1,t2,h5⟩:=hO.some b hb
    have h3:=h3.cells (XY hv (by rw [hO.len];simpa using hn))
    have hlt:b<w.heap.size:=(Array.getElem?_eq_some_iff.1 h3).1
    have hcells: ∀ i j,i<(xs.map g).length→j<c.P.cellsOf e→w.cell? ⟨b,0+(i*c.P.cellsOf e+j),none⟩=some (cs.getD (i*c.P.cellsOf e+j) undef):=fun i j hi hj=>by
      rw [Z0 h3]
      simp only [lM] at hi
      have:i*c.P.cellsOf e+j<cs.size:=by rw [h4];exact ZbD (by omega) hj
      simp [this]
    have hA: ∀ b',(φ r).sub b'→ ¬c.A b':=fun b' hb'=>(hc.hok.owned r _ b' ho (.inr hb')).2
    have:=RelD.sl (P:=c.P) (w:=w) (M:=c.A) e (xs.map g) b 0 (φ r).cap (fun i j=>cs.getD (i*c.P.cellsOf e+j) undef) hlt (hc.hok.owned r _ b ho (.inl hb)).2 (by simp;omega) (by simpa using hroom)
      (fun row hr=>by obtain⟨x,_,rfl⟩:=List.mem_map.1 hr;exact hg x) hcells
      (fun i j hi hj=>by
        simp only [lM] at hi
        have h6:=h5 i j (by simpa using hi) hj
        rw [ZbO hi] at h6
        rw [ZbO hi]
        exact((hm _).get j (by rw [(hf _).1];exact hj)).rel h6 (fun b' hb'=>hA b' (t1 i j b' hb')) (fun _ _ hm ha=>hm (.inl ha)))
    simp only [lM] at this
    rw [hn] at this
    exact this
theorem View.ptrS{i j k:Nat}{o:Own}{row sub:List AV}(ho:nth st.hp r=some o)(hn:o.es.length=n)(hrow:o.es[i]?=some row)(hk:j+k≤row.length)(hv:Pw (View c st) ((row.drop j).take k) sub)(hns:NS row:=by first |exact nsR rfl |exact nsM (fun _=>rfl)):View c st (.ptr r n i j) (.rp sub 0):=by
  intro φ a w hc v hv0
  obtain⟨b,cs,h1,h2,h3,h4,h5,h6,h7,h8,h9⟩:=Za6 hc ho hrow (Jk hv0 (by rw [(hc.hok.obj r o ho).len,hn]))
  obtain⟨b',hb',hx⟩:=Zbb hv0 (by rw [h2,hn])
  rw [h1] at hb';cases hb'
  rw [hx,h3]
  have hl:=hv.len
  have hlen:sub.length=k:=by rw [←hl];simp;omega
  have:=RelD.rp (P:=c.P) (w:=w) (M:=c.A) sub b (i*row.length+j) 0 (fun q=>cs.getD (i*row.length+(j+q)) undef) (Array.getElem?_eq_some_iff.1 h4).1 (hc.hok.owned r o b ho (.inl h1)).2
    (fun q hq=>by
      rw [Nat.add_assoc,Z0 h4]
      have:=h8 (j+q) (by omega)
      simp [this]) (fun q hq=>by
      have g1:=hv.get q (by rw [hl];exact hq) φ a w hc (cs.getD (i*row.length+(j+q)) undef)
      have e1:((row.drop j).take k).getD q .any=row.getD (j+q) .any:=by
        simp [gQ,List.getElem?_drop,show q<k by omega]
      rw [e1] at g1
      exact g1 (h9 (j+q) (by omega) (hns.getD' _)))
  simpa using this
end view
section ops
variable {c:Ctx} {ops:Array Oper} {st:St} {dst:Option Tmp} {ty:TypeId} {pos:String} {after:Array Edge} {α:Type} {f:α→List AV} {e:TypeId} {xs:List α} {r n:Nat}
theorem Jl{x:Operand}{i j t:Nat}{u:α}{row:List AV}{v:AV}(h:Opv c st x (.ptr r n i j))(ho:nth st.hp r=some ⟨e,(xs.map f).set i row⟩)(hn:xs.length=n)(hx:xs[i]?=some u)
    (ht:tScal c.P t=true) (hv:row[j]?=some v) (hns:noSub v=true:=by rfl):SVal c ops st ⟨dst,.load t x,ty,pos,after,none⟩ v:=
  Zl h ho (by simpa using hn) (by have:=(List.getElem?_eq_some_iff.1 hx).1;simp [this]) ht hv hns
theorem Zmt{x:Operand}{i j t sz:Nat}{u:α}{row l:List AV}(h:Opv c st x (.ptr r n i j))(ho:nth st.hp r=some ⟨e,(xs.map f).set i row⟩)(hn:xs.length=n)(hx:xs[i]?=some u)
    (ht:tAgg c.P t sz=true) (hl:(row.drop j).take sz=l) (hlen:l.length=sz) (hns:NS l:=by first |exact nsR rfl |exact nsM (fun _=>rfl)):SVal c ops st ⟨dst,.load t x,ty,pos,after,none⟩ (.agg l):=
  Qt h ho (by simpa using hn) (by have:=(List.getElem?_eq_some_iff.1 hx).1;simp [this]) ht hl hlen hns
theorem ZgD{x y:Operand}{t sz by_ i:Nat}{k:IntKind}{z:Int}{u:α}{row:List AV}(h:Opv c st x (.own r n))(hy:Opv c st y (.int k z))(ht:tSl c.P t e sz by_=true)
    (ho:nth st.hp r=some ⟨e,(xs.map f).set i row⟩) (hn:xs.length=n) (hx:idx xs z=some u):SVal c ops st ⟨dst,.indexAddr t x y,ty,pos,after,none⟩ (.ptr r n z.toNat 0):=by
  obtain⟨h1,h2⟩:=Zp hx
  obtain⟨_,_,_,_,_,_,_,_,_,hcs⟩:=tSl.spec ht
  exact Zq7 h hy ht ho (by simpa using hn) hcs h1 (by have:=(List.getElem?_eq_some_iff.1 h2).1;omega)
theorem Zge{x:Operand}{i i' j s f' off:Nat}{row:List AV}(h:Opv c st x (.ptr r n i' j))(ho:nth st.hp r=some ⟨e,(xs.map f).set i row⟩)(hn:xs.length=n)(ht:tFld c.P s f' off=true):
    SVal c ops st ⟨dst,.fieldAddr s x f',ty,pos,after,none⟩ (.ptr r n i' (j+off)):=Ze h ho (by simpa using hn) ht
theorem ZmA{x y:Operand}{t i j:Nat}{u:α}{v:AV}{l row':List AV}(h:Opv c st x (.ptr r n i j))(hy:Opv c st y v)(ht:Ziz c.P t v l)
    (ho:nth st.hp r=some ⟨e,xs.map f⟩) (hn:xs.length=n) (hx:xs[i]?=some u) (hlen:Nat.ble (j+l.length) (f u).length=true) (h1: ∀ q∈l,ZgU c st q)
    (hrow':(f u).take j++(l++(f u).drop (j+l.length))=row'):
    WVal c ops st ⟨none,.store t x y,ty,pos,after,none⟩ .any (Xh st.hp r (some ⟨e,(xs.map f).set i row'⟩)):=
  Zm h hy ht ho (by simpa using hn) (by simp [hx]) (Nat.le_of_ble_eq_true hlen) h1 hrow'
inductive ElemsO (c:Ctx) (st:St) (sz:Nat):List (Nat×Operand)→Nat→List (List AV)→Prop
  |nil {k:Nat}:ElemsO c st sz [] k []
  |cons {k:Nat} {x:Operand} {l:List AV} {ps:List (Nat×Operand)} {ls:List (List AV)}:CellV c st x l→l.length=sz→ElemsO c st sz ps (k+1) ls→ElemsO c st sz ((k,x)::ps) k (l::ls)
theorem ElemsO.spec{sz:Nat}{ps:List (Nat×Operand)}{k:Nat}{ls:List (List AV)}(h:ElemsO c st sz ps k ls){φ:Phi}{a:Act}{w:World}(hc:Conc c φ st a w):
    ps.length=ls.length∧(∀ row∈ls,row.length=sz)∧(∀ q,q<ps.length→((ps.map fun p=>(p.1,a.eval p.2)).getD q (0,undef)).1=k+q)∧(∀ p∈ps.map (fun p=>(p.1,a.eval p.2)),p.2.cells.size=sz)∧
      ∀ q j,q<ps.length→j<sz→RelF c.P w (Mut c.A φ st.hp) st.hp.length φ (cellAt ls q j) ((((ps.map fun p=>(p.1,a.eval p.2)).getD q (0,undef)).2.cells).getD j undef):=by
  induction h with
  |nil=>exact⟨rfl,by simp,(fun q hq=>by cases hq),by simp,(fun q j hq=>by cases hq)⟩
  | @cons k x l ps ls hx hl _ ih=>
    obtain⟨h1,h2,h3,h4,h5⟩:=ih
    obtain⟨c1,c2⟩:=hx φ a w hc
    refine⟨by simp [h1],?_,fun q hq=> ?_,?_,fun q j hq hj=> ?_⟩
    · intro row hrow
      rcases List.mem_cons.1 hrow with rfl |hrow
      · exact hl
      · exact h2 row hrow
    · cases q with
      |zero=>simp
      |succ q=>
        have:=h3 q (by simpa using hq)
        simp at this ⊢
        omega
    · intro p hp
      rcases List.mem_cons.1 hp with rfl |hp
      · exact c1.trans hl
      · exact h4 p hp
    · cases q with
      |zero=>
        have:=c2 j (by omega)
        simpa [cellAt] using this
      |succ q=>
        have:=h5 q j (by simpa using hq) hj
        simpa [cellAt] using this
theorem Xs{t sz by_ n r:Nat}{ps:List (Nat×Operand)}{ls:List (List AV)}(hr:st.hp.length=r)(ht:tSl c.P t e sz by_=true)(hp:ElemsO c st sz ps 0 ls)(hn:ps.length=n)(hbig:Nat.ble (n*sz) (2^24)=true):
    WVal c ops st ⟨dst,.buildSlice t n ps.toArray,ty,pos,after,none⟩ (.own r n) (st.hp++ [some ⟨e,ls⟩]):=by
  subst hr
  obtain⟨hu,inf,z,hi,hs,hby,hn0,hz,hzs,hcs⟩:=tSl.spec ht
  refine .run rfl fun φ a w hc=> ?_
  obtain⟨h1,h2,h3,h4,h5⟩:=hp.spec hc
  have hbig:n*sz≤2^24:=by simpa using hbig
  have hps:(ps.map fun p=>(p.1,a.eval p.2)).length=n:=by simpa using hn
  obtain⟨cs',g1,g2,_,g4⟩:=ZhK (size:=sz) (ps.map fun p=>(p.1,a.eval p.2)) 0 ((Array.range (n*sz)).map (z.cells[· % z.cells.size]!)) (fun q hq=>by have:=h3 q (by simpa using hq);simpa using this) h4 (by simp [hn])
  have hsz:cs'.size=n*sz:=by rw [g2];simp
  have hzero:n*sz≠0→(zeroValue e).run c.P w= .ok z w:=fun _=>by simp [zeroValue,typeInfo,hi,hz]
  have hll:ls.length=n:=by rw [←h1,hn]
  have hle:n≤n*sz:=Nat.le_mul_of_pos_right n hn0
  obtain⟨k1,k2⟩:=ZiB (o:=⟨e,ls⟩) (cs:=cs') (cap:=n) hc.hok (by simp [hsz,hcs]) (by omega) (by simp only [hll];exact Nat.le_refl _) (by simpa [hcs] using h2) (fun i j hi' hj'=>by
    simp only [hcs] at hj' ⊢
    have e2:=g4 i j (by rw [hps];simp only [hll] at hi';exact hi') hj'
    rw [Nat.zero_add] at e2
    rw [e2]
    exact(h5 i j (by rw [hn];simp only [hll] at hi';exact hi') hj'))
  refine⟨.slice (some ⟨w.heap.size,0,none⟩) n n,_,_,?_,k1,k2,fun φ' hφ=> ?_⟩
  · have e1:(ps.toArray.map fun(p:Nat×Operand)=>(p.1,a.eval p.2))=(ps.map fun p=>(p.1,a.eval p.2)).toArray:=by simp
    have hsize:(sizeOf e).run c.P w= .ok sz w:=by simp [sizeOf,typeInfo,hi,hs]
    have hfill: ∀ zero:Array Value,(if n*sz=0 then zero= #[] else zero=z.cells)→Instr.fill (fun i=>some (i*sz,sz)) ((Array.range (n*sz)).map (zero[· % zero.size]!)) (ps.map fun p=>(p.1,a.eval p.2))=some cs':=by
      intro zero hzr
      by_cases h0:n*sz=0
      · rw [pG h0] at hzr
        rw [←g1]
        congr 1
        simp [h0]
      · rw [nG h0] at hzr
        rw [hzr];exact g1
    have key:(Instr.buildSlice t n (ps.map fun p=>(p.1,a.eval p.2)).toArray).run c.P w= .ok (.slice (some ⟨w.heap.size,0,none⟩) n n) (w.alloc (.cells cs' e)):=by
      unfold Instr.buildSlice
      rw [Sem.run_bind,run_underlying hu]
      simp only [Result.andThen_ok]
      rw [Sem.run_bind,hsize]
      simp only [Result.andThen_ok]
      rw [nG (by omega)]
      by_cases h0:n*sz=0
      · have:=hfill #[] (by rw [pG h0])
        simp [h0] at this ⊢
        simp [this,newRow]
      · have:=hfill z.cells (by rw [nG h0])
        simp [h0,hzero h0,this,newRow]
    show((do pure (Next.value (←Instr.buildSlice t n (ps.toArray.map fun(p:Nat×Operand)=>(p.1,a.eval p.2)))):Sem Next)).run c.P w=_
    rw [e1,Sem.run_bind,key]
    rfl
  · have e1:φ' st.hp.length=⟨some w.heap.size,n,ls.length,c.P.cellsOf e,false,fun _=>False⟩:=by
      have:=hφ st.hp.length (by simp)
      simpa using this
    exact .own _ n _ rfl (by rw [e1];simp only [hll];exact Nat.le_refl _) fun _=>by rw [e1];exact⟨rfl,rfl⟩
theorem Q8{x y:Operand}{t sz by_ s:Nat}{row:List AV}{x':α}{zs:List α}(h:Opv c st x (.own r n))(hy:SlV c st y sz [row])(ht:tSl c.P t e sz by_=true)(ho:nth st.hp r=some ⟨e,xs.map f⟩)(hn:xs.length=n)
    (h1: ∀ u∈row,ZgU c st u) (hby:Nat.ble by_ s=true) (hz:apz s xs [x']=some zs):
    WVal c ops st ⟨dst,.call {callee:= .builtin .append,args:= #[x,y],argTypes:= #[t,t]},ty,pos,after,none⟩ (.own r zs.length) (Xh st.hp r (some ⟨e,(zs.map f).set xs.length row⟩)):=by
  unfold apz at hz
  split at hz
  · rename_i hle
    cases hz
    simp only [List.length_singleton] at hle
    have hby:=Nat.le_of_ble_eq_true hby
    have hle2:n+1≤140737488355328/s:=hn▸hle
    have hmul:(n+1)*by_≤140737488355328:=ZkM hle2 hby
    have:=Zm9 (c:=c) (ops:=ops) (dst:=dst) (ty:=ty) (pos:=pos) (after:=after) (m:=1) h hy ht ho (by simpa using hn) rfl rfl (by omega) (fun q hq u hu=>by cases List.mem_singleton.1 hq;exact h1 u hu) hmul (ZkC hle2)
    have e1:((xs++ [x']).map f).set xs.length row=xs.map f++ [row]:=by
      rw [List.map_append,List.set_append,nG (by simp)];simp
    rw [e1]
    rw [show(xs++ [x']).length=n+1 by simp [hn]]
    exact this
  · cases hz
end ops
def ZnU:AV→Bool
  | .own _ _ | .ptr _ _ _ _ | .mref _ _ | .bptr _ _=>true
  |av=>flB av
def ZkG:AV→Bool
  | .agg l=>l.all ZnU
  |av=>ZnU av
def ZrZ:AV→Bool
  | .tuple l=>l.all ZkG
  |av=>ZkG av
theorem Zrl{P:Program}{w:World}{M M':Nat→Prop}{φ:Phi}{av:AV}{v:Value}(hb:ZnU av=true)(h:Rel P w M φ av v):Rel P w M' φ av v:=by
  cases h with
  |data h=>
    cases h<;>first | (exact .data (.int _ _)) | (exact .data (.bool _)) | (exact .data (.str _)) | (exact .data (.lit _)) | (exact .data .nils) | (exact .data (.any _)) | (cases hb)
  |own r n v hv h0 h=>exact .own r n v hv h0 h
  |ptr r n i j v hv h0 h=>exact .ptr r n i j v hv h0 h
  |mref r n v hv h0 h=>exact .mref r n v hv h0 h
  |bptr r n v hv h0 h=>exact .bptr r n v hv h0 h
  |_=>cases hb
theorem ZiS{p:AV→Bool}{l:List AV}(h:l.all p=true){i:Nat}(hi:i<l.length):p (l.getD i .any)=true:=by
  have e:l.getD i .any=l[i]:=by simp [gQ,hi]
  rw [e];exact List.all_eq_true.1 h _ (List.getElem_mem _)
theorem ZoB{P:Program}{w:World}{M M':Nat→Prop}{φ:Phi}{av:AV}{v:Value}(hb:ZkG av=true)(h:Rel P w M φ av v):Rel P w M' φ av v:=by
  by_cases hg: ∃ l,av= .agg l
  · obtain⟨l,rfl⟩:=hg
    cases h with
    |data h=>cases h with |agg _ vs h1 h2=>exact .agg l vs h1 fun i hi=>Zrl (ZiS hb hi) (.data (h2 i hi))
    |agg _ vs h1 h2=>exact .agg l vs h1 fun i hi=>Zrl (ZiS hb hi) (h2 i hi)
  · have:ZnU av=true:=by cases av<;>first |exact hb |exact absurd ⟨_,rfl⟩ hg
    exact Zrl this h
theorem ZtB{P:Program}{w:World}{M M':Nat→Prop}{φ:Phi}{av:AV}{v:Value}(hb:ZrZ av=true)(h:Rel P w M φ av v):Rel P w M' φ av v:=by
  by_cases hg: ∃ l,av= .tuple l
  · obtain⟨l,rfl⟩:=hg
    cases h with
    |data h=>cases h with |tuple _ vs h1 h2=>exact .tuple l vs h1 fun i hi=>ZoB (ZiS hb hi) (.data (h2 i hi))
    |tuple _ vs h1 h2=>exact .tuple l vs h1 fun i hi=>ZoB (ZiS hb hi) (h2 i hi)
  · have:ZkG av=true:=by cases av<;>first |exact hb |exact absurd ⟨_,rfl⟩ hg
    exact ZoB this h
def FreC(P:Program)(av:AV):Prop:=DeepC P av∨ZkG av=true
theorem FreC.trel{P:Program}{w:World}{M M':Nat→Prop}{n:Nat}{φ:Phi}{S:Nat→Prop}{av:AV}{v:Value}(hf:FreC P av)(h:TRel P w M n φ S av v):TRel P w M' n φ S av v:=by
  rcases hf with hf |hb
  · induction hf generalizing S v with
    | @flat av hb=>
      have hb1:ZkG av=true:=by cases av<;>first |exact hb |cases hb
      cases h with
      |leaf h=>exact .leaf fun ψ hψ=>ZoB hb1 (h ψ hψ)
      |nil=>cases hb
      |osub=>cases hb
      |mcon=>cases hb
    | @sub e l h0 h1 ih=>
      cases h with
      |leaf h=>have:=Zfg h;cases this
      |nil e=>exact .nil e
      |osub _ _ b cap cs T g1 g2 g3 g4 g5 g6 g7 g8 g9=>exact .osub e l b cap cs T g1 g2 g3 g4 g5 g6 g7 g8 fun i j hi hj=>ih i j (g9 i j hi hj)
  · cases h with
    |leaf h=>exact .leaf fun ψ hψ=>ZoB hb (h ψ hψ)
    |nil=>cases hb
    |osub=>cases hb
    |mcon=>cases hb
inductive FreOs (P:Program):List (Option Own)→Prop
  |nil:FreOs P []
  |none {tl:List (Option Own)}:FreOs P tl→FreOs P (none::tl)
  |cons {o:Own} {tl:List (Option Own)}:(∀ i j,i<o.es.length→j<P.cellsOf o.elem→FreC P (cellAt o.es i j))→FreOs P tl→FreOs P (some o::tl)
theorem FreOs.get{P:Program}{os:List (Option Own)}(h:FreOs P os): ∀ i o,nth os i=some o→ ∀ i' j,i'<o.es.length→j<P.cellsOf o.elem→FreC P (cellAt o.es i' j):=by
  induction h with
  |nil=>intro i o h;cases h
  |none _ ih=>
    intro i o h
    cases i with
    |zero=>cases h
    |succ i=>exact ih i o h
  |cons h1 _ ih=>
    intro i o h
    cases i with
    |zero=>cases h;exact h1
    |succ i=>exact ih i o h
theorem frM{P:Program}{α:Type}{f:α→List AV}{e:TypeId}{xs:List α}(h: ∀ x,(f x).length=P.cellsOf e∧Zei P (f x)): ∀ i j,i<(⟨e,xs.map f⟩:Own).es.length→j<P.cellsOf (⟨e,xs.map f⟩:Own).elem→FreC P (cellAt (⟨e,xs.map f⟩:Own).es i j):=fun i j hi _=>by
  simp only [lM] at hi
  rw [ZbO hi];exact .inl ((h _).2 j)
section callV
variable {c:Ctx} {ops:Array Oper} {st:St} {dst:Option Tmp} {ty:TypeId} {pos:String} {after:Array Edge}
theorem Zkj{f:FuncId}{xs:List Operand}{ts:Array TypeId}{ds:List AV}{os' hp':List (Option Own)}{res res':AV}(hs:GSpec c.P c.gl f ds [] res os')(ha:ArgsV c st xs ds)
    (hb:Back c.P [] st.hp.length st.hp os' 0 hp') (hlen:st.hp.length+os'.length=hp'.length) (hr:RenR (rwR (callR [] st.hp.length)) res res') (hfr:ZrZ res=true) (hfo:FreOs c.P os'):
    WVal c ops st ⟨dst,.call {callee:= .value (.func f),args:=xs.toArray,argTypes:=ts},ty,pos,after,none⟩ res' hp':=by
  intro φ a w hc
  refine⟨rfl,?_⟩
  obtain⟨hl,hrel⟩:=ha.rel hc
  unfold Oper.wp
  have e:(execOp a.eval ⟨dst,.call {callee:= .value (.func f),args:=xs.toArray,argTypes:=ts},ty,pos,after,none⟩).run c.P w= .ok (.enter f (xs.map a.eval).toArray) w:=by
    simp [execOp,resolve,Act.eval,Deferred.ofValue,invoke,ZcQ hs.call]
  rw [e]
  have hok:=hc.hok
  have hmutlt:=Zhm hc
  have hgl:=ZeZ hc
  have hok0:HeapOK ⟨c.P,0,w,c.A,[],c.gl,0,φ⟩ φ [] w:=
    ⟨rfl,rfl,rfl,Nat.le_refl _,fun _ _ _=>rfl,(fun r o b h=>by cases h),(fun r r' o o' b h=>by cases h),(fun r o h=>by cases h),(fun b hb=>⟨hmutlt b (.inl hb),by simp⟩),⟨hgl.len,hgl.W,fun p hp=>let ⟨h1,h2,h3⟩:=hgl.tab p hp;⟨h1,h2,fun h=>h3 (.inl h)⟩⟩,Nat.zero_le _,fun r hr=>by cases hr⟩
  refine(hs.spec c.A [] w φ (xs.map a.eval).toArray hok0 (by simpa using hl) (fun i hi=>Zt (by
    have:=hrel i hi
    have e1:(xs.map a.eval).toArray.getD i undef=(xs.map a.eval).getD i undef:=by simp [Array.getD_eq_getD_getElem?,gQ]
    rw [e1]
    exact this.mono (Nat.le_refl _) (fun _ _ _=>rfl) (fun b _ hm=>fun h=>h.elim hm fun⟨r,o,hr,_⟩=>by cases hr)))).mono ?_
  rintro e w' ⟨v,φ',rfl,hq,hv⟩
  generalize hhp:st.hp=hp at*
  have hBl:Below w.heap.size w w':=⟨hq.os,hq.tape,hq.output,hq.heap,fun b hb=>hq.frame b hb (by simp)⟩
  let φ'':Phi:=fun r=>if r<hp.length then φ r else φ' (r-hp.length)
  have hφo: ∀ r,r<hp.length→φ'' r=φ r:=fun r h=>by simp only [φ'',pG h]
  have hφn: ∀ i r,callR [] hp.length i r→φ'' r=φ' i:=by
    rintro i r (h | ⟨_,rfl⟩)
    · simp at h
    · simp only [List.length_nil,Nat.sub_zero,φ'',nG (show ¬hp.length+i<hp.length by omega)];congr 1;omega
  have hback: ∀ r o2,nth hp' r=some o2→(∃ i o,callR [] hp.length i r∧nth os' i=some o∧RenOO c.P (rwR (callR [] hp.length)) o o2)∨nth hp r=some o2:=fun r o2 h=>by
    have:=hb.get r o2 h
    rw [Nat.zero_add] at this
    exact this.imp id fun h=>h.1
  have hnewb: ∀ i o b,nth os' i=some o→(φ' i).has b→w.heap.size≤b∧ ¬c.A b:=fun i o b h1 h2=>by
    obtain⟨h3,h4⟩:=hq.owned i o b h1 h2
    exact⟨h3.resolve_left (by simp),h4⟩
  have hmm: ∀ b,b<w.heap.size→ ¬Mut c.A φ hp b→ ¬Mut c.A φ'' hp' b:=by
    rintro b hlt hm (ha | ⟨r,o2,hr2,hbk⟩)
    · exact hm (.inl ha)
    · rcases hback r o2 hr2 with ⟨i,o,h1,h2,_⟩ |h1
      · rw [hφn i r h1] at hbk
        have:=(hnewb i o b h2 hbk).1;omega
      · rw [hφo r (XA h1)] at hbk
        exact hm (.inr ⟨r,o2,h1,hbk⟩)
  have htr: ∀ av x,RelF c.P w (Mut c.A φ hp) hp.length φ av x→RelF c.P w' (Mut c.A φ'' hp') hp'.length φ'' av x:=by
    intro av x hx ψ hψ
    refine((hx (fun s=>if s<hp.length then φ s else ψ s) fun s hs=>by simp only [pG hs]).mono hBl.size (fun b hb _=>hBl.block b hb) hmm).loc fun s=> ?_
    by_cases hs:s<hp.length
    · rw [pG hs,hψ s (by omega),hφo s hs];exact .inl (.refl _)
    · rw [nG hs];exact .inl (.refl _)
  have hren0: ∀ ψ,ZfP hp'.length φ'' ψ→ ∃ χ,ZfP os'.length φ' χ∧RwOK (rwR (callR [] hp.length)) c.P w' (Mut c.A φ'' hp') (Mut c.A φ'' hp') χ ψ:=by
    intro ψ hψ
    let χ:Phi:=fun i=>if i<os'.length then φ' i else ψ (hp.length+i)
    refine⟨χ,fun i hi=>by simp only [χ,pG hi],ZkA (fun i r hir=> ?_) (fun _ _ h=>h)⟩
    by_cases hi:i<os'.length
    · simp only [χ,pG hi]
      have hlt:r<hp'.length:=by
        rcases hir with h | ⟨_,rfl⟩
        · simp at h
        · simp;omega
      rw [hψ r hlt,hφn i r hir]
    · simp only [χ,nG hi]
      rcases hir with h | ⟨_,rfl⟩
      · simp at h
      · rfl
  have hren: ∀ (av av':AV) (x:Value),ZrZ av=true→RenR (rwR (callR [] hp.length)) av av'→RelF c.P w' (Mut c.A φ' os') os'.length φ' av x→RelF c.P w' (Mut c.A φ'' hp') hp'.length φ'' av' x:=by
    intro av av' x hf h1 h2 ψ hψ
    obtain⟨χ,hχ,hok2⟩:=hren0 ψ hψ
    exact h1.rel hok2 (ZtB hf (h2 χ hχ))
  refine⟨v,φ'',rfl,⟨hq.os.trans hok.os,hq.tape.trans hok.tape,hq.output.trans hok.output,Nat.le_trans hok.heap hq.heap,?_,?_,?_,?_,hok.amb,hok.glob,Nat.le_trans (by have:=hok.len;exact this) (by omega),?_⟩,htr,hren _ _ _ hfr hr hv⟩
  · intro b hlt hnW
    rw [hBl.block b (Nat.lt_of_lt_of_le hlt hok.heap)]
    exact hok.frame b hlt hnW
  · intro r o2 b hr2 hbk
    rcases hback r o2 hr2 with ⟨i,o,h1,h2,_⟩ |h1
    · rw [hφn i r h1] at hbk
      obtain⟨h3,h4⟩:=hnewb i o b h2 hbk
      have:=hok.heap
      exact⟨.inr (by omega),h4⟩
    · rw [hφo r (XA h1)] at hbk
      exact hok.owned r o2 b h1 hbk
  · intro r r' o o' b hr1 hr1' hbk hbk'
    have mix: ∀ i x o y q,callR [] hp.length i x→nth os' i=some o→(φ' i).has b→nth hp y=some q→(φ y).has b→False:=by
      intro i x o y q h1 h2 h3 h4 h6
      have:=(hnewb i o b h2 h3).1
      have:=hmutlt b (.inr ⟨y,q,h4,h6⟩);omega
    rcases hback r o hr1 with ⟨i,oi,h1,h2,_⟩ |h1
    · rw [hφn i r h1] at hbk
      rcases hback r' o' hr1' with ⟨i',oi',h1',h2',_⟩ |h1'
      · rw [hφn i' r' h1'] at hbk'
        have:=hq.apart i i' oi oi' b h2 h2' hbk hbk'
        subst this
        rcases h1 with h1 | ⟨_,rfl⟩
        · simp at h1
        · rcases h1' with h1' | ⟨_,rfl⟩
          · simp at h1'
          · rfl
      · rw [hφo r' (XA h1')] at hbk'
        exact(mix i r oi r' o' h1 h2 hbk h1' hbk').elim
    · rw [hφo r (XA h1)] at hbk
      rcases hback r' o' hr1' with ⟨i',oi',h1',h2',_⟩ |h1'
      · rw [hφn i' r' h1'] at hbk'
        exact(mix i' r' oi' r o h1' h2' hbk' h1 hbk).elim
      · rw [hφo r' (XA h1')] at hbk'
        exact hok.apart r r' o o' b h1 h1' hbk hbk'
  · intro r o2 hr2
    rcases hback r o2 hr2 with ⟨i,o,h1,h2,h3⟩ |h1
    · have hO:=hq.obj i o h2
      obtain⟨g1,g2,g4,g5⟩:=h3
      have he:=hφn i r h1
      refine⟨by rw [he,←g2];exact hO.len,by rw [he,←g1];exact hO.sz,g4,by rw [he,←g2];exact hO.room,by rw [he];exact hO.cap,fun hb=> ?_,by rw [he];exact hO.subl,by rw [he];exact hO.subn,fun b hb=> ?_⟩
      · rw [he] at hb ⊢
        obtain⟨e1,e2⟩:=hO.none hb
        exact⟨List.eq_nil_of_length_eq_zero (by rw [←g2,e1];rfl),e2⟩
      · rw [he] at hb ⊢
        obtain⟨cs,e1,e2,T,t1,t2,e3⟩:=hO.some b hb
        refine⟨cs,by rw [←g1];exact e1,by rw [←g1];exact e2,T,t1,t2,fun i' j' hi' hj'=> ?_⟩
        rw [←g1] at hj' ⊢
        have hi'':i'<o.es.length:=by rw [g2];exact hi'
        exact(g5 i' j' hi'' hj').relX (fun ψ hψ=>hren0 ψ hψ) ((hfo.get i o h2 i' j' hi'' hj').trel (e3 i' j' hi'' hj'))
    · have hO:=hok.obj r o2 h1
      have he:=hφo r (XA h1)
      refine⟨by rw [he];exact hO.len,by rw [he];exact hO.sz,hO.rows,by rw [he];exact hO.room,by rw [he];exact hO.cap,by rw [he];exact hO.none,by rw [he];exact fun b hb=>Nat.lt_of_lt_of_le (hO.subl b hb) hq.heap,by rw [he];exact hO.subn,fun b hb=> ?_⟩
      rw [he] at hb ⊢
      obtain⟨cs,e1,e2,e3⟩:=hO.some b hb
      exact⟨cs,e1.congr (hBl.block b e1.lt),e2,e3.tr (fun x hx=>hBl.block x (hO.subl x hx)) htr⟩
  · intro r hr0
    have hl0:c.n0≤hp.length:=hok.len
    rw [hφo r (by omega)]
    exact hok.mono r hr0
end callV
end Go.Vx

namespace Go.Vx
open Go Go.RowKit
section
variable {c:Ctx} {ops:Array Oper} {st:St} {dst:Option Tmp} {ty:TypeId} {pos:String} {after:Array Edge} {α:Type} {f:α→List AV}
theorem Zo2{P:Program}{w:World}{M:Nat→Prop}{m:Nat}{φ:Phi}{e:TypeId}{l:List (List AV)}{v:Value}(h:RelF P w M m φ (.slf e l) v):RelD P w M (.sl e l) v∧ ∃ a n,v= .slice a n n:=by
  have:=h φ (fun _ _=>rfl)
  cases this with |data h=>cases h with |slf _ _ _ h hc=>exact⟨h,hc⟩
theorem Zoz{t e n by_:Nat}{x y y2:Operand}{k k2:IntKind}{xs ys:List α}{q:Int}(h:Opv c st x (.sl e (xs.map f)))(ht:tSl c.P t e n by_=true)
    (hy:Opv c st y (.int k q)) (hy2:Opv c st y2 (.int k2 q)) (hz:slc xs 0 q=some ys):SVal c ops st ⟨dst,.slice t x none (some y) (some y2),ty,pos,after,none⟩ (.slf e (ys.map f)):=
  .pure rfl fun φ a w hc=>by
    unfold slc at hz
    split at hz
    · rename_i hb
      cases hz
      obtain⟨h0,h1,h2⟩:=hb
      obtain⟨hu,inf,z,hi',hs,hby,hn0,hz,hzs,hcs⟩:=tSl.spec ht
      have hr:=ZhJ (h φ a w hc)
      have hyv:=hy.int hc
      have hyv2:=hy2.int hc
      generalize hx:a.eval x=ax at hr
      have hsz:(sizeOf e).run c.P w= .ok n w:=by simp [sizeOf,typeInfo,hi',hs]
      have run: ∀ (ad:Option Addr) (cap:Nat),xs.length≤cap→ax= .slice ad xs.length cap→(execOp a.eval ⟨dst,.slice t x none (some y) (some y2),ty,pos,after,none⟩).run c.P w= .ok (.value (.slice ad q.toNat q.toNat)) w:=by
        intro ad cap hcap hax
        have b1:(Instr.sliceBounds true xs.length cap none (some (a.eval y)) (some (a.eval y2))).run c.P w= .ok (0,q.toNat,q.toNat) w:=by
          have c1:=fun code=>Zjr (P:=c.P) (w:=w) (k:=k2) (y:=cap) (code:=code) h1 (by omega)
          have c2:=fun code=>Zjr (P:=c.P) (w:=w) (k:=k) (y:=q.toNat) (code:=code) h1 (by omega)
          rw [hyv,hyv2]
          simp [Instr.sliceBounds,c1,c2]
        show((do pure (Next.value (←Instr.sliceAt t (a.eval x) none (some (a.eval y)) (some (a.eval y2)))):Sem Next)).run c.P w=_
        rw [hx,hax,Sem.run_bind]
        have e1:(if q.toNat=0 then ad else ad.map (·.add (0*n)))=ad:=by
          split
          · rfl
          · cases ad with
            |none=>rfl
            |some b=>simp [Addr.add]
        have e:(Instr.sliceAt t (.slice ad xs.length cap) none (some (a.eval y)) (some (a.eval y2))).run c.P w= .ok (.slice ad q.toNat q.toNat) w:=by
          unfold Instr.sliceAt
          rw [Sem.run_bind,run_underlying hu]
          simp only [Result.andThen_ok]
          unfold Instr.slice
          rw [Sem.run_bind,run_underlying hu]
          simp only [Result.andThen_ok]
          rw [Sem.run_bind,b1]
          simp only [Result.andThen_ok]
          rw [Sem.run_bind,hsz]
          simp only [Result.andThen_ok,Nat.sub_zero]
          rw [e1]
          rfl
        rw [e]
        rfl
      have hlen:(xs.take q.toNat).length=q.toNat:=by simp;omega
      generalize hL:xs.map f=L at hr
      cases hr with
      |sl0 _ ad cp=>
        have hx0:xs= []:=by simpa using hL
        subst hx0
        simp only [List.length_nil] at h2
        have hq:q.toNat=0:=by omega
        refine⟨_,run ad cp (Nat.zero_le _) rfl,Zt ?_⟩
        rw [hq]
        exact .slf _ _ _ (.sl0 _ _ _) ⟨_,_,rfl⟩
      |sl _ _ b off cp us g0 g1 g2 g2' g3 g4 g5=>
        subst hL
        simp only [lM] at g2' run g2 g4 g5
        refine⟨_,run (some ⟨b,off,none⟩) cp g2' (by simp),Zt ?_⟩
        refine .slf _ _ _ ?_ ⟨_,_,rfl⟩
        have hcell: ∀ i j,i<q.toNat→cellAt ((xs.take q.toNat).map f) i j=cellAt (xs.map f) i j:=fun i j hi=>by
          unfold cellAt
          simp only [gQ,List.getElem?_map,List.getElem?_take,pG hi]
        have hL2:((xs.take q.toNat).map f).length=q.toNat:=by rw [lM];exact hlen
        have:=RelD.sl (P:=c.P) (w:=w) (M:=Mut c.A φ st.hp) e ((xs.take q.toNat).map f) b off q.toNat us g0 g1 (by omega) (by omega)
          (fun row hr=>by
            obtain⟨z',hz',rfl⟩:=List.mem_map.1 hr
            exact g3 _ (List.mem_map_of_mem (List.mem_of_mem_take hz')))
          (fun i j hi hj=>g4 i j (by omega) hj) (fun i j hi hj=>by
            rw [hcell i j (by omega)];exact g5 i j (by omega) hj)
        rw [hL2] at this
        simpa using this
    · cases hz
end
end Go.Vx

namespace Go.Vx
open Go Go.RowKit
theorem Xb{α:Type}{xs:List α}{z:Int}{x y:α}(h:idx xs z=some x):idx (xs.set z.toNat y) z=some y:=by
  obtain⟨h1,h2⟩:=Zp h
  have hl:=(List.getElem?_eq_some_iff.1 h2).1
  unfold idx at h ⊢
  split at h
  · rename_i h0
    rw [pG h0,List.getElem?_set_self hl]
  · cases h
theorem Zth{q:Rw}{r r' n n' j k:Nat}(h:n=n')(hr:q.R r r'):RenR q (.osl r n j k) (.osl r' n' j k):=h▸ .osl n j k hr
theorem ZH{c:Ctx}{code:Code}{st:St}{K:Exit→St→Prop}(hp:List (Option Own))(h:st.hp=hp)(k:T c code ⟨st.tm,hp⟩ K):T c code st K:=by
  subst h;exact k
theorem ZdL{c:Ctx}{ops:Array Oper}{rest:List Oper}{st:St}{K:Exit→St→Prop}(hp:List (Option Own))(h:st.hp=hp)(k:R c ops rest ⟨st.tm,hp⟩ K):R c ops rest st K:=by
  subst h;exact k
theorem Zai{σ ρ:Type}{body:σ→Option (σ ⊕ ρ)}(I:σ→Prop)(Q:ρ→Prop)(h1: ∀ s s',I s→body s=some (.inl s')→I s')(h2: ∀ s r,I s→body s=some (.inr r)→Q r){s:σ}{r:ρ}(hs:I s)(h:loop body s=some r):Q r:=by
  obtain⟨n,hn⟩:=ZdM h
  induction n generalizing s with
  |zero=>cases hn
  |succ n ih=>
    simp only [Zbt] at hn
    cases hb:body s with
    |none=>rw [hb] at hn;cases hn
    |some o=>
      rw [hb] at hn
      cases o with
      |inl s'=>
        have hn':Zbt body n s'=some r:=hn
        exact ih (h1 s s' hs hb) (ZgI hn') hn'
      |inr r'=>cases hn;exact h2 s _ hs hb
section t9
variable {α β γ δ ε ζ η θ μ ι κ ρ:Type}
def t9(f:α→β→γ→δ→ε→ζ→η→θ→μ→ι)(p:α×β×γ×δ×ε×ζ×η×θ×μ):ι:=f p.1 p.2.1 p.2.2.1 p.2.2.2.1 p.2.2.2.2.1 p.2.2.2.2.2.1 p.2.2.2.2.2.2.1 p.2.2.2.2.2.2.2.1 p.2.2.2.2.2.2.2.2
@[simp] theorem ZtP (f:α→β→γ→δ→ε→ζ→η→θ→μ→ι) (a:α) (b:β) (c:γ) (d:δ) (e:ε) (g:ζ) (h:η) (i:θ) (j:μ):t9 f (a,b,c,d,e,g,h,i,j)=f a b c d e g h i j:=rfl
end t9
section
variable {c:Ctx} {ops:Array Oper} {st:St} {dst:Option Tmp} {ty:TypeId} {pos:String} {after:Array Edge} {α:Type} {f:α→List AV}
theorem Zqc{y:Operand}{t e sz by_ r n j len:Nat}{o:Own}(h:Opv c st y (.osl r n j len))(ho:nth st.hp r=some o)(hn:o.es.length=n)(ht:tSl c.P t e sz by_=true):
    SVal c ops st ⟨dst,.call {callee:= .builtin .len,args:= #[y],argTypes:= #[t]},ty,pos,after,none⟩ (.int .i64 (len:Int)):=
  .pure rfl fun φ a w hc=>by
    have hO:=hc.hok.obj r _ ho
    obtain⟨b,j',cap,_,_,_,hx⟩:=Zhh (h φ a w hc) (by rw [hO.len];exact hn)
    obtain⟨hu,_⟩:=tSl.spec ht
    refine⟨.int .i64 (len:Int),?_,Zt (.int _ _)⟩
    simp [execOp,resolve,invoke,builtin,hx,Builtin.len_,run_underlying hu,goInt]
theorem Zp5{x y:Operand}{t e by_ r n len:Nat}{k:IntKind}{p z:Int}{xs:List α}{u:α}{u':Unit}(h:Opv c st x (.osl r n p.toNat len))(hy:Opv c st y (.int k z))(ht:tSl c.P t e 1 by_=true)
    (ho:nth st.hp r=some ⟨e,xs.map f⟩) (hn:xs.length=n) (hp:0≤p) (hz:ck (decide (0≤z)&&decide (z<(len:Int)))=some u') (hx:idx xs (p+z)=some u):
    SVal c ops st ⟨dst,.indexAddr t x y,ty,pos,after,none⟩ (.ptr r n (p+z).toNat 0):=
  .pure rfl fun φ a w hc=>by
    have hz':=Zl9 hz
    simp only [Bool.and_eq_true,decide_eq_true_eq] at hz'
    obtain⟨z1,z2⟩:=hz'
    obtain⟨zn,rfl⟩:=Int.eq_ofNat_of_zero_le z1
    have hO:=hc.hok.obj r _ ho
    have hnn:(φ r).n=n:=by rw [hO.len];simpa using hn
    obtain⟨b,j',cap,hb,_,hj,hxx⟩:=Zhh (h φ a w hc) hnn
    have hmp:=ZjS (h φ a w hc) hnn
    have hj':=hj (by omega)
    subst hj'
    have e1:=hy.int hc
    obtain⟨hu,i,zz,hi,hs,hby,hn0,_,_,hcs⟩:=tSl.spec ht
    refine⟨.pointer (some ⟨b,p.toNat+zn*1,none⟩),?_,fun φ' hφ=> ?_⟩
    · simp [execOp,hxx,e1,Instr.indexAt,asIntOf,run_underlying hu,sizeOf,typeInfo,hi,hs,Zao];intro h';omega
    · have e:φ' r=φ r:=hφ r (XA ho)
      refine .ptr r n _ 0 _ rfl (by rw [e,hnn];exact Nat.le_refl _) fun _=>⟨by rw [e];exact hmp,b,by rw [e];exact hb,?_⟩
      have hsz:(φ r).sz=1:=by rw [hO.sz];exact hcs
      rw [e,hsz]
      congr 3
      omega
theorem ZrE{rest:List Oper}{K:Exit→St→Prop}{x y:Operand}{t e sz by_ r n m tp p len:Nat}{o:Own}{ys:List (List AV)}(hd:dstLt dst c.nt=true)(h:Opv c st x (.own r n))(hy:SlV c st y sz ys)(ht:tSl c.P t e sz by_=true)
    (ho:nth st.hp r=some o) (hn:o.es.length=n) (he:o.elem=e) (hm:ys.length=m) (hpos:0<m) (h1: ∀ row∈ys,∀ u∈row,ZgU c st u) (hb:(n+m)*by_≤140737488355328) (h63:n+m<2^63) (hns: ∀ row∈o.es,NS row)
    (htp:look st.tm tp=some (.osl r n p len))
    (hA:R c ops rest (St.puto ⟨(tp,.osl r (n+m) p len)::st.tm,Xh st.hp r (some ⟨e,o.es++ys⟩)⟩ dst (.own r (n+m))) K)
    (hB:R c ops rest (St.puto ⟨st.tm,st.hp++ [some ⟨e,o.es++ys⟩]⟩ dst (.own st.hp.length (n+m))) K):
    R c ops (⟨dst,.call {callee:= .builtin .append,args:= #[x,y],argTypes:= #[t,t]},ty,pos,after,none⟩::rest) st K:=by
  subst he
  intro φ a w hc
  obtain⟨hu,inf,z,hi,hs,hby,hn0,hz,hzs,hcs⟩:=tSl.spec ht
  have hO:=hc.hok.obj r o ho
  have hnn:(φ r).n=n:=by rw [hO.len,hn]
  have hx:=JZ (h φ a w hc) hnn
  obtain⟨base,cap,hyv,_,hyr,hyc⟩:=hy φ a w hc
  have hyne:ys≠ []:=fun e=>by rw [e] at hm;simp at hm;omega
  obtain⟨b,off,us,rfl,hc1,hc2⟩:=hyc hyne
  obtain⟨news,hnl,hn1,hn2⟩:=Zke hc hc1 hn0
  rw [hm] at hnl hyv
  have hone: ∀ u∈news,u.oneCell'=true:=by
    intro u hu'
    obtain⟨k,hk,rfl⟩:=List.getElem_of_mem hu'
    have hk':k<ys.length*sz:=by rw [hm];omega
    have hdi:k/sz<ys.length:=Nat.div_lt_of_lt_mul (by rw [Nat.mul_comm];exact hk')
    have hmo:k % sz<sz:=Nat.mod_lt _ hn0
    have e1:k/sz*sz+k % sz=k:=by rw [Nat.mul_comm];exact Nat.div_add_mod k sz
    have e2:=hn2 (k/sz) (k % sz) hdi hmo
    rw [e1] at e2
    have e3:news[k]=us (k/sz) (k % sz):=by rw [←e2];simp [gQ,hk]
    rw [e3]
    have hrow:ys[k/sz]∈ys:=List.getElem_mem hdi
    refine h1 _ hrow (cellAt ys (k/sz) (k % sz)) ?_ φ a w hc _ (hc2 _ _ hdi hmo)
    have hl:=hyr _ hrow
    have:cellAt ys (k/sz) (k % sz)=ys[k/sz][k % sz]'(by omega):=by simp [cellAt,gQ,hdi,hl,hmo]
    rw [this]
    exact List.getElem_mem _
  have hmp:=XY (h φ a w hc) hnn
  have h2n:(o.es++ys).length=n+m:=by simp [hn,hm]
  have hrl:r<st.hp.length:=XA ho
  have hml:n+m≤maxLen:=by simp only [maxLen];omega
  obtain⟨g,jp,capp,hbk,hcapp,hjp,hxp⟩:=Zhh (hc.tm tp _ htp) hnn
  obtain⟨cs,h4,h5,T,tt1,tt2,h6⟩:=hO.some g hbk
  have h4:=h4.cells hmp
  rw [hcs] at h5
  have hroom:=hO.room
  have hcap63:=hO.cap
  rw [hbk] at hx
  simp only [Option.map_some] at hx
  have hwant:Region.wanted ⟨dst,.call {callee:= .builtin .append,args:= #[x,y],argTypes:= #[t,t]},ty,pos,after,none⟩ (yielded ops a.tmps)=true:=rfl
  unfold wpList
  rw [pG hwant]
  have hold: ∀ i j,i<n→j<sz→RelF c.P w (Mut c.A φ st.hp) st.hp.length φ (cellAt o.es i j) (cs.getD (i*sz+j) undef):=fun i j hi' hj'=>by
    have:=(h6 i j (by rw [hn];exact hi') (by rw [hcs];exact hj')).plain (Zme hns i j)
    rwa [hcs] at this
  by_cases hfit:n+m≤(φ r).cap
  · have hbnd:n*sz+news.length≤cs.size:=by
      rw [hnl,h5,←Nat.add_mul];exact Nat.mul_le_mul_right _ hfit
    have hr:=run_append_room (P:=c.P) w t ty o.elem inf hu hi g n (φ r).cap cs h4 ⟨b,off,none⟩ m cap news (by rw [hnl,hs]) hn1 hone hfit (by rw [hs];exact hbnd)
    rw [hs] at hr
    have hL: ∃ L:Loc,L=⟨some g,(φ r).cap,n+m,sz,false,(φ r).sub⟩:=⟨_,rfl⟩
    obtain⟨L,hLe⟩:=hL
    have hgsub: ¬(φ r).sub g:=hO.subn g hbk
    have hupd:=Zcw (L:=L) (o':=⟨o.elem,o.es++ys⟩) (w':=w.setRow g (cs.toList.take (n*sz)++news++cs.toList.drop (n*sz+news.length)).toArray) hc.hok ho rfl rfl rfl (by simp)
      (fun b' _ hne=>setRow_other w g b' _ (fun e=>hne (by rw [hbk,e]))) (.inl (by rw [hLe,hbk])) (.inr (by rw [hLe];show(φ r).n<n+m;omega)) (fun htr=>by
      refine⟨by simp only [if_true,hLe,h2n],by simp [hLe,hcs],?_,by simp [hLe,hn,hm];exact hfit,by simp [hLe];exact hcap63,(fun h=>by simp [hLe] at h),(by simp only [if_true,hLe];exact fun b hb=>Nat.lt_of_lt_of_le (hO.subl b hb) (by simp)),(by simp only [if_true,hLe];rintro b hb;cases hb;exact hgsub),fun b' hb'=> ?_⟩
      · intro row hrow
        rcases List.mem_append.1 hrow with hrow |hrow
        · exact hO.rows row hrow
        · rw [hcs];exact hyr row hrow
      · simp only [if_true,hLe] at hb'
        cases hb'
        refine⟨_,(by simp only [if_true,hLe];exact setRow_heap w g cs _ o.elem _ h4),by simp [hLe,hcs];omega,fun _ _ _=>False,(fun _ _ _ h=>h.elim),(fun _ _ _ _ _ h=>h.elim),fun i j hi' hj'=> ?_⟩
        simp only [hcs] at hj' ⊢
        by_cases hin:i<n
        · rw [Za1 (by rw [hn];exact hin)]
          have e3:i*sz+j<n*sz:=ZbD hin hj'
          rw [Zan cs news _ _ hbnd,pG e3]
          exact .leaf (htr _ _ (hold i j hin hj'))
        · rw [ZaH (by rw [hn];omega),hn]
          have hlt:i-n<m:=by simp [hn,hm] at hi';omega
          have h7:(i-n)*sz+j<news.length:=by rw [hnl];exact ZbD hlt hj'
          have e9:i*sz+j=n*sz+((i-n)*sz+j):=by rw [←Nat.add_assoc,←Nat.add_mul,show n+(i-n)=i by omega]
          rw [e9,Zan cs news _ _ hbnd,nG (by omega),pG (by omega),show n*sz+((i-n)*sz+j)-n*sz=(i-n)*sz+j by omega,hn2 (i-n) j (by rw [hm];exact hlt) hj']
          exact .leaf (htr _ _ (hc2 (i-n) j (by rw [hm];exact hlt) hj'))) (by rw [hLe])
    obtain⟨g1,g2⟩:=hupd
    refine .inl ?_
    have hrun:(execOp a.eval ⟨dst,.call {callee:= .builtin .append,args:= #[x,y],argTypes:= #[t,t]},ty,pos,after,none⟩).run c.P w= .ok (.value (.slice (some ⟨g,0,none⟩) (n+m) (φ r).cap)) (w.setRow g (cs.toList.take (n*sz)++news++cs.toList.drop (n*sz+news.length)).toArray):=by
      simp [execOp,resolve,invoke,builtin,hx,hyv,hr]
    unfold Oper.wp
    rw [hrun,Oper.upon_value]
    have hlen:(Xh st.hp r (some ⟨o.elem,o.es++ys⟩)).length=st.hp.length:=ZbA ..
    have eL: ∀ φ',ZfP (Xh st.hp r (some ⟨o.elem,o.es++ys⟩)).length (fun x=>if x=r then L else φ x) φ'→φ' r=L:=fun φ' hφ=>by
      have:=hφ r (by rw [hlen];exact hrl)
      simpa using this
    refine hA _ _ _ (Conc.puto (st:=⟨(tp,.osl r (n+m) p len)::st.tm,Xh st.hp r (some ⟨o.elem,o.es++ys⟩)⟩) ⟨hc.size,hc.defers,g1,fun t' av ht'=> ?_⟩ hd fun φ' hφ=> ?_)
    · show RelF _ _ _ _ _ _ _
      unfold look at ht'
      cases hb':Nat.beq tp t' with
      |true=>
        rw [hb'] at ht'
        cases ht'
        obtain rfl:tp=t':=Nat.eq_of_beq_eq_true hb'
        rw [hxp]
        refine fun φ' hφ=> ?_
        have e:=eL φ' hφ
        exact .osl r (n+m) p len _ rfl (by rw [e,hLe];exact Nat.le_refl _) fun _=>by rw [e,hLe];exact⟨rfl,g,jp,capp,rfl,hcapp,hjp,rfl⟩
      |false=>
        rw [hb'] at ht'
        exact g2 _ _ (hc.tm t' av ht')
    · have e:=eL φ' hφ
      exact .own r (n+m) _ rfl (by rw [e,hLe];exact Nat.le_refl _) fun _=>by rw [e,hLe];exact⟨rfl,rfl⟩
  · obtain⟨olds,holdl,holds,holdv⟩: ∃ olds:List Value,olds.length=n*sz∧(∀ j u,olds[j]?=some u→w.cell? ((⟨g,0,none⟩:Addr).add j)=some u)∧(∀ k,k<n*sz→olds.getD k undef=cs.getD k undef):=by
      refine⟨cs.toList.take (n*sz),?_,fun j u hu'=> ?_,fun k hk=> ?_⟩
      · have:n*sz≤cs.size:=by rw [h5];exact Nat.mul_le_mul_right _ (by omega)
        simp;omega
      · rw [Zao,Nat.zero_add,Z0 h4]
        rw [List.getElem?_take] at hu'
        split at hu'
        · simpa using hu'
        · cases hu'
      · rw [gQ,List.getElem?_take,pG hk]
        simp [Array.getD_eq_getD_getElem?]
    have hr:=run_append_grow (P:=c.P) w t ty o.elem inf z hu hi hz ⟨g,0,none⟩ n (φ r).cap olds (by rw [holdl,hs]) holds ⟨b,off,none⟩ m cap news (by rw [hnl,hs]) hn1 (by omega) (by omega) (growslice_fits (by omega) (by rw [hby];exact hb))
    have hBl:Below w.heap.size w w.drew:=⟨rfl,rfl,rfl,Nat.le_refl _,fun _ _=>rfl⟩
    have hcapB:grownCap w (n+m) (φ r).cap o.elem<2^63:=by have:=grownCap_le_maxLen w (n+m) (φ r).cap o.elem hml;simp only [maxLen] at this;omega
    have hge:=grownCap_ge w (n+m) (φ r).cap o.elem
    obtain⟨g1,g2⟩:=ZiB (o:=⟨o.elem,o.es++ys⟩) (cs:=olds.toArray++news.toArray++Builtin.zeroCells z.cells (grownCap w (n+m) (φ r).cap o.elem-(n+m))) (cap:=grownCap w (n+m) (φ r).cap o.elem) (hc.hok.below hBl)
      (by
        simp only [hcs]
        rw [Array.size_append,Array.size_append,List.size_toArray,List.size_toArray,size_zeroCells,hzs,hnl,holdl,←Nat.add_mul,←Nat.add_mul,Nat.add_sub_cancel' hge]) hcapB (by simp only [h2n];exact hge) (fun row hrow=>by
        rcases List.mem_append.1 hrow with hrow |hrow
        · exact hO.rows row hrow
        · simp only [hcs];exact hyr row hrow) (fun i j hi' hj'=>by
        simp only [hcs] at hj' ⊢
        simp only [h2n] at hi'
        refine RelF.below ?_ hBl
        by_cases hin:i<n
        · have h8:i*sz+j<n*sz:=ZbD hin hj'
          rw [Zg8,holdl,pG h8,holdv _ h8,Za1 (by rw [hn];exact hin)]
          exact hold i j hin hj'
        · have hlt:i-n<m:=by omega
          have h7:(i-n)*sz+j<news.length:=by rw [hnl];exact ZbD hlt hj'
          have e9:i*sz+j=n*sz+((i-n)*sz+j):=by rw [←Nat.add_assoc,←Nat.add_mul,show n+(i-n)=i by omega]
          rw [e9,Zg8,holdl,nG (by omega),pG (by omega),show n*sz+((i-n)*sz+j)-n*sz=(i-n)*sz+j by omega,hn2 (i-n) j (by rw [hm];exact hlt) hj',ZaH (by rw [hn];omega),hn]
          exact hc2 (i-n) j (by rw [hm];exact hlt) hj')
    refine .inl ?_
    have hrun:(execOp a.eval ⟨dst,.call {callee:= .builtin .append,args:= #[x,y],argTypes:= #[t,t]},ty,pos,after,none⟩).run c.P w= .ok (.value (.slice (some ⟨w.heap.size,0,none⟩) (n+m) (grownCap w (n+m) (φ r).cap o.elem))) (w.drew.alloc (.cells (olds.toArray++news.toArray++Builtin.zeroCells z.cells (grownCap w (n+m) (φ r).cap o.elem-(n+m))) o.elem)):=by
      simp [execOp,resolve,invoke,builtin,hx,hyv,hr]
    unfold Oper.wp
    rw [hrun,Oper.upon_value]
    refine hB _ _ _ (Conc.puto (st:=⟨st.tm,st.hp++ [some ⟨o.elem,o.es++ys⟩]⟩) ⟨hc.size,hc.defers,g1,fun t' av ht'=>g2 _ _ ((hc.tm t' av ht').below hBl)⟩ hd fun φ' hφ=> ?_)
    have e:=hφ st.hp.length (by simp)
    simp only [if_true] at e
    exact .own _ (n+m) _ rfl (by rw [e,h2n];exact Nat.le_refl _) fun _=>by rw [e];exact⟨rfl,rfl⟩
theorem Zqq{rest:List Oper}{K:Exit→St→Prop}{x y:Operand}{t e sz by_ r n tp p len s:Nat}{xs ys zs:List α}(hd:dstLt dst c.nt=true)(h:Opv c st x (.own r n))(hy:SlV c st y sz (ys.map f))(ht:tSl c.P t e sz by_=true)
    (ho:nth st.hp r=some ⟨e,xs.map f⟩) (hn:xs.length=n) (hpos:Nat.blt 0 ys.length=true) (h1: ∀ u,∀ q∈f u,ZgU c st q) (hby:Nat.ble by_ s=true) (hns: ∀ u,NS (f u)) (hz:apz s xs ys=some zs)
    (htp:look st.tm tp=some (.osl r n p len))
    (hA:R c ops rest (St.puto ⟨(tp,.osl r zs.length p len)::st.tm,Xh st.hp r (some ⟨e,zs.map f⟩)⟩ dst (.own r zs.length)) K)
    (hB:R c ops rest (St.puto ⟨st.tm,st.hp++ [some ⟨e,zs.map f⟩]⟩ dst (.own st.hp.length zs.length)) K):
    R c ops (⟨dst,.call {callee:= .builtin .append,args:= #[x,y],argTypes:= #[t,t]},ty,pos,after,none⟩::rest) st K:=by
  unfold apz at hz
  split at hz
  case isFalse=>cases hz
  rename_i hle
  cases hz
  have hby:=Nat.le_of_ble_eq_true hby
  have hpos:0<ys.length:=by simpa using hpos
  have hle2:n+ys.length≤140737488355328/s:=hn▸hle
  have hmul:(n+ys.length)*by_≤140737488355328:=ZkM hle2 hby
  have el:(xs++ys).length=n+ys.length:=by rw [List.length_append,hn]
  have em:(xs++ys).map f=xs.map f++ys.map f:=List.map_append ..
  rw [el,em] at hA hB
  exact ZrE (m:=ys.length) hd h hy ht ho (by simpa using hn) rfl (by simp) hpos (fun row hr q hq=>by
    obtain⟨u,_,rfl⟩:=List.mem_map.1 hr
    exact h1 u q hq) hmul (ZkC hle2) (fun row hr=>by
    obtain⟨u,_,rfl⟩:=List.mem_map.1 hr
    exact hns u) htp hA hB
theorem Zok{xs ys:List α}{z:Int}{x:α}(hp: ∃ tl,ys=xs++tl)(h:idx xs z=some x):idx ys z=some x:=by
  obtain⟨tl,rfl⟩:=hp
  obtain⟨h1,h2⟩:=Zp h
  have hl:=(List.getElem?_eq_some_iff.1 h2).1
  unfold idx at h ⊢
  split at h
  · rename_i h0
    rw [pG h0,List.getElem?_append_left hl];exact h2
  · cases h
theorem Zqy{s:Nat}{xs ys zs ws:List α}(hp: ∃ tl,ys=xs++tl)(h:apz s ys zs=some ws): ∃ tl,ws=xs++tl:=by
  obtain⟨tl,rfl⟩:=hp
  unfold apz at h
  split at h
  · cases h;exact⟨tl++zs,by rw [List.append_assoc]⟩
  · cases h
theorem Zpf{xs:List α}: ∃ tl,xs=xs++tl:=⟨[],(List.append_nil _).symm⟩
theorem ZqO{τ σ ρ:Type}{code:Code}{K:Exit→St→Prop}(body:σ→Option (σ ⊕ ρ))(I:τ→σ→St)(C:τ→σ→Prop)(b0:τ)(s0:σ){r:ρ}(h:loop body s0=some r)(hC0:C b0 s0)(h0:Ent c st (I b0 s0))
    (hr: ∀ b n s,C b s→(body s).bind (Sum.elim (Zbt body n) some)=some r→T c code (I b s) (Zft (fun st'=> ∃ b' s',C b' s'∧Zbt body n s'=some r∧Ent c st' (I b' s')) K)):T c (.loop code) st K:=by
  obtain⟨N,hN⟩:=ZdM h
  refine Zpl (ι:=τ×Nat×σ) (fun p=>C p.1 p.2.2∧Zbt body p.2.1 p.2.2=some r) (fun p=>I p.1 p.2.2) (fun p=>p.2.1) (b0,N,s0) ⟨hC0,hN⟩ h0 ?_
  rintro⟨b,n,s⟩ ⟨hCs,hC⟩
  cases n with
  |zero=>cases hC
  |succ n=>
    refine Zni (hr b n s hCs hC) ?_
    intro e st' hk
    cases e with
    |normal=>
      obtain⟨b',s',h0,h1,h2⟩:=hk
      exact⟨(b',n,s'),⟨h0,h1⟩,Nat.lt_succ_self n,h2⟩
    |exit id=>exact hk
    |goto l=>exact hk
    |ret=>exact hk
    |panic=>exact hk
    |outgrown=>exact hk
def ZjU(xs ys:List α):List α:=ys.take xs.length++xs.drop ys.length
theorem ZiX(xs ys:List α):(ZjU xs ys).length=xs.length:=by unfold ZjU;rw [List.length_append,List.length_take,List.length_drop];omega
theorem Zo8{xs ys:List α}{i:Nat}(hi:i<xs.length):(ZjU xs ys)[i]?=if i<ys.length then ys[i]? else xs[i]?:=by
  unfold ZjU
  by_cases h:i<ys.length
  · rw [pG h,List.getElem?_append_left (by rw [List.length_take];omega),List.getElem?_take_of_lt hi]
  · rw [nG h,List.getElem?_append_right (by rw [List.length_take];omega),List.length_take,List.getElem?_drop]
    congr 1;omega
theorem ZqN{g:α→AV}{t t2 e by_ r n:Nat}{x y:Operand}{xs ys:List α}(h:Opv c st x (.own r n))(hy:SlV c st y 1 (ys.map f))(ho:nth st.hp r=some ⟨e,xs.map f⟩)
    (hn:xs.length=n) (hf: ∀ u,f u= [g u]) (h1: ∀ u,c1B (g u)=true) (hns: ∀ u,noSub (g u)=true) (ht:tSl c.P t e 1 by_=true):
    WVal c ops st ⟨dst,.call {callee:= .builtin .copy,args:= #[x,y],argTypes:= #[t,t2]},ty,pos,after,none⟩ (.int .i64 ((min ys.length xs.length:Nat):Int)) (Xh st.hp r (some ⟨e,(ZjU xs ys).map f⟩)):=by
  refine .run rfl fun φ a w hc=> ?_
  obtain⟨hu,inf,z,hi',hs,hby,hn0,hz,hzs,hcs⟩:=tSl.spec ht
  have hO:=hc.hok.obj r _ ho
  have hlen:(φ r).n=xs.length:=by rw [hO.len];simp
  have hx:=JZ (h φ a w hc) (by omega)
  have hmp:=XY (h φ a w hc) (by omega)
  obtain⟨base,cy,hyv,_,hyr,hyc⟩:=hy φ a w hc
  simp only [lM] at hyv hyc
  have hroom:=hO.room
  simp only [lM] at hroom
  have hφ:(fun x=>if x=r then φ r else φ x)=φ:=by funext x;split;subst_vars;rfl;rfl
  have hrun0: ∀ v w1,(Builtin.copy_ #[t,t2] ty #[a.eval x,a.eval y]).run c.P w= .ok v w1→(execOp a.eval ⟨dst,.call {callee:= .builtin .copy,args:= #[x,y],argTypes:= #[t,t2]},ty,pos,after,none⟩).run c.P w= .ok (.value v) w1:=by
    intro v w1 hr
    simp [execOp,resolve,invoke,builtin,hr]
  by_cases h0:min ys.length xs.length=0
  · have hrun:=run_copy_none (P:=c.P) w t t2 ty e ((φ r).blk.map fun b=>⟨b,0,none⟩) base n (φ r).cap ys.length cy hu (by simp [hi',hs]) (by rw [hn] at h0;exact h0)
    have e1:ZjU xs ys=xs:=by
      unfold ZjU
      rcases Nat.eq_zero_or_pos ys.length with e |e
      · have:ys= []:=List.length_eq_zero_iff.1 e
        subst this;simp
      · have:xs= []:=List.length_eq_zero_iff.1 (by omega)
        subst this;simp
    rw [e1]
    have e2:Xh st.hp r (some ⟨e,xs.map f⟩)=st.hp:=Zja ho
    rw [e2,h0]
    exact⟨goInt ((0:Nat):Int),w,φ,hrun0 _ _ (by rw [hx,hyv];exact hrun),hc.hok,fun _ _ h=>h,Zt (.int _ _)⟩
  have hyne:ys.map f≠ []:=fun e=>by
    have:ys= []:=by simpa using e
    rw [this] at h0;simp at h0
  obtain⟨b2,off,us,rfl,hc1,hc2⟩:=hyc hyne
  have hxne:0<xs.length:=by omega
  cases hb:(φ r).blk with
  |none=>have:=(hO.none hb).1;simp at this;rw [this] at hxne;simp at hxne
  |some b=>
    rw [hb] at hx
    simp only [Option.map_some] at hx
    obtain⟨cs,k1,k2,k3⟩:=hO.some b hb
    have k1:=k1.cells hmp
    rw [hcs,Nat.mul_one] at k2
    have hcell: ∀ i (hi:i<xs.length),RelF c.P w (Mut c.A φ st.hp) st.hp.length φ (g xs[i]) (cs.getD i undef):=by
      intro i hi
      have e:cellAt (xs.map f) i 0=g xs[i]:=by simp [cellAt,gQ,hi,hf]
      have:=k3.plain (i:=i) (j:=0) (by simpa using hi) (by rw [hcs];omega) (by simp only;rw [e];exact hns _)
      simp only at this
      rw [e,hcs] at this
      simpa using this
    have hsrc: ∀ i (hi:i<ys.length),RelF c.P w (Mut c.A φ st.hp) st.hp.length φ (g ys[i]) (us i 0)∧w.cell? ⟨b2,off+i,none⟩=some (us i 0):=by
      intro i hi
      have e:cellAt (ys.map f) i 0=g ys[i]:=by simp [cellAt,gQ,hi,hf]
      have a1:=hc2 i 0 hi (by omega)
      have a2:=hc1 i 0 hi (by omega)
      rw [e] at a1
      simp only [Nat.mul_one,Nat.add_zero] at a2
      exact⟨a1,a2⟩
    have hl:((List.range (min ys.length xs.length)).map fun i=>us i 0).length=min ys.length xs.length:=by simp
    have hgetL: ∀ j,j<min ys.length xs.length→((List.range (min ys.length xs.length)).map fun i=>us i 0)[j]?=some (us j 0):=fun j hj=>by rw [List.getElem?_map,List.getElem?_range hj];rfl
    have hrun:=run_copy_row (P:=c.P) w t t2 ty e b 0 n (φ r).cap ⟨b2,off,none⟩ ys.length cy cs e ((List.range (min ys.length xs.length)).map fun i=>us i 0) hu (by simp [hi',hs]) k1 (by rw [hl,hn]) (fun j v hj=>by
        have hjl:j<min ys.length xs.length:=by have:=(List.getElem?_eq_some_iff.1 hj).1;rw [hl] at this;exact this
        rw [hgetL j hjl] at hj
        cases hj
        rw [Zao]
        exact(hsrc j (by omega)).2) (by rw [hl];omega) (fun v hv=>by
        obtain⟨j,hj,rfl⟩:=List.getElem_of_mem hv
        have hjl:j<min ys.length xs.length:=by omega
        have e3:((List.range (min ys.length xs.length)).map fun i=>us i 0)[j]=us j 0:=by simp
        rw [e3]
        exact Zip (hsrc j (by omega)).1 (h1 _))
    rw [hl] at hrun
    have hu':=Zcw (L:=φ r) (o':=⟨e,(ZjU xs ys).map f⟩) (w':=w.setRow b (cs.toList.take 0++((List.range (min ys.length xs.length)).map fun i=>us i 0)++cs.toList.drop (0+min ys.length xs.length)).toArray) hc.hok ho rfl rfl rfl (by simp [World.setRow]) (fun b' _ hne=>setRow_other w b b' _ (fun e=>hne (by rw [hb,e]))) (.inl rfl) (.inl (.refl _)) (fun htr=>by
      simp only [hφ] at htr ⊢
      refine⟨by rw [hO.len];simp [ZiX],hO.sz,?_,by simpa [ZiX] using hroom,hO.cap,(fun h=>by rw [hb] at h;cases h),(fun b' hs'=>Nat.lt_of_lt_of_le (hO.subl b' hs') (by simp [World.setRow])),hO.subn,fun b' hb'=> ?_⟩
      · intro row hr
        obtain⟨u,_,rfl⟩:=List.mem_map.1 hr
        rw [hf,hcs];rfl
      · rw [hb] at hb';cases hb'
        refine⟨_,by rw [hmp];exact setRow_heap w b cs _ e _ k1,by rw [hcs];simp;omega,Cells.of fun i j hi hj=> ?_⟩
        simp only [lM,ZiX] at hi
        rw [hcs] at hj ⊢
        obtain rfl:j=0:=by omega
        have e2:=Zan cs ((List.range (min ys.length xs.length)).map fun i=>us i 0) 0 i (by rw [hl];omega)
        rw [hl] at e2
        simp only [Nat.mul_one,Nat.add_zero]
        rw [e2]
        have hget:=Zo8 (ys:=ys) hi
        by_cases hiy:i<ys.length
        · rw [pG hiy,List.getElem?_eq_getElem hiy] at hget
          have ec:cellAt ((ZjU xs ys).map f) i 0=g ys[i]:=by
            simp only [cellAt,gQ,List.getElem?_map,hget,Option.map_some,Option.getD_some,hf]
            rfl
          rw [ec,nG (by omega),pG (by omega),Nat.sub_zero,gQ,hgetL i (by omega)]
          exact htr _ _ (hsrc i hiy).1
        · rw [nG hiy,List.getElem?_eq_getElem hi] at hget
          have ec:cellAt ((ZjU xs ys).map f) i 0=g xs[i]:=by
            simp only [cellAt,gQ,List.getElem?_map,hget,Option.map_some,Option.getD_some,hf]
            rfl
          rw [ec,nG (by omega),nG (by omega)]
          exact htr _ _ (hcell i hi))
    simp only [hφ] at hu'
    exact⟨goInt ((min ys.length xs.length:Nat):Int),_,φ,hrun0 _ _ (by rw [hx,hyv,show min ys.length xs.length=min ys.length xs.length from rfl];exact hrun),hu'.1,hu'.2,Zt (.int _ _)⟩
theorem ZoA{x y:Operand}{t e sz by_ s:Nat}{xs ys zs:List α}(h:Opv c st x (.slf e (xs.map f)))(hy:SlV c st y sz (ys.map f))(ht:tSl c.P t e sz by_=true)
    (hpos:Nat.blt 0 ys.length=true) (hby:Nat.ble by_ s=true) (hd: ∀ u,(f u).all datB=true) (hz:apz s xs ys=some zs):
    SVal c ops st ⟨dst,.call {callee:= .builtin .append,args:= #[x,y],argTypes:= #[t,t]},ty,pos,after,none⟩ (.sl e (zs.map f)):=by
  unfold apz at hz
  split at hz
  case isFalse=>cases hz
  rename_i hle
  cases hz
  have hby:=Nat.le_of_ble_eq_true hby
  have hpos:0<ys.length:=by simpa using hpos
  have hb:(xs.length+ys.length)*by_≤140737488355328:=ZkM hle hby
  have h63:=ZkC hle
  refine SVal.run rfl fun φ a w hc=> ?_
  obtain⟨hu,inf,z,hi,hs,hby',hn0,hz,hzs,hcs⟩:=tSl.spec ht
  obtain⟨hrel,ad0,n0,hxv⟩:=Zo2 (h φ a w hc)
  obtain⟨base,cap,hyv,hlt63,hyr,hyc⟩:=hy φ a w hc
  have hyne:ys.map f≠ []:=fun e=>by simp at e;rw [e] at hpos;simp at hpos
  obtain⟨b,off,us,rfl,hc1,hc2⟩:=hyc hyne
  obtain⟨news,hnl,hn1,hn2⟩:=Zke hc hc1 hn0
  simp only [lM] at hnl hyv hc2 hn2
  have old: ∃ (ad:Option Addr) (olds:List Value),a.eval x= .slice ad xs.length xs.length∧olds.length=xs.length*sz∧(ad=none→xs= [])∧(∀ b0,ad=some b0→ ∀ j u,olds[j]?=some u→w.cell? (b0.add j)=some u)∧
      (∀ i j,i<xs.length→j<sz→RelF c.P w (Mut c.A φ st.hp) st.hp.length φ (cellAt (xs.map f) i j) (olds.getD (i*sz+j) undef))∧ ∀ row∈xs.map f,row.length=sz:=by
    generalize hx:a.eval x=ax at hrel hxv
    subst hcs
    generalize hL:xs.map f=L at hrel
    cases hrel with
    |sl0 _ ad cp=>
      have hx0:xs= []:=by simpa using hL
      subst hx0
      cases hxv
      exact⟨_,[],rfl,(by simp),(fun _=>rfl),(fun b0 _ j u h=>by simp at h),(fun i j hi=>by simp at hi),(by simp)⟩
    |sl _ _ b' off' cp us' g0 g1 g2 g2' g3 g4 g5=>
      subst hL
      cases hxv
      simp only [lM] at*
      obtain⟨olds,k1,k2,k3⟩:=Zke (ys:=xs.map f) (us:=us') hc (by simpa using g4) hn0
      simp only [lM] at k1 k3
      exact⟨_,olds,rfl,k1,(fun h=>by cases h),(fun b0 h j u hj=>by cases h;exact k2 j u hj),(fun i j hi hj=>by rw [k3 i j hi hj];exact Zt (g5 i j hi hj)),g3⟩
  obtain⟨ad,olds,hxe,hol,hnil,hoc,hov,hor⟩:=old
  have hml:xs.length+ys.length≤maxLen:=by simp only [maxLen];omega
  have hcap:=grownCap_le_maxLen w (xs.length+ys.length) xs.length e hml
  have hge:=grownCap_ge w (xs.length+ys.length) xs.length e
  simp only [maxLen] at hcap
  have hdr:Below w.heap.size w w.drew:=(Below.refl _ _).drew
  have hrun:(Builtin.append_ #[t,t] ty #[.slice ad xs.length xs.length,.slice (some ⟨b,off,none⟩) ys.length cap]).run c.P w=
      .ok (.slice (some ⟨w.heap.size,0,none⟩) (xs.length+ys.length) (grownCap w (xs.length+ys.length) xs.length e)) (w.drew.alloc (.cells (olds.toArray++news.toArray++Builtin.zeroCells z.cells (grownCap w (xs.length+ys.length) xs.length e-(xs.length+ys.length))) e)):=by
    cases ad with
    |none=>
      have hx0:=hnil rfl
      subst hx0
      have ho0:olds= []:=List.eq_nil_of_length_eq_zero (by simpa using hol)
      subst ho0
      have:=run_append_nil (P:=c.P) w t ty e inf z hu hi hz ⟨b,off,none⟩ ys.length cap news (by rw [hnl,hs]) hn1 hpos (by omega) (by rw [hby'];simp at hb;omega)
      simpa using this
    |some b0=>exact run_append_grow (P:=c.P) w t ty e inf z hu hi hz b0 xs.length xs.length olds (by rw [hol,hs]) (hoc b0 rfl) ⟨b,off,none⟩ ys.length cap news (by rw [hnl,hs]) hn1 (by omega) (by omega) (growslice_fits (by omega) (by rw [hby'];exact hb))
  have hdat: ∀ (us:List α) (i j:Nat),i<us.length→j<sz→(∀ row∈us.map f,row.length=sz)→datB (cellAt (us.map f) i j)=true:=fun us i j hi' hj' hr'=>by
    have hl:=hr' (f us[i]) (List.mem_map_of_mem (List.getElem_mem _))
    have e1:cellAt (us.map f) i j=(f us[i])[j]'(by omega):=by simp [cellAt,gQ,hi',hl,hj']
    rw [e1]
    exact List.all_eq_true.1 (hd _) _ (List.getElem_mem _)
  have hBl:Below w.heap.size w (w.drew.alloc (.cells (olds.toArray++news.toArray++Builtin.zeroCells z.cells (grownCap w (xs.length+ys.length) xs.length e-(xs.length+ys.length))) e)):=hdr.alloc (Nat.le_refl _) _
  have hnew:=heap_alloc_new w.drew (.cells (olds.toArray++news.toArray++Builtin.zeroCells z.cells (grownCap w (xs.length+ys.length) xs.length e-(xs.length+ys.length))) e)
  have hnM: ¬Mut c.A φ st.hp w.heap.size:=fun hmm=>by have:=Zhm hc _ hmm;omega
  have hcsz:(olds.toArray++news.toArray++Builtin.zeroCells z.cells (grownCap w (xs.length+ys.length) xs.length e-(xs.length+ys.length))).size=grownCap w (xs.length+ys.length) xs.length e*sz:=by
    rw [Array.size_append,Array.size_append,List.size_toArray,List.size_toArray,size_zeroCells,hzs,hnl,hol,←Nat.add_mul,←Nat.add_mul,Nat.add_sub_cancel' hge]
  refine⟨.slice (some ⟨w.heap.size,0,none⟩) (xs.length+ys.length) (grownCap w (xs.length+ys.length) xs.length e),w.drew.alloc (.cells (olds.toArray++news.toArray++Builtin.zeroCells z.cells (grownCap w (xs.length+ys.length) xs.length e-(xs.length+ys.length))) e),by simp [execOp,resolve,invoke,builtin,hxe,hyv,hrun],hBl,Zt ?_⟩
  have hcell: ∀ i j,i<xs.length+ys.length→j<sz→RelD c.P (w.drew.alloc (.cells (olds.toArray++news.toArray++Builtin.zeroCells z.cells (grownCap w (xs.length+ys.length) xs.length e-(xs.length+ys.length))) e)) (Mut c.A φ st.hp) (cellAt ((xs++ys).map f) i j) ((olds.toArray++news.toArray++Builtin.zeroCells z.cells (grownCap w (xs.length+ys.length) xs.length e-(xs.length+ys.length))).getD (i*sz+j) undef):=by
    intro i j hi' hj'
    rw [List.map_append,Zg8,hol]
    by_cases hin:i<xs.length
    · have h8:i*sz+j<xs.length*sz:=ZbD hin hj'
      rw [pG h8,Za1 (by simpa using hin)]
      exact Zhf (((hov i j hin hj').below hBl) φ (fun _ _=>rfl)) (hdat xs i j hin hj' hor)
    · have h8: ¬(i*sz+j<xs.length*sz):=by
        have:xs.length*sz≤i*sz:=Nat.mul_le_mul_right _ (by omega)
        omega
      have h9:i*sz+j-xs.length*sz=(i-xs.length)*sz+j:=by
        have e1:i=xs.length+(i-xs.length):=by omega
        have:i*sz=xs.length*sz+(i-xs.length)*sz:=by rw [←Nat.add_mul];congr 1
        omega
      have h7:(i-xs.length)*sz+j<news.length:=by rw [hnl];exact ZbD (by omega) hj'
      rw [nG h8,h9,pG (by omega),hn2 _ _ (by omega) hj',ZaH (by simp;omega)]
      simp only [lM]
      exact Zhf (((hc2 _ _ (by omega) hj').below hBl) φ (fun _ _=>rfl)) (hdat ys _ j (by omega) hj' hyr)
  have:=RelD.sl (P:=c.P) (w:=w.drew.alloc (.cells (olds.toArray++news.toArray++Builtin.zeroCells z.cells (grownCap w (xs.length+ys.length) xs.length e-(xs.length+ys.length))) e)) (M:=Mut c.A φ st.hp) e ((xs++ys).map f) w.heap.size 0 (grownCap w (xs.length+ys.length) xs.length e) (fun i j=>(olds.toArray++news.toArray++Builtin.zeroCells z.cells (grownCap w (xs.length+ys.length) xs.length e-(xs.length+ys.length))).getD (i*sz+j) undef)
    (by simp) hnM (by simp; omega) (by simp; omega) (fun row hrow => by
      simp only [List.map_append,List.mem_append] at hrow
      rw [hcs]
      rcases hrow with hrow |hrow
      · exact hor row hrow
      · exact hyr row hrow) (fun i j hi' hj'=>by
      simp only [lM,List.length_append] at hi'
      rw [hcs] at hj' ⊢
      have hnew':(w.drew.alloc (.cells (olds.toArray++news.toArray++Builtin.zeroCells z.cells (grownCap w (xs.length+ys.length) xs.length e-(xs.length+ys.length))) e)).heap[w.heap.size]?=some (.cells (olds.toArray++news.toArray++Builtin.zeroCells z.cells (grownCap w (xs.length+ys.length) xs.length e-(xs.length+ys.length))) e (0,0)):=hnew
      rw [Z0 hnew',Nat.zero_add]
      have:i*sz+j<(olds.toArray++news.toArray++Builtin.zeroCells z.cells (grownCap w (xs.length+ys.length) xs.length e-(xs.length+ys.length))).size:=by
        rw [hcsz];exact ZbD (by omega) hj'
      generalize olds.toArray++news.toArray++Builtin.zeroCells z.cells (grownCap w (xs.length+ys.length) xs.length e-(xs.length+ys.length))=CS at this
      simp [this]) (fun i j hi' hj'=>by
      simp only [lM,List.length_append] at hi'
      rw [hcs] at hj'
      exact hcell i j hi' hj')
  have el:((xs++ys).map f).length=xs.length+ys.length:=by simp
  rw [el] at this
  exact this
end
end Go.Vx

namespace Go.Vx
open Go Go.RowKit
section t10
variable {α β γ δ ε ζ η θ μ ν ι κ ρ:Type}
def t10(f:α→β→γ→δ→ε→ζ→η→θ→μ→ν→ι)(p:α×β×γ×δ×ε×ζ×η×θ×μ×ν):ι:=f p.1 p.2.1 p.2.2.1 p.2.2.2.1 p.2.2.2.2.1 p.2.2.2.2.2.1 p.2.2.2.2.2.2.1 p.2.2.2.2.2.2.2.1 p.2.2.2.2.2.2.2.2.1 p.2.2.2.2.2.2.2.2.2
@[simp] theorem Zto (f:α→β→γ→δ→ε→ζ→η→θ→μ→ν→ι) (a:α) (b:β) (c:γ) (d:δ) (e:ε) (g:ζ) (h:η) (i:θ) (j:μ) (l:ν):t10 f (a,b,c,d,e,g,h,i,j,l)=f a b c d e g h i j l:=rfl
end t10
section ops
variable {c:Ctx} {ops:Array Oper} {st:St} {dst:Option Tmp} {ty:TypeId} {pos:String} {after:Array Edge}
variable {α:Type} {f:α→List AV}
end ops
end Go.Vx
