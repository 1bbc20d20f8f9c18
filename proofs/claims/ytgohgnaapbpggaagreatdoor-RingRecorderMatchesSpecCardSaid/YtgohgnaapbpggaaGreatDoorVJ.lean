/- A text of the proof: a verified executor of the program form, or the contracts of the functions that the law reaches. -/
import Derived.Test.YtgohgnaapbpggaaGreatDoorVI
import Derived.Laws.MakeOwn
set_option linter.all false
namespace Go.Vx
open Go Go.RowKit
def mkz{α:Type}(s:Nat)(n:Int)(z:α):Option (List α):=if 0≤n∧n.toNat≤140737488355328/s then some (List.replicate n.toNat z) else none
abbrev mks{α:Type}(n:Int)(z:α):Option (List α):=mkz 32768 n z
inductive ZR:List AV→List Value→Prop
  |nil:ZR [] []
  |c {v:Value} {l:List AV} {vs:List Value}:ZR l vs→ZR (constAV v::l) (v::vs)
  |s {e:TypeId} {l:List AV} {vs:List Value}:ZR l vs→ZR (.sl e []::l) (.slice none 0 0::vs)
theorem ZR.rel{P:Program}{w:World}{M:Nat→Prop}{l:List AV}{vs:List Value}(h:ZR l vs):l.length=vs.length∧ ∀ j,j<vs.length→RelD P w M (l.getD j .any) (vs.getD j undef):=by
  induction h with
  |nil=>exact⟨rfl,fun j hj=>by simp at hj⟩
  |c _ ih=>
    refine⟨by simp [ih.1],fun j hj=> ?_⟩
    cases j with
    |zero=>exact ZcI _ _ _ _
    |succ j=>exact ih.2 j (by simpa using hj)
  |s _ ih=>
    refine⟨by simp [ih.1],fun j hj=> ?_⟩
    cases j with
    |zero=>exact .sl0 _ _ _
    |succ j=>exact ih.2 j (by simpa using hj)
def zc:Option TypeId→Value→AV
  |some e,.slice none 0 0=> .sl e []
  |_,v=>constAV v
theorem ZpH: ∀ {es:List (Option TypeId)} {zs:List Value},es.length=zs.length→ZR (List.zipWith zc es zs) zs
  | [],[],_=> .nil
  |e::es,v::zs,h=>by
    have ih:=ZpH (es:=es) (zs:=zs) (by simpa using h)
    simp only [List.zipWith_cons_cons]
    unfold zc
    split
    · exact .s ih
    · exact .c ih
  | [],_::_,h=>by simp at h
  |_::_,[],h=>by simp at h
section
variable {c:Ctx} {ops:Array Oper} {st:St} {dst:Option Tmp} {ty:TypeId} {pos:String} {after:Array Edge}
theorem Zbq(es:List (Option TypeId)){α:Type}{f:α→List AV}{x y:Operand}{t e sz by_ r s:Nat}{k k2:IntKind}{n:Int}{z0:α}{zs:List Value}{xs:List α}(hr:st.hp.length=r)(hx:Opv c st x (.int k n))(hy:Opv c st y (.int k2 n))(ht:tSl c.P t e sz by_=true)
    (hby:Nat.ble by_ s=true) (hz:JM c.P e=some zs) (hrow':List.zipWith zc es zs=f z0) (hes:es.length=zs.length) (hm:mkz s n z0=some xs):
    WVal c ops st ⟨dst,.makeSlice t x y,ty,pos,after,none⟩ (.own r xs.length) (st.hp++ [some ⟨e,xs.map f⟩]):=by
  subst hr
  have hrow:ZR (f z0) zs:=hrow'▸ZpH hes
  unfold mkz at hm
  split at hm
  case isFalse=>cases hm
  rename_i hn
  simp only [Option.some.injEq] at hm
  subst hm
  obtain⟨hu,inf,z,hi,hs,hby2,hn0,hz2,hzs,hcs⟩:=tSl.spec ht
  have hby:=Nat.le_of_ble_eq_true hby
  obtain⟨m,rfl⟩:=Int.eq_ofNat_of_zero_le hn.1
  have hzl:z.cells.toList=zs:=by
    unfold JM at hz
    rw [hi] at hz
    simp only [hz2,Option.map_some,Option.some.injEq] at hz
    exact hz
  have hn2:m≤140737488355328/s:=by simpa using hn.2
  have hmul:inf.bytes*m≤140737488355328:=by rw [Nat.mul_comm];exact ZkM hn2 (by omega)
  have hm63:=ZkC hn2
  refine .run rfl fun φ a w hc=> ?_
  have hxv:a.eval x= .int k m:=ZhA (hx φ a w hc)
  have hyv:a.eval y= .int k2 m:=ZhA (hy φ a w hc)
  have hb':(inf.bytes:Int)*(m:Int)≤281474976710656:=by rw [←Int.natCast_mul];omega
  have hrun:=run_make (P:=c.P) w t e inf z hu hi hz2 k k2 (m:Int) (m:Int) (by omega) (Int.le_refl _) hb' (by omega)
  simp only [Int.toNat_natCast] at hrun
  have hrl: ∀ w M,(f z0).length=zs.length∧ ∀ j,j<zs.length→RelD c.P w M ((f z0).getD j .any) (zs.getD j undef):=fun w M=>hrow.rel
  have hlz:zs.length=sz:=by rw [←hzl,Array.length_toList];exact hzs
  obtain⟨k1,k3⟩:=ZiB (o:=⟨e,(List.replicate m z0).map f⟩) (cs:=madeCells z.cells (m*inf.size)) (cap:=m) hc.hok (by rw [size_madeCells,hs,hcs]) (by omega) (by simp) (fun row hrow'=>by
      obtain⟨u,hu',rfl⟩:=List.mem_map.1 hrow'
      obtain⟨_,rfl⟩:=List.mem_replicate.1 hu'
      rw [(hrl w (Mut c.A φ st.hp)).1,hlz,hcs]) (fun i j hi' hj'=>by
      simp only [lM,List.length_replicate] at hi'
      simp only [hcs] at hj' ⊢
      have e1:cellAt ((List.replicate m z0).map f) i j=(f z0).getD j .any:=by simp [cellAt,gQ,List.getElem?_replicate,hi']
      have e2:(madeCells z.cells (m*inf.size)).getD (i*sz+j) undef=zs.getD j undef:=by
        have hlt:i*sz+j<m*inf.size:=by
          rw [hs]
          have:=Nat.mul_le_mul_right sz (show i+1≤m from hi')
          rw [Nat.add_mul,Nat.one_mul] at this
          omega
        have hmod:(i*sz+j) % sz=j:=by rw [Nat.mul_comm,Nat.mul_add_mod];exact Nat.mod_eq_of_lt hj'
        have hjz:j<z.cells.size:=by omega
        have e3:z.cells[j]! =z.cells[j]'hjz:=getElem!_pos z.cells j hjz
        have e4:zs.getD j undef=z.cells[j]'hjz:=by rw [←hzl];simp [gQ,hjz]
        rw [e4,←e3]
        simp only [madeCells,Array.getD_eq_getD_getElem?]
        rw [Array.getElem?_map,Array.getElem?_range,pG hlt]
        simp only [Option.map_some,Option.getD_some,hzs,hmod]
      rw [e1,e2]
      exact Zt ((hrl w _).2 j (by omega)))
  refine⟨.slice (some ⟨w.heap.size,0,none⟩) m m,_,_,?_,k1,k3,fun φ' hφ=> ?_⟩
  · show((do pure (Next.value (←Instr.makeSlice t (a.eval x) (a.eval y))):Sem Next)).run c.P w=_
    rw [hxv,hyv,Sem.run_bind,hrun]
    rfl
  · have e1:φ' st.hp.length=⟨some w.heap.size,m,((List.replicate m z0).map f).length,c.P.cellsOf e,false,fun _=>False⟩:=by
      have:=hφ st.hp.length (by simp)
      simpa using this
    refine .own _ _ _ rfl (by rw [e1];simp) fun _=>by rw [e1];simp
end
end Go.Vx

namespace Go.Vx
open Go Go.RowKit
theorem Zqo{α:Type}{x:α}{Q:Prop}(h:(none:Option α)=some x):Q:=by cases h
theorem ifR{β γ:Type}{k:β→Option γ}{r:γ}{g:Bool}{X Y:Option β}(h:(if g=true then X else Y).bind k=some r):(g=true∧X.bind k=some r)∨(g=false∧Y.bind k=some r):=by
  cases g
  · exact .inr ⟨rfl,h⟩
  · exact .inl ⟨rfl,h⟩
theorem ZrK{b c:Bool}(h:(b==c)=true):b=c:=by simpa using h
theorem Zry{b c:Bool}(h:(b==c)=false):b= !c:=by cases b<;>cases c<;>simp_all
section
variable {c:Ctx} {ops:Array Oper} {rest:List Oper} {st:St} {K:Exit→St→Prop}
theorem ZlL{d:Nat}{b b':Bool}(hl:look st.tm d=some (.bool b))(hb:b=b')(h:R c ops rest ⟨(d,.bool b')::st.tm,st.hp⟩ K):R c ops rest st K:=by
  subst hb
  refine fun φ a w hc=>h φ a w ⟨hc.size,hc.defers,hc.hok,fun t av ht=> ?_⟩
  simp only [look] at ht
  split at ht
  · rename_i he
    have he:=Nat.eq_of_beq_eq_true he
    subst he
    cases ht
    exact hc.tm d _ hl
  · exact hc.tm t av ht
theorem Zlx{φ:Phi}{a:Act}{w:World}(hc:Conc c φ st a w){dst:Option Tmp}{op:Op}{ty:TypeId}{pos:String}{after:Array Edge}{j d:Nat}{want b:Bool}
    (hj:(ops[j]?).bind (·.dst)=some d) (hd:Nat.blt d c.nt=true) (hl:look st.tm d=some (.bool b)):Region.wanted ⟨dst,op,ty,pos,after,some (j,want)⟩ (yielded ops a.tmps)=(b==want):=by
  have hv:a.tmps.getD d undef= .bool b:=ZhG (hc.tm d _ hl)
  have hy:yielded ops a.tmps j=some b:=by
    unfold yielded
    rw [hj]
    have hlt:d<a.tmps.size:=by rw [hc.size];simpa using hd
    have:a.tmps[d]?=some (.bool b):=by
      rw [Array.getElem?_eq_getElem hlt]
      simpa [hlt] using hv
    simp [this]
  unfold Region.wanted
  simp only [hy]
  cases b<;>cases want<;>rfl
theorem Zrt{dst:Option Tmp}{op:Op}{ty:TypeId}{pos:String}{after:Array Edge}{j d:Nat}{want:Bool}(v:AV)(hp':List (Option Own))
    (hj:(ops[j]?).bind (·.dst)=some d) (hd:Nat.blt d c.nt=true) (hl:look st.tm d=some (.bool want)) (hdl:dstLt dst c.nt=true) (hv:WVal c ops st ⟨dst,op,ty,pos,after,none⟩ v hp')
    (h:R c ops rest (St.puto ⟨st.tm,hp'⟩ dst v) K):R c ops (⟨dst,op,ty,pos,after,some (j,want)⟩::rest) st K:=by
  intro φ a w hc
  obtain⟨_,h2⟩:=hv φ a w hc
  unfold wpList
  rw [pG (by rw [Zlx hc hj hd hl];simp)]
  rw [←ZmC (g:=some (j,want))] at h2
  refine .inl (Zin ?_ (fun _ _ _ h=>h.elim) h2)
  rintro a' w' ⟨u,φ',rfl,hh,hf,hr⟩
  have hc':Conc c φ' ⟨st.tm,hp'⟩ a w':=⟨hc.size,hc.defers,hh,fun t av ht=>hf _ _ (hc.tm t av ht)⟩
  exact h φ' _ _ (hc'.puto hdl hr)
theorem Zl5{dst:Option Tmp}{op:Op}{ty:TypeId}{pos:String}{after:Array Edge}{j d:Nat}{want b:Bool}
    (hj:(ops[j]?).bind (·.dst)=some d) (hd:Nat.blt d c.nt=true) (hl:look st.tm d=some (.bool b)) (hb:(b==want)=false) (hdl:dstLt dst c.nt=true) (h:R c ops rest (st.puto dst .any) K):R c ops (⟨dst,op,ty,pos,after,some (j,want)⟩::rest) st K:=by
  intro φ a w hc
  unfold wpList
  rw [nG (by rw [Zlx hc hj hd hl,hb];simp)]
  exact h φ _ _ (hc.puto hdl (Zt (.any _)))
end
section draw
variable {cw:Md} {c:Ctx} {ops:Array Oper} {st:St} {m:Nat} {K:Exit→St→Prop}
theorem ZpI(i j:Nat){o o':Oper}{v v':AV}{hp2:List (Option Own)}(ho:ops[i]?=some o)(ho':ops[j]?=some o')(ht:ZmP ops m i j=true)(hd:dstLt o.dst c.nt=true)(hd':dstLt o'.dst c.nt=true)(hn:noWrite cw.cw o.op=true)(hn':noWrite cw.cw o'.op=false)
    (hx':extOp o'.op=true→Ext st.hp hp2) (hy':cw.fr=true→ExtW cw.wl cw.base hp2)
    (h:SVal c ops ⟨restr st.tm (o.looksAt ops),st.hp⟩ o v) (h':WVal c ops ⟨restr st.tm (o'.looksAt ops),st.hp⟩ o' v' hp2)
    (k:Dv cw c ops (KE c K) (setBit m i) (st.puto o.dst v)) (k':Dv cw c ops (KE c K) (setBit m j) (St.puto ⟨st.tm,hp2⟩ o'.dst v')):Dv cw c ops (KE c K) m st:=by
  unfold ZmP at ht
  simp only [Bool.and_eq_true] at ht
  obtain⟨⟨⟨h1,h2⟩,h3⟩,h4⟩:=ht
  have only: ∀ k,k<ops.size→readyAt ops m k=true→k=i∨k=j:=fun k hk hr=>by
    have:=List.all_eq_true.1 h4 k (List.mem_range.2 hk)
    rw [hr] at this
    simp only [Bool.not_true,Bool.or_false,Bool.or_eq_true] at this
    rcases this with h |h
    · exact .inl (Nat.eq_of_beq_eq_true h)
    · exact .inr (Nat.eq_of_beq_eq_true h)
  refine .branch (fun k=>if k=i then st.puto o.dst v else St.puto ⟨st.tm,hp2⟩ o'.dst v') ⟨i,by simpa using h2,h1⟩ (fun q hq hr=> ?_) (fun q hq hr=> ?_)
  · by_cases hqi:q=i
    · subst hqi;rw [pG rfl];exact .q0 ho ⟨hd,hn,h⟩
    · rcases only q hq hr with rfl |rfl
      · exact absurd rfl hqi
      · rw [nG hqi];exact .w ho' ⟨hd',hn',hx',hy',h'⟩
  · by_cases hqi:q=i
    · subst hqi;rw [pG rfl];exact k
    · rcases only q hq hr with rfl |rfl
      · exact absurd rfl hqi
      · rw [nG hqi];exact k'
end draw
end Go.Vx
