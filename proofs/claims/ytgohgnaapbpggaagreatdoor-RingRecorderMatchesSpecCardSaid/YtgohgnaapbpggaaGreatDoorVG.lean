/- A text of the proof: a verified executor of the program form, or the contracts of the functions that the law reaches. -/
import Derived.Test.YtgohgnaapbpggaaGreatDoorVF
import Derived.Shelf.Strconv.Itoa1
import Derived.Laws.BytesString
import Derived.Laws.Cells
import Derived.Test.YtgohgnaapbpggaaGreatDoorVC
set_option linter.all false
namespace Go.Vx
open Go Go.RowKit Go.Lib
section ops
variable {c:Ctx} {ops:Array Oper} {st:St} {dst:Option Tmp} {ty:TypeId} {pos:String} {after:Array Edge}
end ops
end Go.Vx
namespace Go.Vx
open Go Go.RowKit Go.Lib
section ops
variable {c:Ctx} {ops:Array Oper} {st:St} {dst:Option Tmp} {ty:TypeId} {pos:String} {after:Array Edge}
theorem Znt(ns:List Int)(s:ByteArray):ns.foldl (fun r n=>r.push (UInt8.ofNat n.toNat)) s=⟨s.data++(ZaE ns).toArray⟩:=by
  induction ns generalizing s with
  |nil=>simp [ZaE]
  |cons n ns ih=>
    rw [List.foldl_cons,ih]
    simp [ZaE,ByteArray.push]
def tU8(P:Program)(e:Nat):Bool:=match P.underlying e with |some (.int .u8)=>true |_=>false
theorem Zkb{f:Int→List AV}{x:Operand}{s t e by_:Nat}{ys:List Int}(h:SlV c st x 1 (ys.map f))(hf: ∀ z,f z= [.int .u8 z])(hs:tSl c.P s e 1 by_=true)(ht:tStr c.P t=true)(he:tU8 c.P e=true):
    SVal c ops st ⟨dst,.convert s t x,ty,pos,after,none⟩ (.str (ZaE ys)):=
  .pure rfl fun φ a w hc=>by
    obtain⟨base,cap,hx,hl,hrow,hcells⟩:=h φ a w hc
    have hu:=(tSl.spec hs).1
    have hst:=tStr.spec ht
    have hue:c.P.underlying e=some (.int .u8):=by
      unfold tU8 at he
      split at he
      · assumption
      · cases he
    refine⟨.string ⟨(ZaE ys).toArray⟩,?_,Zt (.str _)⟩
    have hb:(Conv.bytesToString (a.eval x)).run c.P w= .ok (.string ⟨(ZaE ys).toArray⟩) w:=by
      rw [hx]
      cases base with
      |none=>
        have hne:ys= []:=by
          by_cases hne:ys= []
          · exact hne
          · obtain⟨b,off,us,hh,_⟩:=hcells (by simpa using hne)
            cases hh
        subst hne
        rfl
      |some b=>
        have hlc:(loadCells b (ys.map f).length).run c.P w= .ok (ys.map (Value.int .u8)).toArray w:=by
          have:=run_loadCells_list (P:=c.P) (w:=w) b (ys.map (Value.int .u8)) (fun i v hv=>by
            have hi:i<ys.length:=by have:=(List.getElem?_eq_some_iff.1 hv).1;simpa using this
            have hi':i<(ys.map f).length:=by simpa using hi
            obtain⟨b',off,us,hh,h1,h2⟩:=hcells (by intro e;rw [e] at hi';cases hi')
            cases hh
            have g1:=h1 i 0 hi' (by decide)
            have g2:=h2 i 0 hi' (by decide)
            have e1:cellAt (ys.map f) i 0= .int .u8 (ys.getD i 0):=by simp [cellAt,gQ,hf,hi]
            rw [e1] at g2
            rw [Nat.mul_one,Nat.add_zero] at g1
            rw [Zao,g1,ZhA g2]
            rw [←hv]
            simp [gQ,hi])
          simpa using this
        rw [run_bytesToString (P:=c.P) w b (ys.map f).length cap ys hlc]
        rw [Znt]
        simp
    have:(convert s t (a.eval x)).run c.P w= .ok (.string ⟨(ZaE ys).toArray⟩) w:=by
      rw [hx] at hb ⊢
      rw [run_convert_bytes_string w s t e _ _ _ hu hue hst,hb]
    simp [execOp,this]
end ops
end Go.Vx

namespace Go.Vx
open Go Go.RowKit
theorem ZpB{P:Program}{w:World}{name:String}{g:Nat}{cs:Array Value}(hg:P.globalNamed name=some g)(hv:w.var? P name=some cs): ∃ e fr,w.heap[g]?=some (.cells cs e fr):=by
  unfold World.var? at hv
  rw [hg] at hv
  simp only [oB] at hv
  split at hv
  · rename_i h;cases hv;exact⟨_,_,h⟩
  · cases hv
theorem ZqA{w:World}{g:Nat}{o:Obj}(h:w.heap[g]?=some o):g<w.heap.size:=(Array.getElem?_eq_some_iff.1 h).1
end Go.Vx

namespace Go.Vx
open Go Go.RowKit
def wfI(k:IntKind)(n:Int):Prop:=(Lit.int k n).wf=true
def wfT(_:Bool):Prop:=True
def wfL{α:Type}(p:α→Prop)(l:List α):Prop:=l.length≤9223372036854775807∧ ∀ x∈l,p x
theorem ZmE{α:Type}{f:α→List AV}{p:α→Prop}: ∀ {l:List (List AV)},(∀ i,i<l.length→ ∃ x,p x∧l.getD i []=f x)→ ∃ xs:List α,(∀ x∈xs,p x)∧l=xs.map f
  | [],_=>⟨[],(fun _ h=>by cases h),rfl⟩
  |a::l,h=>by
    obtain⟨x,hp,hx⟩:=h 0 (by simp)
    obtain⟨xs,hps,hxs⟩:=ZmE (l:=l) (fun i hi=>by simpa using h (i+1) (by simpa using hi))
    refine⟨x::xs,fun y hy=> ?_,by simp at hx;simp [hx,hxs]⟩
    rcases List.mem_cons.1 hy with rfl |hy
    · exact hp
    · exact hps y hy
theorem Zgx{k:IntKind}{av:AV}(h:Fits (.int k) av): ∃ n,wfI k n∧av= .int k n:=by
  cases h with
  |int hw=>exact⟨_,hw,rfl⟩
theorem ZmD{av:AV}(h:Fits .bool av): ∃ n,wfT n∧av= .bool n:=by cases h;exact⟨_,trivial,rfl⟩
theorem Zjx{α:Type}{f:α→List AV}{p:α→Prop}{e:TypeId}{ss:List Sh}{av:AV}(H: ∀ l,ZcJ ss l→ ∃ x,p x∧l=f x)(h:Fits (.sl e ss) av): ∃ xs:List α,wfL p xs∧av= .sl e (xs.map f):=by
  cases h with
  | @sl _ _ l hl h1 h2=>
    obtain⟨xs,hp,rfl⟩:=ZmE (f:=f) (p:=p) (l:=l) fun i hi=>H _ ⟨by rw [gQ,List.getElem?_eq_getElem hi];exact h1 _ (List.getElem_mem _),fun j hj=>h2 i j hi hj⟩
    exact⟨xs,⟨by simpa [maxLen] using hl,hp⟩,rfl⟩
end Go.Vx

namespace Go.Vx
open Go Go.RowKit Go.Lib
def tov{α:Type}(m:Nat)(xs:List α):Option (Vector α m):=if h:m≤xs.length then some ⟨(xs.take m).toArray,by simp;omega⟩ else none
theorem ZpT{α:Type}{m:Nat}{xs:List α}{v:Vector α m}(h:tov m xs=some v):m≤xs.length∧v.toList=xs.take m:=by
  unfold tov at h
  split at h
  · rename_i hm;cases h;exact⟨hm,by simp⟩
  · cases h
section ops
variable {c:Ctx} {ops:Array Oper} {st:St} {dst:Option Tmp} {ty:TypeId} {pos:String} {after:Array Edge}
theorem Znl{α:Type}{f:α→AV}{m:Nat}{x:Operand}{t e:Nat}{xs:List α}{v:Vector α m}(h:Opv c st x (.sl e (xs.map fun u=> [f u])))(ht:tArr c.P t m e 1=true)(hsz:c.P.cellsOf e=1)(hm:Nat.blt 0 m=true)(hv:tov m xs=some v):
    SVal c ops st ⟨dst,.sliceToArrayPointer t x,ty,pos,after,none⟩ (.rp (v.toList.map f) 0):=
  .pure rfl fun φ a w hc=>by
    have hm:0<m:=by simpa using hm
    obtain⟨hml,hvl⟩:=ZpT hv
    have hu:c.P.underlying t=some (.array m e):=by
      unfold tArr at ht
      simp only [Bool.and_eq_true] at ht
      have:=ht.1
      split at this
      · rename_i heq
        simp only [Bool.and_eq_true] at this
        rw [heq,Nat.eq_of_beq_eq_true this.1,Nat.eq_of_beq_eq_true this.2]
      · cases this
    have hr:=ZhJ (h φ a w hc)
    generalize hL:(xs.map fun u=> [f u])=L at hr
    generalize hx:a.eval x=ax at hr
    have hLl:L.length=xs.length:=by rw [←hL];simp
    cases hr with
    |sl0 _ ad cp=>
      have:xs.length=0:=by rw [←hLl];rfl
      omega
    |sl _ _ b off cp us h0 h1 h2 h2' h3 h4 h5=>
      rw [hsz] at h4 h5
      refine⟨.pointer (some ⟨b,off+0,none⟩),?_,Zt (.rp _ b off 0 (fun j=>us j 0) h0 h1 (fun j hj=> ?_) (fun j hj=> ?_))⟩
      · show((do pure (Next.value (←Instr.arrayAt t (a.eval x))):Sem Next)).run c.P w=_
        rw [hx,Sem.run_bind]
        have:(Instr.arrayAt t (.slice (some ⟨b,off,none⟩) L.length cp)).run c.P w= .ok (.pointer (some ⟨b,off,none⟩)) w:=by
          unfold Instr.arrayAt
          rw [Sem.run_bind,run_underlying hu]
          simp only [Result.andThen_ok]
          rw [nG (by omega)]
          rfl
        rw [this];rfl
      · simp only [lM,Vector.length_toList] at hj
        have:=h4 j 0 (by omega) (by decide)
        rw [Nat.mul_one,Nat.add_zero] at this
        exact this
      · simp only [lM,Vector.length_toList] at hj
        have:=h5 j 0 (by omega) (by decide)
        have e:cellAt L j 0=(v.toList.map f).getD j .any:=by
          rw [←hL,hvl]
          have hj2:j<xs.length:=by omega
          simp [cellAt,gQ,hj,hj2]
        rw [←e];exact this
end ops
end Go.Vx
