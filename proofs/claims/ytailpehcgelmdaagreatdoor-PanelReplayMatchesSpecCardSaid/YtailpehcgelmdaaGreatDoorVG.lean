/- A text of the proof: a verified executor of the program form, or the contracts of the functions that the law reaches. -/
import Derived.Test.YtailpehcgelmdaaGreatDoorVF
import Derived.Shelf.Strconv.Itoa1
import Derived.Laws.BytesString
import Derived.Laws.Cells
import Derived.Test.YtailpehcgelmdaaGreatDoorVC
set_option linter.all false
namespace Go.Vx
open Go Go.RowKit Go.Lib
theorem Zrf{vals:Array Value}(h:vals.size=1):vals= #[vals.getD 0 undef]:=by
  obtain⟨l⟩:=vals
  match l,h with
  | [a],_=>rfl
theorem ZpQ{P:Program}{w:World}{M:Nat→Prop}{k:IntKind}{z:Int}{v:Value}(h:RelD P w M (.int k z) v):v= .int k z:=by cases h;rfl
section ops
variable {c:Ctx} {ops:Array Oper} {st:St} {dst:Option Tmp} {ty:TypeId} {pos:String} {after:Array Edge}
end ops
end Go.Vx
namespace Go.Vx
open Go Go.RowKit Go.Lib
section ops
variable {c:Ctx} {ops:Array Oper} {st:St} {dst:Option Tmp} {ty:TypeId} {pos:String} {after:Array Edge}
end ops
end Go.Vx

namespace Go.Vx
open Go Go.RowKit
theorem Zoz{P:Program}{w:World}{name:String}{g:Nat}{cs:Array Value}(hg:P.globalNamed name=some g)(hv:w.var? P name=some cs): ∃ e fr,w.heap[g]?=some (.cells cs e fr):=by
  unfold World.var? at hv
  rw [hg] at hv
  simp only [Option.bind_some] at hv
  split at hv
  · rename_i h;cases hv;exact⟨_,_,h⟩
  · cases hv
theorem ZoS{w:World}{g:Nat}{o:Obj}(h:w.heap[g]?=some o):g<w.heap.size:=(Array.getElem?_eq_some_iff.1 h).1
end Go.Vx

namespace Go.Vx
open Go Go.RowKit
def wfI(k:IntKind)(n:Int):Prop:=(Lit.int k n).wf=true
def wfT(_:Bool):Prop:=True
def wfS(s:Str):Prop:=s.length≤9223372036854775807
def wfL{α:Type}(p:α→Prop)(l:List α):Prop:=l.length≤9223372036854775807∧ ∀ x∈l,p x
theorem Zl0{α:Type}{f:α→List AV}{p:α→Prop}: ∀ {l:List (List AV)},(∀ i,i<l.length→ ∃ x,p x∧l.getD i []=f x)→ ∃ xs:List α,(∀ x∈xs,p x)∧l=xs.map f
  | [],_=>⟨[],(fun _ h=>by cases h),rfl⟩
  |a::l,h=>by
    obtain⟨x,hp,hx⟩:=h 0 (by simp)
    obtain⟨xs,hps,hxs⟩:=Zl0 (l:=l) (fun i hi=>by simpa using h (i+1) (by simpa using hi))
    refine⟨x::xs,fun y hy=> ?_,by simp at hx;simp [hx,hxs]⟩
    rcases List.mem_cons.1 hy with rfl |hy
    · exact hp
    · exact hps y hy
theorem JX{k:IntKind}{av:AV}(h:Fits (.int k) av): ∃ n,wfI k n∧av= .int k n:=by
  cases h with
  |int hw=>exact⟨_,hw,rfl⟩
theorem ZnH{av:AV}(h:Fits .bool av): ∃ n,wfT n∧av= .bool n:=by cases h;exact⟨_,trivial,rfl⟩
theorem Zix{av:AV}(h:Fits .str av): ∃ n:Str,wfS n∧av= .str n:=by
  cases h with
  |str hl=>exact⟨_,by simpa [maxLen,wfS] using hl,rfl⟩
theorem Zkc{α:Type}{f:α→List AV}{p:α→Prop}{e:TypeId}{ss:List Sh}{av:AV}(H: ∀ l,ZfD ss l→ ∃ x,p x∧l=f x)(h:Fits (.sl e ss) av): ∃ xs:List α,wfL p xs∧av= .sl e (xs.map f):=by
  cases h with
  | @sl _ _ l hl h1 h2=>
    obtain⟨xs,hp,rfl⟩:=Zl0 (f:=f) (p:=p) (l:=l) fun i hi=>H _ ⟨by rw [List.getD_eq_getElem?_getD,List.getElem?_eq_getElem hi];exact h1 _ (List.getElem_mem _),fun j hj=>h2 i j hi hj⟩
    exact⟨xs,⟨by simpa [maxLen] using hl,hp⟩,rfl⟩
end Go.Vx

namespace Go.Vx
open Go Go.RowKit Go.Lib
section ops
variable {c:Ctx} {ops:Array Oper} {st:St} {dst:Option Tmp} {ty:TypeId} {pos:String} {after:Array Edge}
end ops
end Go.Vx
