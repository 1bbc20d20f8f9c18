/- A text of the proof: a verified executor of the program form, or the contracts of the functions that the law reaches. -/
import Derived.Test.YtgohgnaapbpggaaGreatDoorVR
import Derived.Shelf.Strings.Builder1
import Derived.Lib.AppendZeros
set_option linter.all false
namespace Go.Vx
open Go Go.RowKit Go.Lib
section bld
variable {c:Ctx} {ops:Array Oper} {st:St} {dst:Option Tmp} {ty:TypeId} {pos:String} {after:Array Edge}
theorem HeapOK.nt{c:Ctx}{φ:Phi}{hp:List (Option Own)}{w:World}(h:HeapOK c φ hp w)(n:Nat):HeapOK ⟨c.P,n,c.w0,c.A,c.W,c.gl,c.n0,c.φ0⟩ φ hp w:=
  ⟨h.os,h.tape,h.output,h.heap,h.frame,h.owned,h.apart,h.obj,h.amb,h.glob,h.len,h.mono⟩
theorem HeapOK.tn{c:Ctx}{φ:Phi}{hp:List (Option Own)}{w:World}{n:Nat}(h:HeapOK ⟨c.P,n,c.w0,c.A,c.W,c.gl,c.n0,c.φ0⟩ φ hp w):HeapOK c φ hp w:=
  ⟨h.os,h.tape,h.output,h.heap,h.frame,h.owned,h.apart,h.obj,h.amb,h.glob,h.len,h.mono⟩
end bld
section walk
open Go.Proofs Go.Shelf
variable {P:Program} {ρ:Ren}
end walk
end Go.Vx
