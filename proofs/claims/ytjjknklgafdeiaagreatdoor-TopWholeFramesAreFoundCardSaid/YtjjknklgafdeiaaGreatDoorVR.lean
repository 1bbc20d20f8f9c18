/- A text of the proof: a verified executor of the program form, or the contracts of the functions that the law reaches. -/
import Derived.Test.YtjjknklgafdeiaaGreatDoorVQ
import Derived.Laws.CopyOwn
import Derived.Laws.IdiomCopy
set_option linter.all false
namespace Go.Vx
open Go Go.RowKit
def slq{α:Type}(xs:List α)(p q:Int):Option Unit:=ck (decide (0≤p)&&(decide (p≤q)&&(decide (q≤xs.length)&&decide (0<xs.length))))
def cpy{α:Type}(xs:List α)(p m q n:Nat):List α:=xs.take p++((xs.drop q).take (min n m)++xs.drop (p+min n m))
theorem ZiD{α:Type}{xs:List α}{p m q n:Nat}(h1:p+m≤xs.length)(h2:q+n≤xs.length):(cpy xs p m q n).length=xs.length:=by
  simp only [cpy,List.length_append,List.length_take,List.length_drop];omega
theorem ZqT{α:Type}{xs:List α}{p m q n i:Nat}(h1:p+m≤xs.length)(h2:q+n≤xs.length)(hi:i<xs.length):
    (cpy xs p m q n)[i]?=xs[if p≤i∧i<p+min n m then q+(i-p) else i]?:=by
  unfold cpy
  by_cases hp:i<p
  · rw [List.getElem?_append_left (by simp;omega),List.getElem?_take_of_lt hp,if_neg (by omega)]
  · rw [List.getElem?_append_right (by simp;omega)]
    have e:(xs.take p).length=p:=by simp;omega
    rw [e]
    by_cases hk:i<p+min n m
    · rw [List.getElem?_append_left (by simp;omega),List.getElem?_take_of_lt (by omega),List.getElem?_drop,if_pos (by omega)]
    · rw [List.getElem?_append_right (by simp;omega),List.getElem?_drop,if_neg (by omega)]
      congr 1
      simp
      omega
section ops
variable {c:Ctx} {ops:Array Oper} {st:St} {dst:Option Tmp} {ty:TypeId} {pos:String} {after:Array Edge}
end ops
end Go.Vx

namespace Go.Vx
open Go Go.RowKit
section
variable {c:Ctx} {ops:Array Oper} {st:St} {dst:Option Tmp} {ty:TypeId} {pos:String} {after:Array Edge}
end
end Go.Vx
