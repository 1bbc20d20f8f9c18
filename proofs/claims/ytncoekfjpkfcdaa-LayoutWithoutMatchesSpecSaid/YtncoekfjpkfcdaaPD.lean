/- A text of the proof: a verified executor of the program form, or the contracts of the functions that the law reaches. -/
import Derived.Test.YtncoekfjpkfcdaaPC
set_option linter.all false
namespace Go.Vx
open Go Go.RowKit
def HH (p : api_Param) : Int := (2 : Int) ^ (bitsN p - 1).toNat
def NN (p : api_Param) : Nat := ((bitsN p).tdiv 4).toNat
def lims (p : api_Param) : Int × Int := if p.Kind = 1 then (0, 2 * HH p - 1) else if p.Kind = 5 then (0, 1) else if p.Kind = 6 then (0, (p.Names.length : Int) - 1) else if p.Kind = 2 then (-HH p, HH p - 1) else if p.Kind = 3 then (1 - HH p, HH p - 1) else (0, 10 ^ NN p - 1)
def bcd : Nat → Nat → Nat
  | 0, _ => 0
  | n + 1, v => v % 10 + 16 * bcd n (v / 10)
def enc (p : api_Param) (v : Int) : Int := if p.Kind = 2 then (if v < 0 then 2 * HH p + v else v) else if p.Kind = 3 then (if v < 0 then HH p - v else v) else if p.Kind = 4 then (bcd (NN p) v.toNat : Int) else v
def dig (raw : Int) (m : Nat) : Int := band .i64 (raw.fdiv (2 ^ (4 * m))) 15
def decL (raw : Int) : Nat → Int → Bool → Int × Bool
  | 0, v, ok => (v, ok)
  | m + 1, v, ok => decL raw m (i64 (i64 (v * 10) + dig raw m)) (ok && decide (dig raw m < 10))
def clr (x : Int × Bool) : Int × Bool := if x.2 = true then (x.1, true) else (0, false)
def dec (p : api_Param) (raw : Int) : Int × Bool := if p.Kind = 1 then (raw, true) else if p.Kind = 5 then (raw, true) else if p.Kind = 6 then (if (p.Names.length : Int) ≤ raw then (0, false) else (raw, true)) else if p.Kind = 2 then (if HH p ≤ raw then (raw - 2 * HH p, true) else (raw, true))
  else if p.Kind = 3 then (if raw = HH p then (0, false) else if HH p < raw then (HH p - raw, true) else (raw, true)) else clr (decL raw (NN p) 0 true)
end Go.Vx

namespace Go.Vx
open Go Go.RowKit
structure NumOK (p : api_Param) (n : layout_number) : Prop where
  low : n.low = (lims p).1
  high : n.high = (lims p).2
  encode : ∀ v, (lims p).1 ≤ v → v ≤ (lims p).2 → n.encode.fn v = some (enc p v)
  decode : ∀ raw, 0 ≤ raw → raw < 2 * HH p → ∃ y, n.decode.fn raw = some y ∧ clr y = dec p raw
end Go.Vx
