/- A text of the proof: a verified executor of the program form, or the contracts of the functions that the law reaches. -/
import Derived.Test.YtgohgnaapbpggaaGreatDoorVG
import Derived.Shelf.Sort.Plain
set_option linter.all false
namespace Go.Vx
open Go Go.RowKit Go.Lib Go.Sort
def Zm4(xs:List Int):Option (List Int):=if xs≠ []∧xs.length<4611686018427387904 then some (xs.mergeSort fun x y=>decide (x≤y)) else none
theorem Zql{xs r:List Int}(h:Zm4 xs=some r):r.length=xs.length:=by
  unfold Zm4 at h
  split at h
  · cases h;simp
  · cases h
theorem Zpc{P:Program}{gl:Gl}{f e:Nat}{xs r:List Int}{g:Int→List AV}(hg: ∀ z,g z= [.int .i64 z])(hc:callable P f=true)(he:P.cellsOf e=1)
    (C: ∀ (blk off cap:Nat) (zs:List Int) (w:World),Holds (Value.int .i64) w blk off zs.toArray→blk<w.heap.size→zs.length<4611686018427387904→
      Calls P f #[.slice (some ⟨blk,off,none⟩) zs.length cap] w fun e w'=>e= .returned (.tuple #[])∧ ∃ n os,w'=grow (putRow (Value.int .i64) (Sort.ahead w n) blk off (zs.mergeSort fun x y=>decide (x≤y)).toArray) os)
    (h:Zm4 xs=some r):GSpec P gl f [.own 0 xs.length] [some ⟨e,xs.map g⟩] (.tuple []) [some ⟨e,r.map g⟩]:=by
  obtain rfl:g=fun z=> [.int .i64 z]:=funext hg
  have hrl:=Zql h
  refine⟨hc,fun A W w φ vals hok hsz hr=> ?_⟩
  unfold Zm4 at h
  split at h
  case isFalse=>cases h
  rename_i hgd
  obtain⟨hne,hlen⟩:=hgd
  have hO:=hok.obj 0 _ rfl
  have h0:=hr 0 (by simp)
  have hx:=JZ h0 (by rw [hO.len];simp)
  cases hb:(φ 0).blk with
  |none=>exact absurd (hO.none hb).1 (by simpa using hne)
  |some b=>
    have hmp:=XY h0 (by rw [hO.len];simp)
    obtain⟨cs,g1,g2,g3⟩:=hO.some b hb
    have g1:=g1.cells hmp
    have hroom:=hO.room
    simp only [lM] at hroom
    simp only [he,Nat.mul_one] at g2 g3
    have hcell: ∀ j,j<xs.length→cs.getD j undef= .int .i64 (xs.getD j 0):=by
      intro j hj
      have e:cellAt (xs.map fun z=> [AV.int .i64 z]) j 0= .int .i64 (xs.getD j 0):=by simp [cellAt,gQ,hj]
      have:=g3.plain (i:=j) (j:=0) (by simpa using hj) (by decide) (by rw [e];rfl)
      rw [Nat.mul_one,Nat.add_zero] at this
      rw [e] at this
      exact ZhA this
    have hH:Holds (Value.int .i64) w b 0 xs.toArray:=by
      intro j hj
      have hj':j<xs.length:=by simpa using hj
      refine⟨?_,by simp [World.frozen?,g1]⟩
      rw [Z0 g1,Nat.zero_add]
      have h5:=hcell j hj'
      have hjc:j<cs.size:=by omega
      simp only [Array.getD_eq_getD_getElem?,hjc,getElem?_pos,Option.getD_some] at h5
      simp [hjc,h5,hj',gQ]
    have hlt:=(Array.getElem?_eq_some_iff.1 g1).1
    have hcall:=C b 0 (φ 0).cap xs w hH hlt hlen
    have hvals:vals= #[.slice (some ⟨b,0,none⟩) xs.length (φ 0).cap]:=by
      obtain⟨l⟩:=vals
      match l,hsz with
      | [x],_=>
        have e1:x= .slice ((φ 0).blk.map fun b=>⟨b,0,none⟩) xs.length (φ 0).cap:=hx
        rw [e1,hb];rfl
    rw [hvals]
    refine hcall.mono ?_
    rintro e' w' ⟨rfl,n0,os,rfl⟩
    cases h
    have hwh: ∀ b',b'<w.heap.size→(grow (putRow (Value.int .i64) (Sort.ahead w n0) b 0 (xs.mergeSort fun x y=>decide (x≤y)).toArray) os).heap[b']?=(w.heap.modify b (onCells (putCells (Value.int .i64) 0 (xs.mergeSort fun x y=>decide (x≤y)).toArray)))[b']?:=by
      intro b' hb'
      simp only [grow,putRow,mapBlock,Sort.ahead]
      rw [Array.getElem?_append_left (by simpa using hb')]
    have hcs':(grow (putRow (Value.int .i64) (Sort.ahead w n0) b 0 (xs.mergeSort fun x y=>decide (x≤y)).toArray) os).heap[b]?=some (.cells (putCells (Value.int .i64) 0 (xs.mergeSort fun x y=>decide (x≤y)).toArray cs) e (0,0)):=by
      rw [hwh b hlt,Array.getElem?_modify,pG rfl,g1]
      rfl
    have hpc: ∀ j,j<xs.length→(putCells (Value.int .i64) 0 (xs.mergeSort fun x y=>decide (x≤y)).toArray cs).getD j undef= .int .i64 ((xs.mergeSort fun x y=>decide (x≤y)).getD j 0):=by
      intro j hj
      have hjc:j<cs.size:=by omega
      have hjm:j<(xs.mergeSort fun x y=>decide (x≤y)).length:=by simpa using hj
      simp only [Array.getD_eq_getD_getElem?,putCells,Array.getElem?_mapIdx,hjc,getElem?_pos,Option.map_some,Option.getD_some,Nat.zero_add,Nat.zero_le,true_and,List.size_toArray,hjm,if_true,Nat.sub_zero]
      simp [gQ,hjm,hj]
    have hup:=Zcw (L:=φ 0) (o':=⟨e,(xs.mergeSort fun x y=>decide (x≤y)).map fun z=> [AV.int .i64 z]⟩) (w':=grow (putRow (Value.int .i64) (Sort.ahead w n0) b 0 (xs.mergeSort fun x y=>decide (x≤y)).toArray) os) hok (r:=0) rfl rfl rfl rfl (by simp [grow,putRow,mapBlock,Sort.ahead]) (fun b' hlt' hne'=>by
      rw [hb] at hne'
      have hne2:b≠b':=fun e=>hne' (by rw [e])
      rw [hwh b' hlt',Array.getElem?_modify,nG hne2]) (.inl rfl) (.inl (.refl _)) (fun htr=>by
      refine⟨by have:=hO.len;simpa using this,hO.sz,?_,by simpa using hO.room,hO.cap,(fun e=>by simp [hb] at e),(fun b hb=>Nat.lt_of_lt_of_le (hO.subl b hb) (by simp [grow,putRow,mapBlock,Sort.ahead])),hO.subn,fun b' hb'=> ?_⟩
      · intro row hrow
        obtain⟨z,_,rfl⟩:=List.mem_map.1 hrow
        simp [he]
      · simp only [if_true,hb,Option.some.injEq] at hb'
        subst hb'
        refine⟨_,(by simp only [if_true,hmp];exact hcs'),by simp [putCells,g2,he],.of fun i j hi hj=> ?_⟩
        simp only [lM] at hi
        simp only [he] at hj ⊢
        obtain rfl:j=0:=by omega
        rw [Nat.mul_one,Nat.add_zero,hpc i (by simpa using hi)]
        have e2:cellAt ((xs.mergeSort fun x y=>decide (x≤y)).map fun z=> [AV.int .i64 z]) i 0= .int .i64 ((xs.mergeSort fun x y=>decide (x≤y)).getD i 0):=by
          have him:i<(xs.mergeSort fun x y=>decide (x≤y)).length:=by simpa using hi
          simp [cellAt,gQ,List.getElem?_eq_getElem him]
        rw [e2]
        exact Zt (.int _ _))
    refine⟨.tuple #[],_,rfl,hup.1,?_⟩
    exact Zt (.tuple [] #[] rfl fun i hi=>by cases hi)
end Go.Vx
