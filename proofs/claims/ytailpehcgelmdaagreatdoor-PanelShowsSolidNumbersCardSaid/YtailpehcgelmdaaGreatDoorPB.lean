/- A text of the proof: a verified executor of the program form, or the contracts of the functions that the law reaches. -/
import Derived.Test.YtailpehcgelmdaaGreatDoorPA
set_option linter.all false
namespace Go.Vx
open Go Go.RowKit
def vV(t:api_Track)(f:Int):api_Sample×Bool:=((Zep (Zak t.Series.Samples (64*f+63) t.Long)).1,(Zep (Zak t.Series.Samples (64*f+63) t.Long)).2)
theorem Zl4{t:api_Track}(hc:(chk t.Series).2=0)(hl:wi t.Long 0 1099511627776=true){frame:Int}(f1:0≤frame)(f2:frame≤4194303):Jd t frame=some (vV t frame)∧Zb3 t frame=some (vV t frame):=by
  have e1:i64 (64*frame)=64*frame:=ZA (by omega) (by omega)
  have e2:i64 (64*frame+64)=64*frame+64:=ZA (by omega) (by omega)
  have e3:i64 (64*frame+64-1)=64*frame+63:=by rw [show 64*frame+64-1=64*frame+63 by omega];exact ZA (by omega) (by omega)
  have e4:i64 (64*frame+63)=64*frame+63:=ZA (by omega) (by omega)
  have ht:(0:Int)≤64*frame+63∧64*frame+63≤1099511627776:=by omega
  constructor
  · unfold Jd ZaY
    rw [e1,e2,e3,ZmD (Zea hc) _ _ ht];rfl
  · unfold Zb3
    rw [e1,e4,Zla]
    have hwi:wi (64*frame+63) 0 1099511627776=true:=Xx.2 ht
    simp [Zip,hc,hwi,hl,vV]
theorem ZhJ{α:Type}{p:α→Bool}: ∀ (k:Nat) (xs:List α),(Qt (fun j x=>if p x=true then some (j:Int) else none) k xs=none∧Qt (fun _ x=>if p x=true then some x else none) k xs=none)∨
    (∃ (m:Nat) (x:α),Qt (fun j x=>if p x=true then some (j:Int) else none) k xs=some ((k+m:Nat):Int)∧Qt (fun _ x=>if p x=true then some x else none) k xs=some x∧xs[m]?=some x)
  |_,[]=> .inl ⟨rfl,rfl⟩
  |k,x::tl=>by
    have ih:=ZhJ (p:=p) (k+1) tl
    simp only [Qt]
    by_cases hp:p x=true
    · exact .inr ⟨0,x,by simp [hp],by simp [hp],rfl⟩
    · have hp':p x=false:=by simpa using hp
      simp only [hp',Bool.false_eq_true,if_false]
      rcases ih with h | ⟨m,y,h1,h2,h3⟩
      · exact .inl h
      · exact .inr ⟨m+1,y,by rw [h1];congr 2;omega,h2,by simpa using h3⟩
def tkI(l:List api_Track)(nm:Str):Option Int:=Qt (fun j x=>if decide (x.Name=nm)=true then some (j:Int) else none) 0 l
def tkT(l:List api_Track)(nm:Str):Option api_Track:=Qt (fun _ x=>if decide (x.Name=nm)=true then some x else none) 0 l
theorem Zkz(l:List api_Track)(nm:Str):(tkI l nm=none∧tkT l nm=none)∨(∃ (m:Nat) (x:api_Track),tkI l nm=some (m:Int)∧tkT l nm=some x∧l[m]?=some x):=by
  rcases ZhJ (p:=fun x:api_Track=>decide (x.Name=nm)) 0 l with h | ⟨m,x,h1,h2,h3⟩
  · exact .inl h
  · exact .inr ⟨m,x,by rw [Nat.zero_add] at h1;exact h1,h2,h3⟩
theorem ZfU{l:List api_Track}(hl:l.length≤50)(i:api_Instrument):QA l i=some (ZaH id (-1) (tkI l i.Track)):=by
  have h:loop (t1 (Zk l (fun z0=>XI z0 i))) 0=some (ZaH Sum.inl (Sum.inr ()) (tkI l i.Track)):=by
    refine Jo (xs:=l) (body:=Zk l _) _ _ _ (fun k x hx=> ?_) (by simp [Zk])
    have hlt:=Zaa hx
    have e1:i64 ((k:Int)+1)=(k:Int)+1:=Zht (n:=l.length) (by omega) (by omega)
    simp only [Zk,hlt,decide_true,if_true,Z1 hx,Option.bind_some,e1,XI]
    cases decide (x.Name=i.Track)<;>rfl
  unfold QA Zz
  rw [h]
  cases tkI l i.Track<;>rfl
theorem Zku{l:List api_Track}(hl:l.length≤50)(nm:Str):Zct l nm=some (ZaH (fun x=>(x,true)) (api_Track.mk [] (api_Series.mk 0 []) 0,false) (tkT l nm)):=by
  have h:loop (t1 (ZaI l nm)) 0=some (ZaH (fun x=>Sum.inl (x,true)) (Sum.inr ()) (tkT l nm)):=by
    refine Jo (xs:=l) (body:=ZaI l nm) _ _ _ (fun k x hx=> ?_) (by simp [ZaI])
    have hlt:=Zaa hx
    have e1:i64 ((k:Int)+1)=(k:Int)+1:=Zht (n:=l.length) (by omega) (by omega)
    simp only [ZaI,hlt,decide_true,if_true,Z1 hx,Option.bind_some,e1]
    cases decide (x.Name=nm)<;>rfl
  unfold Zct
  rw [h]
  cases tkT l nm<;>rfl
theorem Zfi{l:List api_Track}(h:ckT l=0):l.length≤50:=by
  unfold ckT at h
  split at h
  · cases h
  · omega
def ZjU(l:List api_Track)(i:api_Instrument):Bool:=(tkT l i.Track).isNone
def ZaE(p:api_Panel)(l:List api_Track):Int:=if ZgN p≠0 then ZgN p else if ckT l≠0 then ckT l else if p.Instruments.any (ZjU l)=true then 4 else 0
theorem Zlg(p:api_Panel)(l:List api_Track):XC p l=some (ZaE p l):=by
  unfold XC ZaE
  rw [ZkF,Zji]
  simp only [Option.bind_some]
  by_cases h0:ZgN p=0
  · by_cases h1:ckT l=0
    · have hl:=Zfi h1
      have hp:=Zcn h0
      have hc:Zh p.Instruments (fun z0=>Q4 z0 l)=some (p.Instruments.any (ZjU l)):=by
        refine Zjy (by omega) fun x=> ?_
        unfold Q4
        rw [ZfU hl,Option.bind_some]
        unfold ZjU
        rcases Zkz l x.Track with ⟨a,b⟩ | ⟨m,y,a,b,_⟩
        · rw [a,b];rfl
        · rw [a,b]
          have:decide (((m:Nat):Int)<0)=false:=decide_eq_false (by omega)
          show some (decide (((m:Nat):Int)<0))=_
          rw [this];rfl
      rw [hc]
      cases p.Instruments.any (ZjU l)<;>simp [h0,h1]
    · simp [h0,h1]
  · simp [h0]
end Go.Vx

namespace Go.Vx
open Go Go.RowKit
theorem ZbR{α:Type}{l:List α}(h:l.length≤4294967296):JX l=some l:=by unfold JX;rw [ZfC (by simpa using h)];rfl
def shk(l:List Int)(k:Nat):List Int:=(l.drop 1).take k++l.drop k
theorem ZjH{l:List Int}{k:Nat}(h:k+1≤l.length):(shk l k).length=l.length:=by
  unfold shk
  rw [List.length_append,List.length_take,List.length_drop,List.length_drop];omega
theorem Zjx{l:List Int}{k j:Nat}(h:k+1≤l.length)(hj:k≤j):(shk l k)[j]?=l[j]?:=by
  unfold shk
  have e:((l.drop 1).take k).length=k:=by rw [List.length_take,List.length_drop];omega
  rw [List.getElem?_append_right (by omega),e,List.getElem?_drop]
  congr 1;omega
theorem Zlc{l:List Int}{k:Nat}{x:Int}(h:k+2≤l.length)(hx:l[k+1]?=some x):(shk l k).set k x=shk l (k+1):=by
  unfold shk
  have e:((l.drop 1).take k).length=k:=by rw [List.length_take,List.length_drop];omega
  rw [List.set_append_right _ _ (by omega),e,Nat.sub_self]
  have h1:k<l.length:=by omega
  rw [List.drop_eq_getElem_cons h1,List.set_cons_zero]
  have h2:(l.drop 1)[k]?=some x:=by rw [List.getElem?_drop,Nat.add_comm];exact hx
  rw [List.take_add_one,h2]
  simp
theorem Zjk{l:List Int}(h0:1≤l.length)(hl:l.length≤1000):loop (t2 QK) (l,0)=some (shk l (l.length-1)):=by
  refine ZcK (body:=t2 QK) (fun p=> ∃ k:Nat,p=(shk l k,(k:Int))∧k+1≤l.length) (fun p=>l.length-p.2.toNat) (fun _=>shk l (l.length-1)) ?_ (l,0) ⟨0,by simp [shk],h0⟩
  rintro⟨o,i⟩ ⟨k,he,hk⟩
  obtain⟨rfl,rfl⟩:=Prod.mk.inj he
  simp only [Zfe]
  have hlen:=ZjH hk
  have e2:i64 ((k:Int)+2)=(k:Int)+2:=ZA (by omega) (by omega)
  have e1:i64 ((k:Int)+1)=(k:Int)+1:=ZA (by omega) (by omega)
  by_cases h:k+2≤l.length
  · obtain⟨x,hx⟩:=XN (xs:=l) (k:=k+1) (by omega)
    obtain⟨y,hy⟩:=XN (xs:=l) (k:=k) (by omega)
    have hlt:decide ((k:Int)+2≤((shk l k).length:Int))=true:=decide_eq_true (by rw [hlen];omega)
    have hs:slp (shk l k) (k:Int) ((k:Int)+2)=some ():=by
      unfold slp
      have a:decide ((0:Int)≤k)=true:=decide_eq_true (by omega)
      have b:decide ((k:Int)<(k:Int)+2)=true:=decide_eq_true (by omega)
      rw [a,b,hlt];rfl
    have hc:ck (decide (2≤Int.toNat ((k:Int)+2-(k:Int))))=some ():=by
      have:Int.toNat ((k:Int)+2-(k:Int))=2:=by omega
      rw [this];rfl
    have ix1:idx (shk l k) ((k:Int)+1)=some x:=by
      have:=Z1 (xs:=shk l k) (k:=k+1) (x:=x) (by rw [Zjx hk (by omega)];exact hx)
      exact this
    have ix0:idx (shk l k) ((k:Int)+0)=some y:=by
      rw [Int.add_zero];exact Z1 (by rw [Zjx hk (Nat.le_refl _)];exact hy)
    have hst:(shk l k).set (((k:Int)+0).toNat) x=shk l (k+1):=by
      rw [Int.add_zero,Int.toNat_natCast];exact Zlc h hx
    left
    refine⟨(shk l (k+1),(k:Int)+1),?_,⟨k+1,rfl,by omega⟩,?_,trivial⟩
    · simp only [QK,e2,hlt,if_true,hs,Option.bind_some,hc,ix1,ix0,hst,e1]
      rfl
    · simp only;omega
  · right
    have hlt:decide ((k:Int)+2≤((shk l k).length:Int))=false:=decide_eq_false (by rw [hlen];omega)
    obtain rfl:k=l.length-1:=by omega
    simp only [QK,e2,hlt,Bool.false_eq_true,if_false]
def shV(tape:List Int)(size n:Int):List Int:=if((tape.length+1:Nat):Int)≤size then tape++ [n] else(tape++ [n]).drop 1
theorem ZjQ{tape:List Int}(ht:tape.length≤100)(size n:Int):Jr tape size n=some (shV tape size n):=by
  unfold Jr shV
  have hl:(tape++ [n]).length=tape.length+1:=by simp
  rw [ZbR (by omega),Option.bind_some,ZfC (by simp;omega),Option.bind_some,hl]
  by_cases h:((tape.length+1:Nat):Int)≤size
  · simp only [h,decide_true,if_true]
  · simp only [h,decide_false,Bool.false_eq_true,if_false]
    rw [Zjk (by omega) (by omega),hl,Nat.add_sub_cancel]
    have hk:=ZjH (l:=tape++ [n]) (k:=tape.length) (by omega)
    simp only [Option.bind_some,ZdI,hk,hl]
    have e:i64 (((tape.length+1:Nat):Int)-1)=(tape.length:Int):=by
      rw [show(((tape.length+1:Nat):Int)-1)=(tape.length:Int) by omega];exact ZA (by omega) (by omega)
    rw [e,Zlf (by omega),Option.bind_some]
    congr 1
    unfold shk
    have e2:((tape++ [n]).drop 1).length=tape.length:=by rw [List.length_drop];omega
    rw [List.take_append,List.length_take,e2,Nat.min_self,Nat.sub_self,List.take_zero,List.append_nil,List.take_take,Nat.min_self]
    exact List.take_of_length_le (by omega)
end Go.Vx

namespace Go.Vx
open Go Go.RowKit
def ZhX(op a b:Int):Bool:=if op=1 then decide (a<b) else if op=2 then decide (a≤b) else if op=3 then decide (a=b) else if op=4 then !decide (a=b) else if op=5 then decide (b≤a) else decide (b<a)
theorem ZkO(op a b:Int):Zaq op a b=some (ZhX op a b):=by
  unfold Zaq ZhX
  by_cases h1:op=1
  · simp [h1]
  · by_cases h2:op=2
    · simp [h2]
    · by_cases h3:op=3
      · simp [h3]
      · by_cases h4:op=4
        · simp [h4]
        · by_cases h5:op=5
          · simp [h5]
          · simp [h1,h2,h3,h4,h5]
def isV(i:api_Instrument)(n:Int)(known:Bool):Bool:=(known&&(decide (i.Kind=3) || decide (i.Kind=5)))&&ZhX i.Op n i.N
def ZhT(i:api_Instrument)(m:api_Memo)(n:Int)(known:Bool):api_Memo:=
  if i.Kind=3 then api_Memo.mk (isV i n known || (i.Latch&&m.Lit)) m.Some m.N m.Count m.Tape
  else if i.Kind=5 then(if(isV i n known&& !m.Lit)=true then api_Memo.mk (isV i n known) m.Some m.N (i64 (m.Count+1)) m.Tape else api_Memo.mk (isV i n known) m.Some m.N m.Count m.Tape)
  else if(decide (i.Kind=4)&&known)=true then api_Memo.mk m.Lit true (if m.Some=true then max n m.N else n) m.Count m.Tape
  else if(decide (i.Kind=6)&&known)=true then api_Memo.mk m.Lit m.Some m.N m.Count (shV m.Tape i.Size n) else m
theorem Zmo(i:api_Instrument)(m:api_Memo)(n:Int)(known:Bool)(ht:m.Tape.length≤100):QH i m n known=some (ZhT i m n known):=by
  unfold QH ZhT
  rw [ZkO,Zlx,ZjQ ht]
  simp only [Option.bind_some]
  have e:((known&&(decide (i.Kind=3) || decide (i.Kind=5)))&&((known&&(decide (i.Kind=3) || decide (i.Kind=5)))==true&&ZhX i.Op n i.N))=isV i n known:=by
    unfold isV
    cases (known&&(decide (i.Kind=3) || decide (i.Kind=5)))<;>simp
  simp only [e]
  by_cases h3:i.Kind=3
  · simp [h3]
  · by_cases h5:i.Kind=5
    · simp only [h5,decide_true,if_true]
      cases isV i n known<;>cases m.Lit<;>simp
    · by_cases h4:i.Kind=4
      · cases known<;>cases m.Some<;>simp [h4]
      · by_cases h6:i.Kind=6
        · cases known<;>simp [h6]
        · simp [h3,h4,h5,h6]
def Zlb(i:api_Instrument)(m:api_Memo):Bool:=
  ((((m.Lit&&(!((decide (i.Kind=3)) || (decide (i.Kind=5))))) || ((m.Some || (!decide (m.N=0)))&&(!(decide (i.Kind=4))))) || ((!decide (m.Count=0))&&(!(decide (i.Kind=5))))) || ((decide (0<(m.Tape.length:Int)))&&(!(decide (i.Kind=6))))) || ((!decide (m.N=0))&&(!m.Some))
def ZjB(i:api_Instrument)(m:api_Memo):Int:=
  if Zlb i m=true then 2 else if(!wi m.Count 0 20000 || !nb50 m.N)=true then 9 else if i.Size<(m.Tape.length:Int) then 3 else if m.Tape.any (fun z=> !nb50 z)=true then 9 else 0
structure MemoOK (i:api_Instrument) (m:api_Memo):Prop where
  lit:m.Lit=true→i.Kind=3∨i.Kind=5
  some:m.Some=true→i.Kind=4
  num:m.N≠0→i.Kind=4∧m.Some=true
  cnt:m.Count≠0→i.Kind=5
  tape:0<m.Tape.length→i.Kind=6
  cr:0≤m.Count∧m.Count≤20000
  nr:nb50 m.N=true
  len:(m.Tape.length:Int)≤i.Size
  all: ∀ z∈m.Tape,nb50 z=true
theorem ZjD{i:api_Instrument}{m:api_Memo}:ZjB i m=0↔MemoOK i m:=by
  unfold ZjB
  constructor
  · intro h
    split at h
    · cases h
    rename_i hb
    split at h
    · cases h
    rename_i hc
    split at h
    · cases h
    rename_i hl
    split at h
    · cases h
    rename_i ha
    simp only [Zlb,Bool.or_eq_true,Bool.and_eq_true,Bool.not_eq_true',Bool.or_eq_false_iff,decide_eq_true_eq,decide_eq_false_iff_not,not_or,not_and,Classical.not_not,Bool.not_eq_false] at hb hc ha
    obtain⟨⟨⟨⟨b1,b2⟩,b3⟩,b4⟩,b5⟩:=hb
    obtain⟨c1,c2⟩:=hc
    refine⟨fun h=> ?_,fun h=>b2 (.inl h),fun h=>⟨b2 (.inr h),b5 h⟩,fun h=>b3 h,fun h=>b4 (by omega),Xx.1 c1,c2,by omega,fun z hz=> ?_⟩
    · have:=b1 h
      by_cases h3:i.Kind=3
      · exact .inl h3
      · exact .inr (this h3)
    · have:=ha
      simp only [List.any_eq_true,not_exists,not_and,Bool.not_eq_true',Bool.not_eq_false] at this
      exact this z hz
  · intro h
    have hb:Zlb i m=false:=by
      simp only [Zlb,Bool.or_eq_false_iff,Bool.and_eq_false_iff,Bool.not_eq_false',Bool.or_eq_true,decide_eq_true_eq,decide_eq_false_iff_not]
      refine⟨⟨⟨⟨?_,?_⟩,?_⟩,?_⟩,?_⟩
      · cases hl:m.Lit with
        |false=>exact .inl rfl
        |true=>exact .inr (h.lit hl)
      · by_cases h4:i.Kind=4
        · exact .inr h4
        · left
          constructor
          · cases hs:m.Some with
            |false=>rfl
            |true=>exact absurd (h.some hs) h4
          · by_cases hn:m.N=0
            · exact hn
            · exact absurd (h.num hn).1 h4
      · by_cases hc:m.Count=0
        · exact .inl hc
        · exact .inr (h.cnt hc)
      · by_cases ht:0<m.Tape.length
        · exact .inr (h.tape ht)
        · left;omega
      · by_cases hn:m.N=0
        · exact .inl hn
        · exact .inr (h.num hn).2
    have hc:(!wi m.Count 0 20000 || !nb50 m.N)=false:=by rw [Xx.2 h.cr,h.nr];rfl
    have ha:m.Tape.any (fun z=> !nb50 z)=false:=by
      rw [List.any_eq_false];intro z hz;rw [h.all z hz];simp
    have hl:=h.len
    rw [if_neg (by rw [hb];simp),if_neg (by rw [hc];simp),if_neg (by omega),if_neg (by rw [ha];simp)]
theorem Zmg{tape:List Int}{size n:Int}(hs:1≤size)(hl:(tape.length:Int)≤size)(ha: ∀ z∈tape,nb50 z=true)(hn:nb50 n=true):((shV tape size n).length:Int)≤size∧ ∀ z∈shV tape size n,nb50 z=true:=by
  have hall: ∀ z∈tape++ [n],nb50 z=true:=fun z hz=>by
    rcases List.mem_append.1 hz with h |h
    · exact ha z h
    · rw [List.mem_singleton] at h;subst h;exact hn
  unfold shV
  split
  · rename_i h
    exact⟨by simp;omega,hall⟩
  · exact⟨by simp;omega,fun z hz=>hall z (List.mem_of_mem_drop hz)⟩
theorem Zmh{i:api_Instrument}{m:api_Memo}(hm:MemoOK i m)(h6:i.Kind=6→1≤i.Size){n:Int}(hn:nb50 n=true)(known:Bool)(hc:m.Count≠20000):MemoOK i (ZhT i m n known):=by
  have hcr:=hm.cr
  unfold ZhT
  split
  · rename_i k3
    exact⟨fun _=> .inl k3,hm.some,hm.num,hm.cnt,hm.tape,hm.cr,hm.nr,hm.len,hm.all⟩
  · split
    · rename_i k5
      have e:i64 (m.Count+1)=m.Count+1:=ZA (by omega) (by omega)
      split
      · exact⟨fun _=> .inr k5,hm.some,hm.num,fun _=>k5,hm.tape,by rw [e];exact⟨by simp only;omega,by simp only;omega⟩,hm.nr,hm.len,hm.all⟩
      · exact⟨fun _=> .inr k5,hm.some,hm.num,fun _=>k5,hm.tape,hm.cr,hm.nr,hm.len,hm.all⟩
    · split
      · rename_i k
        simp only [Bool.and_eq_true,decide_eq_true_eq] at k
        refine⟨hm.lit,fun _=>k.1,fun _=>⟨k.1,rfl⟩,hm.cnt,hm.tape,hm.cr,?_,hm.len,hm.all⟩
        show nb50 (if m.Some=true then max n m.N else n)=true
        split
        · have h1:=Xx.1 hn
          have h2:=Xx.1 hm.nr
          refine Xx.2 ⟨by omega,by omega⟩
        · exact hn
      · split
        · rename_i k
          simp only [Bool.and_eq_true,decide_eq_true_eq] at k
          obtain⟨s1,s2⟩:=Zmg (h6 k.1) hm.len hm.all hn
          exact⟨hm.lit,hm.some,hm.num,hm.cnt,fun _=>k.1,hm.cr,hm.nr,s1,s2⟩
        · exact hm
end Go.Vx

namespace Go.Vx
open Go Go.RowKit
def stG(p:api_Panel)(k:Nat)(m:api_Memo):Option Int:=match p.Instruments[k]? with |some i=>if ZjB i m≠0 then some (ZjB i m) else none |none=>none
def stateV(p:api_Panel)(s:api_PanelState):Int:=
  if wi s.Frame (-1) 19999=false then 9 else if ¬(s.Memos.length:Int)=(p.Instruments.length:Int) then 2 else ZaH id 0 (Qt (stG p) 0 s.Memos)
theorem Zey{α ε:Type}{g:Nat→α→Option ε}: ∀ (k:Nat) (xs:List α),(∀ (j:Nat) x,xs[j]?=some x→g (k+j) x=none)→Qt g k xs=none
  |_,[],_=>rfl
  |k,x::tl,h=>by
    simp only [Qt]
    have h0:=h 0 x rfl
    rw [Nat.add_zero] at h0
    rw [h0]
    exact Zey (k+1) tl fun j y hy=>by
      have:=h (j+1) y (by simpa using hy)
      rwa [show k+(j+1)=k+1+j by omega] at this
theorem Zcm{p:api_Panel}{s:api_PanelState}:stateV p s=0↔((-1≤s.Frame∧s.Frame≤19999)∧s.Memos.length=p.Instruments.length∧ ∀ (k:Nat) i m,p.Instruments[k]?=some i→s.Memos[k]?=some m→MemoOK i m):=by
  unfold stateV
  constructor
  · intro h
    split at h
    · cases h
    rename_i hf
    split at h
    · cases h
    rename_i hl
    have hl':s.Memos.length=p.Instruments.length:=by omega
    refine⟨Xx.1 (by simpa using hf),hl',fun k i m hi hm=> ?_⟩
    have hnone:Qt (stG p) 0 s.Memos=none:=by
      cases hh:Qt (stG p) 0 s.Memos with
      |none=>rfl
      |some e=>
        exfalso
        rw [hh] at h
        have he:e=0:=h
        subst he
        have key: ∀ (k:Nat) (xs:List api_Memo),Qt (stG p) k xs≠some 0:=by
          intro k xs
          induction xs generalizing k with
          |nil=>intro e;cases e
          |cons x tl ih=>
            intro e
            simp only [Qt] at e
            cases hg:stG p k x with
            |none=>rw [hg] at e;exact ih _ e
            |some v=>
              rw [hg] at e
              cases e
              unfold stG at hg
              split at hg
              · split at hg
                · rename_i h0;exact h0 (Option.some.inj hg)
                · cases hg
              · cases hg
        exact key 0 _ hh
    have:=Zdu 0 s.Memos hnone k m hm
    rw [Nat.zero_add] at this
    unfold stG at this
    rw [hi] at this
    simp only at this
    split at this
    · cases this
    · rename_i h0;exact ZjD.1 (by omega)
  · rintro⟨hf,hl,h⟩
    rw [if_neg (by rw [Xx.2 hf];simp),if_neg (by omega)]
    rw [Zey 0 s.Memos fun j m hm=> ?_]
    · rfl
    · rw [Nat.zero_add]
      obtain⟨i,hi⟩:=XN (xs:=p.Instruments) (k:=j) (by have:=(List.getElem?_eq_some_iff.1 hm).1;omega)
      unfold stG
      rw [hi]
      simp only
      rw [if_neg (by simp [ZjD.2 (h j i m hi hm)])]
theorem ZaV{p:api_Panel}(h:ZgN p=0){i:api_Instrument}(hi:i∈p.Instruments):ZaX i=0:=by
  unfold ZgN at h
  split at h
  · cases h
  · obtain⟨j,hj⟩:=List.mem_iff_getElem?.1 hi
    cases hf:Qt (Zil p.Instruments) 0 p.Instruments with
    |none=>
      have:=Zdu 0 _ hf j i hj
      unfold Zil at this
      split at this
      · cases this
      · rename_i h0;omega
    |some e=>
      rw [hf] at h
      have he:e=0:=h
      subst he
      exfalso
      have key: ∀ (k:Nat) (xs:List api_Instrument),Qt (Zil p.Instruments) k xs≠some 0:=by
        intro k xs
        induction xs generalizing k with
        |nil=>intro e;cases e
        |cons x tl ih=>
          intro e
          simp only [Qt] at e
          cases hg:Zil p.Instruments k x with
          |none=>rw [hg] at e;exact ih _ e
          |some v=>
            rw [hg] at e
            cases e
            unfold Zil at hg
            split at hg
            · rename_i h0;exact h0 (Option.some.inj hg)
            · split at hg<;>cases hg
      exact key 0 _ hf
theorem ZfR{i:api_Instrument}(h:ZaX i=0):(i.Kind=6→1≤i.Size)∧i.Size≤50:=by
  unfold ZaX at h
  split at h
  · cases h
  split at h
  · cases h
  split at h
  · cases h
  rename_i hu
  split at h
  · cases h
  by_cases h6:i.Kind=6
  · rw [if_neg (by omega),if_neg (by omega),if_pos h6] at h
    split at h
    · cases h
    · rename_i hs
      have:=Xx.1 (show wi i.Size 1 50=true by simpa using hs)
      exact⟨fun _=>this.1,this.2⟩
  · refine⟨fun e=>absurd e h6,?_⟩
    have:i.Size=0:=by
      have hu:unV i=false:=by simpa using hu
      unfold unV at hu
      simp only [Bool.or_eq_false_iff] at hu
      have h1:=hu.2
      simp only [h6,decide_false,Bool.not_false,Bool.and_true,Bool.not_eq_false',decide_eq_true_eq] at h1
      exact h1
    omega
end Go.Vx

namespace Go.Vx
open Go Go.RowKit
theorem Zlk{xs:List Smp}{t long:Int}{x:Smp}(h:Zak xs t long=some x): ∃ k:Nat,xs[k]?=some x:=by
  simp only [Zak,Option.bind_eq_some_iff] at h
  obtain⟨y,h1,h2⟩:=h
  split at h2
  · cases h2
    unfold ZeA at h1
    split at h1
    · cases h1
    · exact⟨_,h1⟩
  · cases h2
theorem Zjc{t:api_Track}(hc:(chk t.Series).2=0)(f:Int):nb50 (vV t f).1.N=true:=by
  have hs:=Zea hc
  unfold vV
  cases hh:Zak t.Series.Samples (64*f+63) t.Long with
  |none=>simp only [Zep];decide
  |some x=>
    obtain⟨k,hk⟩:=Zlk hh
    exact Xx.2 (hs.at' k x hk).2.1
def nxt(p:api_Panel)(l:List api_Track)(s:api_PanelState)(k:Nat):api_Memo:=
  match p.Instruments[k]?,s.Memos[k]? with
  |some i,some m=>match tkT l i.Track with
    |some t=>ZhT i m (vV t (s.Frame+1)).1.N (vV t (s.Frame+1)).2
    |none=>m
  |_,_=>api_Memo.mk false false 0 0 []
theorem Zat{p:api_Panel}{l:List api_Track}(h:ZaE p l=0):ZgN p=0∧ckT l=0∧ ∀ i∈p.Instruments,∃ (m:Nat) (t:api_Track),tkI l i.Track=some (m:Int)∧tkT l i.Track=some t∧l[m]?=some t:=by
  unfold ZaE at h
  split at h
  · rename_i h';exact absurd h h'
  rename_i h1
  split at h
  · rename_i h';exact absurd h h'
  rename_i h2
  split at h
  · cases h
  rename_i h3
  refine⟨by omega,by omega,fun i hi=> ?_⟩
  have h3:p.Instruments.any (ZjU l)=false:=by simpa using h3
  rw [List.any_eq_false] at h3
  have hno:=h3 i hi
  rcases Zkz l i.Track with ⟨_,b⟩ |h
  · exact absurd (by unfold ZjU;rw [b];rfl) hno
  · exact h
theorem ZfB{i:api_Instrument}{m:api_Memo}(hm:MemoOK i m)(hi:ZaX i=0):m.Tape.length≤100:=by
  have:=hm.len;have:=(ZfR hi).2;omega
theorem Zj0{p:api_Panel}{l:List api_Track}{s:api_PanelState}(hb:ZaE p l=0)(hs:stateV p s=0)(hf:s.Frame≠19999):
    Xk p l s=some (api_PanelState.mk (s.Frame+1) ((List.range p.Instruments.length).map (nxt p l s))):=by
  obtain⟨b1,b2,b3⟩:=Zat hb
  obtain⟨s1,s2,s3⟩:=Zcm.1 hs
  have hp:=Zcn b1
  have hl:=Zfi b2
  have e0:i64 (s.Frame+1)=s.Frame+1:=ZA (by omega) (by omega)
  have h:loop (t2 (QS p l s)) ([],0)=some ((List.range p.Instruments.length).map (nxt p l s)):=by
    refine ZaN (xs:=p.Instruments) (body:=QS p l s) (fun a k=>a=(List.range k).map (nxt p l s)) (fun _ _=>(List.range p.Instruments.length).map (nxt p l s)) (fun a k i ha hi=> ?_) (fun a ha=> ?_) (by simp)
    · have hlt:=Zaa hi
      have him:=List.mem_of_getElem? hi
      obtain⟨j,t,t1',t2',t3'⟩:=b3 i him
      obtain⟨m,hm⟩:=XN (xs:=s.Memos) (k:=k) (by omega)
      have hmo:=s3 k i m hi hm
      have hin:=ZaV b1 him
      have htl:=ZfB hmo hin
      obtain⟨c1,c2⟩:=ZfT b2 (List.mem_of_getElem? t3')
      have e1:i64 ((k:Int)+1)=(k:Int)+1:=ZA (by omega) (by omega)
      have a1:QA l i=some (j:Int):=by rw [ZfU hl,t1'];rfl
      have a2:=(Zl4 c1 c2 (frame:=s.Frame+1) (by omega) (by omega)).1
      have hn:nxt p l s k=ZhT i m (vV t (s.Frame+1)).1.N (vV t (s.Frame+1)).2:=by
        unfold nxt;rw [hi,hm];simp only;rw [t2']
      have hal:a.length=k:=by rw [ha];simp
      left
      refine⟨a++ [nxt p l s k],?_,?_,rfl⟩
      · simp only [QS,hlt,decide_true,if_true,Z1 hi,Option.bind_some,a1,Z1 t3',e0,a2,Z1 hm,ZbR (show m.Tape.length≤4294967296 by omega)]
        rw [Zmo i (api_Memo.mk m.Lit m.Some m.N m.Count m.Tape) _ _ htl]
        simp only [Option.bind_some]
        rw [show api_Memo.mk m.Lit m.Some m.N m.Count m.Tape=m from rfl,←hn,ZfC (by simp;omega)]
        simp only [Option.bind_some,e1]
      · rw [ha,List.range_succ,List.map_append];rfl
    · rw [ha];simp [QS]
  unfold Xk
  rw [h]
  simp only [Option.bind_some,ZdI,e0]
end Go.Vx

namespace Go.Vx
open Go Go.RowKit
end Go.Vx

namespace Go.Vx
open Go Go.RowKit
theorem Zj2{xs:List Str}(h:xs≠ [])(y sep:Str):Go.Lib.join (xs++ [y]) sep=Go.Lib.join xs sep++(sep++y):=by
  cases xs with
  |nil=>exact absurd rfl h
  |cons a r=>
    rw [List.cons_append,Go.Lib.join_cons,Go.Lib.join_cons]
    simp [Go.Lib.joinTail,List.append_assoc]
noncomputable def dgV(den pl z:Int):Str:=(Q6 z den pl).getD []
theorem Zjb{den pl z:Int}(hd:1≤den∧den≤1000000)(hp:0≤pl∧pl≤6)(hz:nb50 z=true):Q6 z den pl=some (dgV den pl z)∧XR z den pl=some (dgV den pl z)∧(dgV den pl z).length≤41:=by
  obtain⟨z1,z2⟩:=Xx.1 hz
  obtain⟨s,h1,h2,h3⟩:=Zkj z1 z2 hd.1 hd.2 hp.1 hp.2
  have e:dgV den pl z=s:=by unfold dgV;rw [h1];rfl
  rw [e];exact⟨h1,h2,h3⟩
noncomputable def tpV(den pl:Int)(tape:List Int)(k:Nat):Str:=if k=0 then [45,45,45] else Go.Lib.join ((tape.take k).map (dgV den pl)) [32]
theorem ZhG{α:Type}{l:List α}{k:Nat}{x:α}(h:l[k]?=some x):l.take (k+1)=l.take k++ [x]:=by rw [List.take_add_one,h];rfl
theorem ZiG{den pl:Int}{tape:List Int}{k:Nat}{x:Int}(hx:tape[k]?=some x):tpV den pl tape (k+1)=if k=0 then dgV den pl x else tpV den pl tape k++([32]++dgV den pl x):=by
  unfold tpV
  rw [if_neg (by omega),ZhG hx,List.map_append]
  by_cases h:k=0
  · subst h;simp [Go.Lib.join_one]
  · have hk:=(List.getElem?_eq_some_iff.1 hx).1
    rw [if_neg h,if_neg h]
    exact Zj2 (by
      intro e
      have:=congrArg List.length e
      simp at this
      rcases this with h1 |h1
      · exact h h1
      · subst h1;simp at hk) _ _
theorem Zh4{den pl:Int}(hd:1≤den∧den≤1000000)(hp:0≤pl∧pl≤6){tape:List Int}(ha: ∀ z∈tape,nb50 z=true): ∀ (k:Nat),k≤tape.length→(tpV den pl tape k).length≤3+42*k
  |0,_=>by simp [tpV]
  |k+1,h=>by
    obtain⟨x,hx⟩:=XN (xs:=tape) (k:=k) (by omega)
    have ih:=Zh4 hd hp ha k (by omega)
    have hl:=(Zjb hd hp (ha x (List.mem_of_getElem? hx))).2.2
    rw [ZiG hx]
    split
    · omega
    · simp only [List.length_append,List.length_cons,List.length_nil];omega
theorem ZlH{i:api_Instrument}{m:api_Memo}{den:Int}(hd:1≤den∧den≤1000000)(hp:0≤i.Places∧i.Places≤6)(ha: ∀ z∈m.Tape,nb50 z=true)(hl:m.Tape.length≤100):
    loop (t2 (XS i m den)) ([],0)=some (m.Tape.map (dgV den i.Places)):=by
  refine ZaN (xs:=m.Tape) (body:=XS i m den) (fun a k=>a=(m.Tape.take k).map (dgV den i.Places)) (fun _ _=>m.Tape.map (dgV den i.Places)) (fun a k x hA hx=> ?_) (fun a hA=> ?_) (by simp)
  · have hlt:=Zaa hx
    have e1:i64 ((k:Int)+1)=(k:Int)+1:=ZA (by omega) (by omega)
    have hdg:=(Zjb hd hp (ha x (List.mem_of_getElem? hx))).1
    have hal:a.length≤100:=by rw [hA,List.length_map,List.length_take];omega
    left
    refine⟨a++ [dgV den i.Places x],?_,?_,rfl⟩
    · simp only [XS,hlt,decide_true,if_true,Z1 hx,Option.bind_some,hdg,ZfC (show a.length+ [dgV den i.Places x].length≤4294967296 by simp;omega),e1]
    · rw [hA,ZhG hx,List.map_append];rfl
  · rw [hA];simp [XS]
theorem ZlA{i:api_Instrument}{m:api_Memo}{den mk:Int}(hd:1≤den∧den≤1000000)(hp:0≤i.Places∧i.Places≤6)(ha: ∀ z∈m.Tape,nb50 z=true)(hl:m.Tape.length≤100):
    loop (t2 (ZaD i den m mk)) ([45,45,45],0)=some (api_Face.mk (tpV den i.Places m.Tape m.Tape.length) 0 false mk):=by
  refine ZaN (xs:=m.Tape) (body:=ZaD i den m mk) (fun a k=>a=tpV den i.Places m.Tape k∧k≤m.Tape.length) (fun _ _=>api_Face.mk (tpV den i.Places m.Tape m.Tape.length) 0 false mk) (fun a k x hA hx=> ?_) (fun a hA=> ?_) ⟨rfl,Nat.zero_le _⟩
  · have hlt:=Zaa hx
    have e1:i64 ((k:Int)+1)=(k:Int)+1:=ZA (by omega) (by omega)
    obtain⟨_,hdg,hdl⟩:=Zjb hd hp (ha x (List.mem_of_getElem? hx))
    have htl:=Zh4 hd hp ha k hA.2
    left
    refine⟨tpV den i.Places m.Tape (k+1),?_,⟨rfl,by omega⟩,rfl⟩
    rw [ZiG hx]
    by_cases h:k=0
    · subst h
      simp [ZaD,show(0:Nat)<m.Tape.length by omega,Z1 hx,hdg,show idx m.Tape 0=some x from Z1 (k:=0) hx,ZA]
    · have h':decide ((k:Int)=0)=false:=decide_eq_false (by omega)
      have c1:cat [32] (dgV den i.Places x)=some ([32]++dgV den i.Places x):=ZfK (by simp;omega)
      have c2:cat a ([32]++dgV den i.Places x)=some (a++([32]++dgV den i.Places x)):=ZfK (by rw [hA.1];simp;omega)
      simp only [ZaD,hlt,decide_true,if_true,Z1 hx,Option.bind_some,h',Bool.false_eq_true,if_false,hdg,c1,c2,e1,if_neg h,hA.1]
      rw [hA.1] at c2
      have c3:cat (tpV den i.Places m.Tape k) (32::dgV den i.Places x)=some (tpV den i.Places m.Tape k++32::dgV den i.Places x):=c2
      simp [c3]
  · rw [hA.1];simp [ZaD]
end Go.Vx

namespace Go.Vx
open Go Go.RowKit
theorem Zdq{i:api_Instrument}(h:ZaX i=0):(1≤i.Kind∧i.Kind≤6)∧(0≤i.Places∧i.Places≤6)∧(i.Kind=2→DialOK i):=by
  have h0:=h
  unfold ZaX at h
  split at h
  · cases h
  rename_i hk
  split at h
  · cases h
  split at h
  · cases h
  split at h
  · cases h
  rename_i hp
  refine⟨Xx.1 (by simpa using hk),Xx.1 (by simpa using hp),fun h2=> ?_⟩
  exact(Zlv (n:=0) (by unfold ZkK;rw [if_neg (by omega),if_neg (by omega),if_neg (by decide)])).1
theorem Zko{i:api_Instrument}{m:api_Memo}(hi:ZaX i=0)(hm:MemoOK i m){den:Int}(hd:1≤den∧den≤1000000){x:api_Sample}{known:Bool}(hx:nb50 x.N=true)(hk:known=false→x.Mark=0):
    ∃ fc,XD i m den x known=some fc∧Zej i den m x known=some fc:=by
  obtain⟨⟨k1,k6⟩,hp,hdial⟩:=Zdq hi
  have hl:=ZfB hm hi
  have hmk:(if known=true then some x.Mark else some 0)=some x.Mark:=by
    cases known with
    |false=>simp [hk rfl]
    |true=>rfl
  have nlit:i.Kind≠3→i.Kind≠5→m.Lit=false:=fun h3 h5=>by
    cases h:m.Lit with
    |false=>rfl
    | true => rcases hm.lit h with e | e
              · exact absurd e h3
              · exact absurd e h5
  obtain⟨d1,d2,_⟩:=Zjb hd hp hx
  obtain⟨d3,d4,_⟩:=Zjb hd hp hm.nr
  unfold XD Zej
  rw [hmk]
  simp only [Option.bind_some,ZdI]
  have hK:i.Kind=1∨i.Kind=2∨i.Kind=3∨i.Kind=4∨i.Kind=5∨i.Kind=6:=by omega
  rcases hK with e |e |e |e |e |e
  · have:=nlit (by omega) (by omega)
    cases known
    · exact⟨_,by simp [e,this];rfl,by simp [e]⟩
    · exact⟨_,by simp [e,this,d1];rfl,by simp [e,d2]⟩
  · have:=nlit (by omega) (by omega)
    have hD:=hdial e
    have n1:=Zj1 hD (Xx.1 hx)
    have n2:Zgc i x.N=some (ndl i x.N):=n1
    obtain⟨s,z1,z2⟩:=ZmH hD.zones x.N
    cases known
    · exact⟨_,by simp [e,this];rfl,by simp [e]⟩
    · exact⟨_,by simp [e,this,n1,z1];rfl,by simp [e,n2,z2]⟩
  · cases h:m.Lit
    · cases known
      · exact⟨_,by simp [e,h];rfl,by simp [e,h]⟩
      · exact⟨_,by simp [e,h];rfl,by simp [e,h]⟩
    · exact⟨_,by simp [e,h];rfl,by simp [e,h]⟩
  · have:=nlit (by omega) (by omega)
    cases h:m.Some
    · exact⟨_,by simp [e,this,h];rfl,by simp [e,h]⟩
    · exact⟨_,by simp [e,this,h,d3];rfl,by simp [e,h,d4]⟩
  · obtain⟨d,hd',_,_⟩:=Zi5 (z:=m.Count) hm.cr.1 (by have:=hm.cr.2;omega)
    exact⟨_,by simp [e,hd'];rfl,by simp [e,hd']⟩
  · have:=nlit (by omega) (by omega)
    have p1:=ZlH (m:=m) (den:=den) hd hp hm.all hl
    have p2:=ZlA (m:=m) (den:=den) (mk:=x.Mark) hd hp hm.all hl
    have hlen:=Zh4 hd hp hm.all m.Tape.length (Nat.le_refl _)
    by_cases h0:m.Tape.length=0
    · have ht:m.Tape= []:=List.length_eq_zero_iff.1 h0
      refine⟨api_Face.mk [45,45,45] 0 false x.Mark,?_,?_⟩
      · simp [e,p1,ht,this]
      · simp [e,p2,ht,tpV]
    · have hj:Zg8 (m.Tape.map (dgV den i.Places)) [32]=some (tpV den i.Places m.Tape m.Tape.length):=by
        have et:tpV den i.Places m.Tape m.Tape.length=Go.Lib.join (m.Tape.map (dgV den i.Places)) [32]:=by unfold tpV;rw [if_neg h0,List.take_length]
        unfold Zg8
        rw [if_pos ⟨by simp;omega,by rw [←et];omega⟩,et]
      have hg:decide ((0:Int)<(m.Tape.length:Int))=true:=decide_eq_true (by omega)
      refine⟨api_Face.mk (tpV den i.Places m.Tape m.Tape.length) 0 false x.Mark,?_,?_⟩
      · simp only [e,p1,this,Option.bind_some,ZdI,List.length_map,hg,if_true,hj]
        simp
      · simp [e,p2]
end Go.Vx

namespace Go.Vx
open Go Go.RowKit
noncomputable def fcV(p:api_Panel)(l:List api_Track)(s:api_PanelState)(k:Nat):api_Face:=
  match p.Instruments[k]?,s.Memos[k]? with
  |some i,some m=>match tkT l i.Track with
    |some t=>(XD i m t.Series.Den (if 0≤s.Frame then(vV t s.Frame).1 else api_Sample.mk 0 0 0) (if 0≤s.Frame then(vV t s.Frame).2 else false)).getD (api_Face.mk [] 0 false 0)
    |none=>api_Face.mk [] 0 false 0
  |_,_=>api_Face.mk [] 0 false 0
theorem ZlG{t:api_Track}{f:Int}(h:(vV t f).2=false):(vV t f).1.Mark=0:=by
  unfold vV at h ⊢
  cases hh:Zak t.Series.Samples (64*f+63) t.Long with
  |none=>rfl
  |some x=>rw [hh] at h;simp only [Zep] at h;cases h
theorem ZlI{p:api_Panel}{l:List api_Track}{s:api_PanelState}(hb:ZaE p l=0)(hs:stateV p s=0):
    Zaf p l s=some ((List.range p.Instruments.length).map (fcV p l s))∧ZgO p l s=some ((List.range p.Instruments.length).map (fcV p l s)):=by
  obtain⟨b1,b2,b3⟩:=Zat hb
  obtain⟨s1,s2,s3⟩:=Zcm.1 hs
  have hp:=Zcn b1
  have hl:=Zfi b2
  have step: ∀ (k:Nat) i,p.Instruments[k]?=some i→ ∃ (j:Nat) (t:api_Track) (m:api_Memo) (x:api_Sample) (known:Bool),
      QA l i=some (j:Int)∧Zct l i.Track=some (t,true)∧l[j]?=some t∧s.Memos[k]?=some m∧
      (if decide (0≤s.Frame)=true then(Jd t s.Frame).bind fun y2=>some (y2.1,y2.2) else some (api_Sample.mk 0 0 0,false))=some (x,known)∧
      (if decide (0≤s.Frame)=true then(Zb3 t s.Frame).bind fun y2=>some (y2.1,y2.2) else some (api_Sample.mk 0 0 0,false))=some (x,known)∧
      XD i m t.Series.Den x known=some (fcV p l s k)∧Zej i t.Series.Den m x known=some (fcV p l s k):=fun k i hi=>by
    have him:=List.mem_of_getElem? hi
    obtain⟨j,t,t1',t2',t3'⟩:=b3 i him
    obtain⟨m,hm⟩:=XN (xs:=s.Memos) (k:=k) (by have:=(List.getElem?_eq_some_iff.1 hi).1;omega)
    have hmo:=s3 k i m hi hm
    have hin:=ZaV b1 him
    obtain⟨c1,c2⟩:=ZfT b2 (List.mem_of_getElem? t3')
    have hden:=(Zea c1).den
    have a1:QA l i=some (j:Int):=by rw [ZfU hl,t1'];rfl
    have a2:Zct l i.Track=some (t,true):=by rw [Zku hl,t2'];rfl
    by_cases hf:0≤s.Frame
    · obtain⟨v1,v2⟩:=Zl4 c1 c2 (frame:=s.Frame) hf (by omega)
      obtain⟨fc,f1,f2⟩:=Zko hin hmo hden (x:=(vV t s.Frame).1) (known:=(vV t s.Frame).2) (Zjc c1 _) ZlG
      have e:fcV p l s k=fc:=by unfold fcV;rw [hi,hm];simp only;rw [t2'];simp only [if_pos hf,f1,Option.getD_some]
      exact⟨j,t,m,_,_,a1,a2,t3',hm,by rw [if_pos (decide_eq_true hf),v1];rfl,by rw [if_pos (decide_eq_true hf),v2];rfl,by rw [e];exact f1,by rw [e];exact f2⟩
    · obtain⟨fc,f1,f2⟩:=Zko hin hmo hden (x:=api_Sample.mk 0 0 0) (known:=false) (by decide) (fun _=>rfl)
      have e:fcV p l s k=fc:=by unfold fcV;rw [hi,hm];simp only;rw [t2'];simp only [if_neg hf,f1,Option.getD_some]
      exact⟨j,t,m,_,_,a1,a2,t3',hm,by rw [if_neg (by simpa using hf)],by rw [if_neg (by simpa using hf)],by rw [e];exact f1,by rw [e];exact f2⟩
  constructor
  · have h:loop (t2 (Xy p l s)) ([],0)=some ((List.range p.Instruments.length).map (fcV p l s)):=by
      refine ZaN (xs:=p.Instruments) (body:=Xy p l s) (fun a k=>a=(List.range k).map (fcV p l s)) (fun _ _=>(List.range p.Instruments.length).map (fcV p l s)) (fun a k i ha hi=> ?_) (fun a ha=> ?_) (by simp)
      · have hlt:=Zaa hi
        obtain⟨j,t,m,x,known,a1,a2,a3,a4,a5,a6,a7,a8⟩:=step k i hi
        have e1:i64 ((k:Int)+1)=(k:Int)+1:=ZA (by omega) (by omega)
        have hal:a.length=k:=by rw [ha];simp
        left
        refine⟨a++ [fcV p l s k],?_,?_,rfl⟩
        · simp only [Xy,hlt,decide_true,if_true,Z1 hi,Option.bind_some,a1,Z1 a3,a5,Zfe,Z1 a4,a7,ZfC (show a.length+ [fcV p l s k].length≤4294967296 by simp;omega),e1]
        · rw [ha,List.range_succ,List.map_append];rfl
      · rw [ha];simp [Xy]
    unfold Zaf
    rw [h];rfl
  · have h:loop (t2 (ZaM p l s)) ([],0)=some ((List.range p.Instruments.length).map (fcV p l s)):=by
      refine ZaN (xs:=p.Instruments) (body:=ZaM p l s) (fun a k=>a=(List.range k).map (fcV p l s)) (fun _ _=>(List.range p.Instruments.length).map (fcV p l s)) (fun a k i ha hi=> ?_) (fun a ha=> ?_) (by simp)
      · have hlt:=Zaa hi
        obtain⟨j,t,m,x,known,a1,a2,a3,a4,a5,a6,a7,a8⟩:=step k i hi
        have e1:i64 ((k:Int)+1)=(k:Int)+1:=ZA (by omega) (by omega)
        have hal:a.length=k:=by rw [ha];simp
        left
        refine⟨a++ [fcV p l s k],?_,?_,rfl⟩
        · simp only [ZaM,hlt,decide_true,if_true,Z1 hi,Option.bind_some,a2,a6,Zfe,Z1 a4,a8,ZfC (show a.length+ [fcV p l s k].length≤4294967296 by simp;omega),e1]
        · rw [ha,List.range_succ,List.map_append];rfl
      · rw [ha];simp [ZaM]
    unfold ZgO
    rw [h];rfl
end Go.Vx

namespace Go.Vx
open Go Go.RowKit
def Zix(p:api_Panel)(l:List api_Track)(s:api_PanelState):api_PanelState:=api_PanelState.mk (s.Frame+1) ((List.range p.Instruments.length).map (nxt p l s))
structure Inv (p:api_Panel) (s:api_PanelState) (n:Nat):Prop where
  fr:s.Frame=(n:Int)-1
  ok:stateV p s=0
  cnt: ∀ m∈s.Memos,m.Count≤(n:Int)
theorem ZkG{i:api_Instrument}{m:api_Memo}(n:Int)(known:Bool)(h:0≤m.Count∧m.Count≤20000):(ZhT i m n known).Count≤m.Count+1:=by
  have e:i64 (m.Count+1)=m.Count+1:=ZA (by omega) (by omega)
  unfold ZhT
  split
  · simp only;omega
  · split
    · split
      · simp only [e];omega
      · simp only;omega
    · split
      · simp only;omega
      · split
        · simp only;omega
        · omega
theorem ZlU{p:api_Panel}{l:List api_Track}{s:api_PanelState}(hb:ZaE p l=0)(hs:stateV p s=0){k:Nat}{i:api_Instrument}(hi:p.Instruments[k]?=some i):
    ∃ m t,s.Memos[k]?=some m∧(chk t.Series).2=0∧MemoOK i m∧ZaX i=0∧nxt p l s k=ZhT i m (vV t (s.Frame+1)).1.N (vV t (s.Frame+1)).2:=by
  obtain⟨b1,b2,b3⟩:=Zat hb
  obtain⟨s1,s2,s3⟩:=Zcm.1 hs
  have him:=List.mem_of_getElem? hi
  obtain⟨j,t,t1',t2',t3'⟩:=b3 i him
  obtain⟨m,hm⟩:=XN (xs:=s.Memos) (k:=k) (by have:=(List.getElem?_eq_some_iff.1 hi).1;omega)
  exact⟨m,t,hm,(ZfT b2 (List.mem_of_getElem? t3')).1,s3 k i m hi hm,ZaV b1 him,by unfold nxt;rw [hi,hm];simp only;rw [t2']⟩
theorem Zly{p:api_Panel}{l:List api_Track}{s:api_PanelState}{n:Nat}(hb:ZaE p l=0)(h:Inv p s n)(hn:n≤19999):Inv p (Zix p l s) (n+1):=by
  have hf:=h.fr
  refine⟨by simp only [Zix,hf];omega,?_,?_⟩
  · refine Zcm.2 ⟨⟨by simp only [Zix,hf];omega,by simp only [Zix,hf];omega⟩,by simp [Zix],fun k i m' hi hm'=> ?_⟩
    obtain⟨m,t,hm,hc,hmo,hin,e⟩:=ZlU hb h.ok hi
    have hk:=(List.getElem?_eq_some_iff.1 hi).1
    have:m'=nxt p l s k:=by
      simp only [Zix,List.getElem?_map,List.getElem?_range hk,Option.map_some,Option.some.injEq] at hm'
      exact hm'.symm
    rw [this,e]
    have:=h.cnt m (List.mem_of_getElem? hm)
    exact Zmh hmo (ZfR hin).1 (Zjc hc _) _ (by omega)
  · intro m' hm'
    simp only [Zix,List.mem_map,List.mem_range] at hm'
    obtain⟨k,hk,rfl⟩:=hm'
    obtain⟨i,hi⟩:=XN (xs:=p.Instruments) (k:=k) hk
    obtain⟨m,t,hm,hc,hmo,hin,e⟩:=ZlU hb h.ok hi
    rw [e]
    have h1:=h.cnt m (List.mem_of_getElem? hm)
    have h2:=ZkG (i:=i) (m:=m) (vV t (s.Frame+1)).1.N (vV t (s.Frame+1)).2 hmo.cr
    omega
end Go.Vx

namespace Go.Vx
open Go Go.RowKit
def st0(p:api_Panel):api_PanelState:=api_PanelState.mk (-1) (List.replicate p.Instruments.length (api_Memo.mk false false 0 0 []))
theorem Zlj{p:api_Panel}(h:ZgN p=0):Inv p (st0 p) 0:=by
  refine⟨rfl,Zcm.2 ⟨⟨by simp [st0],by simp [st0]⟩,by simp [st0],fun k i m hi hm=> ?_⟩,fun m hm=> ?_⟩
  · have hm':m=api_Memo.mk false false 0 0 []:=(List.mem_replicate.1 (List.mem_of_getElem? hm)).2
    have hin:=ZaV h (List.mem_of_getElem? hi)
    have hsz:0≤i.Size:=by
      have h0:=hin
      unfold ZaX at h0
      split at h0
      · cases h0
      split at h0
      · cases h0
      split at h0
      · cases h0
      rename_i hu
      by_cases h6:i.Kind=6
      · have:=(ZfR hin).1 h6;omega
      · have hu:unV i=false:=by simpa using hu
        unfold unV at hu
        simp only [Bool.or_eq_false_iff] at hu
        have h1:=hu.2
        simp only [h6,decide_false,Bool.not_false,Bool.and_true,Bool.not_eq_false',decide_eq_true_eq] at h1
        omega
    subst hm'
    refine⟨?_,?_,?_,?_,?_,⟨by simp,by simp⟩,by decide,by simpa using hsz,?_⟩
    · intro h;cases h
    · intro h;cases h
    · intro h;exact absurd rfl h
    · intro h;exact absurd rfl h
    · intro h;simp at h
    · intro z hz;cases hz
  · have hm':m=api_Memo.mk false false 0 0 []:=(List.mem_replicate.1 hm).2
    subst hm';simp
end Go.Vx

namespace Go.Vx
open Go Go.RowKit Go.Lib
set_option maxHeartbeats 1000000
theorem ZhI{α ε:Type}{g:Nat→α→Option ε}{e:ε}: ∀ {k:Nat} {xs:List α},Qt g k xs=some e→ ∃ (j:Nat) (x:α),x∈xs∧g j x=some e
  |_,[],h=>by cases h
  |k,y::tl,h=>by
    simp only [Qt] at h
    cases hg:g k y with
    |some e'=>rw [hg] at h;cases h;exact⟨k,y,by simp,hg⟩
    |none=>
      rw [hg] at h
      obtain⟨j,x,h1,h2⟩:=ZhI h
      exact⟨j,x,by simp [h1],h2⟩
end Go.Vx

namespace Go.Vx
open Go Go.RowKit
theorem ZgK{α:Type}{xs:List α}{k:Nat}{x:α}(h:xs[k]?=some x):xs.set k x=xs:=by
  apply List.ext_getElem?
  intro j
  rw [List.getElem?_set]
  split
  · subst_vars
    split
    · rename_i hlt;rw [h]
    · rw [List.getElem?_eq_none (by omega)]
  · rfl
theorem Ziv{s:api_PanelState}(hl:s.Memos.length≤1000)(ht: ∀ m∈s.Memos,m.Tape.length≤1000):Z5 s=some s:=by
  have h:loop (t2 (Qd s.Memos)) (s.Memos,0)=some s.Memos:=by
    refine ZaN (xs:=s.Memos) (body:=Qd s.Memos) (fun a _=>a=s.Memos) (fun _ _=>s.Memos) (fun a k x ha hx=> ?_) (fun a ha=> ?_) rfl
    · subst ha
      have hlt:=Zaa hx
      have e1:i64 ((k:Int)+1)=(k:Int)+1:=ZA (by omega) (by omega)
      left
      refine⟨_,?_,rfl,rfl⟩
      simp only [Qd,hlt,decide_true,if_true,Z1 hx,Option.bind_some,ZbR (show x.Tape.length≤4294967296 by have:=ht x (List.mem_of_getElem? hx);omega),Int.toNat_natCast,e1]
      rw [ZgK (by exact hx)]
    · subst ha;simp [Qd]
  unfold Z5
  rw [ZbR (by omega)]
  simp only [Option.bind_some,h,t1]
theorem Ziu{p:api_Panel}(hl:p.Instruments.length≤1000)(ht: ∀ m∈p.Instruments,m.Zones.length≤1000):Q9 p=some p:=by
  have h:loop (t2 (Qv p.Instruments)) (p.Instruments,0)=some p.Instruments:=by
    refine ZaN (xs:=p.Instruments) (body:=Qv p.Instruments) (fun a _=>a=p.Instruments) (fun _ _=>p.Instruments) (fun a k x ha hx=> ?_) (fun a ha=> ?_) rfl
    · subst ha
      have hlt:=Zaa hx
      have e1:i64 ((k:Int)+1)=(k:Int)+1:=ZA (by omega) (by omega)
      left
      refine⟨_,?_,rfl,rfl⟩
      simp only [Qv,hlt,decide_true,if_true,Z1 hx,Option.bind_some,ZbR (show x.Zones.length≤4294967296 by have:=ht x (List.mem_of_getElem? hx);omega),Int.toNat_natCast,e1]
      rw [ZgK (by exact hx)]
    · subst ha;simp [Qv]
  unfold Q9
  rw [ZbR (by omega)]
  simp only [Option.bind_some,h,t1]
theorem ZhY{l:List api_Track}(hl:l.length≤1000)(ht: ∀ m∈l,m.Series.Samples.length≤100000):QN l=some l:=by
  have h:loop (t2 (Ql l)) (l,0)=some l:=by
    refine ZaN (xs:=l) (body:=Ql l) (fun a _=>a=l) (fun _ _=>l) (fun a k x ha hx=> ?_) (fun a ha=> ?_) rfl
    · subst ha
      have hlt:=Zaa hx
      have e1:i64 ((k:Int)+1)=(k:Int)+1:=ZA (by omega) (by omega)
      left
      refine⟨_,?_,rfl,rfl⟩
      simp only [Ql,hlt,decide_true,if_true,Z1 hx,Option.bind_some,ZbR (show x.Series.Samples.length≤4294967296 by have:=ht x (List.mem_of_getElem? hx);omega),Int.toNat_natCast,e1]
      rw [ZgK (by exact hx)]
    · subst ha;simp [Ql]
  unfold QN
  rw [ZbR (by omega)]
  simp only [Option.bind_some,h,t1]
def Ris(ks:List Nat):Prop:=ks.Pairwise (· < ·)
theorem Zcc{ks:List Nat}(h:Ris ks)(k:Nat):ks=ks.filter (· <k)++ks.filter (fun x=>decide (k≤x)):=by
  induction ks with
  |nil=>rfl
  |cons x t ih=>
    have h1:=List.pairwise_cons.1 h
    by_cases hx:x<k
    · rw [List.filter_cons_of_pos (by simpa using hx),List.filter_cons_of_neg (by simp;omega),List.cons_append,←ih h1.2]
    · have:t.filter (· <k)= []:=List.filter_eq_nil_iff.2 fun y hy=>by have:=h1.1 y hy;simp;omega
      have h2:t.filter (fun x=>decide (k≤x))=t:=List.filter_eq_self.2 fun y hy=>by have:=h1.1 y hy;simp;omega
      rw [List.filter_cons_of_neg (by simpa using hx),this,List.filter_cons_of_pos (by simp;omega),h2];rfl
theorem Zgx{ks:List Nat}(h:Ris ks){k:Nat}(hk:k∈ks):ks.filter (fun x=>decide (k≤x))=k::ks.filter (fun x=>decide (k<x)):=by
  induction ks with
  |nil=>cases hk
  |cons x t ih=>
    have h1:=List.pairwise_cons.1 h
    rcases List.mem_cons.1 hk with rfl |hk
    · rw [List.filter_cons_of_pos (by simp),List.filter_cons_of_neg (by simp)]
      congr 1
      refine List.filter_congr fun y hy=> ?_
      have:=h1.1 y hy
      simp only [decide_eq_decide];omega
    · have:=h1.1 k hk
      rw [List.filter_cons_of_neg (by simp;omega),List.filter_cons_of_neg (by simp;omega),ih h1.2 hk]
theorem ZiL{ks:List Nat}{k:Nat}(hk:k∉ks):ks.filter (fun x=>decide (k≤x))=ks.filter (fun x=>decide (k<x)):=by
  refine List.filter_congr fun y hy=> ?_
  simp only [decide_eq_decide]
  constructor
  · intro h
    rcases Nat.lt_or_ge k y with h1 |h1
    · exact h1
    · have:k=y:=by omega
      subst this;exact absurd hy hk
  · intro h;omega
def kin(ks:List Nat)(k:Nat):List Nat:=ks.filter (· <k)++ [k]++ks.filter (fun x=>decide (k<x))
theorem Zlw{ks:List Nat}(h:Ris ks){k:Nat}(hk:k∈ks):kin ks k=ks:=by
  unfold kin
  rw [List.append_assoc,List.singleton_append,←Zgx h hk,←Zcc h k]
theorem ZlK{ks:List Nat}(h:Ris ks)(k:Nat):Ris (kin ks k):=by
  unfold kin Ris
  refine List.pairwise_append.2 ⟨List.pairwise_append.2 ⟨h.filter _,by simp,fun a ha b hb=> ?_⟩,h.filter _,fun a ha b hb=> ?_⟩
  · have:=List.mem_filter.1 ha
    simp at hb this;omega
  · have h2:=List.mem_filter.1 hb
    simp only [decide_eq_true_eq] at h2
    rcases List.mem_append.1 ha with ha |ha
    · have:=List.mem_filter.1 ha
      simp at this;omega
    · simp at ha;omega
theorem Zlo{ks:List Nat}{k:Nat}{P:Nat→Prop}(h: ∀ x∈ks,P x)(hk:P k): ∀ x∈kin ks k,P x:=by
  intro x hx
  unfold kin at hx
  rcases List.mem_append.1 hx with hx |hx
  · rcases List.mem_append.1 hx with hx |hx
    · exact h x (List.mem_filter.1 hx).1
    · simp at hx;subst hx;exact hk
  · exact h x (List.mem_filter.1 hx).1
theorem ZhW{N:Nat}: ∀ (ks:List Nat) (m:Nat),Ris ks→(∀ x∈ks,m≤x∧x<N)→ks.length≤N-m
  | [],m,_,_=>by simp
  |x::t,m,h,hb=>by
    have h1:=List.pairwise_cons.1 h
    have:=ZhW t (x+1) h1.2 (fun y hy=>⟨h1.1 y hy,(hb y (List.mem_cons_of_mem _ hy)).2⟩)
    have:=hb x (by simp)
    simp only [List.length_cons];omega
def stN(p:api_Panel)(l:List api_Track):Nat→api_PanelState
  |0=>st0 p
  |n+1=>Zix p l (stN p l n)
theorem Zfo{p:api_Panel}{l:List api_Track}(hb:ZaE p l=0): ∀ n:Nat,n≤20000→Inv p (stN p l n) n
  |0,_=>Zlj (Zat hb).1
  |n+1,h=>Zly hb (Zfo hb n (by omega)) (by omega)
theorem ZeP{p:api_Panel}{l:List api_Track}(hb:ZaE p l=0){n:Nat}(h:n≤20000):(stN p l n).Frame=(n:Int)-1:=(Zfo hb n h).fr
theorem ZkH{p:api_Panel}{l:List api_Track}(hb:ZaE p l=0){n:Nat}(h:n≤20000):(stN p l n).Memos.length≤1000∧ ∀ m∈(stN p l n).Memos,m.Tape.length≤1000:=by
  obtain⟨b1,b2,b3⟩:=Zat hb
  obtain⟨s1,s2,s3⟩:=Zcm.1 (Zfo hb n h).ok
  refine⟨by rw [s2];have:=Zcn b1;omega,fun m hm=> ?_⟩
  obtain⟨k,hk,e⟩:=List.getElem_of_mem hm
  have hm':(stN p l n).Memos[k]?=some m:=by rw [←e];exact List.getElem?_eq_getElem hk
  obtain⟨i,hi⟩:=XN (xs:=p.Instruments) (k:=k) (by omega)
  have:=ZfB (s3 k i m hi hm') (ZaV b1 (List.mem_of_getElem? hi))
  omega
theorem ZiQ{p:api_Panel}{l:List api_Track}(hb:ZaE p l=0){n:Nat}(h:n≤20000):Z5 (stN p l n)=some (stN p l n):=Ziv (ZkH hb h).1 (ZkH hb h).2
theorem Zlu{p:api_Panel}{l:List api_Track}(hb:ZaE p l=0){n:Nat}(h:n<20000):Xk p l (stN p l n)=some (stN p l (n+1)):=by
  rw [Zj0 hb (Zfo hb n (by omega)).ok (by rw [ZeP hb (by omega)];omega)]
  rfl
theorem Znd{p:api_Panel}{l:List api_Track}(hb:ZaE p l=0){ks:List Nat}(hr:Ris ks)(ha: ∀ x∈ks,1≤x∧x≤20000){k:Nat}(hk:k≤20000){r:panel_Replay}(hrk:r.kept=ks.map (stN p l)){f:Int}(hf:f=(k:Int)-1):
    ZP r f=some (((ks.filter (· <k)).length:Int),decide (k∈ks)):=by
  have hlen:ks.length≤20000:=by have:=ZhW (N:=20001) ks 1 hr (fun x hx=>⟨(ha x hx).1,by have:=(ha x hx).2;omega⟩);omega
  have hsp:=Zcc hr k
  have hcl:(ks.filter (· <k)).length≤ks.length:=List.length_filter_le ..
  have hcmp: ∀ (j:Nat) x,ks[j]?=some x→Z4 (stN p l x) f=some ((x:Int)-k):=fun j x hx=>by
    have:=ha x (List.mem_of_getElem? hx)
    unfold Z4
    rw [ZeP hb this.2,hf,show(x:Int)-1-((k:Int)-1)=(x:Int)-k by omega]
    exact congrArg some (ZA (by omega) (by omega))
  have hc1: ∀ (j:Nat) x,j<(ks.filter (· <k)).length→ks[j]?=some x→x<k:=fun j x hj hx=>by
    rw [hsp,List.getElem?_append_left hj] at hx
    simpa using (List.mem_filter.1 (List.mem_of_getElem? hx)).2
  have hc2: ∀ (j:Nat) x,(ks.filter (· <k)).length≤j→ks[j]?=some x→k≤x:=fun j x hj hx=>by
    rw [hsp,List.getElem?_append_right hj] at hx
    simpa using (List.mem_filter.1 (List.mem_of_getElem? hx)).2
  have hl:loop (t2 (Zl (ks.map (stN p l)) f (fun z0 z1=>Z4 z0 z1))) (0,(ks.length:Int))=some (((ks.filter (· <k)).length:Nat):Int):=by
    refine Zc0 ks.length (ks.filter (· <k)).length (fun k=>(k:Int)) hcl (by omega) (fun i j m hij hj hm=> ?_) (fun i=> ?_)
    · obtain⟨x,hx⟩:=XN (xs:=ks) (k:=m) (by omega)
      have hxm:(ks.map (stN p l))[m]?=some (stN p l x):=by rw [List.getElem?_map,hx];rfl
      have h2:(i:Int)<j:=by omega
      have hm':shr .u64 (u64 (i64 ((i:Int)+j))) 1=some (m:Int):=by rw [ZlP (by omega),hm]
      have hmi:i64 (m:Int)=m:=ZA (by omega) (by omega)
      simp only [Zl,h2,decide_true,if_true,hm',Option.bind_some,hmi,Z1 hxm,hcmp m x hx]
      refine⟨fun h=> ?_,fun h=> ?_⟩
      · have:=hc1 m x h hx
        simp [show(x:Int)-k<0 by omega,ZA (show-9223372036854775808≤(m:Int)+1 by omega) (by omega)]
      · have:=hc2 m x h hx
        simp [show ¬(x:Int)-k<0 by omega]
    · simp [Zl]
  unfold ZP Zs
  rw [hrk,List.length_map,hl]
  simp only [Option.bind_some,t1]
  rcases Nat.lt_or_ge (ks.filter (· <k)).length ks.length with h |h
  · obtain⟨x,hx⟩:=XN h
    have hxm:(ks.map (stN p l))[(ks.filter (· <k)).length]?=some (stN p l x):=by rw [List.getElem?_map,hx];rfl
    have h':(((ks.filter (· <k)).length:Nat):Int)<ks.length:=by omega
    have hxk:x=k↔k∈ks:=by
      constructor
      · rintro rfl;exact List.mem_of_getElem? hx
      · intro hm
        have h3:=Zgx hr hm
        have hx2:(ks.filter (· <k)++ks.filter (fun x=>decide (k≤x)))[(ks.filter (· <k)).length]?=some x:=by rw [←hsp];exact hx
        rw [List.getElem?_append_right (Nat.le_refl _),h3] at hx2
        simpa using hx2.symm
    simp only [h',decide_true,Z1 hxm,ZlQ,Option.bind_some,hcmp _ x hx,Bool.true_and,Option.some.injEq,Prod.mk.injEq,true_and,decide_eq_decide]
    rw [←hxk];omega
  · have h': ¬(((ks.filter (· <k)).length:Nat):Int)<ks.length:=by omega
    have hm:k∉ks:=fun hm=>by
      have h3:=Zgx hr hm
      have:=congrArg List.length hsp
      rw [h3] at this
      simp at this;omega
    simp [gd,h',hm]
end Go.Vx

namespace Go.Vx
open Go Go.RowKit
def ZiZ(keep:Int)(m:Nat)(ks:List Nat):List Nat:=if(m:Int).tmod keep=keep-1 then kin ks (m+1) else ks
def ZeS(keep:Int)(m:Nat):Nat→List Nat→List Nat
  |0,ks=>ks
  |j+1,ks=>ZiZ keep (m+j) (ZeS keep m j ks)
def KS(ks:List Nat):Prop:=Ris ks∧ ∀ x∈ks,1≤x∧x≤20000
theorem Zld{keep:Int}{m:Nat}{ks:List Nat}(h:KS ks)(hm:m<20000):KS (ZiZ keep m ks):=by
  unfold ZiZ
  split
  · exact⟨ZlK h.1 _,Zlo h.2 ⟨by omega,by omega⟩⟩
  · exact h
theorem ZjC{keep:Int}{m:Nat}{ks:List Nat}(h:KS ks): ∀ n:Nat,m+n≤20000→KS (ZeS keep m n ks)
  |0,_=>h
  |n+1,hn=>Zld (ZjC h n (by omega)) (by omega)
theorem Zkk{ks:List Nat}(h:KS ks):ks.length≤20000:=by have:=ZhW (N:=20001) ks 1 h.1 (fun x hx=>⟨(h.2 x hx).1,by have:=(h.2 x hx).2;omega⟩);omega
theorem Zj3{p:api_Panel}{l:List api_Track}{ks:List Nat}(h:KS ks){k:Nat}(hk:k∉ks):
    ins (ks.map (stN p l)) ((ks.filter (· <k)).length:Int) [stN p l k]=some ((kin ks k).map (stN p l)):=by
  have hsp:=Zcc h.1 k
  have hl:=Zkk h
  have hcl:(ks.filter (· <k)).length≤ks.length:=List.length_filter_le ..
  unfold ins kin
  rw [if_pos ⟨by omega,by rw [List.length_map];omega,by rw [List.length_map];omega,rfl⟩,Int.toNat_natCast,←List.map_take,←List.map_drop]
  have e1:ks.take (ks.filter (· <k)).length=ks.filter (· <k):=by
    conv=>lhs;arg 2;rw [hsp]
    exact List.take_left' rfl
  have e2:ks.drop (ks.filter (· <k)).length=ks.filter (fun x=>decide (k<x)):=by
    rw [←ZiL hk]
    conv=>lhs;arg 2;rw [hsp]
    exact List.drop_left' rfl
  rw [e1,e2]
  simp
theorem Zm4{p:api_Panel}{l:List api_Track}(hb:ZaE p l=0){keep:Int}(hk:1≤keep∧keep≤1000){marks:List api_Bookmark}{ks:List Nat}(h:KS ks){m n:Nat}(hmn:m+n≤20000):
    loop (t3 (Z7 (panel_Replay.mk p l keep (stN p l m) (ks.map (stN p l)) marks) (n:Int))) (stN p l m,ks.map (stN p l),0)=
      some (panel_Replay.mk p l keep (stN p l (m+n)) ((ZeS keep m n ks).map (stN p l)) marks):=by
  refine ZcK (body:=t3 (Z7 (panel_Replay.mk p l keep (stN p l m) (ks.map (stN p l)) marks) (n:Int)))
    (fun s=> ∃ j:Nat,j≤n∧s=(stN p l (m+j),(ZeS keep m j ks).map (stN p l),(j:Int))) (fun s=>n-s.2.2.toNat) (fun _=>panel_Replay.mk p l keep (stN p l (m+n)) ((ZeS keep m n ks).map (stN p l)) marks) ?_ _ ⟨0,Nat.zero_le _,rfl⟩
  rintro s ⟨j,hj,rfl⟩
  have hks:=ZjC (keep:=keep) (m:=m) h j (by omega)
  rcases Nat.lt_or_ge j n with hlt |hge
  · left
    have e1:i64 ((j:Int)+1)=((j+1:Nat):Int):=by rw [show(j:Int)+1=((j+1:Nat):Int) by omega];exact ZA (by omega) (by omega)
    have e2:i64 (keep-1)=keep-1:=ZA (by omega) (by omega)
    have hfr:(stN p l (m+j+1)).Frame=((m+j:Nat):Int):=by rw [ZeP hb (by omega)];omega
    have hadv:=Zlu (l:=l) hb (n:=m+j) (by omega)
    refine⟨(stN p l (m+(j+1)),(ZeS keep m (j+1) ks).map (stN p l),((j+1:Nat):Int)),?_,⟨j+1,hlt,rfl⟩,by simp only [Int.toNat_natCast];omega,rfl⟩
    have hlt':(j:Int)<n:=by omega
    have hrem:rem ((m+j:Nat):Int) keep=some (((m+j:Nat):Int).tmod keep):=by unfold rem;rw [if_neg (by omega)]
    simp only [ZiH,Z7,hlt',decide_true,if_true,hadv,Option.bind_some,hfr,hrem,e2]
    have hat:=fun(r:panel_Replay) (hr:r.kept=(ZeS keep m j ks).map (stN p l))=>Znd (l:=l) hb hks.1 hks.2 (k:=m+j+1) (by omega) (r:=r) hr (f:=((m+j:Nat):Int)) (by omega)
    by_cases hq:((m+j:Nat):Int).tmod keep=keep-1
    · have ek:ZeS keep m (j+1) ks=kin (ZeS keep m j ks) (m+j+1):=by show ZiZ keep (m+j) _=_;unfold ZiZ;rw [if_pos hq]
      simp only [hq,decide_true,Bool.not_true,Bool.false_eq_true,if_false]
      rw [hat (panel_Replay.mk p l keep (stN p l (m+j+1)) ((ZeS keep m j ks).map (stN p l)) marks) rfl]
      simp only [Option.bind_some]
      by_cases hin:m+j+1∈ZeS keep m j ks
      · simp only [hin,decide_true,Bool.not_true,Bool.false_eq_true,if_false,Option.bind_some,ZiH,e1,ek,Zlw hks.1 hin]
        rw [←hfr];rfl
      · simp only [hin,decide_false,Bool.not_false,if_true,ZiQ (l:=l) hb (show m+j+1≤20000 by omega),Option.bind_some,Zj3 hks hin,ZiH,e1,ek]
        rw [←hfr];rfl
    · have ek:ZeS keep m (j+1) ks=ZeS keep m j ks:=by show ZiZ keep (m+j) _=_;unfold ZiZ;rw [if_neg hq]
      simp only [hq,decide_false,Bool.not_false,if_true,Option.bind_some,ZiH,e1,ek]
      rw [←hfr];rfl
  · right
    have:j=n:=by omega
    subst this
    simp [ZiH,Z7]
def kb(ks:List Nat)(N:Nat):Nat:=((ks.filter (fun x=>decide (x≤N))).getLast?).getD 0
def sb(m:Nat)(ks:List Nat)(N:Nat):Nat:=if m≤N∧kb ks N<m then m else kb ks N
theorem ZlY{ks:List Nat}{N:Nat}:kb ks N≤N:=by
  unfold kb
  cases h:(ks.filter (fun x=>decide (x≤N))).getLast? with
  |none=>simp
  |some x=>have:=(List.mem_filter.1 (List.mem_of_getLast? h)).2;simpa using this
theorem ZmV{m:Nat}{ks:List Nat}{N:Nat}:sb m ks N≤N:=by
  unfold sb
  split
  · omega
  · exact ZlY
theorem ZlJ{ks:List Nat}(h:Ris ks)(N:Nat):(ks.filter (fun x=>decide (x≤N))).length=(ks.filter (· <N)).length+(if N∈ks then 1 else 0):=by
  have h1:=Zcc h (N+1)
  have h2:=Zcc h N
  have e:ks.filter (fun x=>decide (x<N+1))=ks.filter (fun x=>decide (x≤N)):=List.filter_congr fun y _=>by simp only [decide_eq_decide];omega
  have e':ks.filter (fun x=>decide (N+1≤x))=ks.filter (fun x=>decide (N<x)):=List.filter_congr fun y _=>by simp only [decide_eq_decide];omega
  rw [e,e'] at h1
  have l1:=congrArg List.length h1
  have l2:=congrArg List.length h2
  rw [List.length_append] at l1 l2
  by_cases hm:N∈ks
  · rw [Zgx h hm] at l2
    simp only [List.length_cons] at l2
    rw [if_pos hm];omega
  · rw [ZiL hm] at l2
    rw [if_neg hm];omega
theorem Zjs{p:api_Panel}{l:List api_Track}(hb:ZaE p l=0){a b N:Nat}(ha:a≤20000)(hbb:b≤20000){f:Int}(hf:f=(N:Int)-1):
    QD (stN p l a) f (stN p l b)=some (stN p l (if a≤N∧b<a then a else b)):=by
  unfold QD
  rw [ZeP hb ha,ZeP hb hbb,hf]
  by_cases h:a≤N∧b<a
  · have h1:(a:Int)-1≤(N:Int)-1:=by omega
    have h2:(b:Int)-1<(a:Int)-1:=by omega
    simp [h1,h2,ZiQ (l:=l) hb ha,h]
  · rw [if_neg h,if_neg]
    intro hc
    simp only [Bool.and_eq_true,decide_eq_true_eq] at hc
    omega
theorem Zmx{p:api_Panel}{l:List api_Track}(hb:ZaE p l=0){keep:Int}(hk:1≤keep∧keep≤1000){marks:List api_Bookmark}{ks:List Nat}(h:KS ks){m N:Nat}(hm:m≤20000)(hN:N≤20000){f:Int}(hf:f=(N:Int)-1):
    Qa (panel_Replay.mk p l keep (stN p l m) (ks.map (stN p l)) marks) f=
      some (((N-sb m ks N:Nat):Int),0,panel_Replay.mk p l keep (stN p l N) ((ZeS keep (sb m ks N) (N-sb m ks N) ks).map (stN p l)) marks):=by
  have hw:ZF f (-1) 19999=some true:=by unfold ZF;rw [hf];congr 1;simp only [Bool.and_eq_true,decide_eq_true_eq];omega
  have hlp:=Zcn (Zat hb).1
  have hfi:Xa p=some (stN p l 0):=by unfold Xa;rw [ZkR (by omega)];rfl
  have hlen:=Zkk h
  have hbl:sb m ks N≤N:=ZmV
  have hc:=ZlJ h.1 N
  have hat:=Znd (l:=l) hb h.1 h.2 (k:=N) hN (r:=panel_Replay.mk p l keep (stN p l m) (ks.map (stN p l)) marks) rfl hf
  have hcl:(ks.filter (· <N)).length≤ks.length:=List.length_filter_le ..
  have hi:((if decide (N∈ks)=true then some (i64 (((ks.filter (· <N)).length:Int)+1)) else some ((ks.filter (· <N)).length:Int)):Option Int)=some (((ks.filter (fun x=>decide (x≤N))).length:Nat):Int):=by
    rw [hc]
    by_cases hin:N∈ks
    · simp only [hin,decide_true,if_true]
      rw [show(((ks.filter (· <N)).length:Nat):Int)+1=(((ks.filter (· <N)).length+1:Nat):Int) by omega]
      exact congrArg some (ZA (by omega) (by omega))
    · simp [hin]
  have hbest:((if decide (0<(((ks.filter (fun x=>decide (x≤N))).length:Nat):Int))=true then
      (idx (ks.map (stN p l)) (i64 ((((ks.filter (fun x=>decide (x≤N))).length:Nat):Int)-1))).bind fun x=>(QD x f (stN p l 0)).bind fun y4=>some (y4.Frame,y4.Memos)
      else some ((stN p l 0).Frame,(stN p l 0).Memos)):Option (Int×List api_Memo))=some ((stN p l (kb ks N)).Frame,(stN p l (kb ks N)).Memos):=by
    have hsp:=Zcc h.1 (N+1)
    have e:ks.filter (fun x=>decide (x<N+1))=ks.filter (fun x=>decide (x≤N)):=List.filter_congr fun y _=>by simp only [decide_eq_decide];omega
    rw [e] at hsp
    cases hL:(ks.filter (fun x=>decide (x≤N))).getLast? with
    |none=>
      have h0:ks.filter (fun x=>decide (x≤N))= []:=List.getLast?_eq_none_iff.1 hL
      have hkb:kb ks N=0:=by unfold kb;rw [hL];rfl
      rw [hkb,h0];rfl
    |some x=>
      have hkb:kb ks N=x:=by unfold kb;rw [hL];rfl
      have hxm:=List.mem_filter.1 (List.mem_of_getLast? hL)
      have hx1:=h.2 x hxm.1
      have hxN:x≤N:=by simpa using hxm.2
      have hpos:0<(ks.filter (fun x=>decide (x≤N))).length:=List.length_pos_of_mem (List.mem_of_getLast? hL)
      have hle:(ks.filter (fun x=>decide (x≤N))).length≤ks.length:=List.length_filter_le ..
      have hix:(ks.map (stN p l))[(ks.filter (fun x=>decide (x≤N))).length-1]?=some (stN p l x):=by
        rw [List.getElem?_map]
        have:ks[(ks.filter (fun x=>decide (x≤N))).length-1]?=some x:=by
          conv=>lhs;arg 1;rw [hsp]
          rw [List.getElem?_append_left (by omega),←List.getLast?_eq_getElem?]
          exact hL
        rw [this];rfl
      have ei:i64 ((((ks.filter (fun x=>decide (x≤N))).length:Nat):Int)-1)=(((ks.filter (fun x=>decide (x≤N))).length-1:Nat):Int):=by
        rw [show(((ks.filter (fun x=>decide (x≤N))).length:Nat):Int)-1=(((ks.filter (fun x=>decide (x≤N))).length-1:Nat):Int) by omega]
        exact ZA (by omega) (by omega)
      rw [if_pos (by simpa using (show(0:Int)<(((ks.filter (fun x=>decide (x≤N))).length:Nat):Int) by omega)),ei,Z1 hix]
      simp only [Option.bind_some,Zjs (l:=l) hb (show x≤20000 by omega) (show 0≤20000 by omega) hf,hkb]
      rw [if_pos ⟨hxN,by omega⟩]
  unfold Qa
  rw [hw]
  simp only [Option.bind_some,Bool.not_true,Bool.false_eq_true,if_false]
  rw [hfi,hat]
  simp only [Option.bind_some]
  rw [hi]
  simp only [Option.bind_some,t1]
  rw [hbest]
  simp only [Option.bind_some,Zfe]
  have hs2:=Zjs (l:=l) hb (a:=m) (b:=kb ks N) (N:=N) hm (Nat.le_trans ZlY hN) hf
  have:api_PanelState.mk (stN p l (kb ks N)).Frame (stN p l (kb ks N)).Memos=stN p l (kb ks N):=rfl
  rw [this,hs2]
  simp only [Option.bind_some]
  change ((QR (panel_Replay.mk p l keep (stN p l (sb m ks N)) (ks.map (stN p l)) marks) (i64 (f-(stN p l (sb m ks N)).Frame))).bind fun y6=>some (i64 (f-(stN p l (sb m ks N)).Frame),0,y6))=_
  have en:i64 (f-(stN p l (sb m ks N)).Frame)=((N-sb m ks N:Nat):Int):=by
    rw [ZeP hb (Nat.le_trans hbl hN),hf,show(N:Int)-1-(((sb m ks N:Nat):Int)-1)=((N-sb m ks N:Nat):Int) by omega]
    exact ZA (by omega) (by omega)
  rw [en]
  unfold QR
  rw [Zm4 hb hk h (by omega),Option.bind_some,show sb m ks N+(N-sb m ks N)=N by omega]
end Go.Vx

namespace Go.Vx
open Go Go.RowKit
theorem Zjg{i:api_Instrument}(h:ZaX i=0):i.Zones.length≤1000:=by
  by_cases h2:i.Kind=2
  · have:=((Zdq h).2.2 h2).zones;omega
  · unfold ZaX at h
    split at h
    · cases h
    split at h
    · cases h
    split at h
    · cases h
    rename_i hu
    simp only [unV,Bool.or_eq_true,Bool.and_eq_true,not_or] at hu
    have:=hu.1.1.1.2
    by_cases e:i.Zones.length≤1000
    · exact e
    · exact absurd ⟨.inr (by simp;omega),by simp [h2]⟩ this
theorem Znc{p:api_Panel}{l:List api_Track}{keep:Int}(hk:1≤keep∧keep≤1000):
    J4 p l keep=some (if ZaE p l=0 then Sum.inr (panel_Replay.mk p l keep (stN p l 0) [] [],0) else Sum.inl (ZaE p l)):=by
  unfold J4
  rw [Zlg]
  simp only [Option.bind_some]
  by_cases hb:ZaE p l=0
  · obtain⟨b1,b2,b3⟩:=Zat hb
    have hw:ZF keep 1 1000=some true:=by unfold ZF;congr 1;simp only [Bool.and_eq_true,decide_eq_true_eq];omega
    have hlp:=Zcn b1
    have hfi:Xa p=some (stN p l 0):=by unfold Xa;rw [ZkR (by omega)];rfl
    have hcp:Q9 p=some p:=Ziu (by omega) fun m hm=>Zjg (ZaV b1 hm)
    have hct:QN l=some l:=ZhY (by have:=Zfi b2;omega) fun t ht=>by have:=(Zea (ZfT b2 ht).1).len;omega
    simp only [hb,decide_true,Bool.not_true,Bool.false_eq_true,if_false,hw,Option.bind_some,hcp,hct,hfi,if_true]
  · simp [hb]
theorem Zk4{xs:List Smp}{t long:Int}{x:Smp}(hr: ∀ (i j:Nat) x y,i<j→xs[i]?=some x→xs[j]?=some y→x.At<y.At)(h:Zak xs t long=some x):x∈xs∧x.At≤t∧3≤x.Mark:=by
  simp only [Zak,Option.bind_eq_some_iff] at h
  obtain⟨y,h1,h2⟩:=h
  split at h2
  · rename_i hc
    cases h2
    unfold ZeA at h1
    split at h1
    · cases h1
    · exact⟨List.mem_of_getElem? h1,(Zcb xs t hr).1 _ _ (by omega) h1,hc.1⟩
  · cases h2
theorem Zmi{den pl z:Int}(hd:1≤den∧den≤1000000)(hp:0≤pl∧pl≤6)(hz:nb50 z=true):ZbP z den pl=some (dgV den pl z,0):=by
  obtain⟨z1,z2⟩:=Xx.1 hz
  have e0: ∀ z a b,Zax z a b=some (!wi z a b):=fun z a b=>Zen z a b
  unfold ZbP
  have h1:wi z (-1125899906842624) 1125899906842624=true:=hz
  have h2:wi den 1 1000000=true:=Xx.2 hd
  have h3:wi pl 0 6=true:=Xx.2 hp
  simp [e0,h1,h2,h3,(Zjb hd hp hz).2.1]
noncomputable def shS(x:api_Instrument)(f:Int)(tx:Str)(t:api_Track)(s:api_Sample):Bool:=
  (decide (t.Name=x.Track)&&decide (s.At≤64*f+63)&&decide (3≤s.Mark))&&decide (dgV t.Series.Den x.Places s.N=tx)
theorem Znu{t:api_Track}(hc:(chk t.Series).2=0){x:api_Instrument}(hp:0≤x.Places∧x.Places≤6){f:Int}(hf:0≤f∧f≤19999){y6:List api_Face}{i:Nat}{F:api_Face}(hF:y6[i]?=some F)(b:Bool):
    loop (t2 (ZV f y6 i x t)) (b,0)=some (b || t.Series.Samples.any (shS x f F.Text t)):=by
  have hs:=Zea hc
  have e1:i64 (64*f)=64*f:=ZA (by omega) (by omega)
  have e2:i64 (64*f+63)=64*f+63:=ZA (by omega) (by omega)
  refine ZaN (xs:=t.Series.Samples) (body:=ZV f y6 i x t) (fun a k=>a=(b || (t.Series.Samples.take k).any (shS x f F.Text t))) (fun _ _=>b || t.Series.Samples.any (shS x f F.Text t)) (fun a k s ha hx=> ?_) (fun a ha=> ?_) (by simp)
  · left
    have hlt:=Zaa hx
    have hlen:=hs.len
    have e3:i64 ((k:Int)+1)=(k:Int)+1:=ZA (by omega) (by omega)
    have hN:=(hs.at' k s hx).2.1
    have hk:=(List.getElem?_eq_some_iff.1 hx).1
    have hst: ∀ g:api_Sample→Bool,(t.Series.Samples.take (k+1)).any g=((t.Series.Samples.take k).any g || g s):=fun g=>by
      rw [List.take_succ_eq_append_getElem hk,List.any_append]
      rw [List.getElem?_eq_getElem hk] at hx
      cases hx
      simp
    refine⟨a || shS x f F.Text t s,?_,by rw [ha,hst,Bool.or_assoc],rfl⟩
    simp only [ZV,hlt,decide_true,if_true,Z1 hx,Option.bind_some,e1,e2,e3]
    by_cases hcnd:(decide (t.Name=x.Track)&&decide (s.At≤64*f+63)&&decide (3≤s.Mark))=true
    · rw [if_pos hcnd,Zmi hs.den hp (Xx.2 hN)]
      simp only [Option.bind_some,Z1 hF]
      unfold shS
      rw [hcnd]
      cases a<;>simp
    · rw [if_neg hcnd]
      unfold shS
      have:(decide (t.Name=x.Track)&&decide (s.At≤64*f+63)&&decide (3≤s.Mark))=false:=by simpa using hcnd
      rw [this];simp
  · rw [ha];simp [ZV]
theorem Znl{l:List api_Track}(hl:ckT l=0){x:api_Instrument}(hp:0≤x.Places∧x.Places≤6){f:Int}(hf:0≤f∧f≤19999){y6:List api_Face}{i:Nat}{F:api_Face}(hF:y6[i]?=some F):
    loop (t2 (ZT l f y6 i x)) (false,0)=some (l.any fun t=>t.Series.Samples.any (shS x f F.Text t)):=by
  refine ZaN (xs:=l) (body:=ZT l f y6 i x) (fun a k=>a=(l.take k).any fun t=>t.Series.Samples.any (shS x f F.Text t)) (fun _ _=>l.any fun t=>t.Series.Samples.any (shS x f F.Text t)) (fun a k t ha hx=> ?_) (fun a ha=> ?_) (by simp)
  · left
    have hlt:=Zaa hx
    have hlen:=Zfi hl
    have e3:i64 ((k:Int)+1)=(k:Int)+1:=ZA (by omega) (by omega)
    have hk:=(List.getElem?_eq_some_iff.1 hx).1
    have hst: ∀ g:api_Track→Bool,(l.take (k+1)).any g=((l.take k).any g || g t):=fun g=>by
      rw [List.take_succ_eq_append_getElem hk,List.any_append]
      rw [List.getElem?_eq_getElem hk] at hx
      cases hx
      simp
    refine⟨a || t.Series.Samples.any (shS x f F.Text t),?_,by rw [ha,hst],rfl⟩
    simp only [ZT,hlt,decide_true,if_true,Z1 hx,Option.bind_some,Znu (ZfT hl (List.mem_of_getElem? hx)).1 hp hf hF,t1,e3]
  · rw [ha];simp [ZT]
theorem Zjf{p:api_Panel}{l:List api_Track}(hb:ZaE p l=0){s:api_PanelState}(hs:stateV p s=0){f:Int}(hf:0≤f)(hsf:s.Frame=f){k:Nat}{i:api_Instrument}(hi:p.Instruments[k]?=some i)(hk1:i.Kind=1)
    (hn:(fcV p l s k).Text≠ [45,45,45]):(l.any fun t=>t.Series.Samples.any (shS i f (fcV p l s k).Text t))=true:=by
  obtain⟨b1,b2,b3⟩:=Zat hb
  obtain⟨s1,s2,s3⟩:=Zcm.1 hs
  have him:=List.mem_of_getElem? hi
  obtain⟨j,t,t1',t2',t3'⟩:=b3 i him
  obtain⟨m,hm⟩:=XN (xs:=s.Memos) (k:=k) (by have:=(List.getElem?_eq_some_iff.1 hi).1;omega)
  obtain⟨c1,c2⟩:=ZfT b2 (List.mem_of_getElem? t3')
  have hden:=(Zea c1).den
  have hpl:=(Zdq (ZaV b1 him)).2.1
  have hnm:t.Name=i.Track:=by
    unfold tkT at t2'
    obtain⟨j,x,_,hx⟩:=ZhI t2'
    split at hx
    · rename_i h;cases hx;simpa using h
    · cases hx
  have e:fcV p l s k=(XD i m t.Series.Den (vV t f).1 (vV t f).2).getD (api_Face.mk [] 0 false 0):=by
    unfold fcV;rw [hi,hm];simp only;rw [t2'];simp only [hsf,if_pos hf]
  cases hh:Zak t.Series.Samples (64*f+63) t.Long with
  |none=>
    have hv:vV t f=(z0,false):=by unfold vV;rw [hh];rfl
    rw [e,hv] at hn
    unfold XD at hn
    simp [hk1] at hn
  |some x=>
    have hv:vV t f=(x,true):=by unfold vV;rw [hh];rfl
    obtain⟨h1,h2,h3⟩:=Zk4 (Zea c1).rise hh
    have hN:=Zjc c1 f
    rw [hv] at hN
    have et:(fcV p l s k).Text=dgV t.Series.Den i.Places x.N:=by
      rw [e,hv]
      unfold XD
      simp [hk1,(Zjb hden hpl hN).1]
    refine List.any_eq_true.2 ⟨t,List.mem_of_getElem? t3',List.any_eq_true.2 ⟨x,h1,?_⟩⟩
    unfold shS
    rw [et]
    simp [hnm,h2,h3]
theorem Zi8(p:api_Panel)(l:List api_Track)(frame:Int):QU p l frame=some true:=by
  unfold QU
  rw [Znc (by decide)]
  simp only [Option.bind_some]
  by_cases hb:ZaE p l=0
  · rw [if_pos hb]
    simp only [Sum.elim_inr,decide_true,Bool.not_true,Bool.false_eq_true,if_false]
    by_cases hr: -1≤frame∧frame≤19999
    · obtain⟨N,hN⟩:=Int.eq_ofNat_of_zero_le (show 0≤frame+1 by omega)
      have hs:=Zmx (p:=p) (l:=l) hb (keep:=7) (by decide) (marks:= []) (ks:= []) ⟨.nil,fun x hx=>by cases hx⟩ (m:=0) (N:=N) (by omega) (by omega) (f:=frame) (by omega)
      have hs':Qa (panel_Replay.mk p l 7 (stN p l 0) [] []) frame=_:=hs
      rw [hs']
      simp only [Option.bind_some,decide_true,Bool.not_true,Bool.false_or]
      by_cases hf0:frame<0
      · simp [hf0,Zgz]
      · have hst:=(Zfo (l:=l) hb N (by omega)).ok
        have hfr:(stN p l N).Frame=frame:=by rw [ZeP hb (by omega)];omega
        have hfc:Qy (panel_Replay.mk p l 7 (stN p l N) ((ZeS 7 (sb 0 [] N) (N-sb 0 [] N) []).map (stN p l)) [])=some ((List.range p.Instruments.length).map (fcV p l (stN p l N))):=by
          unfold Qy
          rw [(ZlI hb hst).1];rfl
        have hlp:=Zcn (Zat hb).1
        have hloop:loop (t1 (ZU p l frame ((List.range p.Instruments.length).map (fcV p l (stN p l N))))) 0=some (Sum.inr ()):=by
          refine Zff (xs:=p.Instruments) (body:=ZU p l frame ((List.range p.Instruments.length).map (fcV p l (stN p l N)))) (fun _=>Sum.inr ()) (fun k i hi=> ?_) (by simp [ZU])
          have hlt:=Zaa hi
          have hk:=(List.getElem?_eq_some_iff.1 hi).1
          have e3:i64 ((k:Int)+1)=(k:Int)+1:=ZA (by omega) (by omega)
          have hF:((List.range p.Instruments.length).map (fcV p l (stN p l N)))[k]?=some (fcV p l (stN p l N) k):=by rw [List.getElem?_map,List.getElem?_range hk];rfl
          left
          refine⟨?_,rfl⟩
          simp only [ZU,hlt,decide_true,if_true,Z1 hi,Option.bind_some,Z1 hF,e3]
          by_cases hk1:i.Kind=1
          · by_cases htx:(fcV p l (stN p l N) k).Text= [45,45,45]
            · simp [hk1,htx]
            · have hpl:=(Zdq (ZaV (Zat hb).1 (List.mem_of_getElem? hi))).2.1
              have hl2:=Znl (Zat hb).2.1 (x:=i) hpl (f:=frame) (by omega) hF
              rw [Zjf hb hst (f:=frame) (by omega) hfr hi hk1 htx] at hl2
              simp [hk1,htx,hl2]
          · simp [hk1]
        rw [hfc]
        simp only [Option.bind_some,hf0,decide_false,Bool.false_eq_true,if_false,List.length_map,List.length_range,decide_true,Bool.not_true,hloop,Sum.elim_inr,t0,Zgz]
    · have hw:ZF frame (-1) 19999=some false:=by
        unfold ZF;congr 1;rw [Bool.and_eq_false_iff]
        simp only [decide_eq_false_iff_not];omega
      have hs:Qa (panel_Replay.mk p l 7 (stN p l 0) [] []) frame=some (0,9,panel_Replay.mk p l 7 (stN p l 0) [] []):=by
        unfold Qa;rw [hw];rfl
      rw [hs]
      simp [Zgz]
  · rw [if_neg hb]
    simp [hb,Zgz]
end Go.Vx
