/- A text of the proof: a verified executor of the program form, or the contracts of the functions that the law reaches. -/
import Derived.Test.YtgohgnaapbpggaaGreatDoorPA
import Derived.Test.YtgohgnaapbpggaaGreatDoorVQ
import Derived.Test.YtgohgnaapbpggaaGreatDoorShT
import Derived.Test.YtgohgnaapbpggaaGreatDoorVG
import Derived.Test.YtgohgnaapbpggaaGreatDoorVO
set_option linter.all false
namespace Go.Vx
open Go Go.RowKit
def Q5(s:List Int)(a:Nat):List Int→Int→Int×Bool×List Int
  | [],p=>(p,true,s)
  |b::tl,p=>if p=0 then(0,false,s.set a (QD .u8 (s.getD a 0) (bor .u8 b 15))) else Q5 (s.set a (QD .u8 (s.getD a 0) b)) (a+1) tl (p-1)
theorem Zhb: ∀ (d:List Int) (s:List Int) (a:Nat) (p:Int),(Q5 s a d p).2.2.length=s.length
  | [],s,a,p=>rfl
  |b::tl,s,a,p=>by
    unfold Q5
    split
    · simp
    · rw [Zhb tl];simp
theorem Zfl: ∀ (d:List Int) (s:List Int) (a:Nat) (p:Int),0≤p→0≤(Q5 s a d p).1∧(Q5 s a d p).1≤p
  | [],s,a,p,h=>⟨h,Int.le_refl _⟩
  |b::tl,s,a,p,h=>by
    unfold Q5
    split
    · exact⟨Int.le_refl _,h⟩
    · have:=Zfl tl (s.set a (QD .u8 (s.getD a 0) b)) (a+1) (p-1) (by omega)
      omega
def Zr7(r:Int×Bool×List Int):(Int×Bool×List Int) ⊕ (List Int×Int):=if r.2.1=true then .inr (r.2.2,r.1) else .inl r
theorem XG{α:Type}{s:List α}{k:Nat}(h:k<s.length)(d:α):s[k]?=some (s.getD k d):=by
  rw [gQ,List.getElem?_eq_getElem h];rfl
theorem Znq{s d:List Int}{a:Nat}{p:Int}(hs:s.length≤140737488355328)(ha:a+d.length≤s.length)(hp:0≤p∧p≤1000000000):QM s (a:Int) d p=some (Q5 s a d p):=by
  have key:loop (t3 (QZ (a:Int) d)) (s,p,0)=some (Zr7 (Q5 s a d p)):=by
    refine(ZfL (body:=t3 (QZ (a:Int) d)) (fun q=> ∃ k:Nat,q.2.2=k∧k≤d.length∧q.1.length=s.length∧0≤q.2.1∧q.2.1≤1000000000) (fun q=>d.length-q.2.2.toNat)
      (fun q=>Zr7 (Q5 q.1 (a+q.2.2.toNat) (d.drop q.2.2.toNat) q.2.1)) ?_ (s,p,0) ⟨0,rfl,Nat.zero_le _,rfl,hp⟩).trans (by simp)
    rintro⟨o,p,i⟩ ⟨k,hi,hk,hl,hp0,hp1⟩
    simp only at hi hl hp0 hp1
    subst hi
    simp only [Zc5,Int.toNat_natCast]
    unfold QZ
    rcases Nat.lt_or_ge k d.length with h |h
    · obtain⟨b,hb⟩:=Za5 h
      rw [pG (by simpa using h),Zs hb,oB,ZbT hb]
      have e1:i64 ((a:Int)+(k:Int))=((a+k:Nat):Int):=(Zr (by omega) (by omega)).trans (by push_cast;rfl)
      have hx:o[a+k]?=some (o.getD (a+k) 0):=XG (by omega) 0
      rw [e1]
      simp only [Zs hx,oB,Int.toNat_natCast]
      by_cases h0:p=0
      · right
        rw [pG (by simpa using h0)]
        subst h0
        rfl
      · left
        rw [nG (by simpa using h0)]
        rw [show i64 (p-1)=p-1 from Zr (by omega) (by omega),show i64 ((k:Int)+1)=((k+1:Nat):Int) from(Zr (by omega) (by omega)).trans (by push_cast;rfl)]
        refine⟨_,rfl,⟨k+1,rfl,h,by simp [hl],by simp only;omega,by simp only;omega⟩,by simp only [Int.toNat_natCast];omega,?_⟩
        simp only [Int.toNat_natCast]
        rw [Q5,nG h0];rfl
    · right
      rw [nG (by simpa using h),List.drop_of_length_le h];rfl
  unfold QM
  rw [key,oB]
  unfold Zr7
  split
  · rename_i h
    simp only [Sum.elim_inr,Q1]
    congr 1
    generalize Q5 s a d p=q at h
    obtain⟨x,y,z⟩:=q
    simp only at h
    subst h;rfl
  · simp only [Sum.elim_inl]
theorem ZrB(w:Nat)(X:BitVec w):BitVec.ofInt w (X.toNat:Int)=X:=by
  apply BitVec.eq_of_toNat_eq;simp [BitVec.toNat_ofInt]
theorem Zrc(X:BitVec 8):IntKind.u8.wrap (X.toNat:Int)=(X.toNat:Int):=by
  have h:=X.isLt
  have: ∀ n:Nat,n<256→IntKind.u8.wrap (n:Int)=(n:Int):=by
    intro n hn
    show((n:Int) % 256)=n
    omega
  exact this _ h
theorem Zrg(a b:Int):QD .u8 a b=((BitVec.ofInt 8 a&&&BitVec.ofInt 8 b).toNat:Int):=Zrc _
theorem Zpw(a b:Int):Zmv .u8 a b=((BitVec.ofInt 8 a&&& ~~~ BitVec.ofInt 8 b).toNat:Int):=Zrc _
theorem ZnA(a:Int):Zmv .u8 a a=0:=by
  rw [Zpw];simp
theorem Znh{x y b:Int}(h:Zmv .u8 x y=0):Zmv .u8 (QD .u8 x b) y=0:=by
  rw [Zpw] at h ⊢
  rw [Zrg,ZrB]
  have h':(BitVec.ofInt 8 x&&& ~~~ BitVec.ofInt 8 y)=0#8:=by
    apply BitVec.eq_of_toNat_eq;simpa using h
  have:(BitVec.ofInt 8 x&&&BitVec.ofInt 8 b)&&& ~~~ BitVec.ofInt 8 y=(BitVec.ofInt 8 x&&& ~~~ BitVec.ofInt 8 y)&&&BitVec.ofInt 8 b:=by
    rw [BitVec.and_assoc,BitVec.and_comm (BitVec.ofInt 8 b),←BitVec.and_assoc]
  rw [this,h'];simp
def SubB(t s:List Int):Prop:= ∀ (k:Nat) x y,t[k]?=some x→s[k]?=some y→Zmv .u8 x y=0
theorem SubB.refl(s:List Int):SubB s s:=fun k x y hx hy=>by rw [hx] at hy;cases hy;exact ZnA x
theorem SubB.set{t s:List Int}(h:SubB t s)(a:Nat)(b:Int):SubB (t.set a (QD .u8 (t.getD a 0) b)) s:=by
  intro k x y hx hy
  rw [List.getElem?_set] at hx
  split at hx
  · rename_i e
    subst e
    split at hx
    · rename_i hl
      cases hx
      exact Znh (h a _ y (XG hl 0) hy)
    · cases hx
  · exact h k x y hx hy
end Go.Vx

namespace Go.Vx
open Go Go.RowKit
section
variable {σ ρ:Type} {body:σ→Option (σ ⊕ ρ)} {s s':σ} {r:ρ}
theorem Zab(h:body s=some (.inl s'))(k:loop body s'=some r):loop body s=some r:=by
  obtain⟨n,hn⟩:=ZdM k
  exact ZgI (n:=n+1) (by simp only [Zbt,h,oB];exact hn)
theorem Zg6(h:body s=some (.inr r)):loop body s=some r:=ZgI (n:=1) (by simp only [Zbt,h,oB];rfl)
end
def u8R(l:List Int):Prop:= ∀ x∈l,0≤x∧x≤255
theorem Zr0{l:List Int}(h:u8R l){k:Nat}{x:Int}(hx:l[k]?=some x):0≤x∧x≤255:=h x (List.mem_of_getElem? hx)
theorem Zh3{l:List Int}(h:u8R l)(k:Nat):0≤l.getD k 0∧l.getD k 0≤255:=by
  by_cases hk:k<l.length
  · exact Zr0 h (XG hk 0)
  · rw [gQ,List.getElem?_eq_none (by omega)];decide
theorem Zrw{a b s:Nat}(hb:b<2^s)(h:a*2^s+b<2^62):bor .i64 ((a*2^s:Nat):Int) (b:Int)=((a*2^s+b:Nat):Int):=by
  unfold bor
  have e:(BitVec.ofInt IntKind.i64.bits ((a*2^s:Nat):Int) ||| BitVec.ofInt IntKind.i64.bits (b:Int)).toNat=a*2^s+b:=by
    have h1: ∀ n:Nat,BitVec.ofInt IntKind.i64.bits (n:Int)=BitVec.ofNat 64 n:=fun n=>BitVec.ofInt_natCast ..
    rw [h1,h1]
    show(BitVec.ofNat 64 (a*2^s) ||| BitVec.ofNat 64 b).toNat=_
    rw [BitVec.toNat_or,BitVec.toNat_ofNat,BitVec.toNat_ofNat,Nat.mod_eq_of_lt (by omega),Nat.mod_eq_of_lt (by omega),←Nat.shiftLeft_eq,←Nat.shiftLeft_add_eq_or_of_lt hb]
  rw [e]
  exact Zr (by omega) (by omega)
def Zm1(a b c d:Int):Int:=a*16777216+b*65536+c*256+d
theorem Zsk{n j:Nat}(h1:n≤255)(h2:j≤24):shl .i64 (n:Int) (j:Int)=some ((n*2^j:Nat):Int):=by
  unfold shl
  rw [nG (by omega)]
  have e1:min (Int.toNat (j:Int)) IntKind.i64.bits=j:=by
    show min (Int.toNat (j:Int)) 64=j
    simp;omega
  have e2:(2:Nat)^j≤2^24:=Nat.pow_le_pow_right (by omega) h2
  have e3:n*2^j≤255*2^24:=Nat.mul_le_mul h1 e2
  rw [e1]
  have e4:((n:Int)*2^j)=((n*2^j:Nat):Int):=by push_cast;rfl
  rw [e4,Zr (by omega) (by omega)]
theorem ZsB{m n:Nat}(h:m=n):(m:Int)=(n:Int):=congrArg _ h
theorem Zso{a b c d:Int}(ha:0≤a∧a≤255)(hb:0≤b∧b≤255)(hc:0≤c∧c≤255)(hd:0≤d∧d≤255):
    ∃ q q2 q3,shl .i64 (i64 a) 24=some q∧shl .i64 (i64 b) 16=some q2∧shl .i64 (i64 c) 8=some q3∧bor .i64 (bor .i64 (bor .i64 q q2) q3) (i64 d)=Zm1 a b c d:=by
  obtain⟨a,rfl⟩:=Int.eq_ofNat_of_zero_le ha.1
  obtain⟨b,rfl⟩:=Int.eq_ofNat_of_zero_le hb.1
  obtain⟨c,rfl⟩:=Int.eq_ofNat_of_zero_le hc.1
  obtain⟨d,rfl⟩:=Int.eq_ofNat_of_zero_le hd.1
  have e: ∀ n:Nat,n≤255→i64 (n:Int)=n:=fun n h=>Zr (by omega) (by omega)
  rw [e a (by omega),e b (by omega),e c (by omega),e d (by omega)]
  refine⟨_,_,_,Zsk (j:=24) (by omega) (by omega),Zsk (j:=16) (by omega) (by omega),Zsk (j:=8) (by omega) (by omega),?_⟩
  have b1:bor .i64 ((a*2^24:Nat):Int) ((b*2^16:Nat):Int)=(((a*2^8+b)*2^16:Nat):Int):=
    (Zrw (s:=24) (by omega) (by omega)).trans (ZsB (by omega))
  have b2:bor .i64 (((a*2^8+b)*2^16:Nat):Int) ((c*2^8:Nat):Int)=((((a*2^8+b)*2^8+c)*2^8:Nat):Int):=
    (Zrw (s:=16) (by omega) (by omega)).trans (ZsB (by omega))
  rw [b1,b2]
  refine(Zrw (s:=8) (by omega) (by omega)).trans ?_
  unfold Zm1;omega
def hdL(n:Int):List Int:= [79,66,n/16777216 % 256,n/65536 % 256,n/256 % 256,n % 256,255-n/16777216 % 256,255-n/65536 % 256,255-n/256 % 256,255-n % 256]
theorem Zrq(n:Int):u8R (hdL n):=by
  intro x hx
  simp only [hdL,List.mem_cons,List.not_mem_nil,or_false] at hx
  rcases hx with h |h |h |h |h |h |h |h |h |h<;>omega
theorem Zrx{k:IntKind}{n:Int}{j:Nat}(h:j≤k.bits):shr k n (j:Int)=some (n/(2:Int)^j):=by
  unfold shr
  rw [nG (by omega)]
  have e1:min (Int.toNat (j:Int)) k.bits=j:=by simp;omega
  rw [e1,Int.fdiv_eq_ediv_of_nonneg _ (Int.pow_nonneg (by decide))]
theorem u8m(z:Int):u8 z=z % 256:=rfl
theorem ZmQ{n:Int}(h:1≤n∧n≤1073741824):ZaU n=some (hdL n):=by
  have st: ∀ (o:List Int) (j:Nat),j≤24→o.length≤10→XP n o (j:Int)=some (.inl (o++ [n/(2:Int)^j % 256],(j:Int)-8)):=by
    intro o j hj ho
    unfold XP
    rw [pG (by simp),Zrx (by show j≤64;omega),oB,Zax (by simp;omega),oB,show i64 ((j:Int)-8)=(j:Int)-8 from Zr (by omega) (by omega),u8m]
  have h1:loop (t2 (XP n)) ([79,66],24)=some [79,66,n/16777216 % 256,n/65536 % 256,n/256 % 256,n % 256]:=by
    refine Zab (st [79,66] 24 (by omega) (by simp)) ?_
    refine Zab (st _ 16 (by omega) (by simp)) ?_
    refine Zab (st _ 8 (by omega) (by simp)) ?_
    refine Zab (st _ 0 (by omega) (by simp)) ?_
    refine Zg6 ?_
    show XP n _ (((0:Nat):Int)-8)=_
    unfold XP
    rw [nG (by decide)]
    simp
  have bx: ∀ x:Int,0≤x→x≤255→Zbv .u8 255 x=255-x:=by
    have key:(List.range 256).all (fun n=>decide (Zbv .u8 255 (n:Int)=255-(n:Int)))=true:=by decide+kernel
    intro x h0 h1
    obtain⟨m,rfl⟩:=Int.eq_ofNat_of_zero_le h0
    exact of_decide_eq_true (List.all_eq_true.1 key m (List.mem_range.2 (by omega)))
  unfold ZaU
  rw [h1]
  simp only [oB,Xv]
  rw [show slp [79,66,n/16777216 % 256,n/65536 % 256,n/256 % 256,n % 256] 2 6=some () from rfl,oB]
  have st2: ∀ (o:List Int) (j:Nat) (x:Int),j<4→o.length≤10→idx [79,66,n/16777216 % 256,n/65536 % 256,n/256 % 256,n % 256] (2+(j:Int))=some x→0≤x→x≤255→
      XO [79,66,n/16777216 % 256,n/65536 % 256,n/256 % 256,n % 256] o (j:Int)=some (.inl (o++ [255-x],(j:Int)+1)):=by
    intro o j x hj ho hx h0 h1
    unfold XO
    have e4:(decide ((j:Int)<((Int.toNat (6-2):Nat):Int)))=true:=by simp;omega
    have e5:(decide ((0:Int)≤(j:Int)))=true:=by simp
    rw [pG e4,e4,e5]
    simp only [Bool.and_self,ck,if_true,oB,hx]
    rw [Zax (by simp;omega),oB,show i64 ((j:Int)+1)=(j:Int)+1 from Zr (by omega) (by omega),bx x h0 h1]
  have h2:loop (t2 (XO [79,66,n/16777216 % 256,n/65536 % 256,n/256 % 256,n % 256])) ([79,66,n/16777216 % 256,n/65536 % 256,n/256 % 256,n % 256],0)=some (hdL n):=by
    refine Zab (st2 _ 0 (n/16777216 % 256) (by omega) (by simp) rfl (by omega) (by omega)) ?_
    refine Zab (st2 _ 1 (n/65536 % 256) (by omega) (by simp) rfl (by omega) (by omega)) ?_
    refine Zab (st2 _ 2 (n/256 % 256) (by omega) (by simp) rfl (by omega) (by omega)) ?_
    refine Zab (st2 _ 3 (n % 256) (by omega) (by simp) rfl (by omega) (by omega)) ?_
    refine Zg6 ?_
    show XO _ _ (((3:Nat):Int)+1)=_
    unfold XO
    rw [nG (by decide)]
    rfl
  rw [h2];rfl
theorem ZsR{n:Nat}(h:n<4294967296):Zbv .u32 4294967295 (n:Int)=4294967295-(n:Int):=by
  unfold Zbv
  have e:(BitVec.ofInt IntKind.u32.bits 4294967295^^^BitVec.ofInt IntKind.u32.bits (n:Int)).toNat=4294967295-n:=by
    have h1:BitVec.ofInt IntKind.u32.bits (n:Int)=BitVec.ofNat 32 n:=BitVec.ofInt_natCast ..
    have h2:BitVec.ofInt IntKind.u32.bits 4294967295=BitVec.allOnes 32:=by
      show BitVec.ofInt 32 4294967295=BitVec.allOnes 32
      decide
    rw [h1,h2]
    show(BitVec.allOnes 32^^^BitVec.ofNat 32 n).toNat=_
    rw [BitVec.allOnes_xor,BitVec.toNat_not,BitVec.toNat_ofNat,Nat.mod_eq_of_lt (by omega)]
    try omega
  rw [e]
  have w: ∀ z:Int,0≤z→z<4294967296→IntKind.u32.wrap z=z:=fun z h0 h1=>by
    show z % 4294967296=z
    omega
  rw [w _ (by omega) (by omega)];omega
theorem Zmq{n:Int}(h:1≤n∧n≤1073741824):ZcL n=some (hdL n):=by
  have eu:u32 n=n:=by
    show n % 4294967296=n
    omega
  have ex:Zbv .u32 4294967295 (u32 n)=4294967295-n:=by
    rw [eu]
    obtain⟨m,rfl⟩:=Int.eq_ofNat_of_zero_le (show 0≤n by omega)
    exact ZsR (by omega)
  have st: ∀ (x:Int) (o:List Int) (j:Nat),j≤24→o.length≤10→JX x o (j:Int)=some (.inl (o++ [x/(2:Int)^j % 256],(j:Int)-8)):=by
    intro x o j hj ho
    unfold JX
    rw [pG (by simp),Zrx (by show j≤32;omega),oB,Zax (by simp;omega),oB,show i64 ((j:Int)-8)=(j:Int)-8 from Zr (by omega) (by omega),u8m]
  have lp: ∀ (x:Int) (o:List Int),o.length≤6→loop (t2 (JX x)) (o,24)=some (o++ [x/16777216 % 256,x/65536 % 256,x/256 % 256,x % 256]):=by
    intro x o ho
    refine Zab (st x o 24 (by omega) (by omega)) ?_
    refine Zab (st x _ 16 (by omega) (by simp;omega)) ?_
    refine Zab (st x _ 8 (by omega) (by simp;omega)) ?_
    refine Zab (st x _ 0 (by omega) (by simp;omega)) ?_
    refine Zg6 ?_
    show JX x _ (((0:Nat):Int)-8)=_
    unfold JX
    rw [nG (by decide)]
    simp
  have st1: ∀ (o:List Int) (j:Nat) (x:Int),j<2→o.length≤6→idx [n,4294967295-n] (j:Int)=some x→JT n o (j:Int)=some (.inl (o++ [x/16777216 % 256,x/65536 % 256,x/256 % 256,x % 256],(j:Int)+1)):=by
    intro o j x hj ho hx
    unfold JT
    rw [ex,eu,pG (by simp;omega),hx,oB,lp x o ho]
    simp only [oB,Xv]
    rw [show i64 ((j:Int)+1)=(j:Int)+1 from Zr (by omega) (by omega)]
  have h1:loop (t2 (JT n)) ([79,66],0)=some (hdL n):=by
    refine Zab (st1 _ 0 n (by omega) (by simp) rfl) ?_
    refine Zab (st1 _ 1 (4294967295-n) (by omega) (by simp) rfl) ?_
    refine Zg6 ?_
    show JT n _ (((1:Nat):Int)+1)=_
    unfold JT
    rw [ex,eu,nG (by simp)]
    unfold hdL
    congr 2
    simp only [List.append_assoc,List.cons_append,List.nil_append,List.cons.injEq,true_and,and_true]
    refine⟨?_,?_,?_,?_⟩<;>omega
  unfold ZcL
  rw [h1];rfl
theorem ZnV: ∀ {l m:List Int},u8R l→u8R m→(ZaE l=ZaE m↔l=m)
  | [],[],_,_=>by simp
  | [],y::m,_,_=>by simp [ZaE]
  |x::l,[],_,_=>by simp [ZaE]
  |x::l,y::m,h1,h2=>by
    have hx:=h1 x (List.mem_cons_self ..)
    have hy:=h2 y (List.mem_cons_self ..)
    have ih:=ZnV (l:=l) (m:=m) (fun z hz=>h1 z (List.mem_cons_of_mem _ hz)) (fun z hz=>h2 z (List.mem_cons_of_mem _ hz))
    unfold ZaE at ih ⊢
    simp only [List.map_cons,List.cons.injEq,ih]
    have:UInt8.ofNat x.toNat=UInt8.ofNat y.toNat↔x=y:=by
      constructor
      · intro e
        have:=congrArg UInt8.toNat e
        simp at this
        omega
      · rintro rfl;rfl
    rw [this]
def XZ(s:List Int):Int×Bool×Bool:=
  if s.length<16 then(0,false,false) else
  let n:=Zm1 (s.getD 2 0) (s.getD 3 0) (s.getD 4 0) (s.getD 5 0)
  if 1≤n∧n≤1073741824∧s.take 10=hdL n then(n,!decide (s.getD 10 0=255),true) else(0,false,false)
theorem Zmc{α:Type}{n:Nat}{v:Vector α n}{k:Nat}{x:α}(h:v.toList[k]?=some x):ZY v (k:Int)=some x:=by
  unfold ZY;rw [pG (by omega)];simpa using h
theorem Zhn{α:Type}{xs:List α}{a b:Nat}(h1:a≤b)(h2:b≤xs.length):slc xs (a:Int) (b:Int)=some ((xs.take b).drop a):=by
  unfold slc;rw [pG ⟨by omega,by omega,by omega⟩];simp
theorem Zo1{α:Type}{m:Nat}{xs:List α}(h:m≤xs.length): ∃ v:Vector α m,tov m xs=some v∧v.toList=xs.take m:=by
  have:tov m xs=some ⟨(xs.take m).toArray,by simp;omega⟩:=by unfold tov;rw [dif_pos h]
  exact⟨_,this,by simp⟩
theorem Zmi{s:List Int}(hs:u8R s):ZaM s=some (XZ s):=by
  unfold ZaM XZ
  by_cases hl:s.length<16
  · rw [pG (by simp;omega),pG hl]
  · rw [nG (by simp;omega),nG hl]
    rw [show slc s 0 16=some (s.take 16) from(Zhn (a:=0) (b:=16) (by omega) (by omega)).trans (by simp),oB]
    obtain⟨v,hv,hvl⟩:=Zo1 (m:=16) (xs:=s.take 16) (by simp;omega)
    rw [List.take_take,Nat.min_self] at hvl
    rw [hv,oB]
    have hg: ∀ (z:Int) (k:Nat),z=(k:Int)→k<16→ZY v z=some (s.getD k 0):=fun z k hz hk=>by
      subst hz
      exact Zmc (by rw [hvl,List.getElem?_take_of_lt hk];exact XG (by omega) 0)
    obtain⟨q,q2,q3,e1,e2,e3,e4⟩:=Zso (Zh3 hs 2) (Zh3 hs 3) (Zh3 hs 4) (Zh3 hs 5)
    rw [hg 2 2 rfl (by omega),oB,e1,oB,hg 3 3 rfl (by omega),oB,e2,oB,hg 4 4 rfl (by omega),oB,e3,oB,hg 5 5 rfl (by omega),oB,e4,hg 10 10 rfl (by omega)]
    generalize Zm1 (s.getD 2 0) (s.getD 3 0) (s.getD 4 0) (s.getD 5 0)=n
    unfold QE
    simp only [oB]
    by_cases hn:1≤n∧n≤1073741824
    · have hy:(decide (1≤n)&&decide (n≤1073741824))=true:=by simpa using hn
      rw [hy]
      simp only [Bool.not_true,gd,beq_self_eq_true,if_true,Bool.false_or]
      rw [show slc v.toList 0 10=some (s.take 10) from(Zhn (a:=0) (b:=10) (by omega) (by simp)).trans (by rw [hvl];simp [List.take_take])]
      simp only [oB,ZmQ hn]
      have hlen:(s.take 10).length≤10:=by rw [List.length_take];omega
      rw [eqY (by omega),oB]
      by_cases e:s.take 10=hdL n
      · rw [nG (by simp [e]),pG ⟨hn.1,hn.2,e⟩]
      · rw [pG (by simp [e]),nG (fun q=>e q.2.2)]
    · have hy:(decide (1≤n)&&decide (n≤1073741824))=false:=by simpa using hn
      rw [hy]
      simp only [gd,Bool.not_false,Bool.true_eq_false,beq_iff_eq,if_false,oB]
      rw [pG (by simp),nG (fun q=>hn ⟨q.1,q.2.1⟩)]
theorem ZlU{s:List Int}(hs:u8R s):ZbZ s=some (XZ s):=by
  unfold ZbZ XZ
  by_cases hl:s.length<16
  · rw [pG (by simp;omega),pG hl]
  · rw [nG (by simp;omega),nG hl]
    have hg: ∀ k:Nat,k<16→idx s (k:Int)=some (s.getD k 0):=fun k hk=>Zs (XG (by omega) 0)
    have st: ∀ (q:Int) (k:Nat),0≤q→q≤4294967295→k<6→Za3 s q (k:Int)=some (.inl (q*256+s.getD k 0,(k:Int)+1)):=by
      intro q k h0 h1 hk
      have hb:=Zh3 hs k
      unfold Za3
      rw [pG (by simp;omega),hg k (by omega),oB,show i64 (s.getD k 0)=s.getD k 0 from Zr (by omega) (by omega),show i64 (q*256)=q*256 from Zr (by omega) (by omega),
        show i64 (q*256+s.getD k 0)=q*256+s.getD k 0 from Zr (by omega) (by omega),show i64 ((k:Int)+1)=(k:Int)+1 from Zr (by omega) (by omega)]
    have b2:=Zh3 hs 2
    have b3:=Zh3 hs 3
    have b4:=Zh3 hs 4
    have b5:=Zh3 hs 5
    have lp:loop (t2 (Za3 s)) (0,2)=some (Zm1 (s.getD 2 0) (s.getD 3 0) (s.getD 4 0) (s.getD 5 0)):=by
      refine Zab (st 0 2 (by omega) (by omega) (by omega)) ?_
      refine Zab (st _ 3 (by omega) (by omega) (by omega)) ?_
      refine Zab (st _ 4 (by omega) (by omega) (by omega)) ?_
      refine Zab (st _ 5 (by omega) (by omega) (by omega)) ?_
      refine Zg6 ?_
      show Za3 s _ (((5:Nat):Int)+1)=_
      unfold Za3
      rw [nG (by decide)]
      congr 2
      unfold Zm1;omega
    rw [lp]
    simp only [oB,Xv]
    generalize Zm1 (s.getD 2 0) (s.getD 3 0) (s.getD 4 0) (s.getD 5 0)=n
    unfold Z8
    simp only [oB]
    rw [show idx s 10=some (s.getD 10 0) from hg 10 (by omega)]
    by_cases hn:1≤n∧n≤1073741824
    · have hy:(decide (n<1) || decide (1073741824<n))=false:=by simp;omega
      rw [hy]
      simp only [gd,beq_self_eq_true,if_true,Bool.false_or,Zmq hn]
      rw [show slc s 0 10=some (s.take 10) from(Zhn (a:=0) (b:=10) (by omega) (by omega)).trans (by simp)]
      simp only [oB]
      have hiff:=ZnV (l:=hdL n) (m:=s.take 10) (Zrq n) (fun x hx=>hs x (List.mem_of_mem_take hx))
      by_cases e:s.take 10=hdL n
      · rw [nG (by simp [e]),pG ⟨hn.1,hn.2,e⟩]
      · rw [pG (by simp;intro q;exact e (hiff.1 q).symm),nG (fun q=>e q.2.2)]
    · have hy:(decide (n<1) || decide (1073741824<n))=true:=by simp;omega
      rw [hy]
      simp only [gd,Bool.true_eq_false,beq_iff_eq,if_false,oB]
      rw [pG (by simp),nG (fun q=>hn ⟨q.1,q.2.1⟩)]
end Go.Vx

namespace Go.Vx
open Go Go.RowKit
section
variable {key:Int→Int} {D:Int→Prop} {cmp:Int→Int→Option Int}
theorem Zm2{L A M B R:List Int}(h:A.length=B.length)(hb:(L++A++M++B++R).length≤4611686018427387904):
    ZU (L++A++M++B++R) (L.length:Int) ((L.length+A.length+M.length:Nat):Int) (A.length:Int) cmp=some (L++B++M++A++R):=by
  unfold ZU
  have hb':L.length+A.length+M.length+B.length+R.length≤4611686018427387904:=by simpa [Nat.add_assoc] using hb
  refine Zs1 (a:=L.length) (b:=L.length+A.length+M.length) (n:=A.length) (fun L' M' R' x y i hi h1 h2=> ?_) (fun d=> ?_) A B L M R 0 h (by omega) (by omega) (by omega)
  · unfold Qa
    have e1:i64 ((L.length:Int)+(i:Int))=((L'.length:Nat):Int):=(Zr (by omega) (by omega)).trans (by omega)
    have e2:i64 (((L.length+A.length+M.length:Nat):Int)+(i:Int))=((L'.length+1+M'.length:Nat):Int):=(Zr (by omega) (by omega)).trans (by omega)
    have g1:(L'++x::M'++y::R')[L'.length]?=some x:=by simp
    have g2:(L'++x::M'++y::R')[L'.length+1+M'.length]?=some y:=by
      rw [List.getElem?_append_right (by simp;omega)];simp;rw [show L'.length+1+M'.length-(L'.length+(M'.length+1))=0 by omega];rfl
    have g3:((L'++x::M'++y::R').set L'.length y)[L'.length+1+M'.length]?=some y:=by
      rw [List.getElem?_set_ne (by omega)];exact g2
    rw [pG (by simpa using hi),e1,e2,Zs g2,oB,Zs g1,oB,oB]
    simp only [Int.toNat_natCast]
    rw [Zs g3,oB,Zkg,show i64 ((i:Int)+1)=(i:Int)+1 from Zr (by omega) (by omega)]
  · unfold Qa
    rw [nG (by simp)]
theorem ZpF{L X Y R:List Int}(hX:X≠ [])(hY:Y≠ [])(hb:(L++X++Y++R).length≤4611686018427387904):
    Qo (L++X++Y++R) (L.length:Int) ((L.length+X.length:Nat):Int) ((L.length+X.length+Y.length:Nat):Int) cmp=some (L++Y++X++R):=by
  have hb':L.length+X.length+Y.length+R.length≤4611686018427387904:=by simpa [Nat.add_assoc] using hb
  unfold Qo
  obtain⟨o',i',h1,h2,h3⟩:=Ztn (body:=Qn ((L.length+X.length:Nat):Int) cmp) (sr:=fun d a b n=>ZU d a b n cmp)
    (m:=L.length+X.length) (N:=L.length+X.length+Y.length+R.length) (fun L A M B R h hN=>Zm2 h (by simp only [List.length_append];omega)) (fun o i j hi hj=>by
      unfold Qn
      have e1:i64 (((L.length+X.length:Nat):Int)-(i:Int))=((L.length+X.length-i:Nat):Int):=(Zr (by omega) (by omega)).trans (by omega)
      have e2:i64 (((L.length+X.length:Nat):Int)+(j:Int))=((L.length+X.length+j:Nat):Int):=(Zr (by omega) (by omega)).trans (by omega)
      have e3:i64 (((L.length+X.length+j:Nat):Int)-(i:Int))=((L.length+X.length+j-i:Nat):Int):=(Zr (by omega) (by omega)).trans (by omega)
      rw [e1,e2,e3]
      by_cases h:i=j
      · rw [nG (by simp [h]),pG h]
      · rw [pG (by simp;omega),nG h]
        by_cases h':j<i
        · rw [pG (by simpa using h'),pG h',show i64 ((i:Int)-(j:Int))=((i-j:Nat):Int) from(Zr (by omega) (by omega)).trans (by omega)]
        · rw [nG (by simpa using h'),nG h',show i64 ((j:Int)-(i:Int))=((j-i:Nat):Int) from(Zr (by omega) (by omega)).trans (by omega)]) _ X Y L R rfl hX hY rfl rfl
  have f1:i64 (((L.length+X.length:Nat):Int)-(L.length:Int))=(X.length:Int):=(Zr (by omega) (by omega)).trans (by omega)
  have f2:i64 (((L.length+X.length+Y.length:Nat):Int)-((L.length+X.length:Nat):Int))=(Y.length:Int):=(Zr (by omega) (by omega)).trans (by omega)
  have f3:i64 (((L.length+X.length:Nat):Int)-(i':Int))=((L.length+X.length-i':Nat):Int):=(Zr (by omega) (by omega)).trans (by omega)
  rw [f1,f2,h1]
  simp only [oB,Q1]
  rw [f3,h3];rfl
theorem Zmf{n:Nat}(h:n≤4611686018427387904):shr .u64 (u64 (i64 (n:Int))) 1=some ((n/2:Nat):Int):=by
  rw [show i64 (n:Int)=(n:Int) from Zr (by omega) (by omega),show u64 (n:Int)=(n:Int) from ZrH (by omega) (by omega)]
  rw [show(1:Int)=((1:Nat):Int) from rfl,Zrx (by decide)]
  congr 1
end
end Go.Vx

namespace Go.Vx
open Go Go.RowKit
section
variable {key:Int→Int} {D:Int→Prop} {cmp:Int→Int→Option Int}
theorem Zmb{L X R:List Int}{c:Nat}(h1:L.length≤c)(h2:c<L.length+X.length):(L++X++R)[c]?=some (X.getD (c-L.length) 0):=by
  obtain⟨t,rfl⟩: ∃ t,c=L.length+t:=⟨c-L.length,by omega⟩
  rw [ZrO (by omega),show L.length+t-L.length=t by omega]
  exact XG (by omega) 0
theorem Zbz{X:List Int}{t:Nat}(h:t<X.length):X.getD t 0∈X:=by
  rw [gQ,List.getElem?_eq_getElem h];exact List.getElem_mem h
theorem Zqr(hc: ∀ x y,D x→D y→ ∃ c,cmp x y=some c∧(c<0↔key x<key y)){L Y R:List Int}{x:Int}(hN:L.length+1+Y.length+R.length≤1000000)(hY:Srt key Y)(hlt: ∀ y∈Y,x<y)(hD: ∀ z∈x::Y,D z):
    ∃ Z,((loop (t2 (Qu (L++ [x]++Y++R) (L.length:Int) cmp)) (((L.length+1:Nat):Int),((L.length+1+Y.length:Nat):Int))):Option Int).bind (t1 fun(i:Int)=>
      (loop (t2 (ZV i)) (L++ [x]++Y++R,(L.length:Int))).bind (t1 fun(o:List Int)=>some o))=some (L++Z++R)∧Z.Perm (x::Y)∧Srt key Z:=by
  obtain⟨s,h1,h2,h3,h4,h5⟩:=Zml (body:=Qu (L++ [x]++Y++R) (L.length:Int) cmp) (fun c=>decide (key (Y.getD (c-(L.length+1)) 0)<key x)) (lo:=L.length+1) (hi:=L.length+1+Y.length) (by omega) (fun i j a1 a2 a3=>by
      have e1:i64 ((i:Int)+(j:Int))=i64 ((i+j:Nat):Int):=by push_cast;rfl
      have e2:i64 (((i+j)/2:Nat):Int)=(((i+j)/2:Nat):Int):=Zr (by omega) (by omega)
      have e3:i64 ((((i+j)/2:Nat):Int)+1)=(((i+j)/2+1:Nat):Int):=(Zr (by omega) (by omega)).trans (by omega)
      have g1:(L++ [x]++Y++R)[(i+j)/2]?=some (Y.getD ((i+j)/2-(L.length+1)) 0):=by
        have:=Zmb (L:=L++ [x]) (X:=Y) (R:=R) (c:=(i+j)/2) (by simp;omega) (by simp;omega)
        simpa using this
      have g2:(L++ [x]++Y++R)[L.length]?=some x:=by simp
      unfold Qu
      rw [pG (by simpa using a2),e1,Zmf (by omega),oB,e2,Zs g1,oB,Zs g2,oB]
      obtain⟨c,c1,c2⟩:=hc (Y.getD ((i+j)/2-(L.length+1)) 0) x (hD _ (List.mem_cons_of_mem _ (Zbz (by omega)))) (hD _ (List.mem_cons_self ..))
      rw [c1,oB,e3]
      by_cases q:key (Y.getD ((i+j)/2-(L.length+1)) 0)<key x
      · rw [pG (by simpa using c2.2 q),pG (by simpa using q)]
      · rw [nG (by simpa using fun w=>q (c2.1 w)),nG (by simpa using q)]) (fun i a1 a2=>by
      unfold Qu
      rw [nG (by simp)])
  rw [h3,oB,Xv]
  have sU:=ZsS (body:=ZV (s:Int)) (e:=s-1) (fun L' R' p q hl=>by
      unfold ZV
      have e1:i64 ((s:Int)-1)=((s-1:Nat):Int):=(Zr (by omega) (by omega)).trans (by omega)
      have e2:i64 ((L'.length:Int)+1)=((L'.length+1:Nat):Int):=(Zr (by omega) (by omega)).trans (by omega)
      have g1:(L'++p::q::R')[L'.length+1]?=some q:=by
        rw [List.getElem?_append_right (by omega)];simp
      have g2:(L'++p::q::R')[L'.length]?=some p:=by simp
      have g3:((L'++p::q::R').set L'.length q)[L'.length+1]?=some q:=by rw [List.getElem?_set_ne (by omega)];exact g1
      rw [e1,e2,pG (by simpa using hl),Zs g1,oB,Zs g2,oB,oB]
      simp only [Int.toNat_natCast]
      rw [Zs g3,oB]
      have:=Zkg (L:=L') (M:= []) (R:=R') (x:=p) (y:=q)
      simp only [List.length_nil,Nat.add_zero,List.append_nil] at this
      rw [show L'++p::q::R'=L'++ [p]++q::R' by simp,this]
      simp) (fun d=>by
      unfold ZV
      have e1:i64 ((s:Int)-1)=((s-1:Nat):Int):=(Zr (by omega) (by omega)).trans (by omega)
      rw [e1,nG (by simp)]) (Y.take (s-(L.length+1))) L (Y.drop (s-(L.length+1))++R) x (by rw [List.length_take];omega)
  have ed:L++ [x]++Y++R=L++x::(Y.take (s-(L.length+1))++(Y.drop (s-(L.length+1))++R)):=by
    rw [←List.append_assoc (Y.take _),List.take_append_drop];simp
  rw [ed,sU]
  refine⟨Y.take (s-(L.length+1))++x::Y.drop (s-(L.length+1)),by simp,?_,?_⟩
  · refine List.perm_middle.trans ?_
    rw [List.take_append_drop]
  · have hA:Srt key (Y.take (s-(L.length+1))):=hY.sublist (List.take_sublist ..)
    have hB:Srt key (Y.drop (s-(L.length+1))):=hY.sublist (List.drop_sublist ..)
    have hAx: ∀ a∈Y.take (s-(L.length+1)),LtK key a x:=by
      have:=ZhC (key:=key) (m:= [x]) hA (List.pairwise_singleton ..) (fun a b ha hb=>by
        cases hb
        rw [List.getLast?_eq_getElem?,List.length_take] at ha
        have l2:=(List.getElem?_eq_some_iff.1 ha).1
        rw [List.length_take] at l2
        rw [List.getElem?_take_of_lt (by omega)] at ha
        have q:=h4 (by omega)
        rw [show s-1-(L.length+1)=min (s-(L.length+1)) Y.length-1 by omega,gQ,ha] at q
        exact .inl (by simpa using q))
      exact fun a ha=>this a ha x (List.mem_singleton.2 rfl)
    have hxB: ∀ b∈Y.drop (s-(L.length+1)),LtK key x b:=by
      have:=ZhC (key:=key) (l:= [x]) (List.pairwise_singleton ..) hB (fun a b ha hb=>by
        simp only [List.getLast?_singleton,Option.some.injEq] at ha
        subst ha
        rw [List.head?_drop] at hb
        have l1:=(List.getElem?_eq_some_iff.1 hb).1
        have q:=h5 (by omega)
        rw [gQ,hb] at q
        simp only [Option.getD_some,decide_eq_false_iff_not] at q
        have:x<b:=hlt b (List.mem_of_getElem? hb)
        unfold LtK;omega)
      exact fun b hb=>this x (List.mem_singleton.2 rfl) b hb
    refine hA.app (List.pairwise_cons.2 ⟨hxB,hB⟩) fun a ha b hb=> ?_
    rcases List.mem_cons.1 hb with rfl |hb
    · exact hAx a ha
    · exact(hAx a ha).trans (hxB b hb)
theorem ZpY(hc: ∀ x y,D x→D y→ ∃ c,cmp x y=some c∧(c<0↔key x<key y)){L X R:List Int}{y:Int}(hN:L.length+X.length+1+R.length≤1000000)(hX:Srt key X)(hlt: ∀ x∈X,x<y)(hD: ∀ z∈y::X,D z):
    ∃ Z,((loop (t2 (Qv (L++X++ [y]++R) ((L.length+X.length:Nat):Int) cmp)) ((L.length:Int),((L.length+X.length:Nat):Int))):Option Int).bind (t1 fun(i:Int)=>
      (loop (t2 (ZX i)) (L++X++ [y]++R,((L.length+X.length:Nat):Int))).bind (t1 fun(o:List Int)=>some o))=some (L++Z++R)∧Z.Perm (X++ [y])∧Srt key Z:=by
  obtain⟨s,h1,h2,h3,h4,h5⟩:=Zml (body:=Qv (L++X++ [y]++R) ((L.length+X.length:Nat):Int) cmp) (fun c=> !decide (key y<key (X.getD (c-L.length) 0))) (lo:=L.length) (hi:=L.length+X.length) (by omega) (fun i j a1 a2 a3=>by
      have e1:i64 ((i:Int)+(j:Int))=i64 ((i+j:Nat):Int):=by push_cast;rfl
      have e2:i64 (((i+j)/2:Nat):Int)=(((i+j)/2:Nat):Int):=Zr (by omega) (by omega)
      have e3:i64 ((((i+j)/2:Nat):Int)+1)=(((i+j)/2+1:Nat):Int):=(Zr (by omega) (by omega)).trans (by omega)
      have g1:(L++X++ [y]++R)[(i+j)/2]?=some (X.getD ((i+j)/2-L.length) 0):=by
        have:=Zmb (L:=L) (X:=X) (R:= [y]++R) (c:=(i+j)/2) (by omega) (by omega)
        simpa using this
      have g2:(L++X++ [y]++R)[L.length+X.length]?=some y:=by
        rw [List.append_assoc,List.getElem?_append_right (by simp)];simp
      unfold Qv
      rw [pG (by simpa using a2),e1,Zmf (by omega),oB,e2,Zs g2,oB,Zs g1,oB]
      obtain⟨c,c1,c2⟩:=hc y (X.getD ((i+j)/2-L.length) 0) (hD _ (List.mem_cons_self ..)) (hD _ (List.mem_cons_of_mem _ (Zbz (by omega))))
      rw [c1,oB,e3]
      by_cases q:key y<key (X.getD ((i+j)/2-L.length) 0)
      · rw [nG (by simpa using c2.2 q),nG (by simpa using q)]
      · rw [pG (by simpa using fun w=>q (c2.1 w)),pG (by simpa using q)]) (fun i a1 a2=>by
      unfold Qv
      rw [nG (by simp)])
  rw [h3,oB,Xv]
  have hdl:(X.drop (s-L.length)).length=L.length+X.length-s:=by rw [List.length_drop];omega
  have htl:(X.take (s-L.length)).length=s-L.length:=by rw [List.length_take];omega
  have sD:=ZsI (body:=ZX (s:Int)) (e:=s) (N:=1000000) (fun L' R' p q hl hl2=>by
      unfold ZX
      have e1:i64 ((L'.length:Int)+1-1)=((L'.length:Nat):Int):=(Zr (by omega) (by omega)).trans (by omega)
      have e2:(L'.length:Int)+1=((L'.length+1:Nat):Int):=by omega
      have g1:(L'++p::q::R')[L'.length+1]?=some q:=by
        rw [List.getElem?_append_right (by omega)];simp
      have g2:(L'++p::q::R')[L'.length]?=some p:=by simp
      have g3:((L'++p::q::R').set (L'.length+1) p)[L'.length]?=some p:=by rw [List.getElem?_set_ne (by omega)];exact g2
      rw [e1,e2,pG (by simp;omega),Zs g2,oB,Zs g1,oB,oB]
      simp only [Int.toNat_natCast]
      rw [Zs g3,oB]
      have:=Zkg (L:=L') (M:= []) (R:=R') (x:=p) (y:=q)
      simp only [List.length_nil,Nat.add_zero,List.append_nil] at this
      rw [show L'++p::q::R'=L'++ [p]++q::R' by simp,List.set_comm _ _ (by omega),this]
      simp) (fun d=>by
      unfold ZX
      rw [nG (by simp)]) _ (X.drop (s-L.length)) (L++X.take (s-L.length)) R y rfl (by rw [List.length_append];omega) (by rw [List.length_append];omega)
  have ed:L++X++ [y]++R=L++X.take (s-L.length)++X.drop (s-L.length)++y::R:=by
    rw [List.append_assoc L (X.take _),List.take_append_drop];simp
  have el:((L.length+X.length:Nat):Int)=((L++X.take (s-L.length)).length:Int)+((X.drop (s-L.length)).length:Int):=by
    rw [List.length_append];omega
  rw [ed,el,sD]
  refine⟨X.take (s-L.length)++y::X.drop (s-L.length),by simp,?_,?_⟩
  · refine List.perm_middle.trans ?_
    rw [List.take_append_drop]
    exact(List.perm_append_comm (l₁:=X) (l₂:= [y])).symm
  · have hA:Srt key (X.take (s-L.length)):=hX.sublist (List.take_sublist ..)
    have hB:Srt key (X.drop (s-L.length)):=hX.sublist (List.drop_sublist ..)
    have hAy: ∀ a∈X.take (s-L.length),LtK key a y:=by
      have:=ZhC (key:=key) (m:= [y]) hA (List.pairwise_singleton ..) (fun a b ha hb=>by
        cases hb
        rw [List.getLast?_eq_getElem?,htl] at ha
        have l2:=(List.getElem?_eq_some_iff.1 ha).1
        rw [htl] at l2
        rw [List.getElem?_take_of_lt (by omega)] at ha
        have q:=h4 (by omega)
        rw [show s-1-L.length=s-L.length-1 by omega,gQ,ha] at q
        simp only [Option.getD_some,Bool.not_eq_true',decide_eq_false_iff_not] at q
        have:a<y:=hlt a (List.mem_of_getElem? ha)
        unfold LtK;omega)
      exact fun a ha=>this a ha y (List.mem_singleton.2 rfl)
    have hyB: ∀ b∈X.drop (s-L.length),LtK key y b:=by
      have:=ZhC (key:=key) (l:= [y]) (List.pairwise_singleton ..) hB (fun a b ha hb=>by
        simp only [List.getLast?_singleton,Option.some.injEq] at ha
        subst ha
        rw [List.head?_drop] at hb
        have l1:=(List.getElem?_eq_some_iff.1 hb).1
        have q:=h5 (by omega)
        rw [gQ,hb] at q
        exact .inl (by simpa using q))
      exact fun b hb=>this y (List.mem_singleton.2 rfl) b hb
    refine hA.app (List.pairwise_cons.2 ⟨hyB,hB⟩) fun a ha b hb=> ?_
    rcases List.mem_cons.1 hb with rfl |hb
    · exact hAy a ha
    · exact(hAy a ha).trans (hyB b hb)
end
end Go.Vx

namespace Go.Vx
open Go Go.RowKit
set_option maxHeartbeats 1000000
section
variable {key:Int→Int} {D:Int→Prop} {cmp:Int→Int→Option Int}
theorem Zs8(hc: ∀ x y,D x→D y→ ∃ c,cmp x y=some c∧(c<0↔key x<key y)):
    ∀ (n:Nat) (L X Y R:List Int),X≠ []→Y≠ []→X.length+Y.length≤n→L.length+X.length+Y.length+R.length≤1000000→Srt key X→Srt key Y→(∀ x∈X,∀ y∈Y,x<y)→(∀ x∈X++Y,D x)→
      ∃ Z,ZQ n (L++X++Y++R) (L.length:Int) ((L.length+X.length:Nat):Int) ((L.length+X.length+Y.length:Nat):Int) cmp=some (L++Z++R)∧Z.Perm (X++Y)∧Srt key Z:=by
  intro n
  induction n with
  |zero=>
    intro L X Y R hX hY hn
    have:=List.length_pos_iff.2 hX
    omega
  |succ n ih=>
    intro L X Y R hX hY hn hN sX sY hlt hD
    have pX:=List.length_pos_iff.2 hX
    have pY:=List.length_pos_iff.2 hY
    show ∃ Z,Qg (ZQ n) _ _ _ _ _=_∧_
    unfold Qg
    have e1:i64 (((L.length+X.length:Nat):Int)-(L.length:Int))=(X.length:Int):=(Zr (by omega) (by omega)).trans (by omega)
    have e2:i64 (((L.length+X.length+Y.length:Nat):Int)-((L.length+X.length:Nat):Int))=(Y.length:Int):=(Zr (by omega) (by omega)).trans (by omega)
    rw [e1,e2]
    by_cases c1:X.length=1
    · rw [pG (by simp;omega)]
      obtain⟨x,rfl⟩:=List.length_eq_one_iff.1 c1
      have:=Zqr (key:=key) (D:=D) hc (L:=L) (Y:=Y) (R:=R) (x:=x) (by simp at hN;omega) sY (fun y hy=>hlt x (by simp) y hy) (fun z hz=>hD z (by simpa using hz))
      simpa using this
    · rw [nG (by simpa using fun q => c1 (by omega))]
      by_cases c2:Y.length=1
      · rw [pG (by simp;omega)]
        obtain⟨y,rfl⟩:=List.length_eq_one_iff.1 c2
        have:=ZpY (key:=key) (D:=D) hc (L:=L) (X:=X) (R:=R) (y:=y) (by simp at hN;omega) sX (fun x hx=>hlt x hx y (by simp)) (fun z hz=>hD z (by
          rcases List.mem_cons.1 hz with rfl |q<;>simp_all))
        exact this
      · rw [nG (by simpa using fun q=>c2 (by omega))]
        generalize ha:L.length=a at*
        generalize hm:a+X.length=m at*
        generalize hb:m+Y.length=b at*
        obtain⟨mid,hmid⟩: ∃ mid,mid=(a+b)/2:=⟨_,rfl⟩
        rw [show i64 ((a:Int)+(b:Int))=i64 ((a+b:Nat):Int) by push_cast;rfl,Zmf (by omega),oB,←hmid]
        have f1:i64 (mid:Int)=(mid:Int):=Zr (by omega) (by omega)
        have f2:i64 ((mid:Int)+(m:Int))=((mid+m:Nat):Int):=(Zr (by omega) (by omega)).trans (by omega)
        rw [f1,f2]
        obtain⟨lo,hlo⟩: ∃ lo,lo=if mid<m then mid+m-b else a:=⟨_,rfl⟩
        obtain⟨hi,hhi⟩: ∃ hi,hi=if mid<m then mid else m:=⟨_,rfl⟩
        have f3:(if decide ((mid:Int)<(m:Int))=true then some (i64 (((mid+m:Nat):Int)-(b:Int)),(mid:Int)) else some ((a:Int),(m:Int)))=some ((lo:Int),(hi:Int)):=by
          by_cases q:mid<m
          · rw [pG (by simpa using q),show i64 (((mid+m:Nat):Int)-(b:Int))=((mid+m-b:Nat):Int) from(Zr (by omega) (by omega)).trans (by omega),hlo,hhi,pG q,pG q]
          · rw [nG (by simpa using q),hlo,hhi,nG q,nG q]
        rw [f3]
        simp only [oB,Q1]
        have blo:a≤lo∧lo≤hi∧hi≤m∧hi≤mid∧mid+m-b≤lo:=by
          split at hlo<;>split at hhi<;>omega
        obtain⟨s,h1,h2,h3,h4,h5⟩:=Zml (body:=QO (L++X++Y++R) (m:Int) cmp (mid:Int)) (fun c=> !decide (key (Y.getD (mid-1-c) 0)<key (X.getD (c-a) 0))) (lo:=lo) (hi:=hi) (by omega) (fun i j a1 a2 a3=>by
          have g1:i64 ((i:Int)+(j:Int))=i64 ((i+j:Nat):Int):=by push_cast;rfl
          have g2:i64 (((i+j)/2:Nat):Int)=(((i+j)/2:Nat):Int):=Zr (by omega) (by omega)
          have g3:i64 ((((i+j)/2:Nat):Int)+1)=(((i+j)/2+1:Nat):Int):=(Zr (by omega) (by omega)).trans (by omega)
          have g4:i64 (i64 (((mid+m:Nat):Int)-1)-(((i+j)/2:Nat):Int))=((m+(mid-1-(i+j)/2):Nat):Int):=by
            rw [show i64 (((mid+m:Nat):Int)-1)=((mid+m-1:Nat):Int) from(Zr (by omega) (by omega)).trans (by omega)]
            exact(Zr (by omega) (by omega)).trans (by omega)
          have k1:(L++X++Y++R)[m+(mid-1-(i+j)/2)]?=some (Y.getD (mid-1-(i+j)/2) 0):=by
            have:=Zmb (L:=L++X) (X:=Y) (R:=R) (c:=m+(mid-1-(i+j)/2)) (by simp;omega) (by simp;omega)
            rw [this];congr 2;simp;omega
          have k2:(L++X++Y++R)[(i+j)/2]?=some (X.getD ((i+j)/2-a) 0):=by
            have:=Zmb (L:=L) (X:=X) (R:=Y++R) (c:=(i+j)/2) (by omega) (by omega)
            rw [←ha,←this];simp
          unfold QO
          rw [pG (by simpa using a2),g1,Zmf (by omega),oB,g2,f1,f2,g4,Zs k1,oB,Zs k2,oB]
          obtain⟨c,d1,d2⟩:=hc (Y.getD (mid-1-(i+j)/2) 0) (X.getD ((i+j)/2-a) 0) (hD _ (List.mem_append_right _ (Zbz (by omega)))) (hD _ (List.mem_append_left _ (Zbz (by omega))))
          rw [d1,oB,g3]
          by_cases q:key (Y.getD (mid-1-(i+j)/2) 0)<key (X.getD ((i+j)/2-a) 0)
          · rw [nG (by simpa using d2.2 q),nG (by simpa using q)]
          · rw [pG (by simpa using fun w=>q (d2.1 w)),pG (by simpa using q)]) (fun i a1 a2=>by
          unfold QO
          rw [nG (by simp)])
        rw [h3]
        simp only [oB,Xv]
        have cut:=ZrX (key:=key) (X:=X) (Y:=Y) (a:=a) (m:=m) (b:=b) (s:=s) hm hb sX sY mid hmid lo hi hlo hhi h1 h2 (fun hl x y hx hy=>by
          have q:=h4 hl
          rw [show mid-1-(s-1)=mid-s by omega,gQ,gQ,hx,hy] at q
          simp only [Option.getD_some,Bool.not_eq_true',decide_eq_false_iff_not] at q
          have:=hlt x (List.mem_of_getElem? hx) y (List.mem_of_getElem? hy)
          unfold LtK;omega) (fun hl x y hx hy=>by
          have q:=h5 hl
          rw [show mid-1-s=mid-s-1 by omega,gQ,gQ,hx,hy] at q
          simp only [Option.getD_some,Bool.not_eq_false',decide_eq_true_eq] at q
          exact .inl q)
        have le1:(X.take (s-a)).length=s-a:=by rw [List.length_take];omega
        have le2:(X.drop (s-a)).length=m-s:=by rw [List.length_drop];omega
        have le3:(Y.take (mid-s)).length=mid-s:=by rw [List.length_take];omega
        have le4:(Y.drop (mid-s)).length=b-(mid+m-s):=by rw [List.length_drop];omega
        have sX1:Srt key (X.take (s-a)):=sX.sublist (List.take_sublist ..)
        have sX2:Srt key (X.drop (s-a)):=sX.sublist (List.drop_sublist ..)
        have sY1:Srt key (Y.take (mid-s)):=sY.sublist (List.take_sublist ..)
        have sY2:Srt key (Y.drop (mid-s)):=sY.sublist (List.drop_sublist ..)
        have mXX: ∀ x∈X.take (s-a),∀ y∈X.drop (s-a),LtK key x y:=by
          have:=sX
          rw [←List.take_append_drop (s-a) X] at this
          exact this.mid
        have mYY: ∀ x∈Y.take (mid-s),∀ y∈Y.drop (mid-s),LtK key x y:=by
          have:=sY
          rw [←List.take_append_drop (mid-s) Y] at this
          exact this.mid
        have hXe:X=X.take (s-a)++X.drop (s-a):=(List.take_append_drop ..).symm
        have hYe:Y=Y.take (mid-s)++Y.drop (mid-s):=(List.take_append_drop ..).symm
        have iX1: ∀ x∈X.take (s-a),x∈X:=fun x hx=>List.mem_of_mem_take hx
        have iX2: ∀ x∈X.drop (s-a),x∈X:=fun x hx=>List.mem_of_mem_drop hx
        have iY1: ∀ x∈Y.take (mid-s),x∈Y:=fun x hx=>List.mem_of_mem_take hx
        have iY2: ∀ x∈Y.drop (mid-s),x∈Y:=fun x hx=>List.mem_of_mem_drop hx
        generalize X.take (s-a)=X1 at*
        generalize X.drop (s-a)=X2 at*
        generalize Y.take (mid-s)=Y1 at*
        generalize Y.drop (mid-s)=Y2 at*
        subst hXe hYe
        have g5:i64 (((mid+m:Nat):Int)-(s:Int))=((mid+m-s:Nat):Int):=(Zr (by omega) (by omega)).trans (by omega)
        rw [g5]
        have rot:(if((decide ((s:Int)<(m:Int)))&&(decide ((m:Int)<((mid+m-s:Nat):Int))))=true then(Qo (L++(X1++X2)++(Y1++Y2)++R) (s:Int) (m:Int) ((mid+m-s:Nat):Int) cmp).bind fun y4=>some y4 else some (L++(X1++X2)++(Y1++Y2)++R))=some (L++X1++Y1++(X2++Y2++R)):=by
          by_cases q:s<m∧m<mid+m-s
          · rw [pG (by simp;omega)]
            have:=ZpF (cmp:=cmp) (L:=L++X1) (X:=X2) (Y:=Y1) (R:=Y2++R) (by intro w;subst w;simp at le2;omega) (by intro w;subst w;simp at le3;omega) (by simp only [List.length_append] at hn hN pX pY ⊢;omega)
            rw [show(L++X1).length=s by rw [List.length_append];omega,show s+X2.length=m by omega,show m+Y1.length=mid+m-s by omega] at this
            rw [show L++(X1++X2)++(Y1++Y2)++R=L++X1++X2++Y1++(Y2++R) by simp,this]
            simp
          · rw [nG (by simp;omega)]
            by_cases w:s<m
            · have:Y1= []:=List.length_eq_zero_iff.1 (by omega)
              subst this;simp
            · have:X2= []:=List.length_eq_zero_iff.1 (by omega)
              subst this;simp
        rw [rot]
        simp only [oB,Xv]
        have first: ∃ Z1,(if((decide ((a:Int)<(s:Int)))&&(decide ((s:Int)<(mid:Int))))=true then(ZQ n (L++X1++Y1++(X2++Y2++R)) (a:Int) (s:Int) (mid:Int) cmp).bind fun y5=>some y5 else some (L++X1++Y1++(X2++Y2++R)))=some (L++Z1++(X2++Y2++R))∧Z1.Perm (X1++Y1)∧Srt key Z1:=by
          by_cases q:a<s∧s<mid
          · rw [pG (by simp;omega)]
            obtain⟨Z,z1,z2,z3⟩:=ih L X1 Y1 (X2++Y2++R) (by intro w;subst w;simp at le1;omega) (by intro w;subst w;simp at le3;omega) (by simp only [List.length_append] at hn hN pX pY c1 c2 ⊢;omega) (by simp only [List.length_append] at hn hN ⊢;omega) sX1 sY1 (fun x hx y hy=>hlt x (iX1 x hx) y (iY1 y hy)) (fun x hx=>hD x (by
              rcases List.mem_append.1 hx with w |w
              · exact List.mem_append_left _ (iX1 x w)
              · exact List.mem_append_right _ (iY1 x w)))
            rw [ha,show a+X1.length=s by omega,show s+Y1.length=mid by omega] at z1
            exact⟨Z,by rw [z1];rfl,z2,z3⟩
          · rw [nG (by simp;omega)]
            refine⟨X1++Y1,by simp,.refl _,?_⟩
            by_cases w:a<s
            · have:Y1= []:=List.length_eq_zero_iff.1 (by omega)
              subst this;simpa using sX1
            · have:X1= []:=List.length_eq_zero_iff.1 (by omega)
              subst this;simpa using sY1
        obtain⟨Z1,z1,z2,z3⟩:=first
        rw [z1]
        simp only [oB,Xv]
        have hZ1:Z1.length=mid-a:=by rw [z2.length_eq,List.length_append];omega
        have second: ∃ Z2,(if((decide ((mid:Int)<((mid+m-s:Nat):Int)))&&(decide (((mid+m-s:Nat):Int)<(b:Int))))=true then(ZQ n (L++Z1++(X2++Y2++R)) (mid:Int) ((mid+m-s:Nat):Int) (b:Int) cmp).bind fun y6=>some y6 else some (L++Z1++(X2++Y2++R)))=some (L++Z1++Z2++R)∧Z2.Perm (X2++Y2)∧Srt key Z2:=by
          by_cases q:mid<mid+m-s∧mid+m-s<b
          · rw [pG (by simp;omega)]
            obtain⟨Z,y1,y2,y3⟩:=ih (L++Z1) X2 Y2 R (by intro w;subst w;simp at le2;omega) (by intro w;subst w;simp at le4;omega) (by simp only [List.length_append] at hn hN pX pY c1 c2 ⊢;omega) (by simp only [List.length_append] at hn hN ⊢;omega) sX2 sY2 (fun x hx y hy=>hlt x (iX2 x hx) y (iY2 y hy)) (fun x hx=>hD x (by
              rcases List.mem_append.1 hx with w |w
              · exact List.mem_append_left _ (iX2 x w)
              · exact List.mem_append_right _ (iY2 x w)))
            rw [show(L++Z1).length=mid by rw [List.length_append];omega,show mid+X2.length=mid+m-s by omega,show mid+m-s+Y2.length=b by omega] at y1
            refine⟨Z,?_,y2,y3⟩
            rw [show L++Z1++(X2++Y2++R)=L++Z1++X2++Y2++R by simp,y1];rfl
          · rw [nG (by simp;omega)]
            refine⟨X2++Y2,by simp,.refl _,?_⟩
            by_cases w:s<m
            · have:Y2= []:=List.length_eq_zero_iff.1 (by omega)
              subst this;simpa using sX2
            · have:X2= []:=List.length_eq_zero_iff.1 (by omega)
              subst this;simpa using sY2
        obtain⟨Z2,y1,y2,y3⟩:=second
        refine⟨Z1++Z2,by rw [y1];simp,?_,?_⟩
        · refine(z2.append y2).trans ?_
          simp only [List.append_assoc]
          refine List.Perm.append_left _ ?_
          rw [←List.append_assoc,←List.append_assoc]
          exact List.Perm.append_right _ List.perm_append_comm
        · refine z3.app y3 fun x hx y hy=> ?_
          rcases List.mem_append.1 (z2.mem_iff.1 hx) with p |p<;>rcases List.mem_append.1 (y2.mem_iff.1 hy) with q |q
          · exact mXX x p y q
          · exact cut.1 x p y q
          · exact cut.2 x p y q
          · exact mYY x p y q
end
end Go.Vx

namespace Go.Vx
open Go Go.RowKit
section
variable {key:Int→Int} {D:Int→Prop} {cmp:Int→Int→Option Int}
theorem Ztc(hc: ∀ x y,D x→D y→ ∃ c,cmp x y=some c∧(c<0↔key x<key y)){L X R:List Int}(hN:L.length+X.length+R.length≤1000000)(hX:X.Pairwise (· < ·))(hD: ∀ x∈X,D x):
    ∃ Z,ZE (L++X++R) (L.length:Int) ((L.length+X.length:Nat):Int) cmp=some (L++Z++R)∧Z.Perm X∧Srt key Z:=by
  unfold ZE
  have e0:i64 ((L.length:Int)+1)=((L.length+1:Nat):Int):=(Zr (by omega) (by omega)).trans (by omega)
  rw [e0]
  have hend1: ∀ o (i:Nat),L.length+X.length≤i→Zx (L.length:Int) ((L.length+X.length:Nat):Int) cmp o (i:Int)=some (.inr o):=fun o i hi=>by
    unfold Zx
    rw [nG (by simp;omega)]
  cases X with
  |nil=>exact⟨[],Zdt (by simp only [Q1];rw [hend1 _ _ (by simp)]),.refl _,.nil⟩
  |cons x T=>
    have hT:=List.pairwise_cons.1 hX
    obtain⟨Z,z1,z2,z3⟩:=Zte (key:=key) (D:=D) (body1:=Zx (L.length:Int) ((L.length+(x::T).length:Nat):Int) cmp) (body2:=ZC (L.length:Int) cmp) (a:=L.length) (b:=L.length+(x::T).length)
      (fun P Q x y hx hy hP hP2=>by
        unfold ZC
        have e1:i64 ((P.length:Int)+1-1)=((P.length:Nat):Int):=(Zr (by omega) (by omega)).trans (by omega)
        have e2:(P.length:Int)+1=((P.length+1:Nat):Int):=by omega
        have g1:(P++y::x::Q)[P.length+1]?=some x:=by rw [List.getElem?_append_right (by omega)];simp
        have g2:(P++y::x::Q)[P.length]?=some y:=by simp
        have g3:((P++y::x::Q).set (P.length+1) y)[P.length]?=some y:=by rw [List.getElem?_set_ne (by omega)];exact g2
        have hg:decide ((L.length:Int)<((P.length+1:Nat):Int))=true:=by simp;omega
        obtain⟨c,d1,d2⟩:=hc x y hx hy
        rw [e1,e2,hg]
        simp only [gd,beq_self_eq_true,if_true,Bool.true_and]
        rw [Zs g1,oB,Zs g2,oB,d1,oB]
        by_cases q:key x<key y
        · rw [pG (by simpa using d2.2 q),pG q]
          simp only [oB,Int.toNat_natCast]
          rw [Zs g3,oB]
          have:=Zkg (L:=P) (M:= []) (R:=Q) (x:=y) (y:=x)
          simp only [List.length_nil,Nat.add_zero,List.append_nil] at this
          rw [show P++y::x::Q=P++ [y]++x::Q by simp,List.set_comm _ _ (by omega),this]
          simp
        · rw [nG (by simpa using fun w=>q (d2.1 w)),nG q]) (fun d=>by
        unfold ZC
        simp [gd]) (fun o i hi=>by
        unfold Zx
        rw [pG (by simp only [List.length_cons] at hi ⊢;simp;omega),show i64 ((i:Int)+1)=(i:Int)+1 from Zr (by simp only [List.length_cons] at hi;omega) (by simp only [List.length_cons] at hi hN;omega)]
        rfl) hend1 rfl R T [x] (by simp;omega) (List.pairwise_singleton ..) hD (fun p hp y hy=>by rw [List.mem_singleton.1 hp];exact hT.1 y hy) hT.2
    refine⟨Z,?_,z2,z3⟩
    rw [←z1];congr 2;simp
theorem Zpd(hc: ∀ x y,D x→D y→ ∃ c,cmp x y=some c∧(c<0↔key x<key y)){l:List Int}(hl:l.length≤100)(hp:l.Pairwise (· < ·))(hD: ∀ x∈l,D x):
    ∃ l',ZW l cmp=some l'∧l'.Perm l∧Srt key l':=by
  unfold ZW Qp
  obtain⟨o,a,l1,b1,b2,b3,b4⟩:=ZtM (key:=key) (D:=D) (ins:=fun o a b=>ZE o a b cmp) (s:=20) (n:=l.length) (by omega) (fun L X R hn hX hDX=>Ztc hc (by omega) hX hDX)
    (body:=ZT (l.length:Int) cmp) (fun o a ha=>by
      unfold ZT
      by_cases q:a+20≤l.length
      · rw [pG (by simp;omega),pG q,show i64 (((a+20:Nat):Int)+20)=((a+20+20:Nat):Int) from(Zr (by omega) (by omega)).trans (by omega)]
      · rw [nG (by simp;omega),nG q]) l.length [] l rfl (by simp) hp hD
  simp only [List.nil_append,List.length_nil,Nat.zero_add] at b1 b2
  rw [show loop (t3 (ZT (l.length:Int) cmp)) (l,0,20)=some (o,(a:Int)) from b1]
  simp only [oB,Q1]
  rw [b2]
  simp only [oB]
  have hln:l1.length=l.length:=b3.length_eq
  obtain⟨o',k1,k2,k3⟩:=ZtH (key:=key) (D:=D) (n:=l.length) (body:=ZM (l.length:Int) cmp) (fun o s h0 h2 hn hB hDo=>by
    split
    · rename_i hs
      obtain⟨p,a,l',p1,pa,p2,p3,p4⟩:=ZsP (key:=key) (D:=D) (sm:=fun o a m b=>ZQ 100 o a m b cmp) (s:=s) (n:=l.length) h0
        (fun L X Y R hX hY hN sX sY hlt hDX=>Zs8 hc 100 L X Y R hX hY (by omega) (by omega) sX sY hlt hDX) (body:=ZN (l.length:Int) cmp (s:Int)) (fun o a ha=>by
          unfold ZN
          by_cases q:a+2*s≤l.length
          · rw [pG (by simp;omega),pG q,show i64 ((a:Int)+(s:Int))=((a+s:Nat):Int) from(Zr (by omega) (by omega)).trans (by omega),show i64 (2*(s:Int))=((2*s:Nat):Int) from(Zr (by omega) (by omega)).trans (by omega),
              show i64 (((a+2*s:Nat):Int)+((2*s:Nat):Int))=((a+2*s+2*s:Nat):Int) from(Zr (by omega) (by omega)).trans (by omega)]
          · rw [nG (by simp;omega),nG q]) l.length [] o hn (by simpa using hn) hB hDo
      simp only [List.nil_append,List.length_nil,Nat.zero_add] at p1 p2
      refine⟨l',?_,p3,p4⟩
      unfold ZM
      rw [pG (by simpa using hs),show i64 (2*(s:Int))=((2*s:Nat):Int) from(Zr (by omega) (by omega)).trans (by omega),
        show loop (t3 (ZN (l.length:Int) cmp (s:Int))) (o,0,((2*s:Nat):Int))=some (p,(a:Int)) from p1]
      simp only [oB,Q1]
      rw [show i64 ((s:Int)*2)=((2*s:Nat):Int) from(Zr (by omega) (by omega)).trans (by omega)]
      rw [show i64 ((a:Int)+(s:Int))=((a+s:Nat):Int) from(Zr (by omega) (by omega)).trans (by omega)]
      by_cases q:a+s<l.length
      · rw [pG q] at p2
        rw [pG (by simp;omega),p2];rfl
      · rw [nG q] at p2
        cases p2
        rw [nG (by simp;omega)]
    · rename_i hs
      unfold ZM
      rw [nG (by simpa using hs)]) _ l1 20 rfl (by omega) (by omega) hln b4 (fun x hx=>hD x (b3.mem_iff.1 hx))
  refine⟨o',?_,k2.trans b3,k3⟩
  rw [show loop (t2 (ZM (l.length:Int) cmp)) (l1,20)=some o' from k1];rfl
end
end Go.Vx

namespace Go.Vx
open Go Go.RowKit
theorem Zd2{σ ρ:Type}{body:σ→Int→Option ((σ×Int) ⊕ ρ)}{N:Nat}(I:Nat→σ→Prop)(Q:ρ→Prop)
    (hstep: ∀ (k:Nat) s,k<N→I k s→(∃ s',body s (k:Int)=some (.inl (s',(k:Int)+1))∧I (k+1) s')∨ ∃ r,body s (k:Int)=some (.inr r)∧Q r)
    (hend: ∀ s,I N s→ ∃ r,body s (N:Int)=some (.inr r)∧Q r) {s0:σ} (h0:I 0 s0): ∃ r,loop (t2 body) (s0,0)=some r∧Q r:=by
  refine Ze4 (body:=t2 body) (fun p=> ∃ k:Nat,p.2=k∧k≤N∧I k p.1) (fun p=>N-p.2.toNat) Q ?_ (s0,0) ⟨0,rfl,Nat.zero_le _,h0⟩
  rintro⟨s,i⟩ ⟨k,hi,hk,hI⟩
  simp only at hi hI
  subst hi
  simp only [Int.toNat_natCast,Q1]
  rcases Nat.lt_or_ge k N with h |h
  · rcases hstep k s h hI with ⟨s',h1,h2⟩ | ⟨r,h1,h2⟩
    · exact .inl ⟨_,h1,⟨k+1,by push_cast;rfl,h,h2⟩,by simp only;omega⟩
    · exact .inr ⟨r,h1,h2⟩
  · have:k=N:=by omega
    subst this
    exact .inr (hend s hI)
theorem Zkh{ρ:Type}{body:Int→Option (Int ⊕ ρ)}{N:Nat}(I:Nat→Prop)(Q:ρ→Prop)
    (hstep: ∀ k:Nat,k<N→I k→(body (k:Int)=some (.inl ((k:Int)+1))∧I (k+1))∨ ∃ r,body (k:Int)=some (.inr r)∧Q r)
    (hend:I N→ ∃ r,body (N:Int)=some (.inr r)∧Q r) (h0:I 0): ∃ r,loop (t1 body) 0=some r∧Q r:=by
  refine Ze4 (body:=t1 body) (fun p=> ∃ k:Nat,p=k∧k≤N∧I k) (fun p=>N-p.toNat) Q ?_ 0 ⟨0,rfl,Nat.zero_le _,h0⟩
  rintro i ⟨k,hi,hk,hI⟩
  subst hi
  simp only [Int.toNat_natCast,Xv]
  rcases Nat.lt_or_ge k N with h |h
  · rcases hstep k h hI with ⟨h1,h2⟩ | ⟨r,h1,h2⟩
    · exact .inl ⟨_,h1,⟨k+1,by push_cast;rfl,h,h2⟩,by omega⟩
    · exact .inr ⟨r,h1,h2⟩
  · have:k=N:=by omega
    subst this
    exact .inr (hend hI)
theorem ZqL{α:Type}{o:List α}{at_:Nat}(z:α)(h:at_≤o.length)(n:α):
    (cpy (o++ [z]) (at_+1) ((o.length+1)-(at_+1)) at_ ((o.length+1)-at_)).set at_ n=o.take at_++n::o.drop at_:=by
  have hl:(o++ [z]).length=o.length+1:=by simp
  have h1:(at_+1)+((o.length+1)-(at_+1))≤(o++ [z]).length:=by omega
  have h2:at_+((o.length+1)-at_)≤(o++ [z]).length:=by omega
  refine List.ext_getElem? fun i=> ?_
  by_cases hi:i<o.length+1
  · by_cases hia:i=at_
    · subst hia
      rw [List.getElem?_set_self (by rw [Zd4 h1 h2];omega),List.getElem?_append_right (by simp;omega)]
      simp [Nat.min_eq_left h]
    · rw [List.getElem?_set_ne (Ne.symm hia),ZnY h1 h2 (by omega)]
      by_cases hlt:i<at_
      · rw [nG (by omega),List.getElem?_append_left (by omega),List.getElem?_append_left (by simp;omega),List.getElem?_take_of_lt hlt]
      · rw [pG (by omega),List.getElem?_append_left (by omega),List.getElem?_append_right (by simp;omega)]
        have e:i-(o.take at_).length=(i-at_-1)+1:=by simp;omega
        rw [e,List.getElem?_cons_succ,List.getElem?_drop]
        congr 1
  · rw [List.getElem?_eq_none (by rw [List.length_set,Zd4 h1 h2];omega),List.getElem?_eq_none (by simp;omega)]
theorem ZrJ{o:List Int}{at_:Nat}(h:at_≤o.length)(n:Int):
    (cpy (o++ [0]) (at_+1) ((o.length+1)-(at_+1)) at_ ((o.length+1)-at_)).set at_ n=o.take at_++n::o.drop at_:=ZqL 0 h n
end Go.Vx

namespace Go.Vx
open Go Go.RowKit
def slotL(s:List Int)(i:Nat):List Int:=(s.take (16+i*97+97)).drop (16+i*97)
theorem ZdY{s:List Int}{i:Nat}(h:16+i*97+97≤s.length):(slotL s i).length=97:=by unfold slotL;simp;omega
theorem ZmM{s:List Int}{i:Nat}(hl:s.length≤140737488355328)(h:16+i*97+97≤s.length): ∃ v,ZaQ s (i:Int)=some v∧v.toList=slotL s i:=by
  unfold ZaQ
  have e1:i64 ((i:Int)*97)=(i:Int)*97:=Zr (by omega) (by omega)
  have e2:i64 (16+(i:Int)*97)=((16+i*97:Nat):Int):=(Zr (by omega) (by omega)).trans (by omega)
  have e3:i64 (((16+i*97:Nat):Int)+97)=((16+i*97+97:Nat):Int):=(Zr (by omega) (by omega)).trans (by omega)
  rw [e1,e2,e3,Zhn (by omega) h,oB]
  obtain⟨v,hv,hvl⟩:=Zo1 (m:=97) (xs:=(s.take (16+i*97+97)).drop (16+i*97)) (by simp;omega)
  rw [hv]
  refine⟨v,rfl,?_⟩
  rw [hvl,List.take_of_length_le (by rw [List.length_drop,List.length_take];omega)];unfold slotL;rfl
theorem ZrF{s:List Int}{i:Nat}(hl:s.length≤140737488355328)(h:16+i*97+97≤s.length):Zgh s (i:Int)=some (slotL s i):=by
  unfold Zgh
  have e1:i64 ((i:Int)*97)=(i:Int)*97:=Zr (by omega) (by omega)
  have e2:i64 (16+(i:Int)*97)=((16+i*97:Nat):Int):=(Zr (by omega) (by omega)).trans (by omega)
  have e4:i64 ((i:Int)+1)=(i:Int)+1:=Zr (by omega) (by omega)
  have e5:i64 (((i:Int)+1)*97)=((i:Int)+1)*97:=Zr (by omega) (by omega)
  have e3:i64 (16+((i:Int)+1)*97)=((16+i*97+97:Nat):Int):=(Zr (by omega) (by omega)).trans (by omega)
  rw [e1,e2,e4,e5,e3,Zhn (by omega) h];rfl
def stV(l:List Int):Int:=if l.getD 96 0=0 then 1 else if l.any (fun x=> !decide (x=255)) then 2 else 0
theorem ZpA{l:List Int}(hl:l.length≤9223372036854775806):Qf l (fun z0=>Jo z0)=some (l.any fun x=> !decide (x=255)):=by
  have key:loop (t1 (Qe l (fun z0=>Jo z0))) 0=some (match l.findIdx? (fun x=> !decide (x=255)) with |some k=> .inl (k:Int) |none=> .inr ()):=by
    refine(ZkL (xs:=l) (fun k=>(match (l.drop k).findIdx? (fun x=> !decide (x=255)) with |some j=>(.inl ((j+k:Nat):Int):Int ⊕ Unit) |none=> .inr ())) (fun k x hx=> ?_) ?_).trans (by simp)
    · have hk:=(List.getElem?_eq_some_iff.1 hx).1
      unfold Qe Jo
      rw [pG (by simpa using hk),Zs hx]
      simp only [oB]
      rw [show i64 ((k:Int)+1)=(k:Int)+1 from Zr (by omega) (by omega),ZbT hx,List.findIdx?_cons]
      by_cases e:x=255
      · left
        subst e
        refine⟨by simp,?_⟩
        simp only [decide_true,Bool.not_true,Bool.false_eq_true,if_false]
        cases (l.drop (k+1)).findIdx? (fun x=> !decide (x=255)) with
        |none=>rfl
        |some j=>simp only [Option.map_some];congr 2;omega
      · right
        simp [e]
    · unfold Qe
      rw [nG (by simp)]
      simp
  unfold Qf QI
  rw [key]
  cases hf:l.findIdx? (fun x=> !decide (x=255)) with
  |none=>
    rw [List.findIdx?_eq_none_iff] at hf
    simp only [oB,Sum.elim_inr,Zpz]
    congr 1
    symm
    rw [show decide ((0:Int)≤ -1)=false from rfl]
    rw [List.any_eq_false]
    intro x hx
    simpa using hf x hx
  |some k=>
    simp only [oB,Sum.elim_inl]
    congr 1
    rw [decide_eq_true (by omega)]
    symm
    rw [List.any_eq_true]
    obtain⟨hk,h1,_⟩:=List.findIdx?_eq_some_iff_getElem.1 hf
    exact⟨l[k],List.getElem_mem hk,h1⟩
theorem ZlF{v:Vector Int 97}{l:List Int}(hv:v.toList=l)(hl:l.length=97):Zap v=some (stV l):=by
  unfold Zap
  rw [show ZY v 96=some (l.getD 96 0) from Zmc (k:=96) (by rw [hv];exact XG (by omega) 0),oB]
  unfold stV
  by_cases h:l.getD 96 0=0
  · rw [pG (by simpa using h),pG h]
  · rw [nG (by simpa using h),nG h]
    rw [hv,show slc l 0 (97:Int)=some l from(Zhn (a:=0) (b:=97) (by omega) (by omega)).trans (by rw [List.take_of_length_le (by omega)];rfl),oB,ZpA (by omega),oB]
    cases l.any (fun x=> !decide (x=255))<;>simp
theorem ZqF{s:List Int}{i:Nat}(hl:s.length≤140737488355328)(h:16+i*97+97≤s.length):Zfp s (i:Int)=some (stV (slotL s i)):=by
  unfold Zfp
  have h97:=ZdY h
  rw [ZrF hl h,oB]
  generalize slotL s i=l at h97
  rw [show idx l 96=some (l.getD 96 0) from Zs (k:=96) (XG (by omega) 0),oB]
  unfold stV
  by_cases h:l.getD 96 0=0
  · rw [pG (by simpa using h),pG h]
  · rw [nG (by simpa using h),nG h]
    have key:=Zow (xs:=l) (fun x=>if x=255 then(none:Option Unit) else some ()) (fun _=>(Sum.inl 2:Int ⊕ Unit)) (Sum.inr ()) (body:=Zci l) (fun k x hx=>by
      have hlt:=ZlA hx
      simp only [Zci,hlt,decide_true,if_true,Zs hx,oB]
      rw [show i64 ((k:Int)+1)=(k:Int)+1 from Zr (by omega) (by omega)]
      by_cases e:x=255<;>simp [e]) (by simp [Zci])
    rw [key]
    have fa: ∀ m:List Int,(ZjQ (fun x=>if x=255 then(none:Option Unit) else some ()) m).isSome=m.any (fun x=> !decide (x=255)):=by
      intro m
      induction m with
      |nil=>rfl
      |cons x m ih=>
        unfold ZjQ
        by_cases e:x=255
        · simp [e,ih]
        · simp [e]
    have:=fa l
    cases hfl:ZjQ (fun x=>if x=255 then(none:Option Unit) else some ()) l with
    |none=>
      rw [hfl] at this
      rw [←this];rfl
    |some u=>
      rw [hfl] at this
      rw [←this];rfl
end Go.Vx

namespace Go.Vx
open Go Go.RowKit
def rd(f:Vector Int 64)(i:Nat):Int:=f.toList.getD i 0
theorem Zsa{f g:Vector Int 64}(h: ∀ i,i<64→rd f i=rd g i):f=g:=by
  apply Vector.toList_inj.1
  apply List.ext_getElem (by simp)
  intro i h1 h2
  have:=h i (by simpa using h1)
  unfold rd at this
  rw [gQ,gQ,List.getElem?_eq_getElem h1,List.getElem?_eq_getElem h2] at this
  exact this
def Znr(g:Nat→Int):Vector Int 64:=Vector.ofFn fun j:Fin 64=>g j.val
theorem ZnW(g:Nat→Int){i:Nat}(hi:i<64):rd (Znr g) i=g i:=by
  unfold rd Znr
  rw [gQ,List.getElem?_eq_getElem (by simpa using hi)]
  simp
def ZjH(l:List Int)(i:Nat):Int:=if i % 2=0 then l.getD (3*(i/2)) 0*16+l.getD (3*(i/2)+1) 0/16 else(l.getD (3*(i/2)+1) 0 % 16)*256+l.getD (3*(i/2)+2) 0
theorem Zs3{k:Nat}(h:k≤9223372036854775807):quo .i64 (k:Int) 2=some ((k/2:Nat):Int):=by
  unfold quo
  rw [nG (by decide)]
  have e3:Int.tdiv (k:Int) 2=((k/2:Nat):Int):=rfl
  rw [e3,Zr (by omega) (by omega)]
theorem Ztm(k:Nat):rem (k:Int) 2=some ((k % 2:Nat):Int):=by
  unfold rem
  rw [nG (by decide)];rfl
end Go.Vx

namespace Go.Vx
open Go Go.RowKit
def Zgr(x:law3_Deed):Prop:=wfT x.Freeze∧(wfV (wfI .u16)) x.Frame∧(wfI .i64) x.Power∧True
def Zd5(x:api_Memory):Prop:=(wfI .i64) x.Slots∧(wfI .i64) x.Limit∧(wfL (wfL (wfI .u8))) x.Sectors∧(wfL (wfI .i64)) x.Wear∧(wfL wfT) x.Bad∧True
end Go.Vx

namespace Go.Vx
open Go Go.RowKit
def Zfj(m:api_Memory)(i:Int):Int:=(XZ (m.Sectors.getD i.toNat [])).1
def okM(m:api_Memory)(k:Nat):Bool:=(XZ (m.Sectors.getD k [])).2.2&& !(m.Bad.getD k false)
def hdM(m:api_Memory):Nat→List Int
  |0=> []
  |k+1=>hdM m k++if okM m k=true then [(k:Int)] else []
theorem ZlC(m:api_Memory)(k:Nat):hdM m (k+1)=hdM m k++if okM m k=true then [(k:Int)] else []:=rfl
theorem ZkT(m:api_Memory): ∀ (k:Nat) x,x∈hdM m k→0≤x∧x<k
  |0,x,h=>by cases h
  |k+1,x,h=>by
    unfold hdM at h
    rcases List.mem_append.1 h with q |q
    · have:=ZkT m k x q;omega
    · split at q
      · rw [List.mem_singleton.1 q];omega
      · cases q
theorem Zoa(m:api_Memory): ∀ k:Nat,(hdM m k).Pairwise (· < ·)
  |0=> .nil
  |k+1=>by
    unfold hdM
    refine List.pairwise_append.2 ⟨Zoa m k,by split<;>simp,fun x hx y hy=> ?_⟩
    have:=ZkT m k x hx
    split at hy
    · rw [List.mem_singleton.1 hy];omega
    · cases hy
theorem ZiQ(m:api_Memory): ∀ k:Nat,(hdM m k).length≤k
  |0=>Nat.le_refl _
  |k+1=>by
    unfold hdM
    have:=ZiQ m k
    rw [List.length_append]
    split<;>simp<;>omega
def memR(m:api_Memory):Prop:= ∀ s∈m.Sectors,u8R s
theorem Zk1(s:List Int):0≤(XZ s).1∧(XZ s).1≤1073741824:=by
  unfold XZ
  split
  · simp
  · simp only
    split
    · rename_i h;exact⟨by simp only;omega,h.2.1⟩
    · simp
theorem Zfi{m:api_Memory}(h:memR m)(k:Nat):u8R (m.Sectors.getD k []):=by
  rw [gQ]
  cases e:m.Sectors[k]? with
  |none=>intro x hx;cases hx
  |some s=>exact h s (List.mem_of_getElem? e)
theorem Ztf{m:api_Memory}(hm:memR m)(x y:Int)(hx:0≤x∧x<m.Sectors.length)(hy:0≤y∧y<m.Sectors.length): ∃ c,Jq x y m=some c∧(c<0↔Zfj m x<Zfj m y):=by
  have one: ∀ z:Int,0≤z∧z<m.Sectors.length→Jn z m=some (Zfj m z):=fun z hz=>by
    obtain⟨k,rfl⟩:=Int.eq_ofNat_of_zero_le hz.1
    unfold Jn Zfj
    rw [Zs (XG (by omega) []),oB,Zmi (Zfi hm k),oB];rfl
  unfold Jq
  rw [one x hx,one y hy]
  have bx:=Zk1 (m.Sectors.getD x.toNat [])
  have by_:=Zk1 (m.Sectors.getD y.toNat [])
  refine⟨_,rfl,?_⟩
  unfold Zfj
  rw [show i64 ((XZ (m.Sectors.getD x.toNat [])).1-(XZ (m.Sectors.getD y.toNat [])).1)=_ from Zr (by omega) (by omega)]
  omega
theorem Zoy{m:api_Memory}(hm:memR m)(hl:m.Sectors.length≤64)(hb:m.Bad.length=m.Sectors.length):
    ∃ l,XU m=some l∧l.Perm (hdM m m.Sectors.length)∧Srt (Zfj m) l:=by
  unfold XU
  obtain⟨o,h1,h2⟩:=Zd2 (body:=JB m) (s0:= []) (N:=m.Sectors.length) (fun k acc=>acc=hdM m k) (fun r=>r=hdM m m.Sectors.length) (fun k acc hk hI=> .inl (by
      subst hI
      unfold JB
      have hlen:=ZiQ m k
      rw [pG (by simpa using hk),Zs (XG hk []),oB,Zmi (Zfi hm k),oB,show i64 ((k:Int)+1)=(k:Int)+1 from Zr (by omega) (by omega),Zs (XG (by omega) false)]
      have ok:okM m k=((XZ (m.Sectors.getD k [])).2.2&& !(m.Bad.getD k false)):=rfl
      cases hh:(XZ (m.Sectors.getD k [])).2.2 with
      |false=>
        rw [hh] at ok
        refine⟨hdM m k,by simp [gd],?_⟩
        rw [ZlC,ok];simp
      |true=>
        rw [hh] at ok
        cases hB:m.Bad.getD k false with
        |true=>
          rw [hB] at ok
          refine⟨hdM m k,by simp [gd],?_⟩
          rw [ZlC,ok];simp
        |false=>
          rw [hB] at ok
          refine⟨hdM m k++ [(k:Int)],?_,?_⟩
          · simp only [gd,beq_self_eq_true,if_true,oB,Bool.not_false,Bool.and_self]
            first |rw [Zax (by simp;omega)] |rw [Zfd (by simp;omega)]
            rfl
          · show _=hdM m k++_
            rw [ok];simp)) (fun acc hI=>⟨acc,by unfold JB;rw [nG (by simp)],hI⟩) rfl
  subst h2
  rw [h1]
  simp only [oB,Xv]
  have hlen:=ZiQ m m.Sectors.length
  obtain⟨l,k1,k2,k3⟩:=Zpd (key:=Zfj m) (D:=fun x=>0≤x∧x<m.Sectors.length) (cmp:=fun z0 z1=>Jq z0 z1 m) (Ztf hm) (l:=hdM m m.Sectors.length) (by omega) (Zoa m _) (fun x hx=>ZkT m _ x hx)
  rw [k1]
  exact⟨l,rfl,k2,k3⟩
theorem Zq1{body:Int→Option (Int ⊕ Int)}(P:Nat→Bool){n:Nat}(h1: ∀ k:Nat,0<k→k≤n→body k=if P (k-1)=true then some (.inr (k:Int)) else some (.inl ((k-1:Nat):Int)))(h0:body 0=some (.inr 0)):
    ∃ r:Nat,loop (t1 body) (n:Int)=some (r:Int)∧r≤n∧(0<r→P (r-1)=true)∧(r<n→P r=false):=by
  suffices H: ∀ k:Nat,k≤n→(k<n→P k=false)→ ∃ r:Nat,loop (t1 body) (k:Int)=some (r:Int)∧r≤n∧(0<r→P (r-1)=true)∧(r<n→P r=false) from H n (Nat.le_refl _) (fun h=>absurd h (Nat.lt_irrefl _))
  intro k
  induction k with
  |zero=>intro _ hk;exact⟨0,Zdt (by simpa using h0),by omega,fun h=>by omega,hk⟩
  |succ k ih=>
    intro hkn hk
    have e:=h1 (k+1) (by omega) hkn
    by_cases hp:P k=true
    · rw [Nat.add_sub_cancel,pG hp] at e
      exact⟨k+1,Zdt (by simpa using e),hkn,fun _=>hp,hk⟩
    · rw [Nat.add_sub_cancel,nG hp] at e
      obtain⟨r,k1,k2⟩:=ih (by omega) (fun _=>by simpa using hp)
      exact⟨r,Zgg (by simpa using e) k1,k2⟩
theorem ZpO{m:api_Memory}(hm:memR m)(hl:m.Sectors.length≤64)(hb:m.Bad.length=m.Sectors.length):
    ∃ l,ZaT m=some l∧l.Perm (hdM m m.Sectors.length)∧Srt (Zfj m) l:=by
  unfold ZaT
  obtain⟨o,h1,h2⟩:=Zd2 (body:=ZbF m) (s0:= []) (N:=m.Sectors.length) (fun k acc=>acc.Perm (hdM m k)∧Srt (Zfj m) acc) (fun r=>r.Perm (hdM m m.Sectors.length)∧Srt (Zfj m) r) (fun k acc hk hI=> .inl (by
      obtain⟨i1,i2⟩:=hI
      have hlen:=ZiQ m k
      have hal:acc.length≤k:=by rw [i1.length_eq];exact hlen
      unfold ZbF
      rw [pG (by simpa using hk),Zs (XG hk []),oB,ZlU (Zfi hm k),oB,show i64 ((k:Int)+1)=(k:Int)+1 from Zr (by omega) (by omega),Zs (XG (by omega) false)]
      have ok:okM m k=((XZ (m.Sectors.getD k [])).2.2&& !(m.Bad.getD k false)):=rfl
      cases hh:(XZ (m.Sectors.getD k [])).2.2 with
      |false=>
        rw [hh] at ok
        refine⟨acc,by simp [gd],?_,i2⟩
        rw [ZlC,ok];simpa using i1
      |true=>
        rw [hh] at ok
        cases hB:m.Bad.getD k false with
        |true=>
          rw [hB] at ok
          refine⟨acc,by simp [gd],?_,i2⟩
          rw [ZlC,ok];simpa using i1
        |false=>
          rw [hB] at ok
          have mem: ∀ z∈acc,0≤z∧z<(k:Int):=fun z hz=>ZkT m k z (i1.mem_iff.1 hz)
          obtain⟨r,q1,q2,q3,q4⟩:=Zq1 (body:=ZbB m acc (XZ (m.Sectors.getD k []))) (fun j=>decide (Zfj m (acc.getD j 0)≤(XZ (m.Sectors.getD k [])).1)) (n:=acc.length) (fun j j0 jn=>by
            unfold ZbB
            have hj:=mem (acc.getD (j-1) 0) (Zbz (by omega))
            obtain⟨z,hz⟩:=Int.eq_ofNat_of_zero_le hj.1
            rw [pG (by simpa using j0),show i64 ((j:Int)-1)=((j-1:Nat):Int) from(Zr (by omega) (by omega)).trans (by omega),Zs (XG (by omega) 0),oB,hz,
              Zs (XG (by omega) []),oB,ZlU (Zfi hm z),oB]
            by_cases q:Zfj m (z:Int)≤(XZ (m.Sectors.getD k [])).1
            · rw [pG (by simpa [Zfj] using q),pG (by simpa using q)]
            · rw [nG (by simpa [Zfj] using q),nG (by simpa using q)]) (by unfold ZbB;rw [nG (by simp)])
          refine⟨acc.take r++(k:Int)::acc.drop r,?_,?_,?_⟩
          · simp only [gd,beq_self_eq_true,if_true,oB,Bool.not_true,Bool.or_self,Bool.false_eq_true,if_false]
            rw [q1]
            simp only [oB,Xv]
            rw [show apz 8 acc [0]=some (acc++ [0]) from Zax (by simp;omega),oB]
            rw [show i64 ((r:Int)+1)=((r+1:Nat):Int) from(Zr (by omega) (by omega)).trans (by omega)]
            have hL:(acc++ [(0:Int)]).length=acc.length+1:=by simp
            have sq: ∀ j:Nat,j≤acc.length+1→slq (acc++ [(0:Int)]) (j:Int) ((acc++ [(0:Int)]).length:Int)=some ():=fun j hj=>by
              unfold slq;rw [hL]
              have a1:(j:Int)≤((acc.length+1:Nat):Int):=by omega
              simp only [decide_eq_true (show(0:Int)≤(j:Int) by omega),decide_eq_true a1,decide_eq_true (Nat.succ_pos _),decide_eq_true (Nat.le_refl _),Bool.and_self]
              simp [ck]
            rw [sq (r+1) (by omega),oB,sq r (by omega),oB]
            have t1:Int.toNat (((acc++ [(0:Int)]).length:Int)-((r+1:Nat):Int))=(acc.length+1)-(r+1):=by rw [hL];omega
            have t2':Int.toNat (((acc++ [(0:Int)]).length:Int)-(r:Int))=(acc.length+1)-r:=by rw [hL];omega
            rw [t1,t2']
            simp only [Int.toNat_natCast]
            obtain⟨z,hz⟩:=Za5 (xs:=cpy (acc++ [(0:Int)]) (r+1) ((acc.length+1)-(r+1)) r ((acc.length+1)-r)) (k:=r) (by rw [Zd4 (by rw [hL];omega) (by rw [hL];omega),hL];omega)
            rw [Zs hz,oB,ZrJ q2]
          · refine List.perm_middle.trans ?_
            rw [List.take_append_drop]
            refine(List.Perm.cons _ i1).trans ?_
            rw [ZlC,ok]
            simpa using (List.perm_append_comm (l₁:= [(k:Int)]) (l₂:=hdM m k))
          · have hk':Zfj m (k:Int)=(XZ (m.Sectors.getD k [])).1:=rfl
            have hA:Srt (Zfj m) (acc.take r):=i2.sublist (List.take_sublist ..)
            have hB':Srt (Zfj m) (acc.drop r):=i2.sublist (List.drop_sublist ..)
            have hAy: ∀ a∈acc.take r,LtK (Zfj m) a k:=by
              have:=ZhC (key:=Zfj m) (m:= [(k:Int)]) hA (List.pairwise_singleton ..) (fun a b ha hb=>by
                simp only [List.head?_cons,Option.some.injEq] at hb
                subst hb
                rw [List.getLast?_eq_getElem?,List.length_take,Nat.min_eq_left q2] at ha
                have l2:=(List.getElem?_eq_some_iff.1 ha).1
                rw [List.length_take] at l2
                rw [List.getElem?_take_of_lt (by omega)] at ha
                have q:=q3 (by omega)
                rw [gQ,ha] at q
                have q:=of_decide_eq_true q
                simp only [Option.getD_some] at q
                have:=(mem a (List.mem_of_getElem? ha)).2
                unfold LtK;omega)
              exact fun a ha=>this a ha k (List.mem_singleton.2 rfl)
            have hyB: ∀ b∈acc.drop r,LtK (Zfj m) k b:=by
              have:=ZhC (key:=Zfj m) (l:= [(k:Int)]) (List.pairwise_singleton ..) hB' (fun a b ha hb=>by
                simp only [List.getLast?_singleton,Option.some.injEq] at ha
                subst ha
                rw [List.head?_drop] at hb
                have l1:=(List.getElem?_eq_some_iff.1 hb).1
                have q:=q4 (by omega)
                rw [gQ,hb] at q
                have q:=of_decide_eq_false q
                simp only [Option.getD_some] at q
                exact .inl (by omega))
              exact fun b hb=>this k (List.mem_singleton.2 rfl) b hb
            refine hA.app (List.pairwise_cons.2 ⟨hyB,hB'⟩) fun a ha b hb=> ?_
            rcases List.mem_cons.1 hb with rfl |hb
            · exact hAy a ha
            · exact(hAy a ha).trans (hyB b hb))) (fun acc hI=>⟨acc,by unfold ZbF;rw [nG (by simp)],hI⟩) ⟨.refl _,.nil⟩
  rw [h1]
  exact⟨o,rfl,h2⟩
theorem ZqX{m:api_Memory}(hm:memR m)(hl:m.Sectors.length≤64)(hb:m.Bad.length=m.Sectors.length):
    ∃ l,XU m=some l∧ZaT m=some l∧l.Perm (hdM m m.Sectors.length)∧Srt (Zfj m) l:=by
  obtain⟨l,a1,a2,a3⟩:=Zoy hm hl hb
  obtain⟨l',b1,b2,b3⟩:=ZpO hm hl hb
  have:l'=l:=Zkt (b2.trans a2.symm) b3 a3
  subst this
  exact⟨l',a1,b1,a2,a3⟩
end Go.Vx

namespace Go.Vx
open Go Go.RowKit
structure MemOK (m:api_Memory):Prop where
  slots:1≤m.Slots∧m.Slots≤64
  limit:1≤m.Limit∧m.Limit≤1000000
  n:2≤m.Sectors.length∧m.Sectors.length≤64
  wear:m.Wear.length=m.Sectors.length
  bad:m.Bad.length=m.Sectors.length
  row: ∀ s∈m.Sectors,(s.length:Int)=16+m.Slots*97
  wr: ∀ x∈m.Wear,0≤x∧x≤m.Limit
theorem Zsg(x a b:Int):(decide (x<a) || decide (b<x))= !(decide (a≤x)&&decide (x≤b)):=by
  by_cases h1:a≤x<;>by_cases h2:x≤b<;>simp [h1,h2]<;>omega
theorem Zeg(x a b:Int):QE x a b=some (decide (a≤x)&&decide (x≤b)):=by
  unfold QE
  by_cases h1:a≤x<;>simp [h1,gd]
theorem Zf7(x a b:Int):Z8 x a b=some (!(decide (a≤x)&&decide (x≤b))):=by
  rw [←Zsg]
  unfold Z8
  by_cases h1:x<a<;>simp [h1,gd]
theorem ZrN(m:api_Memory):ZaK m=Xl m:=by
  have hb:ZaD m=QF m:=by
    funext i
    unfold ZaD QF XB
    simp only [oB,Zeg,Zf7]
  unfold ZaK Xl
  rw [hb]
  simp only [Zeg,Zf7]
  generalize (decide (1≤m.Slots)&&decide (m.Slots≤64))=A
  generalize (decide (1≤m.Limit)&&decide (m.Limit≤1000000))=B
  generalize (decide ((2:Int)≤(m.Sectors.length:Int))&&decide ((m.Sectors.length:Int)≤64))=C
  cases A<;>cases B<;>cases C<;>simp [gd]
theorem Zsw(m:api_Memory): ∃ c,Xl m=some c∧(c=0→MemOK m)∧(MemOK m→c=0):=by
  unfold Xl
  simp only [Zeg,oB]
  by_cases hA:1≤m.Slots∧m.Slots≤64
  · by_cases hB:1≤m.Limit∧m.Limit≤1000000
    · by_cases hC:2≤m.Sectors.length∧m.Sectors.length≤64
      · by_cases hD:m.Wear.length=m.Sectors.length∧m.Bad.length=m.Sectors.length
        · obtain⟨r,h1,h2⟩:=Zkh (body:=QF m) (N:=m.Sectors.length) (fun k=> ∀ j,j<k→((m.Sectors.getD j []).length:Int)=16+m.Slots*97∧0≤m.Wear.getD j 0∧m.Wear.getD j 0≤m.Limit)
            (fun r=>(∃ e,r= .inl e∧e≠0∧ ¬MemOK m)∨(r= .inr ()∧ ∀ j,j<m.Sectors.length→((m.Sectors.getD j []).length:Int)=16+m.Slots*97∧0≤m.Wear.getD j 0∧m.Wear.getD j 0≤m.Limit)) (fun k hk hI=>by
              unfold QF XB
              have gS:=XG (s:=m.Sectors) hk []
              have gW:=XG (s:=m.Wear) (k:=k) (by omega) 0
              rw [pG (by simpa using hk),Zs gS,oB,show i64 (m.Slots*97)=m.Slots*97 from Zr (by omega) (by omega),show i64 (16+m.Slots*97)=16+m.Slots*97 from Zr (by omega) (by omega),oB,
                Zs gW,oB,Zeg,oB,show i64 ((k:Int)+1)=(k:Int)+1 from Zr (by omega) (by omega)]
              by_cases q:((m.Sectors.getD k []).length:Int)=16+m.Slots*97
              · rw [nG (by simpa using q)]
                by_cases q2:0≤m.Wear.getD k 0∧m.Wear.getD k 0≤m.Limit
                · left
                  rw [nG (by simpa using q2)]
                  refine⟨rfl,fun j hj=> ?_⟩
                  by_cases e:j=k
                  · subst e;exact⟨q,q2⟩
                  · exact hI j (by omega)
                · right
                  exact⟨_,by rw [pG (by rw [Bool.not_eq_true',Bool.and_eq_false_iff,decide_eq_false_iff_not,decide_eq_false_iff_not];omega)],.inl ⟨9,rfl,by decide,fun w=>q2 (w.wr _ (Zbz (by omega)))⟩⟩
              · right
                exact⟨_,by rw [pG (by simpa using q)],.inl ⟨3,rfl,by decide,fun w=>q (w.row _ (List.mem_of_getElem? gS))⟩⟩)
            (fun hI=>⟨.inr (),by unfold QF;rw [nG (by simp)],.inr ⟨rfl,hI⟩⟩) (fun j hj=>absurd hj (Nat.not_lt_zero _))
          have hw1:((m.Wear.length:Int)=(m.Sectors.length:Int)):=by omega
          have hw2:((m.Bad.length:Int)=(m.Sectors.length:Int)):=by omega
          have hc1:(2:Int)≤(m.Sectors.length:Int):=by omega
          have hc2:(m.Sectors.length:Int)≤64:=by omega
          simp only [decide_eq_true hA.1,decide_eq_true hA.2,decide_eq_true hB.1,decide_eq_true hB.2,decide_eq_true hc1,decide_eq_true hc2,decide_eq_true hw1,decide_eq_true hw2,Bool.and_self,Bool.not_true,Bool.or_self,gd,beq_self_eq_true,if_true,oB,Bool.false_eq_true,if_false]
          rw [h1]
          rcases h2 with ⟨e,rfl,he,hno⟩ | ⟨rfl,hall⟩
          · exact⟨e,rfl,fun q=>absurd q he,fun w=>absurd w hno⟩
          · refine⟨0,rfl,fun _=>⟨hA,hB,hC,hD.1,hD.2,fun s hs=> ?_,fun x hx=> ?_⟩,fun _=>rfl⟩
            · obtain⟨j,hj,rfl⟩:=List.getElem_of_mem hs
              have:=(hall j hj).1
              rwa [gQ,List.getElem?_eq_getElem hj] at this
            · obtain⟨j,hj,rfl⟩:=List.getElem_of_mem hx
              have:=(hall j (by omega)).2
              rwa [gQ,List.getElem?_eq_getElem hj] at this
        · refine⟨2,?_,fun q=>by simp at q,fun w=>absurd ⟨w.wear,w.bad⟩ hD⟩
          have hc1:(2:Int)≤(m.Sectors.length:Int):=by omega
          have hc2:(m.Sectors.length:Int)≤64:=by omega
          simp only [decide_eq_true hA.1,decide_eq_true hA.2,decide_eq_true hB.1,decide_eq_true hB.2,decide_eq_true hc1,decide_eq_true hc2,Bool.and_self,Bool.not_true,Bool.or_self,gd,beq_self_eq_true,if_true,oB,Bool.false_eq_true,if_false]
          rw [pG]
          simp;omega
      · refine⟨9,?_,fun q=>by simp at q,fun w=>absurd w.n hC⟩
        have hc:(decide ((2:Int)≤(m.Sectors.length:Int))&&decide ((m.Sectors.length:Int)≤64))=false:=by simp;omega
        simp only [decide_eq_true hA.1,decide_eq_true hA.2,decide_eq_true hB.1,decide_eq_true hB.2,hc,Bool.and_self,Bool.not_true,Bool.or_self,gd,beq_self_eq_true,if_true,oB]
        simp
    · refine⟨9,?_,fun q=>by simp at q,fun w=>absurd w.limit hB⟩
      have hc:(decide (1≤m.Limit)&&decide (m.Limit≤1000000))=false:=by simpa using hB
      simp [decide_eq_true hA.1,decide_eq_true hA.2,hc,gd]
  · refine⟨9,?_,fun q=>by simp at q,fun w=>absurd w.slots hA⟩
    have hc:(decide (1≤m.Slots)&&decide (m.Slots≤64))=false:=by simpa using hA
    simp [hc,gd]
theorem Zl8{α:Type}{s:Nat}{l:List α}(h:l.length≤140737488355328/s):ZfU s l=some l:=(Zax (by simpa using h)).trans (by simp)
theorem Zr3{m:api_Memory}(h:MemOK m):JF m=some m:=by
  have hs:=h.slots
  have hr: ∀ s∈m.Sectors,s.length≤7000:=fun s hs=>by have:=h.row s hs;omega
  have hn:=h.n
  unfold JF
  obtain⟨r,h1,h2⟩:=Zd2 (body:=Xz m) (s0:= []) (N:=m.Sectors.length) (fun k acc=>acc=m.Sectors.take k) (fun r=>r=m.Sectors) (fun k acc hk hI=> .inl (by
      subst hI
      have hd:=XG (s:=m.Sectors) hk []
      have hl:=hr _ (List.mem_of_getElem? hd)
      refine⟨m.Sectors.take k++ [m.Sectors.getD k []],?_,?_⟩
      · unfold Xz
        rw [pG (by simpa using hk),Zs hd,oB,Zl8 (by omega),oB]
        rw [show apz 24 (m.Sectors.take k) [m.Sectors.getD k []]=some (m.Sectors.take k++ [m.Sectors.getD k []]) from Zax (by simp;omega),oB,show i64 ((k:Int)+1)=(k:Int)+1 from Zr (by omega) (by omega)]
      · rw [List.take_succ,hd];rfl)) (fun acc hI=>⟨acc,by unfold Xz;rw [nG (by simp)],by rw [hI,List.take_length]⟩) rfl
  subst h2
  rw [h1]
  simp only [oB,Xv]
  rw [Zl8 (by have:=h.wear;omega),oB,Zl8 (by have:=h.bad;omega),oB]
theorem ZpD{m:api_Memory}(h:MemOK m):ZeY m=some m:=by
  have hs:=h.slots
  have hr: ∀ s∈m.Sectors,s.length≤7000:=fun s hs=>by have:=h.row s hs;omega
  have hn:=h.n
  unfold ZeY
  obtain⟨r,h1,h2⟩:=Zd2 (body:=ZcS m) (s0:= []) (N:=m.Sectors.length) (fun k acc=>acc=m.Sectors.take k) (fun r=>r=m.Sectors) (fun k acc hk hI=> .inl (by
      subst hI
      have hd:=XG (s:=m.Sectors) hk []
      have hl:=hr _ (List.mem_of_getElem? hd)
      refine⟨m.Sectors.take k++ [m.Sectors.getD k []],?_,?_⟩
      · unfold ZcS
        rw [pG (by simpa using hk),Zs hd,oB,show apz 1 ([]:List Int) (m.Sectors.getD k [])=some (m.Sectors.getD k []) from(Zax (by rw [List.length_nil];omega)).trans (by simp),oB]
        rw [show apz 24 (m.Sectors.take k) [m.Sectors.getD k []]=some (m.Sectors.take k++ [m.Sectors.getD k []]) from Zax (by simp;omega)]
        simp only [oB,Xv]
        rw [show i64 ((k:Int)+1)=(k:Int)+1 from Zr (by omega) (by omega)]
      · rw [List.take_succ,hd];rfl)) (fun acc hI=>⟨acc,by unfold ZcS;rw [nG (by simp)],by rw [hI,List.take_length]⟩) rfl
  subst h2
  rw [h1]
  simp only [oB,Xv]
  rw [show apz 8 ([]:List Int) m.Wear=some m.Wear from(Zax (by have:=h.wear;simp;omega)).trans (by simp),oB,show apz 1 ([]:List Bool) m.Bad=some m.Bad from(Zax (by have:=h.bad;simp;omega)).trans (by simp),oB]
end Go.Vx

namespace Go.Vx
open Go Go.RowKit
theorem Zpu{z:Int}(h1: -9223372036854775808≤z)(h2:z≤9223372036854775807):i64 z=z:=Zr h1 h2
theorem Zsq{n:Nat}(h:n≤61):(1:Int)≤2^n∧(2:Int)^n≤2305843009213693952:=by
  have e:((2^n:Nat):Int)=(2:Int)^n:=by push_cast;rfl
  have h1:1≤2^n:=Nat.one_le_two_pow
  have h2:2^n≤2^61:=Nat.pow_le_pow_right (by decide) h
  rw [show(2:Nat)^61=2305843009213693952 by decide] at h2
  omega
theorem Zks{v:Int}{n:Nat}(hn:n≤61):QD .i64 v ((2:Int)^n-1)=v % (2:Int)^n:=by
  have hb:=Zsq hn
  have e:((2:Int)^n-1)=((2^n-1:Nat):Int):=by
    have h1:1≤2^n:=Nat.one_le_two_pow
    have h2:((2^n:Nat):Int)=(2:Int)^n:=by push_cast;rfl
    omega
  have h2:2^n≤2^61:=Nat.pow_le_pow_right (by decide) hn
  have h2p:0<2^n:=Nat.two_pow_pos n
  have e2 : (BitVec.ofInt 64 ((2 : Int) ^ n - 1)).toNat = 2 ^ n - 1 := by
    rw [e,BitVec.ofInt_natCast,BitVec.toNat_ofNat]
    exact Nat.mod_eq_of_lt (by have : (2 : Nat) ^ 61 < 2 ^ 64 := by decide
                               omega)
  have e3:((BitVec.ofInt 64 v).toNat:Int)=v % (2:Int)^64:=by
    rw [BitVec.toNat_ofInt]
    have:(0:Int)≤v % ((2^64:Nat):Int):=Int.emod_nonneg _ (by decide)
    rw [Int.toNat_of_nonneg this];rfl
  have e4:((BitVec.ofInt 64 v&&&BitVec.ofInt 64 ((2:Int)^n-1)).toNat:Int)=v % (2:Int)^n:=by
    rw [BitVec.toNat_and,e2,Nat.and_two_pow_sub_one_eq_mod]
    push_cast
    rw [e3]
    have:((2:Int)^n)∣(2:Int)^64:=⟨(2:Int)^(64-n),by rw [←Int.pow_add];congr 1;omega⟩
    exact Int.emod_emod_of_dvd v this
  have hp:(0:Int)<(2:Int)^n:=by omega
  have b1:=Int.emod_nonneg v (show(2:Int)^n≠0 by omega)
  have b2:=Int.emod_lt_of_pos v hp
  unfold QD
  have:IntKind.i64.bits=64:=rfl
  rw [this,e4]
  exact Zpu (by omega) (by omega)
theorem Zsx{a b n:Nat}(ha:a<2^n)(hb:a+2^n*b<2^62):bor .i64 (a:Int) ((2^n*b:Nat):Int)=((a+2^n*b:Nat):Int):=by
  unfold bor
  have e0:IntKind.i64.bits=64:=rfl
  have h64:(2:Nat)^62<2^64:=by decide
  have e1:(BitVec.ofInt 64 (a:Int)).toNat=a:=by
    rw [BitVec.ofInt_natCast,BitVec.toNat_ofNat];exact Nat.mod_eq_of_lt (by omega)
  have e2:(BitVec.ofInt 64 ((2^n*b:Nat):Int)).toNat=2^n*b:=by
    rw [BitVec.ofInt_natCast,BitVec.toNat_ofNat];exact Nat.mod_eq_of_lt (by omega)
  rw [e0,BitVec.toNat_or,e1,e2,Nat.or_comm,←Nat.two_pow_add_eq_or_of_lt ha,Nat.add_comm]
  have h62:(2:Nat)^62=4611686018427387904:=by decide
  exact Zpu (by omega) (by omega)
end Go.Vx

namespace Go.Vx
open Go Go.RowKit
theorem Zof{a:Nat}(h:a<9223372036854775808):(BitVec.ofInt 64 (a:Int)).toNat=a:=by
  rw [BitVec.ofInt_natCast,BitVec.toNat_ofNat];exact Nat.mod_eq_of_lt (by omega)
theorem Zrs{a b:Nat}(ha:a<9223372036854775808)(hb:b<9223372036854775808):QD .i64 (a:Int) (b:Int)=((a&&&b:Nat):Int):=by
  unfold QD
  have e0:IntKind.i64.bits=64:=rfl
  rw [e0,BitVec.toNat_and,Zof ha,Zof hb]
  have:=Nat.and_le_left (n:=a) (m:=b)
  exact Zpu (by omega) (by omega)
theorem ZpC{a b:Nat}(ha:a<9223372036854775808)(hb:b<9223372036854775808):Zbv .i64 (a:Int) (b:Int)=((a^^^b:Nat):Int):=by
  unfold Zbv
  have e0:IntKind.i64.bits=64:=rfl
  rw [e0,BitVec.toNat_xor,Zof ha,Zof hb]
  have:a^^^b<2^63:=Nat.xor_lt_two_pow (by omega) (by omega)
  exact Zpu (by omega) (by omega)
def restB:BitVec 22:=2097167#22
def zS(v:BitVec 22):BitVec 22:=(v<<<1)^^^(if v.msb then restB else 0#22)
theorem ZrS(a b:BitVec 22):zS (a^^^b)=zS a^^^zS b:=by
  have e1: ∀ x y r:BitVec 22,(x^^^r)^^^(y^^^r)=x^^^y:=fun x y r=>by
    rw [BitVec.xor_assoc,BitVec.xor_comm y r,←BitVec.xor_assoc r r y,BitVec.xor_self,BitVec.zero_xor]
  have e2: ∀ x y r:BitVec 22,(x^^^r)^^^y=(x^^^y)^^^r:=fun x y r=>by
    rw [BitVec.xor_assoc,BitVec.xor_comm r y,←BitVec.xor_assoc]
  unfold zS
  rw [BitVec.shiftLeft_xor_distrib,BitVec.msb_xor]
  cases a.msb<;>cases b.msb
  · simp
  · simp [BitVec.xor_assoc]
  · simp [e2]
  · simp [e1]
def pS(b:Nat→Bool):Nat→BitVec 22
  |0=>0#22
  |k+1=>zS (pS b k)^^^(if b k then restB else 0#22)
def rS(b:Nat→Bool):Nat→BitVec 22
  |0=>0#22
  |k+1=>zS (rS b k)^^^(if b k then 1#22 else 0#22)
def zI:Nat→BitVec 22→BitVec 22
  |0,v=>v
  |k+1,v=>zS (zI k v)
theorem ZrG(k:Nat)(a b:BitVec 22):zI k (a^^^b)=zI k a^^^zI k b:=by
  induction k with
  |zero=>rfl
  |succ k ih=>simp only [zI,ih,ZrS]
theorem ZsC(k:Nat)(v:BitVec 22):zI k (zS v)=zS (zI k v):=by
  induction k with
  |zero=>rfl
  |succ k ih=>simp only [zI,ih]
theorem zI_one:zI 22 1#22=restB:=by decide
theorem zI_zero:zI 22 0#22=0#22:=by decide
theorem Zq2(b:Nat→Bool): ∀ k,pS b k=zI 22 (rS b k)
  |0=>zI_zero.symm
  |k+1=>by
    rw [pS,rS,ZrG,ZsC,Zq2 b k]
    congr 1
    cases b k
    · exact zI_zero.symm
    · exact zI_one.symm
theorem ZnX{b:Nat→Bool}{n:Nat}(h: ∀ k,n≤k→b k=false): ∀ j,rS b (n+j)=zI j (rS b n)
  |0=>rfl
  |j+1=>by
    rw [←Nat.add_assoc,rS,ZnX h j,h _ (by omega)]
    simp [zI]
theorem Zr9{b:Nat→Bool}{n:Nat}(h: ∀ k,n≤k→b k=false):rS b (n+22)=pS b n:=by rw [ZnX h,Zq2]
theorem ZsH(v:BitVec 22):decide (QD .i64 (v.toNat:Int) 2097152=0)= !v.msb:=by
  have:=v.isLt
  rw [show(2097152:Int)=((2097152:Nat):Int) from rfl,Zrs (by omega) (by omega)]
  rw [show(2097152:Nat)=2^21 from rfl]
  have e:v.msb=v.toNat.testBit 21:=by rw [BitVec.msb_eq_getLsbD_last];rfl
  rw [e]
  have e2:(v.toNat&&&2^21).testBit 21=v.toNat.testBit 21:=by rw [Nat.testBit_and,Nat.testBit_two_pow_self,Bool.and_true]
  cases hb:v.toNat.testBit 21
  · have:v.toNat&&&2^21=0:=by
      refine Nat.eq_of_testBit_eq fun i=> ?_
      rw [Nat.testBit_and,Nat.testBit_two_pow]
      by_cases h:21=i
      · subst h;rw [hb];simp
      · simp [h]
    rw [this];rfl
  · have:v.toNat&&&2^21≠0:=fun h=>by rw [h,Nat.zero_testBit,hb] at e2;cases e2
    have:((v.toNat&&&2^21:Nat):Int)≠0:=by omega
    simp only [this,decide_false,Bool.not_true]
theorem Zsz(v:BitVec 22):shl .i64 (v.toNat:Int) 1=some ((v.toNat:Int)*2):=by
  have:=v.isLt
  unfold shl
  rw [nG (by decide)]
  congr 1
  have e:(2:Int)^min (Int.toNat 1) IntKind.i64.bits=2:=rfl
  rw [e]
  exact Zpu (by omega) (by omega)
theorem ZsK(v:BitVec 22):QD .i64 ((v.toNat:Int)*2) 4194303=((v<<<1).toNat:Int):=by
  have e:(4194303:Int)=(2:Int)^22-1:=by decide
  rw [e,Zks (n:=22) (by decide),BitVec.toNat_shiftLeft,Nat.shiftLeft_eq]
  rw [Int.natCast_emod,Int.natCast_mul]
  rfl
theorem ZtC(v:BitVec 22):Zbv .i64 (v.toNat:Int) 2097167=((v^^^restB).toNat:Int):=by
  have:=v.isLt
  rw [show(2097167:Int)=((2097167:Nat):Int) from rfl,ZpC (by omega) (by omega),BitVec.toNat_xor]
  rfl
theorem ZqE(v:BitVec 22)(b:Bool):zS v^^^(if b then restB else 0#22)=if(!(v.msb==b))=true then(v<<<1)^^^restB else v<<<1:=by
  unfold zS
  cases v.msb<;>cases b
  · simp
  · simp
  · simp
  · simp [BitVec.xor_assoc]
theorem Zqd(m:Nat):(2*m)^^^1=2*m+1:=by
  have h1:((2*m)^^^1) % 2^1=(2*m) % 2^1^^^1 % 2^1:=Nat.xor_mod_two_pow
  have h2:((2*m)^^^1)/2^1=(2*m)/2^1^^^1/2^1:=Nat.xor_div_two_pow
  rw [show(2*m) % 2^1=0 by omega,show 1 % 2^1=1 from rfl,Nat.zero_xor] at h1
  rw [show(2*m)/2^1=m by omega,show 1/2^1=0 from rfl,Nat.xor_zero] at h2
  omega
theorem Zqt(v:BitVec 22)(b:Bool):let R:Nat:=2*v.toNat+b.toNat
    (if 4194304≤R then R^^^6291471 else R)=(zS v^^^(if b then 1#22 else 0#22)).toNat:=by
  intro R
  have hv:=v.isLt
  have hb:b.toNat≤1:=by cases b<;>decide
  have hm:v.msb=decide (2097152≤v.toNat):=by
    rw [BitVec.msb_eq_decide]
  have es:(v<<<1).toNat=(2*v.toNat) % 4194304:=by rw [BitVec.toNat_shiftLeft,Nat.shiftLeft_eq];congr 1;omega
  obtain⟨s,hs⟩: ∃ s,(v<<<1).toNat=2*s:=⟨(v<<<1).toNat/2,by omega⟩
  have e1: ∀ u:BitVec 22,((v<<<1)^^^u^^^(if b then 1#22 else 0#22)).toNat=((v<<<1).toNat+b.toNat)^^^u.toNat:=fun u=>by
    rw [BitVec.toNat_xor,BitVec.toNat_xor,hs]
    cases b
    · simp
    · simp only [if_true,Bool.toNat_true]
      rw [←Zqd,Nat.xor_assoc,Nat.xor_comm u.toNat,←Nat.xor_assoc];rfl
  unfold zS
  by_cases h:2097152≤v.toNat
  · rw [pG (by omega),hm,decide_eq_true h,pG rfl,e1]
    have h1:(R^^^6291471) % 2^22=R % 2^22^^^6291471 % 2^22:=Nat.xor_mod_two_pow
    have h2:(R^^^6291471)/2^22=R/2^22^^^6291471/2^22:=Nat.xor_div_two_pow
    have h3:R/2^22=1:=by omega
    have h4:R % 2^22=(v<<<1).toNat+b.toNat:=by omega
    rw [h3,show 6291471/2^22=1 from rfl,Nat.xor_self] at h2
    rw [h4,show 6291471 % 2^22=restB.toNat from rfl] at h1
    omega
  · rw [nG (by omega),hm,decide_eq_false h,nG (by decide),e1]
    simp only [BitVec.toNat_ofNat,Nat.zero_mod,Nat.xor_zero]
    omega
end Go.Vx


namespace Go.Vx
open Go Go.RowKit
end Go.Vx

namespace Go.Vx
open Go Go.RowKit
theorem Zqv{n:Int}(h:wfI .u16 n):0≤n∧n≤65535:=by
  have h':(decide (IntKind.u16.min≤n)&&decide (n≤IntKind.u16.max))=true:=h
  have e1:IntKind.u16.min=0:=by decide
  have e2:IntKind.u16.max=65535:=by decide
  rw [e1,e2] at h'
  simpa using h'
theorem Zbn{z:Int}(h1: -9223372036854775808≤z)(h2:z≤9223372036854775807):i64 z=z:=Zr h1 h2
theorem ZoW{body:List Int→Int→Option ((List Int×Int) ⊕ List Int)}(xs:List Int)
    (hstep: ∀ (k:Nat) acc x,acc.length=xs.length→xs[k]?=some x→body acc k=some (.inl (acc.set k x,(k:Int)+1))) (hend: ∀ acc,body acc xs.length=some (.inr acc)) {l0:List Int} (h0:l0.length=xs.length):
    loop (t2 body) (l0,0)=some xs:=by
  have:=ZfL (body:=t2 body) (fun p=> ∃ k:Nat,p.2=k∧k≤xs.length∧p.1.length=xs.length∧p.1.take k=xs.take k) (fun p=>xs.length-p.2.toNat) (fun _=>xs) (by
    rintro⟨acc,i⟩ ⟨k,hi,hk,hl,ht⟩
    simp only at hi hl ht
    subst hi
    simp only [Q1]
    rcases Nat.lt_or_ge k xs.length with hlt |hge
    · left
      obtain⟨x,hx⟩:=Za5 hlt
      refine⟨_,hstep k acc x hl hx,⟨k+1,by push_cast;rfl,hlt,by simpa using hl,?_⟩,by simp only;omega,trivial⟩
      simp only
      rw [List.take_add_one,List.take_add_one,List.getElem?_set_self (by omega),hx,List.take_set_of_le (Nat.le_refl _),ht]
    · right
      have:k=xs.length:=by omega
      subst this
      rw [List.take_of_length_le (by omega),List.take_of_length_le (by omega)] at ht
      rw [ht];exact hend xs) (l0,0) ⟨0,rfl,Nat.zero_le _,h0,by simp⟩
  exact this
end Go.Vx

namespace Go.Vx
open Go Go.RowKit
def w3(a b c:Int):Int:=256*a+16*b+c
def hL(l:List Int):Prop:= ∀ x∈l,0≤x∧x≤15
end Go.Vx

namespace Go.Vx
open Go Go.RowKit
theorem ZiF{σ ρ:Type}{body:σ→Int→Option ((σ×Int) ⊕ ρ)}(S:Nat→σ)(R:ρ){a b:Nat}(hab:a≤b)
    (hstep: ∀ k:Nat,a≤k→k<b→body (S k) (k:Int)=some (.inl (S (k+1),(k:Int)+1))) (hend:body (S b) (b:Int)=some (.inr R)):
    loop (t2 body) (S a,(a:Int))=some R:=by
  refine ZfL (body:=t2 body) (fun s=> ∃ k:Nat,a≤k∧k≤b∧s=(S k,(k:Int))) (fun s=>b-s.2.toNat) (fun _=>R) ?_ _ ⟨a,Nat.le_refl _,hab,rfl⟩
  rintro _ ⟨k,h1,h2,rfl⟩
  rcases Nat.lt_or_ge k b with h |h
  · exact .inl ⟨_,hstep k h1 h,⟨k+1,by omega,h,by push_cast;rfl⟩,by simp only;omega,rfl⟩
  · obtain rfl:k=b:=by omega
    exact .inr hend
theorem ZqQ{σ ρ:Type}{body:σ→Int→Option ((σ×Int) ⊕ ρ)}(S:Nat→σ)(R:ρ){b:Nat}
    (hstep: ∀ k:Nat,k<b→body (S (b-1-k)) (k:Int)=some (.inl (S (b-k),(k:Int)-1))) (hend:body (S b) (-1)=some (.inr R)):
    loop (t2 body) (S 0,(b:Int)-1)=some R:=by
  refine ZfL (body:=t2 body) (fun s=> ∃ k:Nat,k≤b∧s=(S (b-k),(k:Int)-1)) (fun s=>(s.2+1).toNat) (fun _=>R) ?_ _ ⟨b,Nat.le_refl _,by rw [Nat.sub_self]⟩
  rintro _ ⟨k,h2,rfl⟩
  rcases Nat.eq_zero_or_pos k with rfl |h
  · exact .inr hend
  · obtain⟨j,rfl⟩: ∃ j,k=j+1:=⟨k-1,by omega⟩
    refine .inl ⟨_,?_,⟨j,by omega,rfl⟩,?_,rfl⟩
    · have:=hstep j h2
      rw [show((j+1:Nat):Int)-1=(j:Int) by omega,show b-(j+1)=b-1-j by omega]
      exact this
    · simp only;omega
def wd(f:Vector Int 64)(i:Nat):Int:=f.toList.getD i 0
def fU(f:Vector Int 64):Prop:= ∀ i,0≤wd f i∧wd f i≤65535
theorem Zs7{f:Vector Int 64}(h:wfV (wfI .u16) f):fU f:=by
  intro i
  unfold wd
  rcases Nat.lt_or_ge i f.toList.length with hi |hi
  · obtain⟨x,hx⟩:=Za5 hi
    rw [gQ,hx]
    exact Zqv (h x (List.mem_of_getElem? hx))
  · rw [gQ,List.getElem?_eq_none hi]
    exact⟨by decide,by decide⟩
theorem JK(f:Vector Int 64){i:Nat}(hi:i<64):ZY f (i:Int)=some (wd f i):=by
  unfold ZY wd
  rw [pG (by omega),Int.toNat_natCast]
  obtain⟨x,hx⟩:=Za5 (xs:=f.toList) (k:=i) (by simp;omega)
  rw [gQ,hx];rfl
theorem Zjo{x:Int}(h:0≤x∧x≤65535):JC x=some (x % 2048):=by
  obtain⟨n,rfl⟩: ∃ n:Nat,x=n:=⟨x.toNat,by omega⟩
  have e0:IntKind.u16.bits=16:=rfl
  have e1:(BitVec.ofInt 16 (n:Int)).toNat=n:=by
    rw [BitVec.ofInt_natCast,BitVec.toNat_ofNat];exact Nat.mod_eq_of_lt (by omega)
  have e2:(BitVec.ofInt 16 2047).toNat=2^11-1:=rfl
  have e3:QD .u16 (n:Int) 2047=((n % 2048:Nat):Int):=by
    unfold QD
    rw [e0,BitVec.toNat_and,e1,e2,Nat.and_two_pow_sub_one_eq_mod]
    have:n % 2^11<2048:=Nat.mod_lt _ (by decide)
    simp only [IntKind.wrap,IntKind.signed,IntKind.bits]
    have e:(2:Int)^16=65536:=by decide
    simp [e]
    omega
  unfold JC
  rw [e3,Zbn (by omega) (by omega)];rfl
theorem Ziu{x:Int}(h:0≤x)(n:Int)(hn:0<n):rem x n=some (x % n):=by
  unfold rem
  rw [nG (by omega),Int.tmod_eq_emod_of_nonneg h]
def Zac(f:Vector Int 64):Int:=wd f 1 % 2048+wd f 2 % 2048*2048
theorem ZlX(f:Vector Int 64):0≤Zac f∧Zac f<4194304:=by unfold Zac;omega
theorem Zrf{a b:Int}(ha:0≤a∧a<2048)(hb:0≤b∧b<2048):(shl .i64 b 11).bind (fun q=>some (bor .i64 a q))=some (a+b*2048)∧(shl .i64 a 11).bind (fun q=>some (bor .i64 q b))=some (a*2048+b):=by
  have e: ∀ z:Int,0≤z∧z<2048→shl .i64 z 11=some (z*2048):=fun z hz=>by
    unfold shl
    rw [nG (by decide)]
    have e:(2:Int)^min (Int.toNat 11) IntKind.i64.bits=2048:=rfl
    rw [e,w64 (by omega) (by omega)]
  have e2: ∀ x y:Int,0≤x∧x<2048→0≤y∧y<2048→bor .i64 x (y*2048)=x+y*2048:=fun x y hx hy=>by
    obtain⟨m,rfl⟩: ∃ m:Nat,x=m:=⟨x.toNat,by omega⟩
    obtain⟨n,rfl⟩: ∃ n:Nat,y=n:=⟨y.toNat,by omega⟩
    have:=Zsx (a:=m) (b:=n) (n:=11) (by rw [show(2:Nat)^11=2048 by decide];omega) (by rw [show(2:Nat)^11=2048 by decide,show(2:Nat)^62=4611686018427387904 by decide];omega)
    rw [show(2:Nat)^11=2048 by decide] at this
    rw [show((n:Int)*2048)=((2048*n:Nat):Int) by omega,this];omega
  have e3: ∀ x y:Int,bor .i64 x y=bor .i64 y x:=fun x y=>by unfold bor;rw [BitVec.or_comm]
  rw [e b hb,e a ha,oB,oB,e2 a b ha hb,e3,e2 b a hb ha]
  exact⟨rfl,by rw [Int.add_comm]⟩
theorem Ztp{a b:Int}(h1:0≤a∧a≤65535)(h2:0≤b∧b≤65535):i64 (b % 2048*2048)=b % 2048*2048∧i64 (a % 2048+b % 2048*2048)=a % 2048+b % 2048*2048∧i64 a=a∧i64 b=b:=⟨Zbn (by omega) (by omega),Zbn (by omega) (by omega),Zbn (by omega) (by omega),Zbn (by omega) (by omega)⟩
theorem Znx{f:Vector Int 64}(h:fU f):Js f=some (Zac f)∧Je f=some (Zac f):=by
  have v1:ZY f 1=some (wd f 1):=JK f (i:=1) (by decide)
  have v2:ZY f 2=some (wd f 2):=JK f (i:=2) (by decide)
  obtain⟨e1,e2,e3,e4⟩:=Ztp (h 1) (h 2)
  refine⟨?_,?_⟩
  · unfold Js Zac
    rw [v1,oB,Zjo (h 1),oB,v2,oB,Zjo (h 2),oB,(Zrf (by omega) (by omega)).1]
  · unfold Je Zac
    rw [v1,oB,e3,Ziu (h 1).1 _ (by decide),oB,v2,oB,e4,Ziu (h 2).1 _ (by decide),oB,e1,e2]
def ZfB(f:Vector Int 64):Nat→Int
  |0=>0
  |k+1=>Zbv .i64 (ZfB f k) (wd f (k+1) % 2048)
theorem ZnJ{f:Vector Int 64}(h:fU f):ZbG f=some (ZfB f 60)∧Zel f=some (ZfB f 60):=by
  constructor
  · have:=ZiF (body:=JY f) (ZfB f) (ZfB f 60) (a:=0) (b:=60) (by decide) (fun k _ hk=>by
      have hw:=h (k+1)
      unfold JY
      rw [pG (by simp;omega),Zbn (by omega) (by omega),show(k:Int)+1=((k+1:Nat):Int) by push_cast;rfl,JK f (by omega),oB,Zjo hw,oB]
      rfl) (by unfold JY;rw [nG (by decide)])
    unfold ZbG
    rw [show((0:Int),(0:Int))=(ZfB f 0,((0:Nat):Int)) from rfl,this]
    rfl
  · have:=ZiF (body:=ZbJ f) (fun k=>ZfB f (k-1)) (ZfB f 60) (a:=1) (b:=61) (by decide) (fun k h1 hk=>by
      have hw:=h k
      obtain⟨j,rfl⟩: ∃ j,k=j+1:=⟨k-1,by omega⟩
      unfold ZbJ
      rw [pG (by simp;omega),JK f (by omega),oB,Zbn (by omega) (by omega),Ziu hw.1 _ (by decide),oB,Zbn (by omega) (by omega)]
      rfl) (by unfold ZbJ;rw [nG (by decide)])
    unfold Zel
    rw [show((0:Int),(1:Int))=((fun k=>ZfB f (k-1)) 1,((1:Nat):Int)) from rfl,this]
    rfl
def ZeF(f:Vector Int 64)(j:Nat):Bool:=decide (j<744)&&decide (wd f (j/12)/(2:Int)^(11-j % 12) % 2=1)
theorem ZlV(x:Int){k:Nat}(hk:k≤11):shr .u16 x (k:Int)=some (x/(2:Int)^k):=by
  unfold shr
  have hm:min ((k:Int)).toNat IntKind.u16.bits=k:=by
    have:IntKind.u16.bits=16:=rfl
    rw [Int.toNat_natCast];omega
  have hp:(0:Int)<2^k:=Int.pow_pos (by decide)
  rw [nG (by omega),hm,Int.fdiv_eq_ediv_of_nonneg _ (by omega)]
theorem ZnR(x:Int){k:Nat}(hk:k≤11):shr .i64 x (k:Int)=some (x/(2:Int)^k):=by
  unfold shr
  have hm:min ((k:Int)).toNat IntKind.i64.bits=k:=by
    have:IntKind.i64.bits=64:=rfl
    rw [Int.toNat_natCast];omega
  have hp:(0:Int)<2^k:=Int.pow_pos (by decide)
  rw [nG (by omega),hm,Int.fdiv_eq_ediv_of_nonneg _ (by omega)]
theorem Zse{x:Int}(h:0≤x∧x≤65535)(k:Nat):0≤x/(2:Int)^k∧x/(2:Int)^k≤65535:=by
  have hp:(0:Int)<2^k:=Int.pow_pos (by decide)
  have h1:=Int.ediv_nonneg h.1 (Int.le_of_lt hp)
  have h2:x/(2:Int)^k≤x:=Int.ediv_le_self _ h.1
  omega
theorem ZnI{x:Int}(h:0≤x∧x≤65535):QD .u16 x 1=x % 2:=by
  obtain⟨n,rfl⟩: ∃ n:Nat,x=n:=⟨x.toNat,by omega⟩
  have e0:IntKind.u16.bits=16:=rfl
  have e1:(BitVec.ofInt 16 (n:Int)).toNat=n:=by
    rw [BitVec.ofInt_natCast,BitVec.toNat_ofNat];exact Nat.mod_eq_of_lt (by omega)
  have e2:(BitVec.ofInt 16 1).toNat=2^1-1:=rfl
  unfold QD
  rw [e0,BitVec.toNat_and,e1,e2,Nat.and_two_pow_sub_one_eq_mod]
  have:n % 2^1<2:=Nat.mod_lt _ (by decide)
  simp only [IntKind.wrap,IntKind.signed,IntKind.bits]
  have e:(2:Int)^16=65536:=by decide
  simp [e]
  omega
theorem Zno(x:Int):QD .i64 x 1=x % 2:=Zks (v:=x) (n:=1) (by decide)
def ckS(f:Vector Int 64)(k:Nat):Int:=((pS (ZeF f) k).toNat:Int)
theorem Zps(f:Vector Int 64)(j:Nat):ckS f (j+1)=if(!((!decide (QD .i64 (ckS f j) 2097152=0))==ZeF f j))=true then Zbv .i64 (QD .i64 (ckS f j*2) 4194303) 2097167 else QD .i64 (ckS f j*2) 4194303:=by
  have:=ZqE (pS (ZeF f) j) (ZeF f j)
  unfold ckS
  rw [pS,this,ZsH,Bool.not_not,ZsK,ZtC]
  split<;>rfl
theorem ZoP{f:Vector Int 64}(h:fU f):Zav f=some (ckS f 744):=by
  have inner: ∀ i:Nat,i<62→loop (t2 (XF f (i:Int))) (ckS f (12*i),11)=some (ckS f (12*(i+1))):=fun i hi=>by
    have hw:=h i
    have:=ZqQ (body:=XF f (i:Int)) (fun j=>ckS f (12*i+j)) (ckS f (12*(i+1))) (b:=12) (fun k hk=>by
      have hd:=Zse hw k
      have hv:=(pS (ZeF f) (12*i+(12-1-k))).isLt
      unfold XF
      have e1:shl .i64 (ckS f (12*i+(12-1-k))) 1=some (ckS f (12*i+(12-1-k))*2):=Zsz _
      rw [pG (by simp),e1,oB,JK f (by omega),oB,ZlV _ (by omega),oB,ZnI hd,Zbn (by omega) (by omega)]
      have eb:ZeF f (12*i+(12-1-k))=decide (wd f i/(2:Int)^k % 2=1):=by
        unfold ZeF
        rw [decide_eq_true (show 12*i+(12-1-k)<744 by omega),Bool.true_and,show(12*i+(12-1-k))/12=i by omega,show 11-(12*i+(12-1-k)) % 12=k by omega]
      have:=Zps f (12*i+(12-1-k))
      rw [eb] at this
      rw [show 12*i+(12-k)=12*i+(12-1-k)+1 by omega,this]
      split<;>rfl) (by unfold XF;rw [nG (by decide)];rw [show 12*(i+1)=12*i+12 by omega])
    exact this
  have:=ZiF (body:=Ja f) (fun i=>ckS f (12*i)) (ckS f 744) (a:=0) (b:=62) (by decide) (fun k _ hk=>by
    unfold Ja
    rw [pG (by simp;omega),inner k hk,oB,Xv,Zbn (by omega) (by omega)]) (by unfold Ja;rw [nG (by decide)])
  unfold Zav
  have e0:((0:Int),(0:Int))=((fun i=>ckS f (12*i)) 0,((0:Nat):Int)):=rfl
  rw [e0,this]
  rfl
def rkS(f:Vector Int 64)(k:Nat):Int:=((rS (ZeF f) k).toNat:Int)
theorem ZrT{f:Vector Int 64}(h:fU f):Zbx f=some (ckS f 744):=by
  have hfin:rkS f 766=ckS f 744:=by
    unfold rkS ckS
    rw [show 766=744+22 from rfl,Zr9 (fun k hk=>by unfold ZeF;rw [decide_eq_false (by omega),Bool.false_and])]
  have := ZiF (body := Zaw f) (rkS f) (ckS f 744) (a := 0) (b := 766) (by decide) (fun k _ hk => by
    have hv:=(rS (ZeF f) k).isLt
    have hb:((if(decide ((k:Int)<744))=true then(quo .i64 (k:Int) 12).bind fun q=>(ZY f q).bind fun x=>(rem (k:Int) 12).bind fun q2=>(shr .i64 (i64 x) (i64 (11-q2))).bind fun q3=>some (QD .i64 q3 1) else some 0):Option Int)=some ((ZeF f k).toNat:Int):=by
      by_cases hk2:k<744
      · have hw:=h (k/12)
        rw [pG (by simp;omega)]
        have e1:quo .i64 (k:Int) 12=some ((k/12:Nat):Int):=by
          unfold quo
          rw [nG (by decide),Int.tdiv_eq_ediv_of_nonneg (by omega),w64 (by omega) (by omega)]
          rfl
        rw [e1,oB,JK f (by omega),oB,Ziu (by omega) _ (by decide),oB,Zbn (by omega) (by omega)]
        have e2:i64 (11-(k:Int) % 12)=((11-k % 12:Nat):Int):=by rw [Zbn (by omega) (by omega)];omega
        rw [e2,ZnR _ (by omega),oB,Zno]
        unfold ZeF
        rw [decide_eq_true hk2,Bool.true_and]
        generalize wd f (k/12)/(2:Int)^(11-k % 12)=z
        by_cases hz:z % 2=1
        · rw [decide_eq_true hz,hz];rfl
        · rw [decide_eq_false hz,show z % 2=0 by omega];rfl
      · rw [nG (by simp;omega)]
        unfold ZeF
        rw [decide_eq_false hk2,Bool.false_and];rfl
    unfold Zaw
    rw [pG (by simp;omega),hb,oB,Xv]
    have hbl:(ZeF f k).toNat≤1:=by cases ZeF f k<;>decide
    have hs:=Zqt (rS (ZeF f) k) (ZeF f k)
    simp only at hs
    have er:i64 (i64 (rkS f k*2)+((ZeF f k).toNat:Int))=((2*(rS (ZeF f) k).toNat+(ZeF f k).toNat:Nat):Int):=by
      unfold rkS
      rw [Zbn (z:=((rS (ZeF f) k).toNat:Int)*2) (by omega) (by omega),Zbn (by omega) (by omega)];push_cast;omega
    have en:rkS f (k+1)=((zS (rS (ZeF f) k)^^^(if ZeF f k then 1#22 else 0#22)).toNat:Int):=rfl
    rw [er,en,←hs,Zbn (z:=(k:Int)+1) (by omega) (by omega)]
    by_cases hc:4194304≤2*(rS (ZeF f) k).toNat+(ZeF f k).toNat
    · rw [pG (by simp;omega),pG hc,show(6291471:Int)=((6291471:Nat):Int) from rfl,ZpC (by omega) (by omega)]
    · rw [nG (by simp;omega),nG hc]) (by unfold Zaw;rw [nG (by decide),hfin])
  unfold Zbx
  rw [show((0:Int),(0:Int))=(rkS f 0,((0:Nat):Int)) from rfl,this]
  rfl
end Go.Vx

namespace Go.Vx
open Go Go.RowKit
theorem ZlP{ρ:Type}{body:Int→Option (Int ⊕ ρ)}(P:Nat→Bool)(A Z:ρ){a b:Nat}(hab:a≤b)
    (hstep: ∀ k:Nat,a≤k→k<b→body (k:Int)=if P k=true then some (.inl ((k:Int)+1)) else some (.inr A)) (hend:body (b:Int)=some (.inr Z)):
    loop (t1 body) (a:Int)=some (cond ((List.range' a (b-a)).all P) Z A):=by
  refine ZfL (body:=t1 body) (fun i=> ∃ k:Nat,i=k∧a≤k∧k≤b) (fun i=>b-i.toNat) (fun i=>cond ((List.range' i.toNat (b-i.toNat)).all P) Z A) ?_ (a:Int) ⟨a,rfl,Nat.le_refl _,hab⟩
  rintro i ⟨k,rfl,h1,h2⟩
  simp only [Int.toNat_natCast,Xv]
  rcases Nat.lt_or_ge k b with h |h
  · rw [hstep k h1 h]
    obtain⟨n,hn⟩: ∃ n,b-k=n+1:=⟨b-k-1,by omega⟩
    rw [hn,List.range'_succ,List.all_cons]
    cases hp:P k
    · right;simp
    · left
      refine⟨_,by rw [pG rfl],⟨k+1,by push_cast;rfl,by omega,h⟩,by omega,?_⟩
      rw [show((k:Int)+1).toNat=k+1 by omega,show b-(k+1)=n by omega,Bool.true_and]
  · obtain rfl:k=b:=by omega
    right
    rw [hend];simp
def flL(P:Nat→Bool)(c:Int)(a n:Nat):List api_Flaw:=((List.range' a n).filter fun k=> !P k).map fun(k:Nat)=>api_Flaw.mk (k:Int) c
theorem ZmO(P:Nat→Bool)(c:Int)(a n:Nat):flL P c a (n+1)=flL P c a n++(if P (a+n)=true then [] else [api_Flaw.mk ((a+n:Nat):Int) c]):=by
  unfold flL
  rw [List.range'_1_concat,List.filter_append,List.map_append]
  congr 1
  cases h:P (a+n)<;>simp [h]
theorem Zkc(P:Nat→Bool)(c:Int)(a:Nat): ∀ n,(flL P c a n).length≤n
  |0=>by simp [flL]
  |n+1=>by
    have:=Zkc P c a n
    rw [ZmO,List.length_append];split<;>simp<;>omega
theorem Zkk(P:Nat→Bool)(c:Int)(a n:Nat):(flL P c a n).length=0↔(List.range' a n).all P=true:=by
  unfold flL
  rw [lM,List.length_eq_zero_iff,List.filter_eq_nil_iff,List.all_eq_true]
  exact⟨fun h x hx=>by have:=h x hx;simpa using this,fun h x hx=>by rw [h x hx];decide⟩
theorem Zkl{body:List api_Flaw→Int→Option ((List api_Flaw×Int) ⊕ List api_Flaw)}(P:Nat→Bool)(c:Int){a b:Nat}(hab:a≤b)(l0:List api_Flaw)(hl:l0.length≤1000)(hb:b≤1000)
    (hstep: ∀ (l:List api_Flaw) (k:Nat),l.length≤2000→a≤k→k<b→body l (k:Int)=if P k=true then some (.inl (l,(k:Int)+1)) else some (.inl (l++ [api_Flaw.mk (k:Int) c],(k:Int)+1)))
    (hend: ∀ l,body l (b:Int)=some (.inr l)):loop (t2 body) (l0,(a:Int))=some (l0++flL P c a (b-a)):=by
  have:=ZiF (body:=body) (fun k=>l0++flL P c a (k-a)) (l0++flL P c a (b-a)) (a:=a) (b:=b) hab (fun k h1 h2=>by
    have hlen:=Zkc P c a (k-a)
    rw [hstep _ k (by rw [List.length_append];omega) h1 h2,show k+1-a=k-a+1 by omega,ZmO,show a+(k-a)=k by omega]
    cases P k<;>simp) (hend _)
  have e:(fun k=>l0++flL P c a (k-a)) a=l0:=by simp [flL]
  simp only at e
  rw [e] at this
  exact this
noncomputable def ZsM(n:Nat):Bool:=decide (ZbW (n:Int)=ZdD (n:Int))&&(ZdD (n:Int)).isSome
theorem ZqZ:(List.range 4096).all ZsM=true:=by decide+kernel
noncomputable def Zj7(x:Int):Bool:=(ZdD x).getD false
theorem Zob{x:Int}(h:0≤x∧x≤4095):ZbW x=some (Zj7 x)∧Zdm x=some (Zj7 x):=by
  obtain⟨n,rfl⟩: ∃ n:Nat,x=n:=⟨x.toNat,by omega⟩
  have:=List.all_eq_true.1 ZqZ n (List.mem_range.2 (by omega))
  simp only [ZsM,Bool.and_eq_true,decide_eq_true_eq] at this
  obtain⟨h2,h3⟩:=this
  obtain⟨b,hb⟩:=Option.isSome_iff_exists.1 h3
  unfold Zj7
  rw [hb]
  exact⟨h2.trans hb,ZjG _ b hb⟩
def Xy(f:Vector Int 64)(k:Nat):Bool:=decide (wd f k≤4095)
def Za4(f:Vector Int 64):Bool:=(List.range' 0 64).all (Xy f)
theorem Zjp{f:Vector Int 64}(h:Za4 f=true)(k:Nat)(hk:k<64):wd f k≤4095:=by
  have:=List.all_eq_true.1 h k (List.mem_range'.2 ⟨k,hk,by omega⟩)
  simpa [Xy] using this
theorem Zr8(f:Vector Int 64):Zcx f=some (!Za4 f):=by
  have:=ZlP (body:=Zau f) (Xy f) (.inl true:Bool ⊕ Unit) (.inr ()) (a:=0) (b:=64) (by decide) (fun k _ hk=>by
    unfold Zau Xy
    rw [pG (by simp;omega),JK f hk,oB,Zbn (by omega) (by omega)]
    by_cases hw:4095<wd f k
    · rw [pG (by simpa using hw),nG (by simpa using hw)]
    · rw [nG (by simpa using hw),pG (by simpa using hw)]) (by unfold Zau;rw [nG (by decide)])
  unfold Zcx
  have e0:(0:Int)=((0:Nat):Int):=rfl
  rw [e0,this]
  unfold Za4
  rw [Nat.sub_zero]
  cases (List.range' 0 64).all (Xy f)<;>rfl
def Zbo(n:Int):Int:=gv_frame_syncs.toList.getD (n % 4).toNat 0
theorem Zmk{n:Int}(h:0≤n):rem n 4=some (n % 4)∧ZY gv_frame_syncs (n % 4)=some (Zbo n):=by
  refine⟨Ziu h _ (by decide),?_⟩
  unfold ZY Zbo
  rw [pG (by omega)]
  obtain⟨x,hx⟩:=Za5 (xs:=gv_frame_syncs.toList) (k:=(n % 4).toNat) (by simp;omega)
  rw [gQ,hx];rfl
theorem Zp2{n:Int}(h:0≤n):ZaV n=some (Zbo n):=by
  unfold ZaV
  have:=(Zmk h).2
  unfold gv_frame_syncs at this
  rw [(Zmk h).1,oB,this,oB]
noncomputable def Zk0(f:Vector Int 64)(k:Nat):Bool:=Zj7 (wd f k)
def ckW(f:Vector Int 64):Int:=wd f 62 % 2048*2048+wd f 63 % 2048
noncomputable def ZnE(f:Vector Int 64):Bool:=Za4 f&&(decide (wd f 0=Zbo (Zac f))&&(decide (wd f 61 % 2048=ZfB f 60)&&((List.range' 1 63).all (Zk0 f)&&decide (ckW f=ckS f 744))))
def Zce(b:Bool)(i c:Int):List api_Flaw:=if b=true then [] else [api_Flaw.mk i c]
noncomputable def Zor(f:Vector Int 64):List api_Flaw:=
  if Za4 f=true then((Zce (decide (wd f 0=Zbo (Zac f))) 0 1++flL (Zk0 f) 2 1 63)++Zce (decide (wd f 61 % 2048=ZfB f 60)) 61 3)++Zce (decide (ckW f=ckS f 744)) 62 4
  else flL (Xy f) 5 0 64
theorem ZcY(b:Bool)(i c:Int):(Zce b i c).length≤1∧((Zce b i c).length=0↔b=true):=by cases b<;>simp [Zce]
theorem Zop{f:Vector Int 64}(h:fU f):Zfo f=some (Zor f):=by
  have hl1:=Zkl (body:=Zcm f) (Xy f) 5 (a:=0) (b:=64) (by decide) [] (by decide) (by decide) (fun l k hl _ hk=>by
    unfold Zcm Xy
    rw [pG (by simp;omega),JK f hk,oB,Zbn (by omega) (by omega)]
    by_cases hw:4095<wd f k
    · rw [pG (by simpa using hw),nG (by simpa using hw),Zfd (by simp;omega),oB]
    · rw [nG (by simpa using hw),pG (by simpa using hw)]) (fun l=>by unfold Zcm;rw [nG (by decide)])
  unfold Zfo
  have e0:(([]:List api_Flaw),(0:Int))=([],((0:Nat):Int)):=rfl
  rw [e0,hl1,oB,Xv,List.nil_append,Nat.sub_zero]
  have hz:=Zkk (Xy f) 5 0 64
  unfold Zor
  cases hn:Za4 f
  · have: ¬(flL (Xy f) 5 0 64).length=0:=fun hc=>by rw [hz.1 hc |>fun e=>(show Za4 f=true from e)] at hn;cases hn
    rw [pG (by simp only [decide_eq_true_eq];omega),nG (by decide)]
  · have hz0:(flL (Xy f) 5 0 64).length=0:=hz.2 hn
    have hnil:flL (Xy f) 5 0 64= []:=List.length_eq_zero_iff.1 hz0
    have hnb:=ZlX f
    have v0:ZY f 0=some (wd f 0):=JK f (i:=0) (by decide)
    have v61:ZY f 61=some (wd f 61):=JK f (i:=61) (by decide)
    have v62:ZY f 62=some (wd f 62):=JK f (i:=62) (by decide)
    have v63:ZY f 63=some (wd f 63):=JK f (i:=63) (by decide)
    have w0:=h 0
    have w61:=h 61
    have w62:=h 62
    have w63:=h 63
    rw [hnil,nG (by decide),v0,oB,(Znx h).2,oB,Zp2 hnb.1,oB,Zbn (z:=wd f 0) (by omega) (by omega)]
    have s1:(if(!decide (wd f 0=Zbo (Zac f)))=true then(app ([]:List api_Flaw) ([(api_Flaw.mk 0 1)]:List api_Flaw)).bind fun l2=>some l2 else some [])=some (Zce (decide (wd f 0=Zbo (Zac f))) 0 1):=by
      by_cases hs:wd f 0=Zbo (Zac f)
      · simp [hs,Zce]
      · rw [Zfd (by simp)];simp [hs,Zce]
    rw [s1,oB,Xv]
    have hl2:=Zkl (body:=Zch f) (Zk0 f) 2 (a:=1) (b:=64) (by decide) (Zce (decide (wd f 0=Zbo (Zac f))) 0 1) (by have:=(ZcY (decide (wd f 0=Zbo (Zac f))) 0 1).1;omega) (by decide) (fun l k hl _ hk=>by
      unfold Zch Zk0
      have hw:=h k
      rw [pG (by simp;omega),JK f hk,oB,Zbn (z:=wd f k) (by omega) (by omega),(Zob ⟨hw.1,Zjp hn k hk⟩).2,oB,Zbn (by omega) (by omega)]
      cases Zj7 (wd f k)
      · rw [pG (by decide),Zfd (by simp;omega),oB];rfl
      · rfl) (fun l=>by unfold Zch;rw [nG (by decide)])
    have e1:(1:Int)=((1:Nat):Int):=rfl
    have e2:(Zce (decide (wd f 0=Zbo (Zac f))) 0 1,(1:Int))=(Zce (decide (wd f 0=Zbo (Zac f))) 0 1,((1:Nat):Int)):=rfl
    rw [e2,hl2,oB,Xv,show 64-1=63 from rfl]
    have b1:=(ZcY (decide (wd f 0=Zbo (Zac f))) 0 1).1
    have b2:=Zkc (Zk0 f) 2 1 63
    have b3:=(ZcY (decide (wd f 61 % 2048=ZfB f 60)) 61 3).1
    generalize hX:Zce (decide (wd f 0=Zbo (Zac f))) 0 1++flL (Zk0 f) 2 1 63=X
    have bX:X.length≤64:=by rw [←hX,List.length_append];omega
    rw [v61,oB,Zbn (z:=wd f 61) (by omega) (by omega),Ziu w61.1 _ (by decide),oB,(ZnJ h).2,oB]
    have s2:(if(!decide (wd f 61 % 2048=ZfB f 60))=true then(app X ([(api_Flaw.mk 61 3)]:List api_Flaw)).bind fun l4=>some l4 else some X)=some (X++Zce (decide (wd f 61 % 2048=ZfB f 60)) 61 3):=by
      by_cases hs:wd f 61 % 2048=ZfB f 60
      · simp [hs,Zce]
      · rw [Zfd (by simp;omega)];simp [hs,Zce]
    rw [s2,oB,Xv]
    generalize hW:X++Zce (decide (wd f 61 % 2048=ZfB f 60)) 61 3=W
    have bW:W.length≤65:=by rw [←hW,List.length_append];omega
    rw [v62,oB,Zbn (z:=wd f 62) (by omega) (by omega),Ziu w62.1 _ (by decide),oB,v63,oB,Zbn (z:=wd f 63) (by omega) (by omega),Ziu w63.1 _ (by decide),oB,ZrT h,oB]
    rw [Zbn (z:=wd f 62 % 2048*2048) (by omega) (by omega),Zbn (z:=wd f 62 % 2048*2048+wd f 63 % 2048) (by omega) (by omega)]
    unfold ckW
    by_cases hs:wd f 62 % 2048*2048+wd f 63 % 2048=ckS f 744
    · simp [hs,Zce]
    · rw [Zfd (by simp;omega)];simp [hs,Zce]
theorem Zmy{f:Vector Int 64}(h:fU f):ZdP f=some (ZnE f):=by
  unfold ZdP
  rw [Zop h,oB]
  congr 1
  unfold Zor ZnE
  cases hn:Za4 f
  · have hz:=Zkk (Xy f) 5 0 64
    have: ¬(flL (Xy f) 5 0 64).length=0:=fun hc=>by rw [hz.1 hc |>fun e=>(show Za4 f=true from e)] at hn;cases hn
    rw [nG (by decide),Bool.false_and,decide_eq_false_iff_not];omega
  · rw [pG rfl,Bool.true_and,Bool.eq_iff_iff,decide_eq_true_eq]
    simp only [List.length_append,Bool.and_eq_true]
    have b1:=(ZcY (decide (wd f 0=Zbo (Zac f))) 0 1).2
    have b2:=Zkk (Zk0 f) 2 1 63
    have b3:=(ZcY (decide (wd f 61 % 2048=ZfB f 60)) 61 3).2
    have b4:=(ZcY (decide (ckW f=ckS f 744)) 62 4).2
    rw [←b1,←b2,←b3,←b4]
    omega
end Go.Vx

namespace Go.Vx
open Go Go.RowKit
noncomputable def Znb(f:Vector Int 64):Int×Bool:=if(Zj7 (wd f 1)&&Zj7 (wd f 2))=true then(Zac f,true) else(0,false)
theorem Zng{f:Vector Int 64}(h:fU f)(h1:wd f 1≤4095)(h2:wd f 2≤4095):JJ f=some (Znb f)∧Zer f=some (Znb f):=by
  have w1:=h 1
  have w2:=h 2
  have v1:ZY f 1=some (wd f 1):=JK f (i:=1) (by decide)
  have v2:ZY f 2=some (wd f 2):=JK f (i:=2) (by decide)
  obtain⟨o1,o1'⟩:=Zob (x:=wd f 1) ⟨w1.1,h1⟩
  obtain⟨o2,o2'⟩:=Zob (x:=wd f 2) ⟨w2.1,h2⟩
  obtain⟨n1,n2⟩:=Znx h
  have right: ∀ x:Int,0≤x→x≤4095→Zdm x=some (Zj7 x)→ZdZ x=some (Zj7 x):=fun x a b e=>by
    unfold ZdZ
    rw [decide_eq_true b,Zpj,Zbn (by omega) (by omega),e,oB,Bool.true_and]
  have r1:=right _ w1.1 h1 o1'
  have r2:=right _ w2.1 h2 o2'
  unfold JJ Zer Znb
  rw [v1,v2,oB,oB,o1,r1,oB,oB,n1,n2]
  generalize Zac f=n
  cases Zj7 (wd f 1)
  · exact⟨rfl,rfl⟩
  · simp only [Bool.not_true,ZrY,show(false==false)=true from rfl,oB,o2,r2]
    cases Zj7 (wd f 2)
    · exact⟨rfl,rfl⟩
    · exact⟨rfl,rfl⟩
end Go.Vx

namespace Go.Vx
open Go Go.RowKit
theorem ZqK{f:Vector Int 64}(h:fU f):ZaP f=some (Zor f):=by
  have hl1:=Zkl (body:=J3 f) (Xy f) 5 (a:=0) (b:=64) (by decide) [] (by decide) (by decide) (fun l k hl _ hk=>by
    unfold J3 Xy
    rw [pG (by simp;omega),JK f hk,oB,Zbn (by omega) (by omega)]
    by_cases hw:4095<wd f k
    · rw [pG (by simpa using hw),nG (by simpa using hw),Zfd (by simp;omega),oB]
    · rw [nG (by simpa using hw),pG (by simpa using hw)]) (fun l=>by unfold J3;rw [nG (by decide)])
  unfold ZaP
  have e0:(([]:List api_Flaw),(0:Int))=([],((0:Nat):Int)):=rfl
  rw [e0,hl1,oB,Xv,List.nil_append,Nat.sub_zero]
  have hz:=Zkk (Xy f) 5 0 64
  unfold Zor
  cases hn:Za4 f
  · have: ¬(flL (Xy f) 5 0 64).length=0:=fun hc=>by rw [hz.1 hc |>fun e=>(show Za4 f=true from e)] at hn;cases hn
    rw [pG (by simp only [decide_eq_true_eq];omega),nG (by decide)]
  · have hz0:(flL (Xy f) 5 0 64).length=0:=hz.2 hn
    have hnil:flL (Xy f) 5 0 64= []:=List.length_eq_zero_iff.1 hz0
    have hnb:=ZlX f
    have v0:ZY f 0=some (wd f 0):=JK f (i:=0) (by decide)
    have v61:ZY f 61=some (wd f 61):=JK f (i:=61) (by decide)
    have v62:ZY f 62=some (wd f 62):=JK f (i:=62) (by decide)
    have v63:ZY f 63=some (wd f 63):=JK f (i:=63) (by decide)
    have w0:=h 0
    have w61:=h 61
    have w62:=h 62
    have w63:=h 63
    rw [hnil,nG (by decide),v0,oB,(Znx h).1,oB,(Zmk hnb.1).1,oB,(Zmk hnb.1).2,oB]
    have s1:(if(!decide (wd f 0=Zbo (Zac f)))=true then(app ([]:List api_Flaw) ([(api_Flaw.mk 0 1)]:List api_Flaw)).bind fun l2=>some l2 else some [])=some (Zce (decide (wd f 0=Zbo (Zac f))) 0 1):=by
      by_cases hs:wd f 0=Zbo (Zac f)
      · simp [hs,Zce]
      · rw [Zfd (by simp)];simp [hs,Zce]
    rw [s1,oB,Xv]
    have hl2:=Zkl (body:=JR f) (Zk0 f) 2 (a:=1) (b:=64) (by decide) (Zce (decide (wd f 0=Zbo (Zac f))) 0 1) (by have:=(ZcY (decide (wd f 0=Zbo (Zac f))) 0 1).1;omega) (by decide) (fun l k hl _ hk=>by
      unfold JR Zk0
      have hw:=h k
      rw [pG (by simp;omega),JK f hk,oB,(Zob ⟨hw.1,Zjp hn k hk⟩).1,oB,Zbn (by omega) (by omega)]
      cases Zj7 (wd f k)
      · rw [pG (by decide),Zfd (by simp;omega),oB];rfl
      · rfl) (fun l=>by unfold JR;rw [nG (by decide)])
    have e1:(1:Int)=((1:Nat):Int):=rfl
    have e2:(Zce (decide (wd f 0=Zbo (Zac f))) 0 1,(1:Int))=(Zce (decide (wd f 0=Zbo (Zac f))) 0 1,((1:Nat):Int)):=rfl
    rw [e2,hl2,oB,Xv,show 64-1=63 from rfl]
    have b1:=(ZcY (decide (wd f 0=Zbo (Zac f))) 0 1).1
    have b2:=Zkc (Zk0 f) 2 1 63
    have b3:=(ZcY (decide (wd f 61 % 2048=ZfB f 60)) 61 3).1
    generalize hX:Zce (decide (wd f 0=Zbo (Zac f))) 0 1++flL (Zk0 f) 2 1 63=X
    have bX:X.length≤64:=by rw [←hX,List.length_append];omega
    rw [v61,oB,Zjo (h 61),oB,(ZnJ h).1,oB]
    have s2:(if(!decide (wd f 61 % 2048=ZfB f 60))=true then(app X ([(api_Flaw.mk 61 3)]:List api_Flaw)).bind fun l4=>some l4 else some X)=some (X++Zce (decide (wd f 61 % 2048=ZfB f 60)) 61 3):=by
      by_cases hs:wd f 61 % 2048=ZfB f 60
      · simp [hs,Zce]
      · rw [Zfd (by simp;omega)];simp [hs,Zce]
    rw [s2,oB,Xv]
    generalize hW:X++Zce (decide (wd f 61 % 2048=ZfB f 60)) 61 3=W
    have bW:W.length≤65:=by rw [←hW,List.length_append];omega
    have ob:0≤wd f 62 % 2048∧wd f 62 % 2048<2048:=by omega
    have oc:0≤wd f 63 % 2048∧wd f 63 % 2048<2048:=by omega
    have eb:=(Zrf ob oc).2
    obtain⟨q,hq,hq2⟩: ∃ q,shl .i64 (wd f 62 % 2048) 11=some q∧bor .i64 q (wd f 63 % 2048)=wd f 62 % 2048*2048+wd f 63 % 2048:=by
      cases hh:shl .i64 (wd f 62 % 2048) 11 with
      |none=>rw [hh] at eb;cases eb
      |some q=>rw [hh,oB] at eb;exact⟨q,rfl,Option.some.inj eb⟩
    rw [v62,oB,Zjo (h 62),oB,hq,oB,v63,oB,Zjo (h 63),oB,ZoP h,oB,hq2]
    unfold ckW
    by_cases hs:wd f 62 % 2048*2048+wd f 63 % 2048=ckS f 744
    · simp [hs,Zce]
    · rw [Zfd (by simp;omega)];simp [hs,Zce]
theorem Zpe{f:Vector Int 64}(h:fU f):(0<(Zor f).length)↔ZnE f=false:=by
  have:=Zmy h
  unfold ZdP at this
  rw [Zop h,oB] at this
  have:=Option.some.inj this
  rw [←this,decide_eq_false_iff_not];omega
end Go.Vx
