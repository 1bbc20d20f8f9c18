/- A text of the proof: a verified executor of the program form, or the contracts of the functions that the law reaches. -/
import Derived.Test.YtailpehcgelmdaaGreatDoorPA
set_option linter.all false
namespace Go.Vx
open Go Go.RowKit
def nb50(z:Int):Bool:=wi z (-1125899906842624) 1125899906842624
def ZjZ(zs:List api_Zone)(k:Nat)(x:api_Zone):Option Int:=
  if pn x.Name=false then some 8 else if decide (x.To<x.From)=true then some 9 else if(decide (0<(k:Int))&&(zs[k-1]?).elim false fun y=>decide (x.From≤y.To))=true then some 10 else none
def ZkV(i:api_Instrument):Int:=
  if(decide (i.High≤i.Low) || !nb50 i.Low || !nb50 i.High || !wi i.Steps 1 1000)=true then 9 else if 10<(i.Zones.length:Int) then 3 else J2 id 0 (Qa (ZjZ i.Zones) 0 i.Zones)
theorem ZpC{zs:List api_Zone}{k:Nat}{x:api_Zone}(hx:zs[k]?=some x)(hl:zs.length≤10):
    ∃ y,gd (decide (0<(k:Int))==true) (api_Zone.mk 0 0 []) (idx zs (i64 ((k:Int)-1)))=some y∧(decide (0<(k:Int))&&decide (x.From≤y.To))=(decide (0<(k:Int))&&(zs[k-1]?).elim false fun y=>decide (x.From≤y.To)):=by
  have hlt:=Xm hx
  by_cases h0:0<(k:Int)
  · obtain⟨y,hy⟩:=Xg (xs:=zs) (k:=k-1) (by omega)
    have e:i64 ((k:Int)-1)=((k-1:Nat):Int):=by rw [show((k:Int)-1)=((k-1:Nat):Int) by omega];exact ZE (by omega) (by omega)
    refine⟨y,?_,?_⟩
    · rw [decide_eq_true h0,e,ZS hy];rfl
    · rw [hy];rfl
  · have h0':decide (0<(k:Int))=false:=decide_eq_false h0
    rw [h0']
    exact⟨_,rfl,rfl⟩
theorem ZoN(i:api_Instrument):JB i=some (ZkV i):=by
  unfold JB ZkV
  have e1:Je i.Low=some (nb50 i.Low):=rfl
  have e2:Je i.High=some (nb50 i.High):=rfl
  have e3:ZM i.Steps 1 1000=some (wi i.Steps 1 1000):=rfl
  rw [e1,e2,e3]
  simp only [Znq,Option.bind_some]
  have hb: ∀ h a b c:Bool,(h || !(h==false&&a) || !((h || !(h==false&&a))==false&&b) || !((h || !(h==false&&a) || !((h || !(h==false&&a))==false&&b))==false&&c))=(h || !a || !b || !c):=by decide
  rw [hb]
  cases hc:(decide (i.High≤i.Low) || !nb50 i.Low || !nb50 i.High || !wi i.Steps 1 1000) with
  |true=>simp
  |false=>
    by_cases h10:10<(i.Zones.length:Int)
    · simp [h10]
    · have h:loop (t1 (Q1 i)) 0=some (J2 Sum.inl (Sum.inr ()) (Qa (ZjZ i.Zones) 0 i.Zones)):=by
        refine Qx (xs:=i.Zones) (body:=Q1 i) _ _ _ (fun k x hx=> ?_) (by simp [Q1])
        have hlt:=Xm hx
        have e1:i64 ((k:Int)+1)=(k:Int)+1:=Zgn (n:=i.Zones.length) (by omega) (by omega)
        obtain⟨y,hy1,hy2⟩:=ZpC hx (by omega)
        simp only [Q1,hlt,decide_true,if_true,ZS hx,Option.bind_some,e1,Zm2,hy1,hy2,ZjZ]
        cases pn x.Name with
        |false=>simp
        |true=>cases decide (x.To<x.From) with
          |true=>simp
          |false=>cases (decide (0<(k:Int))&&(i.Zones[k-1]?).elim false fun y=>decide (x.From≤y.To))<;>simp
      simp only [Bool.false_eq_true,if_false,h10,decide_false,h]
      cases Qa (ZjZ i.Zones) 0 i.Zones<;>simp
theorem ZoW(i:api_Instrument)(hz: ∀ z∈i.Zones,wfS z.Name):ZbZ i=some (ZkV i):=by
  unfold ZbZ ZkV
  have e0: ∀ z a b,Z0 z a b=some (!wi z a b):=fun z a b=>Zel z a b
  simp only [e0,Znq,Option.bind_some]
  have hb: ∀ h a b c:Bool,(h || (h==false&& !a) || ((h || (h==false&& !a))==false&& !b) || ((h || (h==false&& !a) || ((h || (h==false&& !a))==false&& !b))==false&& !c))=(h || !a || !b || !c):=by decide
  rw [hb]
  show(if(decide (i.High≤i.Low) || !nb50 i.Low || !nb50 i.High || !wi i.Steps 1 1000)=true then _ else _)=_
  cases hc:(decide (i.High≤i.Low) || !nb50 i.Low || !nb50 i.High || !wi i.Steps 1 1000) with
  |true=>simp
  |false=>
    by_cases h10:10<(i.Zones.length:Int)
    · simp [h10]
    · have h:loop (t1 (Jv i)) 0=some (J2 Sum.inl (Sum.inr ()) (Qa (ZjZ i.Zones) 0 i.Zones)):=by
        refine Qx (xs:=i.Zones) (body:=Jv i) _ _ _ (fun k x hx=> ?_) (by simp [Jv])
        have hlt:=Xm hx
        have e1:i64 ((k:Int)+1)=(k:Int)+1:=Zgn (n:=i.Zones.length) (by omega) (by omega)
        obtain⟨y,hy1,hy2⟩:=ZpC hx (by omega)
        simp only [Jv,hlt,decide_true,if_true,ZS hx,Option.bind_some,e1,Zmn x.Name (hz x (List.mem_of_getElem? hx)),hy1,hy2,ZjZ]
        cases pn x.Name with
        |false=>simp
        |true=>cases decide (x.To<x.From) with
          |true=>simp
          |false=>cases (decide (0<(k:Int))&&(i.Zones[k-1]?).elim false fun y=>decide (x.From≤y.To))<;>simp
      simp only [Bool.false_eq_true,if_false,h10,decide_false,h]
      cases Qa (ZjZ i.Zones) 0 i.Zones<;>simp
def Zb7(i:api_Instrument):Int:=
  if wi i.Kind 1 6=false then 7 else if(!pn i.Name || !wi (i.Track.length:Int) 1 30)=true then 8 else if unV i=true then 2 else if wi i.Places 0 6=false then 9 else
  if i.Kind=2 then ZkV i else if i.Kind=3∨i.Kind=5 then(if wi i.Op 1 6=false then 7 else if nb50 i.N=false then 9 else 0) else if i.Kind=6 then(if wi i.Size 1 50=false then 9 else 0) else 0
theorem Zpn(i:api_Instrument):QO i=some (Zb7 i):=by
  unfold QO Zb7
  have e0: ∀ z a b,ZM z a b=some (wi z a b):=fun z a b=>rfl
  have e1:Je i.N=some (nb50 i.N):=rfl
  simp only [e0,e1,Zm2,Znz,ZoN,Znq,Option.bind_some]
  cases wi i.Kind 1 6 with
  |false=>simp
  | true => cases pn i.Name with
    |false=>simp
    | true => cases wi (i.Track.length : Int) 1 30 with
      |false=>simp
      | true => cases unV i with
        |true=>simp
        |false=>cases wi i.Places 0 6 with
          |false=>simp
          |true=>
            by_cases h2:i.Kind=2
            · simp [h2]
            · by_cases h3:i.Kind=3
              · cases wi i.Op 1 6<;>cases nb50 i.N<;>simp [h3]
              · by_cases h5:i.Kind=5
                · cases wi i.Op 1 6<;>cases nb50 i.N<;>simp [h5]
                · by_cases h6:i.Kind=6
                  · cases wi i.Size 1 50<;>simp [h6]
                  · simp [h2,h3,h5,h6]
theorem ZqP(s:Str):(decide (s= []) || decide (30<(s.length:Int)))= !wi (s.length:Int) 1 30:=by
  cases s with
  |nil=>rfl
  |cons a t=>
    have e:decide (a::t= [])=false:=by simp
    rw [e,Bool.false_or,Bool.eq_iff_iff]
    simp only [Bool.not_eq_true',decide_eq_true_iff,wi,Bool.and_eq_false_iff,decide_eq_false_iff_not,List.length_cons]
    omega
def Zic(i:api_Instrument):Prop:=wfS i.Name∧ ∀ z∈i.Zones,wfS z.Name
theorem ZoL(i:api_Instrument)(hi:Zic i):Jp i=some (Zb7 i):=by
  unfold Jp Zb7
  have e0: ∀ z a b,Z0 z a b=some (!wi z a b):=fun z a b=>Zel z a b
  have e1:wi i.N (-1125899906842624) 1125899906842624=nb50 i.N:=rfl
  simp only [e0,e1,Zmn i.Name hi.1,Znw,ZoW i hi.2,Option.bind_some,Bool.or_assoc,ZqP]
  cases wi i.Kind 1 6 with
  |false=>simp
  | true => cases pn i.Name with
    |false=>simp
    | true => cases wi (i.Track.length : Int) 1 30 with
      |false=>simp
      | true => cases unV i with
        |true=>simp
        |false=>cases wi i.Places 0 6 with
          |false=>simp
          |true=>
            by_cases h2:i.Kind=2
            · simp [h2]
            · by_cases h3:i.Kind=3
              · cases wi i.Op 1 6<;>cases nb50 i.N<;>simp [h3]
              · by_cases h5:i.Kind=5
                · cases wi i.Op 1 6<;>cases nb50 i.N<;>simp [h5]
                · by_cases h6:i.Kind=6
                  · cases wi i.Size 1 50<;>simp [h6]
                  · simp [h2,h3,h5,h6]
def Zn6(i:api_Instrument)(n:Int):Int:=if Zb7 i≠0 then Zb7 i else if i.Kind≠2 then 7 else if nb50 n=false then 9 else 0
structure DialOK (i:api_Instrument):Prop where
  lt:i.Low<i.High
  low: -1125899906842624≤i.Low∧i.Low≤1125899906842624
  high: -1125899906842624≤i.High∧i.High≤1125899906842624
  steps:1≤i.Steps∧i.Steps≤1000
  zones:i.Zones.length≤10
theorem Zpa{i:api_Instrument}{n:Int}(h:Zn6 i n=0):DialOK i∧(-1125899906842624≤n∧n≤1125899906842624):=by
  unfold Zn6 at h
  split at h
  · rename_i h0;exact absurd h h0
  · rename_i h0
    split at h
    · cases h
    · rename_i h2
      have h2:i.Kind=2:=by omega
      split at h
      · cases h
      · rename_i hn
        have hn:nb50 n=true:=by simpa using hn
        have hI:Zb7 i=0:=by omega
        unfold Zb7 at hI
        split at hI
        · cases hI
        split at hI
        · cases hI
        split at hI
        · cases hI
        split at hI
        · cases hI
        try rw [if_pos h2] at hI
        unfold ZkV at hI
        split at hI
        · cases hI
        rename_i hc
        split at hI
        · cases hI
        rename_i h10
        have hc:(decide (i.High≤i.Low) || !nb50 i.Low || !nb50 i.High || !wi i.Steps 1 1000)=false:=by simpa using hc
        simp only [Bool.or_eq_false_iff,decide_eq_false_iff_not,Bool.not_eq_false'] at hc
        obtain⟨⟨⟨c1,c2⟩,c3⟩,c4⟩:=hc
        exact⟨⟨by omega,Zab.1 c2,Zab.1 c3,Zab.1 c4,by omega⟩,Zab.1 hn⟩
def ndl(i:api_Instrument)(n:Int):Int:=if n≤i.Low then 0 else if i.High≤n then i.Steps else((n-i.Low)*i.Steps)/(i.High-i.Low)
theorem Zo5{i:api_Instrument}(hi:DialOK i){n:Int}(h1:i.Low<n)(h2:n<i.High):0≤(n-i.Low)*i.Steps∧(n-i.Low)*i.Steps≤2251799813685248000:=by
  have:=hi.low;have:=hi.high;have:=hi.steps
  exact⟨Int.mul_nonneg (by omega) (by omega),by
    have:(n-i.Low)*i.Steps≤2251799813685248*1000:=Int.mul_le_mul (by omega) (by omega) (by omega) (by omega)
    omega⟩
theorem Znk{i:api_Instrument}(hi:DialOK i){n:Int}(hn: -1125899906842624≤n∧n≤1125899906842624):Zbb i n=some (ndl i n):=by
  unfold Zbb ndl
  by_cases h1:n≤i.Low
  · simp [h1]
  · by_cases h2:i.High≤n
    · simp [h1,h2]
    · have:=hi.low;have:=hi.high;have hlt:=hi.lt
      obtain⟨m1,m2⟩:=Zo5 hi (n:=n) (by omega) (by omega)
      have e1:i64 (n-i.Low)=n-i.Low:=ZE (by omega) (by omega)
      have e2:i64 ((n-i.Low)*i.Steps)=(n-i.Low)*i.Steps:=ZE (by omega) (by omega)
      have e3:i64 (i.High-i.Low)=i.High-i.Low:=ZE (by omega) (by omega)
      have q1:0≤(n-i.Low)*i.Steps/(i.High-i.Low):=Int.ediv_nonneg m1 (by omega)
      have q2:(n-i.Low)*i.Steps/(i.High-i.Low)≤(n-i.Low)*i.Steps:=Int.ediv_le_self _ m1
      have e4:quo .i64 ((n-i.Low)*i.Steps) (i.High-i.Low)=some ((n-i.Low)*i.Steps/(i.High-i.Low)):=by
        unfold quo
        rw [if_neg (by omega),Int.tdiv_eq_ediv_of_nonneg m1,ZE (by omega) (by omega)]
      rw [if_neg (by simpa using h1),if_neg (by simpa using h2),if_neg h1,if_neg h2,e1,e2,e3,e4];rfl
theorem ZpP{i:api_Instrument}(hz:i.Zones.length≤10)(n:Int): ∃ s,Zal i n=some s∧ZfN i n=some s:=by
  have e:ZfN i n=Zal i n:=rfl
  rw [e]
  have h:loop (t1 (XV i n)) 0=some (J2 Sum.inl (Sum.inr ()) (Qa (fun _ x=>if wi n x.From x.To=true then some x.Name else none) 0 i.Zones)):=by
    refine Qx (xs:=i.Zones) (body:=XV i n) _ _ _ (fun k x hx=> ?_) (by simp [XV])
    have hlt:=Xm hx
    have e1:i64 ((k:Int)+1)=(k:Int)+1:=Zgn (n:=i.Zones.length) (by omega) (by omega)
    have e0:ZM n x.From x.To=some (wi n x.From x.To):=rfl
    simp only [XV,hlt,decide_true,if_true,ZS hx,Option.bind_some,e1,e0]
    cases wi n x.From x.To<;>rfl
  unfold Zal
  rw [h]
  cases Qa (fun _ x=>if wi n x.From x.To=true then some x.Name else none) 0 i.Zones with
  |none=>exact⟨[],rfl,rfl⟩
  |some v=>exact⟨v,rfl,rfl⟩
end Go.Vx

namespace Go.Vx
open Go Go.RowKit
theorem Znj{l:List api_Instrument}(hl:l.length≤9223372036854775807){f:api_Instrument→Option Bool}{p:api_Instrument→Bool}(hf: ∀ x,f x=some (p x)):Zs l f=some (l.any p):=by
  have h:loop (t1 (Zx l f)) 0=some (J2 Sum.inl (Sum.inr ()) (Qa (fun k x=>if p x=true then some (k:Int) else none) 0 l)):=by
    refine Qx (xs:=l) (body:=Zx l f) _ _ _ (fun k x hx=> ?_) (by simp [Zx])
    have hlt:=Xm hx
    have e1:i64 ((k:Int)+1)=(k:Int)+1:=Zgn (n:=l.length) (by omega) hl
    simp only [Zx,hlt,decide_true,if_true,ZS hx,Option.bind_some,e1,hf]
    cases p x<;>rfl
  unfold Zs ZH
  rw [h]
  rcases Zg3 (p:=p) 0 l with ⟨h1,h2⟩ | ⟨m,h1,h2⟩
  · rw [h1,h2];simp
  · rw [h1,h2];simp
def Zjd(xs:List api_Instrument)(k:Nat)(x:api_Instrument):Option Int:=
  if Zb7 x≠0 then some (Zb7 x) else if(xs.take k).any (fun z=>decide (z.Name=x.Name))=true then some 5 else none
def Zh5(p:api_Panel):Int:=if 100<(p.Instruments.length:Int) then 3 else J2 id 0 (Qa (Zjd p.Instruments) 0 p.Instruments)
theorem ZnF(p:api_Panel):Zb3 p=some (Zh5 p):=by
  unfold Zb3 Zh5
  by_cases h50:100<(p.Instruments.length:Int)
  · simp [h50]
  · have h:loop (t1 (Jq p)) 0=some (J2 Sum.inl (Sum.inr ()) (Qa (Zjd p.Instruments) 0 p.Instruments)):=by
      refine Qx (xs:=p.Instruments) (body:=Jq p) _ _ _ (fun k x hx=> ?_) (by simp [Jq])
      have hlt:=Xm hx
      have e1:i64 ((k:Int)+1)=(k:Int)+1:=Zgn (n:=p.Instruments.length) (by omega) (by omega)
      have hc:Zs (p.Instruments.take k) (fun z0=>ZbH z0 x)=some ((p.Instruments.take k).any fun z=>decide (z.Name=x.Name)):=
        Znj (by rw [List.length_take];omega) (fun _=>rfl)
      simp only [Jq,hlt,decide_true,if_true,ZS hx,Option.bind_some,e1,Zpn,ZoG (show k≤p.Instruments.length by omega),hc,Zjd]
      by_cases h0:Zb7 x=0
      · cases (p.Instruments.take k).any (fun z=>decide (z.Name=x.Name))<;>simp [h0]
      · simp [h0]
    simp only [h50,decide_false,Bool.false_eq_true,if_false,h]
    cases Qa (Zjd p.Instruments) 0 p.Instruments<;>simp
theorem Zre{l:List api_Instrument}{x:api_Instrument}(hl:l.length≤100):loop (t1 (Zaw x l)) 0=some (if l.any (fun z=>decide (z.Name=x.Name))=true then .inl 5 else .inr ()):=by
  have h:loop (t1 (Zaw x l)) 0=some (J2 (fun _=>Sum.inl 5) (Sum.inr ()) (Qa (fun _ z=>if decide (z.Name=x.Name)=true then some () else none) 0 l)):=by
    refine Qx (xs:=l) (body:=Zaw x l) _ _ _ (fun k z hz=> ?_) (by simp [Zaw])
    have hlt:=Xm hz
    have e1:i64 ((k:Int)+1)=(k:Int)+1:=ZE (by omega) (by omega)
    simp only [Zaw,hlt,decide_true,if_true,ZS hz,Option.bind_some,e1]
    by_cases hn:z.Name=x.Name<;>simp [hn]
  rw [h,ZfC]
  cases l.any (fun z=>decide (z.Name=x.Name))<;>rfl
theorem Zla(p:api_Panel)(hw: ∀ x∈p.Instruments,Zic x):Zdk p=some (Zh5 p):=by
  unfold Zdk Zh5
  by_cases h50:100<(p.Instruments.length:Int)
  · simp [h50]
  · have h:loop (t1 (ZbK p)) 0=some (J2 Sum.inl (Sum.inr ()) (Qa (Zjd p.Instruments) 0 p.Instruments)):=by
      refine Qx (xs:=p.Instruments) (body:=ZbK p) _ _ _ (fun k x hx=> ?_) (by simp [ZbK])
      have hlt:=Xm hx
      have e1:i64 ((k:Int)+1)=(k:Int)+1:=Zgn (n:=p.Instruments.length) (by omega) (by omega)
      simp only [ZbK,hlt,decide_true,if_true,ZS hx,Option.bind_some,e1,ZoL x (hw x (List.mem_of_getElem? hx)),ZoG (show k≤p.Instruments.length by omega),Zre (x:=x) (l:=p.Instruments.take k) (by rw [List.length_take];omega),Zjd]
      by_cases h0:Zb7 x=0
      · cases (p.Instruments.take k).any (fun z=>decide (z.Name=x.Name))<;>simp [h0]
      · simp [h0]
    simp only [h50,decide_false,Bool.false_eq_true,if_false,h]
    cases Qa (Zjd p.Instruments) 0 p.Instruments<;>simp
theorem Zct{p:api_Panel}(h:Zh5 p=0):p.Instruments.length≤100:=by
  unfold Zh5 at h
  split at h
  · cases h
  · omega
theorem ZmC{α:Type}{n:Nat}(h:n≤4294967296)(z:α):mks (n:Int) z=some (List.replicate n z):=by
  unfold mks mkz
  rw [if_pos ⟨by omega,by omega⟩,Int.toNat_natCast]
end Go.Vx

namespace Go.Vx
open Go Go.RowKit
def vV(t:api_Track)(f:Int):api_Sample×Bool:=((Zhj (Zc2 t.Series.Samples (64*f+63) t.Long)).1,(Zhj (Zc2 t.Series.Samples (64*f+63) t.Long)).2)
theorem Zow{t:api_Track}(hc:(chk t.Series).2=0)(hl:wi t.Long 0 1099511627776=true){frame:Int}(f1:0≤frame)(f2:frame≤4194303):Zak t frame=some (vV t frame)∧Zbo t frame=some (vV t frame):=by
  have e1:i64 (64*frame)=64*frame:=ZE (by omega) (by omega)
  have e2:i64 (64*frame+64)=64*frame+64:=ZE (by omega) (by omega)
  have e3:i64 (64*frame+64-1)=64*frame+63:=by rw [show 64*frame+64-1=64*frame+63 by omega];exact ZE (by omega) (by omega)
  have e4:i64 (64*frame+63)=64*frame+63:=ZE (by omega) (by omega)
  have ht:(0:Int)≤64*frame+63∧64*frame+63≤1099511627776:=by omega
  constructor
  · unfold Zak ZcR
    rw [e1,e2,e3,Zp9 (Zkz hc) _ _ ht];rfl
  · unfold Zbo
    rw [e1,e4,ZoY]
    have hwi:wi (64*frame+63) 0 1099511627776=true:=Zab.2 ht
    simp [ZlF,hc,hwi,hl,vV]
theorem Zk4{α:Type}{p:α→Bool}: ∀ (k:Nat) (xs:List α),(Qa (fun j x=>if p x=true then some (j:Int) else none) k xs=none∧Qa (fun _ x=>if p x=true then some x else none) k xs=none)∨
    (∃ (m:Nat) (x:α),Qa (fun j x=>if p x=true then some (j:Int) else none) k xs=some ((k+m:Nat):Int)∧Qa (fun _ x=>if p x=true then some x else none) k xs=some x∧xs[m]?=some x)
  |_,[]=> .inl ⟨rfl,rfl⟩
  |k,x::tl=>by
    have ih:=Zk4 (p:=p) (k+1) tl
    simp only [Qa]
    by_cases hp:p x=true
    · exact .inr ⟨0,x,by simp [hp],by simp [hp],rfl⟩
    · have hp':p x=false:=by simpa using hp
      simp only [hp',Bool.false_eq_true,if_false]
      rcases ih with h | ⟨m,y,h1,h2,h3⟩
      · exact .inl h
      · exact .inr ⟨m+1,y,by rw [h1];congr 2;omega,h2,by simpa using h3⟩
def tkI(l:List api_Track)(nm:Str):Option Int:=Qa (fun j x=>if decide (x.Name=nm)=true then some (j:Int) else none) 0 l
def tkT(l:List api_Track)(nm:Str):Option api_Track:=Qa (fun _ x=>if decide (x.Name=nm)=true then some x else none) 0 l
theorem Zmw(l:List api_Track)(nm:Str):(tkI l nm=none∧tkT l nm=none)∨(∃ (m:Nat) (x:api_Track),tkI l nm=some (m:Int)∧tkT l nm=some x∧l[m]?=some x):=by
  rcases Zk4 (p:=fun x:api_Track=>decide (x.Name=nm)) 0 l with h | ⟨m,x,h1,h2,h3⟩
  · exact .inl h
  · exact .inr ⟨m,x,by rw [Nat.zero_add] at h1;exact h1,h2,h3⟩
theorem ZiX{l:List api_Track}(hl:l.length≤50)(i:api_Instrument):Q4 l i=some (J2 id (-1) (tkI l i.Track)):=by
  have h:loop (t1 (Zt l (fun z0=>JC z0 i))) 0=some (J2 Sum.inl (Sum.inr ()) (tkI l i.Track)):=by
    refine Qx (xs:=l) (body:=Zt l _) _ _ _ (fun k x hx=> ?_) (by simp [Zt])
    have hlt:=Xm hx
    have e1:i64 ((k:Int)+1)=(k:Int)+1:=Zgn (n:=l.length) (by omega) (by omega)
    simp only [Zt,hlt,decide_true,if_true,ZS hx,Option.bind_some,e1,JC]
    cases decide (x.Name=i.Track)<;>rfl
  unfold Q4 ZJ
  rw [h]
  cases tkI l i.Track<;>rfl
theorem Zkm{l:List api_Track}(hl:l.length≤50)(nm:Str):ZaC l nm=some (J2 (fun x=>(x,true)) (api_Track.mk [] (api_Series.mk 0 []) 0,false) (tkT l nm)):=by
  have h:loop (t1 (ZbF l nm)) 0=some (J2 (fun x=>Sum.inl (x,true)) (Sum.inr ()) (tkT l nm)):=by
    refine Qx (xs:=l) (body:=ZbF l nm) _ _ _ (fun k x hx=> ?_) (by simp [ZbF])
    have hlt:=Xm hx
    have e1:i64 ((k:Int)+1)=(k:Int)+1:=Zgn (n:=l.length) (by omega) (by omega)
    simp only [ZbF,hlt,decide_true,if_true,ZS hx,Option.bind_some,e1]
    cases decide (x.Name=nm)<;>rfl
  unfold ZaC
  rw [h]
  cases tkT l nm<;>rfl
theorem Zg2{l:List api_Track}(h:ckT l=0):l.length≤50:=by
  unfold ckT at h
  split at h
  · cases h
  · omega
def Zlh(l:List api_Track)(i:api_Instrument):Bool:=(tkT l i.Track).isNone
def XC(p:api_Panel)(l:List api_Track):Int:=if Zh5 p≠0 then Zh5 p else if ckT l≠0 then ckT l else if p.Instruments.any (Zlh l)=true then 4 else 0
theorem ZmV(p:api_Panel)(l:List api_Track):Jy p l=some (XC p l):=by
  unfold Jy XC
  rw [ZnF,ZmH]
  simp only [Option.bind_some]
  by_cases h0:Zh5 p=0
  · by_cases h1:ckT l=0
    · have hl:=Zg2 h1
      have hp:=Zct h0
      have hc:Zs p.Instruments (fun z0=>XL z0 l)=some (p.Instruments.any (Zlh l)):=by
        refine Znj (by omega) fun x=> ?_
        unfold XL
        rw [ZiX hl,Option.bind_some]
        unfold Zlh
        rcases Zmw l x.Track with ⟨a,b⟩ | ⟨m,y,a,b,_⟩
        · rw [a,b];rfl
        · rw [a,b]
          have:decide (((m:Nat):Int)<0)=false:=decide_eq_false (by omega)
          show some (decide (((m:Nat):Int)<0))=_
          rw [this];rfl
      rw [hc]
      cases p.Instruments.any (Zlh l)<;>simp [h0,h1]
    · simp [h0,h1]
  · simp [h0]
theorem Zpj(p:api_Panel)(l:List api_Track)(hw: ∀ x∈p.Instruments,Zic x)(hs: ∀ x∈l,wfS x.Name):ZeJ p l=some (XC p l):=by
  unfold ZeJ XC
  rw [Zla p hw,Zmx l hs]
  simp only [Option.bind_some]
  by_cases h0:Zh5 p=0
  · by_cases h1:ckT l=0
    · have hl:=Zg2 h1
      have hp:=Zct h0
      have h:loop (t1 (ZbG p l)) 0=some (J2 Sum.inl (Sum.inr ()) (Qa (fun _ x=>if Zlh l x=true then some 4 else none) 0 p.Instruments)):=by
        refine Qx (xs:=p.Instruments) (body:=ZbG p l) _ _ _ (fun k x hx=> ?_) (by simp [ZbG])
        have hlt:=Xm hx
        have e1:i64 ((k:Int)+1)=(k:Int)+1:=Zgn (n:=p.Instruments.length) (by omega) (by omega)
        simp only [ZbG,hlt,decide_true,if_true,ZS hx,Option.bind_some,e1,Zkm hl,Zlh]
        rcases Zmw l x.Track with ⟨_,b⟩ | ⟨m,t,_,b,_⟩<;>simp [b]
      rw [h,ZfC]
      cases p.Instruments.any (Zlh l)<;>simp [h0,h1]
    · simp [h0,h1]
  · simp [h0]
end Go.Vx

namespace Go.Vx
open Go Go.RowKit
theorem Zdb{α:Type}{l:List α}(h:l.length≤4294967296):ZaX l=some l:=by unfold ZaX;rw [ZcF (by simpa using h)];rfl
def shk(l:List Int)(k:Nat):List Int:=(l.drop 1).take k++l.drop k
theorem ZmT{l:List Int}{k:Nat}(h:k+1≤l.length):(shk l k).length=l.length:=by
  unfold shk
  rw [List.length_append,List.length_take,List.length_drop,List.length_drop];omega
theorem ZmY{l:List Int}{k j:Nat}(h:k+1≤l.length)(hj:k≤j):(shk l k)[j]?=l[j]?:=by
  unfold shk
  have e:((l.drop 1).take k).length=k:=by rw [List.length_take,List.length_drop];omega
  rw [List.getElem?_append_right (by omega),e,List.getElem?_drop]
  congr 1;omega
theorem ZoQ{l:List Int}{k:Nat}{x:Int}(h:k+2≤l.length)(hx:l[k+1]?=some x):(shk l k).set k x=shk l (k+1):=by
  unfold shk
  have e:((l.drop 1).take k).length=k:=by rw [List.length_take,List.length_drop];omega
  rw [List.set_append_right _ _ (by omega),e,Nat.sub_self]
  have h1:k<l.length:=by omega
  rw [List.drop_eq_getElem_cons h1,List.set_cons_zero]
  have h2:(l.drop 1)[k]?=some x:=by rw [List.getElem?_drop,Nat.add_comm];exact hx
  rw [List.take_add_one,h2]
  simp
theorem Zmq{l:List Int}(h0:1≤l.length)(hl:l.length≤1000):loop (t2 Xl) (l,0)=some (shk l (l.length-1)):=by
  refine ZcB (body:=t2 Xl) (fun p=> ∃ k:Nat,p=(shk l k,(k:Int))∧k+1≤l.length) (fun p=>l.length-p.2.toNat) (fun _=>shk l (l.length-1)) ?_ (l,0) ⟨0,by simp [shk],h0⟩
  rintro⟨o,i⟩ ⟨k,he,hk⟩
  obtain⟨rfl,rfl⟩:=Prod.mk.inj he
  simp only [Zhq]
  have hlen:=ZmT hk
  have e2:i64 ((k:Int)+2)=(k:Int)+2:=ZE (by omega) (by omega)
  have e1:i64 ((k:Int)+1)=(k:Int)+1:=ZE (by omega) (by omega)
  by_cases h:k+2≤l.length
  · obtain⟨x,hx⟩:=Xg (xs:=l) (k:=k+1) (by omega)
    obtain⟨y,hy⟩:=Xg (xs:=l) (k:=k) (by omega)
    have hlt:decide ((k:Int)+2≤((shk l k).length:Int))=true:=decide_eq_true (by rw [hlen];omega)
    have hs:slp (shk l k) (k:Int) ((k:Int)+2)=some ():=by
      unfold slp
      have a:decide ((0:Int)≤k)=true:=decide_eq_true (by omega)
      have b:decide ((k:Int)<(k:Int)+2)=true:=decide_eq_true (by omega)
      rw [a,b,hlt];rfl
    have hc:ck (decide (2≤Int.toNat ((k:Int)+2-(k:Int))))=some ():=by
      have:Int.toNat ((k:Int)+2-(k:Int))=2:=by omega
      rw [this];rfl
    have ix1:idx (shk l k) ((k:Int)+1)=some x:=by
      have:=ZS (xs:=shk l k) (k:=k+1) (x:=x) (by rw [ZmY hk (by omega)];exact hx)
      exact this
    have ix0:idx (shk l k) ((k:Int)+0)=some y:=by
      rw [Int.add_zero];exact ZS (by rw [ZmY hk (Nat.le_refl _)];exact hy)
    have hst:(shk l k).set (((k:Int)+0).toNat) x=shk l (k+1):=by
      rw [Int.add_zero,Int.toNat_natCast];exact ZoQ h hx
    left
    refine⟨(shk l (k+1),(k:Int)+1),?_,⟨k+1,rfl,by omega⟩,?_,trivial⟩
    · simp only [Xl,e2,hlt,if_true,hs,Option.bind_some,hc,ix1,ix0,hst,e1]
      rfl
    · simp only;omega
  · right
    have hlt:decide ((k:Int)+2≤((shk l k).length:Int))=false:=decide_eq_false (by rw [hlen];omega)
    obtain rfl:k=l.length-1:=by omega
    simp only [Xl,e2,hlt,Bool.false_eq_true,if_false]
def shV(tape:List Int)(size n:Int):List Int:=if((tape.length+1:Nat):Int)≤size then tape++ [n] else(tape++ [n]).drop 1
theorem Zns{tape:List Int}(ht:tape.length≤100)(size n:Int):ZaA tape size n=some (shV tape size n):=by
  unfold ZaA shV
  have hl:(tape++ [n]).length=tape.length+1:=by simp
  rw [Zdb (by omega),Option.bind_some,ZcF (by simp;omega),Option.bind_some,hl]
  by_cases h:((tape.length+1:Nat):Int)≤size
  · simp only [h,decide_true,if_true]
  · simp only [h,decide_false,Bool.false_eq_true,if_false]
    rw [Zmq (by omega) (by omega),hl,Nat.add_sub_cancel]
    have hk:=ZmT (l:=tape++ [n]) (k:=tape.length) (by omega)
    simp only [Option.bind_some,ZeZ,hk,hl]
    have e:i64 (((tape.length+1:Nat):Int)-1)=(tape.length:Int):=by
      rw [show(((tape.length+1:Nat):Int)-1)=(tape.length:Int) by omega];exact ZE (by omega) (by omega)
    rw [e,ZoG (by omega),Option.bind_some]
    congr 1
    unfold shk
    have e2:((tape++ [n]).drop 1).length=tape.length:=by rw [List.length_drop];omega
    rw [List.take_append,List.length_take,e2,Nat.min_self,Nat.sub_self,List.take_zero,List.append_nil,List.take_take,Nat.min_self]
    exact List.take_of_length_le (by omega)
end Go.Vx

namespace Go.Vx
open Go Go.RowKit
def ZiT(op a b:Int):Bool:=if op=1 then decide (a<b) else if op=2 then decide (a≤b) else if op=3 then decide (a=b) else if op=4 then !decide (a=b) else if op=5 then decide (b≤a) else decide (b<a)
theorem ZlT(op a b:Int):Za3 op a b=some (ZiT op a b):=by
  unfold Za3 ZiT
  by_cases h1:op=1
  · simp [h1]
  · by_cases h2:op=2
    · simp [h2]
    · by_cases h3:op=3
      · simp [h3]
      · by_cases h4:op=4
        · simp [h4]
        · by_cases h5:op=5
          · simp [h5]
          · simp [h1,h2,h3,h4,h5]
def isV(i:api_Instrument)(n:Int)(known:Bool):Bool:=(known&&(decide (i.Kind=3) || decide (i.Kind=5)))&&ZiT i.Op n i.N
def ZjA(i:api_Instrument)(m:api_Memo)(n:Int)(known:Bool):api_Memo:=
  if i.Kind=3 then api_Memo.mk (isV i n known || (i.Latch&&m.Lit)) m.Some m.N m.Count m.Tape
  else if i.Kind=5 then(if(isV i n known&& !m.Lit)=true then api_Memo.mk (isV i n known) m.Some m.N (i64 (m.Count+1)) m.Tape else api_Memo.mk (isV i n known) m.Some m.N m.Count m.Tape)
  else if(decide (i.Kind=4)&&known)=true then api_Memo.mk m.Lit true (if m.Some=true then max n m.N else n) m.Count m.Tape
  else if(decide (i.Kind=6)&&known)=true then api_Memo.mk m.Lit m.Some m.N m.Count (shV m.Tape i.Size n) else m
theorem Zqk(i:api_Instrument)(m:api_Memo)(n:Int)(known:Bool)(ht:m.Tape.length≤100):Xj i m n known=some (ZjA i m n known):=by
  unfold Xj ZjA
  rw [ZlT,Znq,Zns ht]
  simp only [Option.bind_some]
  have e:((known&&(decide (i.Kind=3) || decide (i.Kind=5)))&&((known&&(decide (i.Kind=3) || decide (i.Kind=5)))==true&&ZiT i.Op n i.N))=isV i n known:=by
    unfold isV
    cases (known&&(decide (i.Kind=3) || decide (i.Kind=5)))<;>simp
  simp only [e]
  by_cases h3:i.Kind=3
  · simp [h3]
  · by_cases h5:i.Kind=5
    · simp only [h5,decide_true,if_true]
      cases isV i n known<;>cases m.Lit<;>simp
    · by_cases h4:i.Kind=4
      · cases known<;>cases m.Some<;>simp [h4]
      · by_cases h6:i.Kind=6
        · cases known<;>simp [h6]
        · simp [h3,h4,h5,h6]
def Zo8(i:api_Instrument)(m:api_Memo):Bool:=
  ((((m.Lit&&(!((decide (i.Kind=3)) || (decide (i.Kind=5))))) || ((m.Some || (!decide (m.N=0)))&&(!(decide (i.Kind=4))))) || ((!decide (m.Count=0))&&(!(decide (i.Kind=5))))) || ((decide (0<(m.Tape.length:Int)))&&(!(decide (i.Kind=6))))) || ((!decide (m.N=0))&&(!m.Some))
def Zm3(i:api_Instrument)(m:api_Memo):Int:=
  if Zo8 i m=true then 2 else if(!wi m.Count 0 20000 || !nb50 m.N)=true then 9 else if i.Size<(m.Tape.length:Int) then 3 else if m.Tape.any (fun z=> !nb50 z)=true then 9 else 0
structure MemoOK (i:api_Instrument) (m:api_Memo):Prop where
  lit:m.Lit=true→i.Kind=3∨i.Kind=5
  some:m.Some=true→i.Kind=4
  num:m.N≠0→i.Kind=4∧m.Some=true
  cnt:m.Count≠0→i.Kind=5
  tape:0<m.Tape.length→i.Kind=6
  cr:0≤m.Count∧m.Count≤20000
  nr:nb50 m.N=true
  len:(m.Tape.length:Int)≤i.Size
  all: ∀ z∈m.Tape,nb50 z=true
theorem ZmR{i:api_Instrument}{m:api_Memo}:Zm3 i m=0↔MemoOK i m:=by
  unfold Zm3
  constructor
  · intro h
    split at h
    · cases h
    rename_i hb
    split at h
    · cases h
    rename_i hc
    split at h
    · cases h
    rename_i hl
    split at h
    · cases h
    rename_i ha
    simp only [Zo8,Bool.or_eq_true,Bool.and_eq_true,Bool.not_eq_true',Bool.or_eq_false_iff,decide_eq_true_eq,decide_eq_false_iff_not,not_or,not_and,Classical.not_not,Bool.not_eq_false] at hb hc ha
    obtain⟨⟨⟨⟨b1,b2⟩,b3⟩,b4⟩,b5⟩:=hb
    obtain⟨c1,c2⟩:=hc
    refine⟨fun h=> ?_,fun h=>b2 (.inl h),fun h=>⟨b2 (.inr h),b5 h⟩,fun h=>b3 h,fun h=>b4 (by omega),Zab.1 c1,c2,by omega,fun z hz=> ?_⟩
    · have:=b1 h
      by_cases h3:i.Kind=3
      · exact .inl h3
      · exact .inr (this h3)
    · have:=ha
      simp only [List.any_eq_true,not_exists,not_and,Bool.not_eq_true',Bool.not_eq_false] at this
      exact this z hz
  · intro h
    have hb:Zo8 i m=false:=by
      simp only [Zo8,Bool.or_eq_false_iff,Bool.and_eq_false_iff,Bool.not_eq_false',Bool.or_eq_true,decide_eq_true_eq,decide_eq_false_iff_not]
      refine⟨⟨⟨⟨?_,?_⟩,?_⟩,?_⟩,?_⟩
      · cases hl:m.Lit with
        |false=>exact .inl rfl
        |true=>exact .inr (h.lit hl)
      · by_cases h4:i.Kind=4
        · exact .inr h4
        · left
          constructor
          · cases hs:m.Some with
            |false=>rfl
            |true=>exact absurd (h.some hs) h4
          · by_cases hn:m.N=0
            · exact hn
            · exact absurd (h.num hn).1 h4
      · by_cases hc:m.Count=0
        · exact .inl hc
        · exact .inr (h.cnt hc)
      · by_cases ht:0<m.Tape.length
        · exact .inr (h.tape ht)
        · left;omega
      · by_cases hn:m.N=0
        · exact .inl hn
        · exact .inr (h.num hn).2
    have hc:(!wi m.Count 0 20000 || !nb50 m.N)=false:=by rw [Zab.2 h.cr,h.nr];rfl
    have ha:m.Tape.any (fun z=> !nb50 z)=false:=by
      rw [List.any_eq_false];intro z hz;rw [h.all z hz];simp
    have hl:=h.len
    rw [if_neg (by rw [hb];simp),if_neg (by rw [hc];simp),if_neg (by omega),if_neg (by rw [ha];simp)]
theorem Zqf{tape:List Int}{size n:Int}(hs:1≤size)(hl:(tape.length:Int)≤size)(ha: ∀ z∈tape,nb50 z=true)(hn:nb50 n=true):((shV tape size n).length:Int)≤size∧ ∀ z∈shV tape size n,nb50 z=true:=by
  have hall: ∀ z∈tape++ [n],nb50 z=true:=fun z hz=>by
    rcases List.mem_append.1 hz with h |h
    · exact ha z h
    · rw [List.mem_singleton] at h;subst h;exact hn
  unfold shV
  split
  · rename_i h
    exact⟨by simp;omega,hall⟩
  · exact⟨by simp;omega,fun z hz=>hall z (List.mem_of_mem_drop hz)⟩
theorem Zqn{i:api_Instrument}{m:api_Memo}(hm:MemoOK i m)(h6:i.Kind=6→1≤i.Size){n:Int}(hn:nb50 n=true)(known:Bool)(hc:m.Count≠20000):MemoOK i (ZjA i m n known):=by
  have hcr:=hm.cr
  unfold ZjA
  split
  · rename_i k3
    exact⟨fun _=> .inl k3,hm.some,hm.num,hm.cnt,hm.tape,hm.cr,hm.nr,hm.len,hm.all⟩
  · split
    · rename_i k5
      have e:i64 (m.Count+1)=m.Count+1:=ZE (by omega) (by omega)
      split
      · exact⟨fun _=> .inr k5,hm.some,hm.num,fun _=>k5,hm.tape,by rw [e];exact⟨by simp only;omega,by simp only;omega⟩,hm.nr,hm.len,hm.all⟩
      · exact⟨fun _=> .inr k5,hm.some,hm.num,fun _=>k5,hm.tape,hm.cr,hm.nr,hm.len,hm.all⟩
    · split
      · rename_i k
        simp only [Bool.and_eq_true,decide_eq_true_eq] at k
        refine⟨hm.lit,fun _=>k.1,fun _=>⟨k.1,rfl⟩,hm.cnt,hm.tape,hm.cr,?_,hm.len,hm.all⟩
        show nb50 (if m.Some=true then max n m.N else n)=true
        split
        · have h1:=Zab.1 hn
          have h2:=Zab.1 hm.nr
          refine Zab.2 ⟨by omega,by omega⟩
        · exact hn
      · split
        · rename_i k
          simp only [Bool.and_eq_true,decide_eq_true_eq] at k
          obtain⟨s1,s2⟩:=Zqf (h6 k.1) hm.len hm.all hn
          exact⟨hm.lit,hm.some,hm.num,hm.cnt,fun _=>k.1,hm.cr,hm.nr,s1,s2⟩
        · exact hm
end Go.Vx

namespace Go.Vx
open Go Go.RowKit
def stG(p:api_Panel)(k:Nat)(m:api_Memo):Option Int:=match p.Instruments[k]? with |some i=>if Zm3 i m≠0 then some (Zm3 i m) else none |none=>none
def stateV(p:api_Panel)(s:api_PanelState):Int:=
  if wi s.Frame (-1) 19999=false then 9 else if ¬(s.Memos.length:Int)=(p.Instruments.length:Int) then 2 else J2 id 0 (Qa (stG p) 0 s.Memos)
theorem Zhm{α ε:Type}{g:Nat→α→Option ε}: ∀ (k:Nat) (xs:List α),(∀ (j:Nat) x,xs[j]?=some x→g (k+j) x=none)→Qa g k xs=none
  |_,[],_=>rfl
  |k,x::tl,h=>by
    simp only [Qa]
    have h0:=h 0 x rfl
    rw [Nat.add_zero] at h0
    rw [h0]
    exact Zhm (k+1) tl fun j y hy=>by
      have:=h (j+1) y (by simpa using hy)
      rwa [show k+(j+1)=k+1+j by omega] at this
theorem Zez{p:api_Panel}{s:api_PanelState}:stateV p s=0↔((-1≤s.Frame∧s.Frame≤19999)∧s.Memos.length=p.Instruments.length∧ ∀ (k:Nat) i m,p.Instruments[k]?=some i→s.Memos[k]?=some m→MemoOK i m):=by
  unfold stateV
  constructor
  · intro h
    split at h
    · cases h
    rename_i hf
    split at h
    · cases h
    rename_i hl
    have hl':s.Memos.length=p.Instruments.length:=by omega
    refine⟨Zab.1 (by simpa using hf),hl',fun k i m hi hm=> ?_⟩
    have hnone:Qa (stG p) 0 s.Memos=none:=by
      cases hh:Qa (stG p) 0 s.Memos with
      |none=>rfl
      |some e=>
        exfalso
        rw [hh] at h
        have he:e=0:=h
        subst he
        have key: ∀ (k:Nat) (xs:List api_Memo),Qa (stG p) k xs≠some 0:=by
          intro k xs
          induction xs generalizing k with
          |nil=>intro e;cases e
          |cons x tl ih=>
            intro e
            simp only [Qa] at e
            cases hg:stG p k x with
            |none=>rw [hg] at e;exact ih _ e
            |some v=>
              rw [hg] at e
              cases e
              unfold stG at hg
              split at hg
              · split at hg
                · rename_i h0;exact h0 (Option.some.inj hg)
                · cases hg
              · cases hg
        exact key 0 _ hh
    have:=ZfV 0 s.Memos hnone k m hm
    rw [Nat.zero_add] at this
    unfold stG at this
    rw [hi] at this
    simp only at this
    split at this
    · cases this
    · rename_i h0;exact ZmR.1 (by omega)
  · rintro⟨hf,hl,h⟩
    rw [if_neg (by rw [Zab.2 hf];simp),if_neg (by omega)]
    rw [Zhm 0 s.Memos fun j m hm=> ?_]
    · rfl
    · rw [Nat.zero_add]
      obtain⟨i,hi⟩:=Xg (xs:=p.Instruments) (k:=j) (by have:=(List.getElem?_eq_some_iff.1 hm).1;omega)
      unfold stG
      rw [hi]
      simp only
      rw [if_neg (by simp [ZmR.2 (h j i m hi hm)])]
theorem ZdB{p:api_Panel}(h:Zh5 p=0){i:api_Instrument}(hi:i∈p.Instruments):Zb7 i=0:=by
  unfold Zh5 at h
  split at h
  · cases h
  · obtain⟨j,hj⟩:=List.mem_iff_getElem?.1 hi
    cases hf:Qa (Zjd p.Instruments) 0 p.Instruments with
    |none=>
      have:=ZfV 0 _ hf j i hj
      unfold Zjd at this
      split at this
      · cases this
      · rename_i h0;omega
    |some e=>
      rw [hf] at h
      have he:e=0:=h
      subst he
      exfalso
      have key: ∀ (k:Nat) (xs:List api_Instrument),Qa (Zjd p.Instruments) k xs≠some 0:=by
        intro k xs
        induction xs generalizing k with
        |nil=>intro e;cases e
        |cons x tl ih=>
          intro e
          simp only [Qa] at e
          cases hg:Zjd p.Instruments k x with
          |none=>rw [hg] at e;exact ih _ e
          |some v=>
            rw [hg] at e
            cases e
            unfold Zjd at hg
            split at hg
            · rename_i h0;exact h0 (Option.some.inj hg)
            · split at hg<;>cases hg
      exact key 0 _ hf
theorem ZiR{i:api_Instrument}(h:Zb7 i=0):(i.Kind=6→1≤i.Size)∧i.Size≤50:=by
  unfold Zb7 at h
  split at h
  · cases h
  split at h
  · cases h
  split at h
  · cases h
  rename_i hu
  split at h
  · cases h
  by_cases h6:i.Kind=6
  · rw [if_neg (by omega),if_neg (by omega),if_pos h6] at h
    split at h
    · cases h
    · rename_i hs
      have:=Zab.1 (show wi i.Size 1 50=true by simpa using hs)
      exact⟨fun _=>this.1,this.2⟩
  · refine⟨fun e=>absurd e h6,?_⟩
    have:i.Size=0:=by
      have hu:unV i=false:=by simpa using hu
      unfold unV at hu
      simp only [Bool.or_eq_false_iff] at hu
      have h1:=hu.2
      simp only [h6,decide_false,Bool.not_false,Bool.and_true,Bool.not_eq_false',decide_eq_true_eq] at h1
      exact h1
    omega
end Go.Vx

namespace Go.Vx
open Go Go.RowKit
theorem Zo2{xs:List Smp}{t long:Int}{x:Smp}(h:Zc2 xs t long=some x): ∃ k:Nat,xs[k]?=some x:=by
  simp only [Zc2,Option.bind_eq_some_iff] at h
  obtain⟨y,h1,h2⟩:=h
  split at h2
  · cases h2
    unfold ZiA at h1
    split at h1
    · cases h1
    · exact⟨_,h1⟩
  · cases h2
theorem Zon{t:api_Track}(hc:(chk t.Series).2=0)(f:Int):nb50 (vV t f).1.N=true:=by
  have hs:=Zkz hc
  unfold vV
  cases hh:Zc2 t.Series.Samples (64*f+63) t.Long with
  |none=>simp only [Zhj];decide
  |some x=>
    obtain⟨k,hk⟩:=Zo2 hh
    exact Zab.2 (hs.at' k x hk).2.1
def nxt(p:api_Panel)(l:List api_Track)(s:api_PanelState)(k:Nat):api_Memo:=
  match p.Instruments[k]?,s.Memos[k]? with
  |some i,some m=>match tkT l i.Track with
    |some t=>ZjA i m (vV t (s.Frame+1)).1.N (vV t (s.Frame+1)).2
    |none=>m
  |_,_=>api_Memo.mk false false 0 0 []
theorem Zcw{p:api_Panel}{l:List api_Track}(h:XC p l=0):Zh5 p=0∧ckT l=0∧ ∀ i∈p.Instruments,∃ (m:Nat) (t:api_Track),tkI l i.Track=some (m:Int)∧tkT l i.Track=some t∧l[m]?=some t:=by
  unfold XC at h
  split at h
  · rename_i h';exact absurd h h'
  rename_i h1
  split at h
  · rename_i h';exact absurd h h'
  rename_i h2
  split at h
  · cases h
  rename_i h3
  refine⟨by omega,by omega,fun i hi=> ?_⟩
  have h3:p.Instruments.any (Zlh l)=false:=by simpa using h3
  rw [List.any_eq_false] at h3
  have hno:=h3 i hi
  rcases Zmw l i.Track with ⟨_,b⟩ |h
  · exact absurd (by unfold Zlh;rw [b];rfl) hno
  · exact h
theorem ZgY{i:api_Instrument}{m:api_Memo}(hm:MemoOK i m)(hi:Zb7 i=0):m.Tape.length≤100:=by
  have:=hm.len;have:=(ZiR hi).2;omega
theorem Znt{p:api_Panel}{l:List api_Track}{s:api_PanelState}(hb:XC p l=0)(hs:stateV p s=0)(hf:s.Frame≠19999):
    Jb p l s=some (api_PanelState.mk (s.Frame+1) ((List.range p.Instruments.length).map (nxt p l s))):=by
  obtain⟨b1,b2,b3⟩:=Zcw hb
  obtain⟨s1,s2,s3⟩:=Zez.1 hs
  have hp:=Zct b1
  have hl:=Zg2 b2
  have e0:i64 (s.Frame+1)=s.Frame+1:=ZE (by omega) (by omega)
  have h:loop (t2 (Xr p l s)) ([],0)=some ((List.range p.Instruments.length).map (nxt p l s)):=by
    refine ZaZ (xs:=p.Instruments) (body:=Xr p l s) (fun a k=>a=(List.range k).map (nxt p l s)) (fun _ _=>(List.range p.Instruments.length).map (nxt p l s)) (fun a k i ha hi=> ?_) (fun a ha=> ?_) (by simp)
    · have hlt:=Xm hi
      have him:=List.mem_of_getElem? hi
      obtain⟨j,t,t1',t2',t3'⟩:=b3 i him
      obtain⟨m,hm⟩:=Xg (xs:=s.Memos) (k:=k) (by omega)
      have hmo:=s3 k i m hi hm
      have hin:=ZdB b1 him
      have htl:=ZgY hmo hin
      obtain⟨c1,c2⟩:=Zkk b2 (List.mem_of_getElem? t3')
      have e1:i64 ((k:Int)+1)=(k:Int)+1:=ZE (by omega) (by omega)
      have a1:Q4 l i=some (j:Int):=by rw [ZiX hl,t1'];rfl
      have a2:=(Zow c1 c2 (frame:=s.Frame+1) (by omega) (by omega)).1
      have hn:nxt p l s k=ZjA i m (vV t (s.Frame+1)).1.N (vV t (s.Frame+1)).2:=by
        unfold nxt;rw [hi,hm];simp only;rw [t2']
      have hal:a.length=k:=by rw [ha];simp
      left
      refine⟨a++ [nxt p l s k],?_,?_,rfl⟩
      · simp only [Xr,hlt,decide_true,if_true,ZS hi,Option.bind_some,a1,ZS t3',e0,a2,ZS hm,Zdb (show m.Tape.length≤4294967296 by omega)]
        rw [Zqk i (api_Memo.mk m.Lit m.Some m.N m.Count m.Tape) _ _ htl]
        simp only [Option.bind_some]
        rw [show api_Memo.mk m.Lit m.Some m.N m.Count m.Tape=m from rfl,←hn,ZcF (by simp;omega)]
        simp only [Option.bind_some,e1]
      · rw [ha,List.range_succ,List.map_append];rfl
    · rw [ha];simp [Xr]
  unfold Jb
  rw [h]
  simp only [Option.bind_some,ZeZ,e0]
end Go.Vx

namespace Go.Vx
open Go Go.RowKit
theorem Zov(op a b:Int):Zdv op a b=some (ZiT op a b):=by
  have e:Zdv op a b=Za3 op a b:=rfl
  rw [e,ZlT]
theorem Zpd{l:List Int}(h:1≤l.length):slc l 1 (l.length:Int)=some (l.drop 1):=by
  unfold slc
  rw [if_pos ⟨by omega,by omega,Int.le_refl _⟩]
  simp
theorem Zmt(i:api_Instrument)(m:api_Memo)(x:api_Sample)(known:Bool)(ht:m.Tape.length≤100):Zcz i m x known=some (ZjA i m x.N known):=by
  unfold Zcz ZjA
  rw [ZcF (show([]:List Int).length+m.Tape.length≤4294967296 by simp;omega),Zov]
  simp only [Option.bind_some,List.nil_append,isV]
  by_cases h3:i.Kind=3
  · cases known<;>cases hl:m.Lit<;>cases hla:i.Latch<;>simp [h3,hl,hla]
  · by_cases h5:i.Kind=5
    · cases known
      · simp [h5]
      · rcases Bool.eq_false_or_eq_true (ZiT i.Op x.N i.N) with hh |hh<;>rcases Bool.eq_false_or_eq_true m.Lit with hl |hl<;>simp [h5,hh,hl]
    · by_cases h4:i.Kind=4
      · cases known
        · simp [h4]
        · cases hs:m.Some with
          |false=>simp [h4,hs]
          |true=>
            by_cases hn:m.N<x.N
            · have:max x.N m.N=x.N:=by omega
              simp [h4,hs,hn,this]
            · have:max x.N m.N=m.N:=by omega
              simp [h4,hs,hn,this]
      · by_cases h6:i.Kind=6
        · cases known
          · simp [h6]
          · have hl:(m.Tape++ [x.N]).length=m.Tape.length+1:=by simp
            have hsl:=Zpd (l:=m.Tape++ [x.N]) (by rw [hl];omega)
            rw [hl] at hsl
            rw [ZcF (show m.Tape.length+ [x.N].length≤4294967296 by simp;omega)]
            simp only [Option.bind_some,hl,hsl]
            by_cases hz:((m.Tape.length+1:Nat):Int)≤i.Size
            · have hz': ¬i.Size<((m.Tape.length+1:Nat):Int):=by omega
              simp only [h6,shV,hz,hz',decide_true,decide_false]
              simp
            · have hz':i.Size<((m.Tape.length+1:Nat):Int):=by omega
              simp only [h6,shV,hz,hz',decide_true,decide_false]
              simp
        · simp [h3,h4,h5,h6]
theorem ZmB{p:api_Panel}{l:List api_Track}{s:api_PanelState}(hb:XC p l=0)(hs:stateV p s=0)(hf:s.Frame≠19999):
    Zck p l s=some (api_PanelState.mk (s.Frame+1) ((List.range p.Instruments.length).map (nxt p l s))):=by
  obtain⟨b1,b2,b3⟩:=Zcw hb
  obtain⟨s1,s2,s3⟩:=Zez.1 hs
  have hp:=Zct b1
  have hl:=Zg2 b2
  have e0:i64 (s.Frame+1)=s.Frame+1:=ZE (by omega) (by omega)
  have h:loop (t2 (Zag p l s)) ([],0)=some ((List.range p.Instruments.length).map (nxt p l s)):=by
    refine ZaZ (xs:=p.Instruments) (body:=Zag p l s) (fun a k=>a=(List.range k).map (nxt p l s)) (fun _ _=>(List.range p.Instruments.length).map (nxt p l s)) (fun a k i ha hi=> ?_) (fun a ha=> ?_) (by simp)
    · have hlt:=Xm hi
      have him:=List.mem_of_getElem? hi
      obtain⟨j,t,t1',t2',t3'⟩:=b3 i him
      obtain⟨m,hm⟩:=Xg (xs:=s.Memos) (k:=k) (by omega)
      have hmo:=s3 k i m hi hm
      have hin:=ZdB b1 him
      have htl:=ZgY hmo hin
      obtain⟨c1,c2⟩:=Zkk b2 (List.mem_of_getElem? t3')
      have e1:i64 ((k:Int)+1)=(k:Int)+1:=ZE (by omega) (by omega)
      have a1:ZaC l i.Track=some (t,true):=by rw [Zkm hl,t2'];rfl
      have a2:=(Zow c1 c2 (frame:=s.Frame+1) (by omega) (by omega)).2
      have hn:nxt p l s k=ZjA i m (vV t (s.Frame+1)).1.N (vV t (s.Frame+1)).2:=by
        unfold nxt;rw [hi,hm];simp only;rw [t2']
      have hal:a.length=k:=by rw [ha];simp
      left
      refine⟨a++ [nxt p l s k],?_,?_,rfl⟩
      · simp only [Zag,hlt,decide_true,if_true,ZS hi,Option.bind_some,a1,e0,a2,ZS hm]
        rw [Zmt i m _ _ htl]
        simp only [Option.bind_some]
        rw [←hn,ZcF (by simp;omega)]
        simp only [Option.bind_some,e1]
      · rw [ha,List.range_succ,List.map_append];rfl
    · rw [ha];simp [Zag]
  unfold Zck
  rw [h]
  simp only [Option.bind_some,ZeZ,e0]
end Go.Vx

namespace Go.Vx
open Go Go.RowKit
theorem ZnB{xs:List Str}(h:xs≠ [])(y sep:Str):Go.Lib.join (xs++ [y]) sep=Go.Lib.join xs sep++(sep++y):=by
  cases xs with
  |nil=>exact absurd rfl h
  |cons a r=>
    rw [List.cons_append,Go.Lib.join_cons,Go.Lib.join_cons]
    simp [Go.Lib.joinTail,List.append_assoc]
noncomputable def dgV(den pl z:Int):Str:=(XM z den pl).getD []
theorem ZnG{den pl z:Int}(hd:1≤den∧den≤1000000)(hp:0≤pl∧pl≤6)(hz:nb50 z=true):XM z den pl=some (dgV den pl z)∧Zas z den pl=some (dgV den pl z)∧(dgV den pl z).length≤41:=by
  obtain⟨z1,z2⟩:=Zab.1 hz
  obtain⟨s,h1,h2,h3⟩:=Zoi z1 z2 hd.1 hd.2 hp.1 hp.2
  have e:dgV den pl z=s:=by unfold dgV;rw [h1];rfl
  rw [e];exact⟨h1,h2,h3⟩
noncomputable def tpV(den pl:Int)(tape:List Int)(k:Nat):Str:=if k=0 then [45,45,45] else Go.Lib.join ((tape.take k).map (dgV den pl)) [32]
theorem Zk0{α:Type}{l:List α}{k:Nat}{x:α}(h:l[k]?=some x):l.take (k+1)=l.take k++ [x]:=by rw [List.take_add_one,h];rfl
theorem Zl9{den pl:Int}{tape:List Int}{k:Nat}{x:Int}(hx:tape[k]?=some x):tpV den pl tape (k+1)=if k=0 then dgV den pl x else tpV den pl tape k++([32]++dgV den pl x):=by
  unfold tpV
  rw [if_neg (by omega),Zk0 hx,List.map_append]
  by_cases h:k=0
  · subst h;simp [Go.Lib.join_one]
  · have hk:=(List.getElem?_eq_some_iff.1 hx).1
    rw [if_neg h,if_neg h]
    exact ZnB (by
      intro e
      have:=congrArg List.length e
      simp at this
      rcases this with h1 |h1
      · exact h h1
      · subst h1;simp at hk) _ _
theorem ZlC{den pl:Int}(hd:1≤den∧den≤1000000)(hp:0≤pl∧pl≤6){tape:List Int}(ha: ∀ z∈tape,nb50 z=true): ∀ (k:Nat),k≤tape.length→(tpV den pl tape k).length≤3+42*k
  |0,_=>by simp [tpV]
  |k+1,h=>by
    obtain⟨x,hx⟩:=Xg (xs:=tape) (k:=k) (by omega)
    have ih:=ZlC hd hp ha k (by omega)
    have hl:=(ZnG hd hp (ha x (List.mem_of_getElem? hx))).2.2
    rw [Zl9 hx]
    split
    · omega
    · simp only [List.length_append,List.length_cons,List.length_nil];omega
theorem Zo3{i:api_Instrument}{m:api_Memo}{den:Int}(hd:1≤den∧den≤1000000)(hp:0≤i.Places∧i.Places≤6)(ha: ∀ z∈m.Tape,nb50 z=true)(hl:m.Tape.length≤100):
    loop (t2 (JQ i m den)) ([],0)=some (m.Tape.map (dgV den i.Places)):=by
  refine ZaZ (xs:=m.Tape) (body:=JQ i m den) (fun a k=>a=(m.Tape.take k).map (dgV den i.Places)) (fun _ _=>m.Tape.map (dgV den i.Places)) (fun a k x hA hx=> ?_) (fun a hA=> ?_) (by simp)
  · have hlt:=Xm hx
    have e1:i64 ((k:Int)+1)=(k:Int)+1:=ZE (by omega) (by omega)
    have hdg:=(ZnG hd hp (ha x (List.mem_of_getElem? hx))).1
    have hal:a.length≤100:=by rw [hA,List.length_map,List.length_take];omega
    left
    refine⟨a++ [dgV den i.Places x],?_,?_,rfl⟩
    · simp only [JQ,hlt,decide_true,if_true,ZS hx,Option.bind_some,hdg,ZcF (show a.length+ [dgV den i.Places x].length≤4294967296 by simp;omega),e1]
    · rw [hA,Zk0 hx,List.map_append];rfl
  · rw [hA];simp [JQ]
theorem Zpo{i:api_Instrument}{m:api_Memo}{den mk:Int}(hd:1≤den∧den≤1000000)(hp:0≤i.Places∧i.Places≤6)(ha: ∀ z∈m.Tape,nb50 z=true)(hl:m.Tape.length≤100):
    loop (t2 (Zbk i den m mk)) ([45,45,45],0)=some (api_Face.mk (tpV den i.Places m.Tape m.Tape.length) 0 false mk):=by
  refine ZaZ (xs:=m.Tape) (body:=Zbk i den m mk) (fun a k=>a=tpV den i.Places m.Tape k∧k≤m.Tape.length) (fun _ _=>api_Face.mk (tpV den i.Places m.Tape m.Tape.length) 0 false mk) (fun a k x hA hx=> ?_) (fun a hA=> ?_) ⟨rfl,Nat.zero_le _⟩
  · have hlt:=Xm hx
    have e1:i64 ((k:Int)+1)=(k:Int)+1:=ZE (by omega) (by omega)
    obtain⟨_,hdg,hdl⟩:=ZnG hd hp (ha x (List.mem_of_getElem? hx))
    have htl:=ZlC hd hp ha k hA.2
    left
    refine⟨tpV den i.Places m.Tape (k+1),?_,⟨rfl,by omega⟩,rfl⟩
    rw [Zl9 hx]
    by_cases h:k=0
    · subst h
      simp [Zbk,show(0:Nat)<m.Tape.length by omega,ZS hx,hdg,show idx m.Tape 0=some x from ZS (k:=0) hx,ZE]
    · have h':decide ((k:Int)=0)=false:=decide_eq_false (by omega)
      have c1:cat [32] (dgV den i.Places x)=some ([32]++dgV den i.Places x):=ZiU (by simp;omega)
      have c2:cat a ([32]++dgV den i.Places x)=some (a++([32]++dgV den i.Places x)):=ZiU (by rw [hA.1];simp;omega)
      simp only [Zbk,hlt,decide_true,if_true,ZS hx,Option.bind_some,h',Bool.false_eq_true,if_false,hdg,c1,c2,e1,if_neg h,hA.1]
      rw [hA.1] at c2
      have c3:cat (tpV den i.Places m.Tape k) (32::dgV den i.Places x)=some (tpV den i.Places m.Tape k++32::dgV den i.Places x):=c2
      simp [c3]
  · rw [hA.1];simp [Zbk]
end Go.Vx

namespace Go.Vx
open Go Go.RowKit
theorem ZjO{i:api_Instrument}(h:Zb7 i=0):(1≤i.Kind∧i.Kind≤6)∧(0≤i.Places∧i.Places≤6)∧(i.Kind=2→DialOK i):=by
  have h0:=h
  unfold Zb7 at h
  split at h
  · cases h
  rename_i hk
  split at h
  · cases h
  split at h
  · cases h
  split at h
  · cases h
  rename_i hp
  refine⟨Zab.1 (by simpa using hk),Zab.1 (by simpa using hp),fun h2=> ?_⟩
  exact(Zpa (n:=0) (by unfold Zn6;rw [if_neg (by omega),if_neg (by omega),if_neg (by decide)])).1
theorem ZoF{i:api_Instrument}{m:api_Memo}(hi:Zb7 i=0)(hm:MemoOK i m){den:Int}(hd:1≤den∧den≤1000000){x:api_Sample}{known:Bool}(hx:nb50 x.N=true)(hk:known=false→x.Mark=0):
    ∃ fc,Zbq i m den x known=some fc∧Zen i den m x known=some fc:=by
  obtain⟨⟨k1,k6⟩,hp,hdial⟩:=ZjO hi
  have hl:=ZgY hm hi
  have hmk:(if known=true then some x.Mark else some 0)=some x.Mark:=by
    cases known with
    |false=>simp [hk rfl]
    |true=>rfl
  have nlit:i.Kind≠3→i.Kind≠5→m.Lit=false:=fun h3 h5=>by
    cases h:m.Lit with
    |false=>rfl
    | true => rcases hm.lit h with e | e
              · exact absurd e h3
              · exact absurd e h5
  obtain⟨d1,d2,_⟩:=ZnG hd hp hx
  obtain⟨d3,d4,_⟩:=ZnG hd hp hm.nr
  unfold Zbq Zen
  rw [hmk]
  simp only [Option.bind_some,ZeZ]
  have hK:i.Kind=1∨i.Kind=2∨i.Kind=3∨i.Kind=4∨i.Kind=5∨i.Kind=6:=by omega
  rcases hK with e |e |e |e |e |e
  · have:=nlit (by omega) (by omega)
    cases known
    · exact⟨_,by simp [e,this];rfl,by simp [e]⟩
    · exact⟨_,by simp [e,this,d1];rfl,by simp [e,d2]⟩
  · have:=nlit (by omega) (by omega)
    have hD:=hdial e
    have n1:=Znk hD (Zab.1 hx)
    have n2:Ze2 i x.N=some (ndl i x.N):=n1
    obtain⟨s,z1,z2⟩:=ZpP hD.zones x.N
    cases known
    · exact⟨_,by simp [e,this];rfl,by simp [e]⟩
    · exact⟨_,by simp [e,this,n1,z1];rfl,by simp [e,n2,z2]⟩
  · cases h:m.Lit
    · cases known
      · exact⟨_,by simp [e,h];rfl,by simp [e,h]⟩
      · exact⟨_,by simp [e,h];rfl,by simp [e,h]⟩
    · exact⟨_,by simp [e,h];rfl,by simp [e,h]⟩
  · have:=nlit (by omega) (by omega)
    cases h:m.Some
    · exact⟨_,by simp [e,this,h];rfl,by simp [e,h]⟩
    · exact⟨_,by simp [e,this,h,d3];rfl,by simp [e,h,d4]⟩
  · obtain⟨d,hd',_,_⟩:=ZmE (z:=m.Count) hm.cr.1 (by have:=hm.cr.2;omega)
    exact⟨_,by simp [e,hd'];rfl,by simp [e,hd']⟩
  · have:=nlit (by omega) (by omega)
    have p1:=Zo3 (m:=m) (den:=den) hd hp hm.all hl
    have p2:=Zpo (m:=m) (den:=den) (mk:=x.Mark) hd hp hm.all hl
    have hlen:=ZlC hd hp hm.all m.Tape.length (Nat.le_refl _)
    by_cases h0:m.Tape.length=0
    · have ht:m.Tape= []:=List.length_eq_zero_iff.1 h0
      refine⟨api_Face.mk [45,45,45] 0 false x.Mark,?_,?_⟩
      · simp [e,p1,ht,this]
      · simp [e,p2,ht,tpV]
    · have hj:Zkg (m.Tape.map (dgV den i.Places)) [32]=some (tpV den i.Places m.Tape m.Tape.length):=by
        have et:tpV den i.Places m.Tape m.Tape.length=Go.Lib.join (m.Tape.map (dgV den i.Places)) [32]:=by unfold tpV;rw [if_neg h0,List.take_length]
        unfold Zkg
        rw [if_pos ⟨by simp;omega,by rw [←et];omega⟩,et]
      have hg:decide ((0:Int)<(m.Tape.length:Int))=true:=decide_eq_true (by omega)
      refine⟨api_Face.mk (tpV den i.Places m.Tape m.Tape.length) 0 false x.Mark,?_,?_⟩
      · simp only [e,p1,this,Option.bind_some,ZeZ,List.length_map,hg,if_true,hj]
        simp
      · simp [e,p2]
end Go.Vx

namespace Go.Vx
open Go Go.RowKit
noncomputable def fcV(p:api_Panel)(l:List api_Track)(s:api_PanelState)(k:Nat):api_Face:=
  match p.Instruments[k]?,s.Memos[k]? with
  |some i,some m=>match tkT l i.Track with
    |some t=>(Zbq i m t.Series.Den (if 0≤s.Frame then(vV t s.Frame).1 else api_Sample.mk 0 0 0) (if 0≤s.Frame then(vV t s.Frame).2 else false)).getD (api_Face.mk [] 0 false 0)
    |none=>api_Face.mk [] 0 false 0
  |_,_=>api_Face.mk [] 0 false 0
theorem ZoV{t:api_Track}{f:Int}(h:(vV t f).2=false):(vV t f).1.Mark=0:=by
  unfold vV at h ⊢
  cases hh:Zc2 t.Series.Samples (64*f+63) t.Long with
  |none=>rfl
  |some x=>rw [hh] at h;simp only [Zhj] at h;cases h
theorem Zm4{p:api_Panel}{l:List api_Track}{s:api_PanelState}(hb:XC p l=0)(hs:stateV p s=0):
    Zb2 p l s=some ((List.range p.Instruments.length).map (fcV p l s))∧Zer p l s=some ((List.range p.Instruments.length).map (fcV p l s)):=by
  obtain⟨b1,b2,b3⟩:=Zcw hb
  obtain⟨s1,s2,s3⟩:=Zez.1 hs
  have hp:=Zct b1
  have hl:=Zg2 b2
  have step: ∀ (k:Nat) i,p.Instruments[k]?=some i→ ∃ (j:Nat) (t:api_Track) (m:api_Memo) (x:api_Sample) (known:Bool),
      Q4 l i=some (j:Int)∧ZaC l i.Track=some (t,true)∧l[j]?=some t∧s.Memos[k]?=some m∧
      (if decide (0≤s.Frame)=true then(Zak t s.Frame).bind fun y2=>some (y2.1,y2.2) else some (api_Sample.mk 0 0 0,false))=some (x,known)∧
      (if decide (0≤s.Frame)=true then(Zbo t s.Frame).bind fun y2=>some (y2.1,y2.2) else some (api_Sample.mk 0 0 0,false))=some (x,known)∧
      Zbq i m t.Series.Den x known=some (fcV p l s k)∧Zen i t.Series.Den m x known=some (fcV p l s k):=fun k i hi=>by
    have him:=List.mem_of_getElem? hi
    obtain⟨j,t,t1',t2',t3'⟩:=b3 i him
    obtain⟨m,hm⟩:=Xg (xs:=s.Memos) (k:=k) (by have:=(List.getElem?_eq_some_iff.1 hi).1;omega)
    have hmo:=s3 k i m hi hm
    have hin:=ZdB b1 him
    obtain⟨c1,c2⟩:=Zkk b2 (List.mem_of_getElem? t3')
    have hden:=(Zkz c1).den
    have a1:Q4 l i=some (j:Int):=by rw [ZiX hl,t1'];rfl
    have a2:ZaC l i.Track=some (t,true):=by rw [Zkm hl,t2'];rfl
    by_cases hf:0≤s.Frame
    · obtain⟨v1,v2⟩:=Zow c1 c2 (frame:=s.Frame) hf (by omega)
      obtain⟨fc,f1,f2⟩:=ZoF hin hmo hden (x:=(vV t s.Frame).1) (known:=(vV t s.Frame).2) (Zon c1 _) ZoV
      have e:fcV p l s k=fc:=by unfold fcV;rw [hi,hm];simp only;rw [t2'];simp only [if_pos hf,f1,Option.getD_some]
      exact⟨j,t,m,_,_,a1,a2,t3',hm,by rw [if_pos (decide_eq_true hf),v1];rfl,by rw [if_pos (decide_eq_true hf),v2];rfl,by rw [e];exact f1,by rw [e];exact f2⟩
    · obtain⟨fc,f1,f2⟩:=ZoF hin hmo hden (x:=api_Sample.mk 0 0 0) (known:=false) (by decide) (fun _=>rfl)
      have e:fcV p l s k=fc:=by unfold fcV;rw [hi,hm];simp only;rw [t2'];simp only [if_neg hf,f1,Option.getD_some]
      exact⟨j,t,m,_,_,a1,a2,t3',hm,by rw [if_neg (by simpa using hf)],by rw [if_neg (by simpa using hf)],by rw [e];exact f1,by rw [e];exact f2⟩
  constructor
  · have h:loop (t2 (Jl p l s)) ([],0)=some ((List.range p.Instruments.length).map (fcV p l s)):=by
      refine ZaZ (xs:=p.Instruments) (body:=Jl p l s) (fun a k=>a=(List.range k).map (fcV p l s)) (fun _ _=>(List.range p.Instruments.length).map (fcV p l s)) (fun a k i ha hi=> ?_) (fun a ha=> ?_) (by simp)
      · have hlt:=Xm hi
        obtain⟨j,t,m,x,known,a1,a2,a3,a4,a5,a6,a7,a8⟩:=step k i hi
        have e1:i64 ((k:Int)+1)=(k:Int)+1:=ZE (by omega) (by omega)
        have hal:a.length=k:=by rw [ha];simp
        left
        refine⟨a++ [fcV p l s k],?_,?_,rfl⟩
        · simp only [Jl,hlt,decide_true,if_true,ZS hi,Option.bind_some,a1,ZS a3,a5,Zhq,ZS a4,a7,ZcF (show a.length+ [fcV p l s k].length≤4294967296 by simp;omega),e1]
        · rw [ha,List.range_succ,List.map_append];rfl
      · rw [ha];simp [Jl]
    unfold Zb2
    rw [h];rfl
  · have h:loop (t2 (ZbI p l s)) ([],0)=some ((List.range p.Instruments.length).map (fcV p l s)):=by
      refine ZaZ (xs:=p.Instruments) (body:=ZbI p l s) (fun a k=>a=(List.range k).map (fcV p l s)) (fun _ _=>(List.range p.Instruments.length).map (fcV p l s)) (fun a k i ha hi=> ?_) (fun a ha=> ?_) (by simp)
      · have hlt:=Xm hi
        obtain⟨j,t,m,x,known,a1,a2,a3,a4,a5,a6,a7,a8⟩:=step k i hi
        have e1:i64 ((k:Int)+1)=(k:Int)+1:=ZE (by omega) (by omega)
        have hal:a.length=k:=by rw [ha];simp
        left
        refine⟨a++ [fcV p l s k],?_,?_,rfl⟩
        · simp only [ZbI,hlt,decide_true,if_true,ZS hi,Option.bind_some,a2,a6,Zhq,ZS a4,a8,ZcF (show a.length+ [fcV p l s k].length≤4294967296 by simp;omega),e1]
        · rw [ha,List.range_succ,List.map_append];rfl
      · rw [ha];simp [ZbI]
    unfold Zer
    rw [h];rfl
end Go.Vx

namespace Go.Vx
open Go Go.RowKit
def ZlZ(p:api_Panel)(l:List api_Track)(s:api_PanelState):api_PanelState:=api_PanelState.mk (s.Frame+1) ((List.range p.Instruments.length).map (nxt p l s))
structure Inv (p:api_Panel) (s:api_PanelState) (n:Nat):Prop where
  fr:s.Frame=(n:Int)-1
  ok:stateV p s=0
  cnt: ∀ m∈s.Memos,m.Count≤(n:Int)
theorem ZnN{i:api_Instrument}{m:api_Memo}(n:Int)(known:Bool)(h:0≤m.Count∧m.Count≤20000):(ZjA i m n known).Count≤m.Count+1:=by
  have e:i64 (m.Count+1)=m.Count+1:=ZE (by omega) (by omega)
  unfold ZjA
  split
  · simp only;omega
  · split
    · split
      · simp only [e];omega
      · simp only;omega
    · split
      · simp only;omega
      · split
        · simp only;omega
        · omega
theorem ZpK{p:api_Panel}{l:List api_Track}{s:api_PanelState}(hb:XC p l=0)(hs:stateV p s=0){k:Nat}{i:api_Instrument}(hi:p.Instruments[k]?=some i):
    ∃ m t,s.Memos[k]?=some m∧(chk t.Series).2=0∧MemoOK i m∧Zb7 i=0∧nxt p l s k=ZjA i m (vV t (s.Frame+1)).1.N (vV t (s.Frame+1)).2:=by
  obtain⟨b1,b2,b3⟩:=Zcw hb
  obtain⟨s1,s2,s3⟩:=Zez.1 hs
  have him:=List.mem_of_getElem? hi
  obtain⟨j,t,t1',t2',t3'⟩:=b3 i him
  obtain⟨m,hm⟩:=Xg (xs:=s.Memos) (k:=k) (by have:=(List.getElem?_eq_some_iff.1 hi).1;omega)
  exact⟨m,t,hm,(Zkk b2 (List.mem_of_getElem? t3')).1,s3 k i m hi hm,ZdB b1 him,by unfold nxt;rw [hi,hm];simp only;rw [t2']⟩
theorem Zo4{p:api_Panel}{l:List api_Track}{s:api_PanelState}{n:Nat}(hb:XC p l=0)(h:Inv p s n)(hn:n≤19999):Inv p (ZlZ p l s) (n+1):=by
  have hf:=h.fr
  refine⟨by simp only [ZlZ,hf];omega,?_,?_⟩
  · refine Zez.2 ⟨⟨by simp only [ZlZ,hf];omega,by simp only [ZlZ,hf];omega⟩,by simp [ZlZ],fun k i m' hi hm'=> ?_⟩
    obtain⟨m,t,hm,hc,hmo,hin,e⟩:=ZpK hb h.ok hi
    have hk:=(List.getElem?_eq_some_iff.1 hi).1
    have:m'=nxt p l s k:=by
      simp only [ZlZ,List.getElem?_map,List.getElem?_range hk,Option.map_some,Option.some.injEq] at hm'
      exact hm'.symm
    rw [this,e]
    have:=h.cnt m (List.mem_of_getElem? hm)
    exact Zqn hmo (ZiR hin).1 (Zon hc _) _ (by omega)
  · intro m' hm'
    simp only [ZlZ,List.mem_map,List.mem_range] at hm'
    obtain⟨k,hk,rfl⟩:=hm'
    obtain⟨i,hi⟩:=Xg (xs:=p.Instruments) (k:=k) hk
    obtain⟨m,t,hm,hc,hmo,hin,e⟩:=ZpK hb h.ok hi
    rw [e]
    have h1:=h.cnt m (List.mem_of_getElem? hm)
    have h2:=ZnN (i:=i) (m:=m) (vV t (s.Frame+1)).1.N (vV t (s.Frame+1)).2 hmo.cr
    omega
end Go.Vx

namespace Go.Vx
open Go Go.RowKit
def st0(p:api_Panel):api_PanelState:=api_PanelState.mk (-1) (List.replicate p.Instruments.length (api_Memo.mk false false 0 0 []))
theorem Zpi{p:api_Panel}(h:Zh5 p=0):Inv p (st0 p) 0:=by
  refine⟨rfl,Zez.2 ⟨⟨by simp [st0],by simp [st0]⟩,by simp [st0],fun k i m hi hm=> ?_⟩,fun m hm=> ?_⟩
  · have hm':m=api_Memo.mk false false 0 0 []:=(List.mem_replicate.1 (List.mem_of_getElem? hm)).2
    have hin:=ZdB h (List.mem_of_getElem? hi)
    have hsz:0≤i.Size:=by
      have h0:=hin
      unfold Zb7 at h0
      split at h0
      · cases h0
      split at h0
      · cases h0
      split at h0
      · cases h0
      rename_i hu
      by_cases h6:i.Kind=6
      · have:=(ZiR hin).1 h6;omega
      · have hu:unV i=false:=by simpa using hu
        unfold unV at hu
        simp only [Bool.or_eq_false_iff] at hu
        have h1:=hu.2
        simp only [h6,decide_false,Bool.not_false,Bool.and_true,Bool.not_eq_false',decide_eq_true_eq] at h1
        omega
    subst hm'
    refine⟨?_,?_,?_,?_,?_,⟨by simp,by simp⟩,by decide,by simpa using hsz,?_⟩
    · intro h;cases h
    · intro h;cases h
    · intro h;exact absurd rfl h
    · intro h;exact absurd rfl h
    · intro h;simp at h
    · intro z hz;cases hz
  · have hm':m=api_Memo.mk false false 0 0 []:=(List.mem_replicate.1 hm).2
    subst hm';simp
end Go.Vx

namespace Go.Vx
open Go Go.RowKit Go.Lib
set_option maxHeartbeats 1000000
theorem ZlO{l:List Int}(hl:l.length≤1000000):Xo l l=some true:=by
  have h:loop (t1 (QY l l)) 0=some (Sum.inr ()):=by
    refine ZeP (xs:=l) (body:=QY l l) (fun _=>Sum.inr ()) (fun k x hx=> .inl ⟨?_,rfl⟩) (by simp [QY])
    have hlt:=Xm hx
    have e1:i64 ((k:Int)+1)=(k:Int)+1:=ZE (by omega) (by omega)
    simp [QY,hlt,ZS hx,e1]
  unfold Xo
  rw [h];simp
theorem ZnD{s:api_PanelState}(hl:s.Memos.length≤1000)(ht: ∀ m∈s.Memos,m.Tape.length≤1000):Zb0 s s=some true:=by
  have h:loop (t1 (ZD s.Memos s.Memos (fun z0 z1=>ZbJ z0 z1))) 0=some (Sum.inr ()):=by
    refine ZeP (xs:=s.Memos) (body:=ZD _ _ _) (fun _=>Sum.inr ()) (fun k x hx=> .inl ⟨?_,rfl⟩) (by simp [ZD])
    have hlt:=Xm hx
    have e1:i64 ((k:Int)+1)=(k:Int)+1:=ZE (by omega) (by omega)
    have hm:ZbJ x x=some true:=by
      have:=ZlO (l:=x.Tape) (by have:=ht x (List.mem_of_getElem? hx);omega)
      simp [ZbJ,this]
    simp only [ZD,hlt,decide_true,if_true,ZS hx,Option.bind_some,e1,hm]
    rfl
  unfold Zb0 ZW
  simp only [h]
  simp
theorem Znl{l:List api_Face}(hl:l.length≤1000000):Qz l l=some true:=by
  have h:loop (t1 (Z4 l l)) 0=some (Sum.inr ()):=by
    refine ZeP (xs:=l) (body:=Z4 l l) (fun _=>Sum.inr ()) (fun k x hx=> .inl ⟨?_,rfl⟩) (by simp [Z4])
    have hlt:=Xm hx
    have e1:i64 ((k:Int)+1)=(k:Int)+1:=ZE (by omega) (by omega)
    simp [Z4,hlt,ZS hx,e1]
  unfold Qz
  rw [h];simp
end Go.Vx

namespace Go.Vx
open Go Go.RowKit
theorem Zkt{α:Type}{xs:List α}{k:Nat}{x:α}(h:xs[k]?=some x):xs.set k x=xs:=by
  apply List.ext_getElem?
  intro j
  rw [List.getElem?_set]
  split
  · subst_vars
    split
    · rename_i hlt;rw [h]
    · rw [List.getElem?_eq_none (by omega)]
  · rfl
theorem Zl3{s:api_PanelState}(hl:s.Memos.length≤1000)(ht: ∀ m∈s.Memos,m.Tape.length≤1000):Qk s=some s:=by
  have h:loop (t2 (QF s.Memos)) (s.Memos,0)=some s.Memos:=by
    refine ZaZ (xs:=s.Memos) (body:=QF s.Memos) (fun a _=>a=s.Memos) (fun _ _=>s.Memos) (fun a k x ha hx=> ?_) (fun a ha=> ?_) rfl
    · subst ha
      have hlt:=Xm hx
      have e1:i64 ((k:Int)+1)=(k:Int)+1:=ZE (by omega) (by omega)
      left
      refine⟨_,?_,rfl,rfl⟩
      simp only [QF,hlt,decide_true,if_true,ZS hx,Option.bind_some,Zdb (show x.Tape.length≤4294967296 by have:=ht x (List.mem_of_getElem? hx);omega),Int.toNat_natCast,e1]
      rw [Zkt (by exact hx)]
    · subst ha;simp [QF]
  unfold Qk
  rw [Zdb (by omega)]
  simp only [Option.bind_some,h,t1]
theorem Zl5{p:api_Panel}(hl:p.Instruments.length≤1000)(ht: ∀ m∈p.Instruments,m.Zones.length≤1000):XT p=some p:=by
  have h:loop (t2 (Q3 p.Instruments)) (p.Instruments,0)=some p.Instruments:=by
    refine ZaZ (xs:=p.Instruments) (body:=Q3 p.Instruments) (fun a _=>a=p.Instruments) (fun _ _=>p.Instruments) (fun a k x ha hx=> ?_) (fun a ha=> ?_) rfl
    · subst ha
      have hlt:=Xm hx
      have e1:i64 ((k:Int)+1)=(k:Int)+1:=ZE (by omega) (by omega)
      left
      refine⟨_,?_,rfl,rfl⟩
      simp only [Q3,hlt,decide_true,if_true,ZS hx,Option.bind_some,Zdb (show x.Zones.length≤4294967296 by have:=ht x (List.mem_of_getElem? hx);omega),Int.toNat_natCast,e1]
      rw [Zkt (by exact hx)]
    · subst ha;simp [Q3]
  unfold XT
  rw [Zdb (by omega)]
  simp only [Option.bind_some,h,t1]
theorem Zll{l:List api_Track}(hl:l.length≤1000)(ht: ∀ m∈l,m.Series.Samples.length≤100000):Xn l=some l:=by
  have h:loop (t2 (QN l)) (l,0)=some l:=by
    refine ZaZ (xs:=l) (body:=QN l) (fun a _=>a=l) (fun _ _=>l) (fun a k x ha hx=> ?_) (fun a ha=> ?_) rfl
    · subst ha
      have hlt:=Xm hx
      have e1:i64 ((k:Int)+1)=(k:Int)+1:=ZE (by omega) (by omega)
      left
      refine⟨_,?_,rfl,rfl⟩
      simp only [QN,hlt,decide_true,if_true,ZS hx,Option.bind_some,Zdb (show x.Series.Samples.length≤4294967296 by have:=ht x (List.mem_of_getElem? hx);omega),Int.toNat_natCast,e1]
      rw [Zkt (by exact hx)]
    · subst ha;simp [QN]
  unfold Xn
  rw [Zdb (by omega)]
  simp only [Option.bind_some,h,t1]
def Ris(ks:List Nat):Prop:=ks.Pairwise (· < ·)
theorem ZcP{ks:List Nat}(h:Ris ks)(k:Nat):ks=ks.filter (· <k)++ks.filter (fun x=>decide (k≤x)):=by
  induction ks with
  |nil=>rfl
  |cons x t ih=>
    have h1:=List.pairwise_cons.1 h
    by_cases hx:x<k
    · rw [List.filter_cons_of_pos (by simpa using hx),List.filter_cons_of_neg (by simp;omega),List.cons_append,←ih h1.2]
    · have:t.filter (· <k)= []:=List.filter_eq_nil_iff.2 fun y hy=>by have:=h1.1 y hy;simp;omega
      have h2:t.filter (fun x=>decide (k≤x))=t:=List.filter_eq_self.2 fun y hy=>by have:=h1.1 y hy;simp;omega
      rw [List.filter_cons_of_neg (by simpa using hx),this,List.filter_cons_of_pos (by simp;omega),h2];rfl
theorem Zh4{ks:List Nat}(h:Ris ks){k:Nat}(hk:k∈ks):ks.filter (fun x=>decide (k≤x))=k::ks.filter (fun x=>decide (k<x)):=by
  induction ks with
  |nil=>cases hk
  |cons x t ih=>
    have h1:=List.pairwise_cons.1 h
    rcases List.mem_cons.1 hk with rfl |hk
    · rw [List.filter_cons_of_pos (by simp),List.filter_cons_of_neg (by simp)]
      congr 1
      refine List.filter_congr fun y hy=> ?_
      have:=h1.1 y hy
      simp only [decide_eq_decide];omega
    · have:=h1.1 k hk
      rw [List.filter_cons_of_neg (by simp;omega),List.filter_cons_of_neg (by simp;omega),ih h1.2 hk]
theorem Zmj{ks:List Nat}{k:Nat}(hk:k∉ks):ks.filter (fun x=>decide (k≤x))=ks.filter (fun x=>decide (k<x)):=by
  refine List.filter_congr fun y hy=> ?_
  simp only [decide_eq_decide]
  constructor
  · intro h
    rcases Nat.lt_or_ge k y with h1 |h1
    · exact h1
    · have:k=y:=by omega
      subst this;exact absurd hy hk
  · intro h;omega
def kin(ks:List Nat)(k:Nat):List Nat:=ks.filter (· <k)++ [k]++ks.filter (fun x=>decide (k<x))
theorem Zm1{ks:List Nat}(h:Ris ks){k:Nat}(hk:k∈ks):kin ks k=ks:=by
  unfold kin
  rw [List.append_assoc,List.singleton_append,←Zh4 h hk,←ZcP h k]
theorem ZoP{ks:List Nat}(h:Ris ks)(k:Nat):Ris (kin ks k):=by
  unfold kin Ris
  refine List.pairwise_append.2 ⟨List.pairwise_append.2 ⟨h.filter _,by simp,fun a ha b hb=> ?_⟩,h.filter _,fun a ha b hb=> ?_⟩
  · have:=List.mem_filter.1 ha
    simp at hb this;omega
  · have h2:=List.mem_filter.1 hb
    simp only [decide_eq_true_eq] at h2
    rcases List.mem_append.1 ha with ha |ha
    · have:=List.mem_filter.1 ha
      simp at this;omega
    · simp at ha;omega
theorem Zo0{ks:List Nat}{k:Nat}{P:Nat→Prop}(h: ∀ x∈ks,P x)(hk:P k): ∀ x∈kin ks k,P x:=by
  intro x hx
  unfold kin at hx
  rcases List.mem_append.1 hx with hx |hx
  · rcases List.mem_append.1 hx with hx |hx
    · exact h x (List.mem_filter.1 hx).1
    · simp at hx;subst hx;exact hk
  · exact h x (List.mem_filter.1 hx).1
theorem ZlH{N:Nat}: ∀ (ks:List Nat) (m:Nat),Ris ks→(∀ x∈ks,m≤x∧x<N)→ks.length≤N-m
  | [],m,_,_=>by simp
  |x::t,m,h,hb=>by
    have h1:=List.pairwise_cons.1 h
    have:=ZlH t (x+1) h1.2 (fun y hy=>⟨h1.1 y hy,(hb y (List.mem_cons_of_mem _ hy)).2⟩)
    have:=hb x (by simp)
    simp only [List.length_cons];omega
def stN(p:api_Panel)(l:List api_Track):Nat→api_PanelState
  |0=>st0 p
  |n+1=>ZlZ p l (stN p l n)
theorem ZgW{p:api_Panel}{l:List api_Track}(hb:XC p l=0): ∀ n:Nat,n≤20000→Inv p (stN p l n) n
  |0,_=>Zpi (Zcw hb).1
  |n+1,h=>Zo4 hb (ZgW hb n (by omega)) (by omega)
theorem ZbP{p:api_Panel}{l:List api_Track}(hb:XC p l=0){n:Nat}(h:n≤20000):(stN p l n).Frame=(n:Int)-1:=(ZgW hb n h).fr
theorem ZiV{p:api_Panel}{l:List api_Track}(hb:XC p l=0){n:Nat}(h:n≤20000):(stN p l n).Memos.length≤1000∧ ∀ m∈(stN p l n).Memos,m.Tape.length≤1000:=by
  obtain⟨b1,b2,b3⟩:=Zcw hb
  obtain⟨s1,s2,s3⟩:=Zez.1 (ZgW hb n h).ok
  refine⟨by rw [s2];have:=Zct b1;omega,fun m hm=> ?_⟩
  obtain⟨k,hk,e⟩:=List.getElem_of_mem hm
  have hm':(stN p l n).Memos[k]?=some m:=by rw [←e];exact List.getElem?_eq_getElem hk
  obtain⟨i,hi⟩:=Xg (xs:=p.Instruments) (k:=k) (by omega)
  have:=ZgY (s3 k i m hi hm') (ZdB b1 (List.mem_of_getElem? hi))
  omega
theorem ZjK{p:api_Panel}{l:List api_Track}(hb:XC p l=0){n:Nat}(h:n≤20000):Qk (stN p l n)=some (stN p l n):=Zl3 (ZiV hb h).1 (ZiV hb h).2
theorem Zpe{p:api_Panel}{l:List api_Track}(hb:XC p l=0){n:Nat}(h:n<20000):Jb p l (stN p l n)=some (stN p l (n+1)):=by
  rw [Znt hb (ZgW hb n (by omega)).ok (by rw [ZbP hb (by omega)];omega)]
  rfl
theorem Zqz{p:api_Panel}{l:List api_Track}(hb:XC p l=0){ks:List Nat}(hr:Ris ks)(ha: ∀ x∈ks,1≤x∧x≤20000){k:Nat}(hk:k≤20000){r:panel_Replay}(hrk:r.kept=ks.map (stN p l)){f:Int}(hf:f=(k:Int)-1):
    Qb r f=some (((ks.filter (· <k)).length:Int),decide (k∈ks)):=by
  have hlen:ks.length≤20000:=by have:=ZlH (N:=20001) ks 1 hr (fun x hx=>⟨(ha x hx).1,by have:=(ha x hx).2;omega⟩);omega
  have hsp:=ZcP hr k
  have hcl:(ks.filter (· <k)).length≤ks.length:=List.length_filter_le ..
  have hcmp: ∀ (j:Nat) x,ks[j]?=some x→Qs (stN p l x) f=some ((x:Int)-k):=fun j x hx=>by
    have:=ha x (List.mem_of_getElem? hx)
    unfold Qs
    rw [ZbP hb this.2,hf,show(x:Int)-1-((k:Int)-1)=(x:Int)-k by omega]
    exact congrArg some (ZE (by omega) (by omega))
  have hc1: ∀ (j:Nat) x,j<(ks.filter (· <k)).length→ks[j]?=some x→x<k:=fun j x hj hx=>by
    rw [hsp,List.getElem?_append_left hj] at hx
    simpa using (List.mem_filter.1 (List.mem_of_getElem? hx)).2
  have hc2: ∀ (j:Nat) x,(ks.filter (· <k)).length≤j→ks[j]?=some x→k≤x:=fun j x hj hx=>by
    rw [hsp,List.getElem?_append_right hj] at hx
    simpa using (List.mem_filter.1 (List.mem_of_getElem? hx)).2
  have hl:loop (t2 (Zv (ks.map (stN p l)) f (fun z0 z1=>Qs z0 z1))) (0,(ks.length:Int))=some (((ks.filter (· <k)).length:Nat):Int):=by
    refine Zfd ks.length (ks.filter (· <k)).length (fun k=>(k:Int)) hcl (by omega) (fun i j m hij hj hm=> ?_) (fun i=> ?_)
    · obtain⟨x,hx⟩:=Xg (xs:=ks) (k:=m) (by omega)
      have hxm:(ks.map (stN p l))[m]?=some (stN p l x):=by rw [List.getElem?_map,hx];rfl
      have h2:(i:Int)<j:=by omega
      have hm':shr .u64 (u64 (i64 ((i:Int)+j))) 1=some (m:Int):=by rw [Zpy (by omega),hm]
      have hmi:i64 (m:Int)=m:=ZE (by omega) (by omega)
      simp only [Zv,h2,decide_true,if_true,hm',Option.bind_some,hmi,ZS hxm,hcmp m x hx]
      refine⟨fun h=> ?_,fun h=> ?_⟩
      · have:=hc1 m x h hx
        simp [show(x:Int)-k<0 by omega,ZE (show-9223372036854775808≤(m:Int)+1 by omega) (by omega)]
      · have:=hc2 m x h hx
        simp [show ¬(x:Int)-k<0 by omega]
    · simp [Zv]
  unfold Qb ZA
  rw [hrk,List.length_map,hl]
  simp only [Option.bind_some,t1]
  rcases Nat.lt_or_ge (ks.filter (· <k)).length ks.length with h |h
  · obtain⟨x,hx⟩:=Xg h
    have hxm:(ks.map (stN p l))[(ks.filter (· <k)).length]?=some (stN p l x):=by rw [List.getElem?_map,hx];rfl
    have h':(((ks.filter (· <k)).length:Nat):Int)<ks.length:=by omega
    have hxk:x=k↔k∈ks:=by
      constructor
      · rintro rfl;exact List.mem_of_getElem? hx
      · intro hm
        have h3:=Zh4 hr hm
        have hx2:(ks.filter (· <k)++ks.filter (fun x=>decide (k≤x)))[(ks.filter (· <k)).length]?=some x:=by rw [←hsp];exact hx
        rw [List.getElem?_append_right (Nat.le_refl _),h3] at hx2
        simpa using hx2.symm
    simp only [h',decide_true,ZS hxm,Zlc,Option.bind_some,hcmp _ x hx,Bool.true_and,Option.some.injEq,Prod.mk.injEq,true_and,decide_eq_decide]
    rw [←hxk];omega
  · have h': ¬(((ks.filter (· <k)).length:Nat):Int)<ks.length:=by omega
    have hm:k∉ks:=fun hm=>by
      have h3:=Zh4 hr hm
      have:=congrArg List.length hsp
      rw [h3] at this
      simp at this;omega
    simp [gd,h',hm]
end Go.Vx

namespace Go.Vx
open Go Go.RowKit
def Zlu(keep:Int)(m:Nat)(ks:List Nat):List Nat:=if(m:Int).tmod keep=keep-1 then kin ks (m+1) else ks
def ZeY(keep:Int)(m:Nat):Nat→List Nat→List Nat
  |0,ks=>ks
  |j+1,ks=>Zlu keep (m+j) (ZeY keep m j ks)
def KS(ks:List Nat):Prop:=Ris ks∧ ∀ x∈ks,1≤x∧x≤20000
theorem Zpm{keep:Int}{m:Nat}{ks:List Nat}(h:KS ks)(hm:m<20000):KS (Zlu keep m ks):=by
  unfold Zlu
  split
  · exact⟨ZoP h.1 _,Zo0 h.2 ⟨by omega,by omega⟩⟩
  · exact h
theorem Zg0{keep:Int}{m:Nat}{ks:List Nat}(h:KS ks): ∀ n:Nat,m+n≤20000→KS (ZeY keep m n ks)
  |0,_=>h
  |n+1,hn=>Zpm (Zg0 h n (by omega)) (by omega)
theorem Zku{ks:List Nat}(h:KS ks):ks.length≤20000:=by have:=ZlH (N:=20001) ks 1 h.1 (fun x hx=>⟨(h.2 x hx).1,by have:=(h.2 x hx).2;omega⟩);omega
theorem Zlb{p:api_Panel}{l:List api_Track}{ks:List Nat}(h:KS ks){k:Nat}(hk:k∉ks):
    ins (ks.map (stN p l)) ((ks.filter (· <k)).length:Int) [stN p l k]=some ((kin ks k).map (stN p l)):=by
  have hsp:=ZcP h.1 k
  have hl:=Zku h
  have hcl:(ks.filter (· <k)).length≤ks.length:=List.length_filter_le ..
  unfold ins kin
  rw [if_pos ⟨by omega,by rw [List.length_map];omega,by rw [List.length_map];omega,rfl⟩,Int.toNat_natCast,←List.map_take,←List.map_drop]
  have e1:ks.take (ks.filter (· <k)).length=ks.filter (· <k):=by
    conv=>lhs;arg 2;rw [hsp]
    exact List.take_left' rfl
  have e2:ks.drop (ks.filter (· <k)).length=ks.filter (fun x=>decide (k<x)):=by
    rw [←Zmj hk]
    conv=>lhs;arg 2;rw [hsp]
    exact List.drop_left' rfl
  rw [e1,e2]
  simp
theorem Zpt{p:api_Panel}{l:List api_Track}(hb:XC p l=0){keep:Int}(hk:1≤keep∧keep≤1000){marks:List api_Bookmark}{ks:List Nat}(h:KS ks){m n:Nat}(hmn:m+n≤20000):
    loop (t3 (Qu (panel_Replay.mk p l keep (stN p l m) (ks.map (stN p l)) marks) (n:Int))) (stN p l m,ks.map (stN p l),0)=
      some (panel_Replay.mk p l keep (stN p l (m+n)) ((ZeY keep m n ks).map (stN p l)) marks):=by
  refine ZcB (body:=t3 (Qu (panel_Replay.mk p l keep (stN p l m) (ks.map (stN p l)) marks) (n:Int)))
    (fun s=> ∃ j:Nat,j≤n∧s=(stN p l (m+j),(ZeY keep m j ks).map (stN p l),(j:Int))) (fun s=>n-s.2.2.toNat) (fun _=>panel_Replay.mk p l keep (stN p l (m+n)) ((ZeY keep m n ks).map (stN p l)) marks) ?_ _ ⟨0,Nat.zero_le _,rfl⟩
  rintro s ⟨j,hj,rfl⟩
  have hks:=Zg0 (keep:=keep) (m:=m) h j (by omega)
  rcases Nat.lt_or_ge j n with hlt |hge
  · left
    have e1:i64 ((j:Int)+1)=((j+1:Nat):Int):=by rw [show(j:Int)+1=((j+1:Nat):Int) by omega];exact ZE (by omega) (by omega)
    have e2:i64 (keep-1)=keep-1:=ZE (by omega) (by omega)
    have hfr:(stN p l (m+j+1)).Frame=((m+j:Nat):Int):=by rw [ZbP hb (by omega)];omega
    have hadv:=Zpe (l:=l) hb (n:=m+j) (by omega)
    refine⟨(stN p l (m+(j+1)),(ZeY keep m (j+1) ks).map (stN p l),((j+1:Nat):Int)),?_,⟨j+1,hlt,rfl⟩,by simp only [Int.toNat_natCast];omega,rfl⟩
    have hlt':(j:Int)<n:=by omega
    have hrem:rem ((m+j:Nat):Int) keep=some (((m+j:Nat):Int).tmod keep):=by unfold rem;rw [if_neg (by omega)]
    simp only [Zj0,Qu,hlt',decide_true,if_true,hadv,Option.bind_some,hfr,hrem,e2]
    have hat:=fun(r:panel_Replay) (hr:r.kept=(ZeY keep m j ks).map (stN p l))=>Zqz (l:=l) hb hks.1 hks.2 (k:=m+j+1) (by omega) (r:=r) hr (f:=((m+j:Nat):Int)) (by omega)
    by_cases hq:((m+j:Nat):Int).tmod keep=keep-1
    · have ek:ZeY keep m (j+1) ks=kin (ZeY keep m j ks) (m+j+1):=by show Zlu keep (m+j) _=_;unfold Zlu;rw [if_pos hq]
      simp only [hq,decide_true,Bool.not_true,Bool.false_eq_true,if_false]
      rw [hat (panel_Replay.mk p l keep (stN p l (m+j+1)) ((ZeY keep m j ks).map (stN p l)) marks) rfl]
      simp only [Option.bind_some]
      by_cases hin:m+j+1∈ZeY keep m j ks
      · simp only [hin,decide_true,Bool.not_true,Bool.false_eq_true,if_false,Option.bind_some,Zj0,e1,ek,Zm1 hks.1 hin]
        rw [←hfr];rfl
      · simp only [hin,decide_false,Bool.not_false,if_true,ZjK (l:=l) hb (show m+j+1≤20000 by omega),Option.bind_some,Zlb hks hin,Zj0,e1,ek]
        rw [←hfr];rfl
    · have ek:ZeY keep m (j+1) ks=ZeY keep m j ks:=by show Zlu keep (m+j) _=_;unfold Zlu;rw [if_neg hq]
      simp only [hq,decide_false,Bool.not_false,if_true,Option.bind_some,Zj0,e1,ek]
      rw [←hfr];rfl
  · right
    have:j=n:=by omega
    subst this
    simp [Zj0,Qu]
def kb(ks:List Nat)(N:Nat):Nat:=((ks.filter (fun x=>decide (x≤N))).getLast?).getD 0
def sb(m:Nat)(ks:List Nat)(N:Nat):Nat:=if m≤N∧kb ks N<m then m else kb ks N
theorem Zn9{ks:List Nat}{N:Nat}:kb ks N≤N:=by
  unfold kb
  cases h:(ks.filter (fun x=>decide (x≤N))).getLast? with
  |none=>simp
  |some x=>have:=(List.mem_filter.1 (List.mem_of_getLast? h)).2;simpa using this
theorem Zna{m:Nat}{ks:List Nat}{N:Nat}:sb m ks N≤N:=by
  unfold sb
  split
  · omega
  · exact Zn9
theorem ZmU{ks:List Nat}(h:Ris ks)(N:Nat):(ks.filter (fun x=>decide (x≤N))).length=(ks.filter (· <N)).length+(if N∈ks then 1 else 0):=by
  have h1:=ZcP h (N+1)
  have h2:=ZcP h N
  have e:ks.filter (fun x=>decide (x<N+1))=ks.filter (fun x=>decide (x≤N)):=List.filter_congr fun y _=>by simp only [decide_eq_decide];omega
  have e':ks.filter (fun x=>decide (N+1≤x))=ks.filter (fun x=>decide (N<x)):=List.filter_congr fun y _=>by simp only [decide_eq_decide];omega
  rw [e,e'] at h1
  have l1:=congrArg List.length h1
  have l2:=congrArg List.length h2
  rw [List.length_append] at l1 l2
  by_cases hm:N∈ks
  · rw [Zh4 h hm] at l2
    simp only [List.length_cons] at l2
    rw [if_pos hm];omega
  · rw [Zmj hm] at l2
    rw [if_neg hm];omega
theorem ZmS{p:api_Panel}{l:List api_Track}(hb:XC p l=0){a b N:Nat}(ha:a≤20000)(hbb:b≤20000){f:Int}(hf:f=(N:Int)-1):
    Xd (stN p l a) f (stN p l b)=some (stN p l (if a≤N∧b<a then a else b)):=by
  unfold Xd
  rw [ZbP hb ha,ZbP hb hbb,hf]
  by_cases h:a≤N∧b<a
  · have h1:(a:Int)-1≤(N:Int)-1:=by omega
    have h2:(b:Int)-1<(a:Int)-1:=by omega
    simp [h1,h2,ZjK (l:=l) hb ha,h]
  · rw [if_neg h,if_neg]
    intro hc
    simp only [Bool.and_eq_true,decide_eq_true_eq] at hc
    omega
theorem ZnQ{p:api_Panel}{l:List api_Track}(hb:XC p l=0){keep:Int}(hk:1≤keep∧keep≤1000){marks:List api_Bookmark}{ks:List Nat}(h:KS ks){m N:Nat}(hm:m≤20000)(hN:N≤20000){f:Int}(hf:f=(N:Int)-1):
    Qd (panel_Replay.mk p l keep (stN p l m) (ks.map (stN p l)) marks) f=
      some (((N-sb m ks N:Nat):Int),0,panel_Replay.mk p l keep (stN p l N) ((ZeY keep (sb m ks N) (N-sb m ks N) ks).map (stN p l)) marks):=by
  have hw:ZM f (-1) 19999=some true:=by unfold ZM;rw [hf];congr 1;simp only [Bool.and_eq_true,decide_eq_true_eq];omega
  have hlp:=Zct (Zcw hb).1
  have hfi:XS p=some (stN p l 0):=by unfold XS;rw [ZmC (by omega)];rfl
  have hlen:=Zku h
  have hbl:sb m ks N≤N:=Zna
  have hc:=ZmU h.1 N
  have hat:=Zqz (l:=l) hb h.1 h.2 (k:=N) hN (r:=panel_Replay.mk p l keep (stN p l m) (ks.map (stN p l)) marks) rfl hf
  have hcl:(ks.filter (· <N)).length≤ks.length:=List.length_filter_le ..
  have hi:((if decide (N∈ks)=true then some (i64 (((ks.filter (· <N)).length:Int)+1)) else some ((ks.filter (· <N)).length:Int)):Option Int)=some (((ks.filter (fun x=>decide (x≤N))).length:Nat):Int):=by
    rw [hc]
    by_cases hin:N∈ks
    · simp only [hin,decide_true,if_true]
      rw [show(((ks.filter (· <N)).length:Nat):Int)+1=(((ks.filter (· <N)).length+1:Nat):Int) by omega]
      exact congrArg some (ZE (by omega) (by omega))
    · simp [hin]
  have hbest:((if decide (0<(((ks.filter (fun x=>decide (x≤N))).length:Nat):Int))=true then
      (idx (ks.map (stN p l)) (i64 ((((ks.filter (fun x=>decide (x≤N))).length:Nat):Int)-1))).bind fun x=>(Xd x f (stN p l 0)).bind fun y4=>some (y4.Frame,y4.Memos)
      else some ((stN p l 0).Frame,(stN p l 0).Memos)):Option (Int×List api_Memo))=some ((stN p l (kb ks N)).Frame,(stN p l (kb ks N)).Memos):=by
    have hsp:=ZcP h.1 (N+1)
    have e:ks.filter (fun x=>decide (x<N+1))=ks.filter (fun x=>decide (x≤N)):=List.filter_congr fun y _=>by simp only [decide_eq_decide];omega
    rw [e] at hsp
    cases hL:(ks.filter (fun x=>decide (x≤N))).getLast? with
    |none=>
      have h0:ks.filter (fun x=>decide (x≤N))= []:=List.getLast?_eq_none_iff.1 hL
      have hkb:kb ks N=0:=by unfold kb;rw [hL];rfl
      rw [hkb,h0];rfl
    |some x=>
      have hkb:kb ks N=x:=by unfold kb;rw [hL];rfl
      have hxm:=List.mem_filter.1 (List.mem_of_getLast? hL)
      have hx1:=h.2 x hxm.1
      have hxN:x≤N:=by simpa using hxm.2
      have hpos:0<(ks.filter (fun x=>decide (x≤N))).length:=List.length_pos_of_mem (List.mem_of_getLast? hL)
      have hle:(ks.filter (fun x=>decide (x≤N))).length≤ks.length:=List.length_filter_le ..
      have hix:(ks.map (stN p l))[(ks.filter (fun x=>decide (x≤N))).length-1]?=some (stN p l x):=by
        rw [List.getElem?_map]
        have:ks[(ks.filter (fun x=>decide (x≤N))).length-1]?=some x:=by
          conv=>lhs;arg 1;rw [hsp]
          rw [List.getElem?_append_left (by omega),←List.getLast?_eq_getElem?]
          exact hL
        rw [this];rfl
      have ei:i64 ((((ks.filter (fun x=>decide (x≤N))).length:Nat):Int)-1)=(((ks.filter (fun x=>decide (x≤N))).length-1:Nat):Int):=by
        rw [show(((ks.filter (fun x=>decide (x≤N))).length:Nat):Int)-1=(((ks.filter (fun x=>decide (x≤N))).length-1:Nat):Int) by omega]
        exact ZE (by omega) (by omega)
      rw [if_pos (by simpa using (show(0:Int)<(((ks.filter (fun x=>decide (x≤N))).length:Nat):Int) by omega)),ei,ZS hix]
      simp only [Option.bind_some,ZmS (l:=l) hb (show x≤20000 by omega) (show 0≤20000 by omega) hf,hkb]
      rw [if_pos ⟨hxN,by omega⟩]
  unfold Qd
  rw [hw]
  simp only [Option.bind_some,Bool.not_true,Bool.false_eq_true,if_false]
  rw [hfi,hat]
  simp only [Option.bind_some]
  rw [hi]
  simp only [Option.bind_some,t1]
  rw [hbest]
  simp only [Option.bind_some,Zhq]
  have hs2:=ZmS (l:=l) hb (a:=m) (b:=kb ks N) (N:=N) hm (Nat.le_trans Zn9 hN) hf
  have:api_PanelState.mk (stN p l (kb ks N)).Frame (stN p l (kb ks N)).Memos=stN p l (kb ks N):=rfl
  rw [this,hs2]
  simp only [Option.bind_some]
  change ((Qy (panel_Replay.mk p l keep (stN p l (sb m ks N)) (ks.map (stN p l)) marks) (i64 (f-(stN p l (sb m ks N)).Frame))).bind fun y6=>some (i64 (f-(stN p l (sb m ks N)).Frame),0,y6))=_
  have en:i64 (f-(stN p l (sb m ks N)).Frame)=((N-sb m ks N:Nat):Int):=by
    rw [ZbP hb (Nat.le_trans hbl hN),hf,show(N:Int)-1-(((sb m ks N:Nat):Int)-1)=((N-sb m ks N:Nat):Int) by omega]
    exact ZE (by omega) (by omega)
  rw [en]
  unfold Qy
  rw [Zpt hb hk h (by omega),Option.bind_some,show sb m ks N+(N-sb m ks N)=N by omega]
end Go.Vx

namespace Go.Vx
open Go Go.RowKit
theorem ZmN{i:api_Instrument}(h:Zb7 i=0):i.Zones.length≤1000:=by
  by_cases h2:i.Kind=2
  · have:=((ZjO h).2.2 h2).zones;omega
  · unfold Zb7 at h
    split at h
    · cases h
    split at h
    · cases h
    split at h
    · cases h
    rename_i hu
    simp only [unV,Bool.or_eq_true,Bool.and_eq_true,not_or] at hu
    have:=hu.1.1.1.2
    by_cases e:i.Zones.length≤1000
    · exact e
    · exact absurd ⟨.inr (by simp;omega),by simp [h2]⟩ this
theorem Zq0{p:api_Panel}{l:List api_Track}{keep:Int}(hk:1≤keep∧keep≤1000):
    Zad p l keep=some (if XC p l=0 then Sum.inr (panel_Replay.mk p l keep (stN p l 0) [] [],0) else Sum.inl (XC p l)):=by
  unfold Zad
  rw [ZmV]
  simp only [Option.bind_some]
  by_cases hb:XC p l=0
  · obtain⟨b1,b2,b3⟩:=Zcw hb
    have hw:ZM keep 1 1000=some true:=by unfold ZM;congr 1;simp only [Bool.and_eq_true,decide_eq_true_eq];omega
    have hlp:=Zct b1
    have hfi:XS p=some (stN p l 0):=by unfold XS;rw [ZmC (by omega)];rfl
    have hcp:XT p=some p:=Zl5 (by omega) fun m hm=>ZmN (ZdB b1 hm)
    have hct:Xn l=some l:=Zll (by have:=Zg2 b2;omega) fun t ht=>by have:=(Zkz (Zkk b2 ht).1).len;omega
    simp only [hb,decide_true,Bool.not_true,Bool.false_eq_true,if_false,hw,Option.bind_some,hcp,hct,hfi,if_true]
  · simp [hb]
end Go.Vx

namespace Go.Vx
open Go Go.RowKit
theorem Zk8{α:Type}(xs:List α)(d v:α){k:Nat}(hk:k≤xs.length):
    (cpy (xs++ [d]) (k+1) ((xs++ [d]).length-(k+1)) k ((xs++ [d]).length-k)).set k v=xs.take k++ [v]++xs.drop k:=by
  have hl:(xs++ [d]).length=xs.length+1:=by simp
  have h1:k+1+((xs++ [d]).length-(k+1))≤(xs++ [d]).length:=by omega
  have h2:k+((xs++ [d]).length-k)≤(xs++ [d]).length:=by omega
  apply List.ext_getElem?
  intro i
  rw [List.getElem?_set,Zcg h1 h2]
  by_cases hi:i<xs.length+1
  · by_cases e:k=i
    · subst e
      rw [if_pos rfl,if_pos (by omega),List.append_assoc,List.getElem?_append_right (by simp;omega)]
      simp [Nat.min_eq_left hk]
    · rw [if_neg e,Zm8 h1 h2 (by omega)]
      by_cases hik:i<k
      · rw [if_neg (by omega),List.getElem?_append_left (by omega),List.append_assoc,List.getElem?_append_left (by simp;omega),List.getElem?_take_of_lt hik]
      · rw [if_pos (by omega),List.getElem?_append_left (by omega),List.getElem?_append_right (by simp;omega),List.getElem?_drop]
        congr 1
        simp [Nat.min_eq_left hk]
  · rw [List.getElem?_eq_none (l:=xs.take k++ [v]++xs.drop k) (by simp;omega)]
    rw [if_neg (by omega),List.getElem?_eq_none (by rw [Zcg h1 h2];omega)]
def dnC{α:Type}(q:α→Bool)(xs:List α):Nat→Nat
  |0=>0
  |j+1=>match xs[j]? with
    |some x=>if q x=true then dnC q xs j else j+1
    |none=>j+1
theorem ZmF{α:Type}{q:α→Bool}{xs:List α}: ∀ n,dnC q xs n≤n
  |0=>Nat.le_refl _
  |n+1=>by
    simp only [dnC]
    split
    · split
      · exact Nat.le_trans (ZmF n) (by omega)
      · exact Nat.le_refl _
    · exact Nat.le_refl _
theorem Zn0{α:Type}{q:α→Bool}{xs:List α}{c:Nat}: ∀ n,c≤n→n≤xs.length→(∀ (j:Nat) x,c≤j→xs[j]?=some x→q x=true)→(∀ x,0<c→xs[c-1]?=some x→q x=false)→dnC q xs n=c
  |0,h,_,_,_=>by simp only [dnC];omega
  |n+1,h,hn,h1,h2=>by
    obtain⟨x,hx⟩:=Xg (xs:=xs) (k:=n) (by omega)
    simp only [dnC,hx]
    by_cases hc:c=n+1
    · subst hc
      rw [if_neg (by rw [h2 x (by omega) (by simpa using hx)];simp)]
    · rw [if_pos (h1 n x (by omega) hx)]
      exact Zn0 n (by omega) (by omega) h1 h2
theorem Zp1{α:Type}{xs:List α}{d0:α}{q:α→Bool}{body:Int→Option (Int ⊕ Int)}
    (hbody: ∀ at_,body at_=(gd ((decide (0<at_))==true) d0 (idx xs (i64 (at_-1)))).bind fun x=>if((decide (0<at_))&&q x)=true then some (.inl (i64 (at_-1))) else some (.inr at_)) (hlen:xs.length≤4294967296):
    loop (t1 body) (xs.length:Int)=some ((dnC q xs xs.length:Nat):Int):=by
  refine ZcB (body:=t1 body) (fun i=> ∃ j:Nat,i=(j:Int)∧j≤xs.length) (fun i=>i.toNat) (fun i=>((dnC q xs i.toNat:Nat):Int)) ?_ _ ⟨xs.length,rfl,Nat.le_refl _⟩
  rintro i ⟨j,rfl,hj⟩
  simp only [ZeZ,hbody,Int.toNat_natCast]
  cases j with
  |zero=>right;simp [dnC,gd]
  |succ j=>
    obtain⟨x,hx⟩:=Xg (xs:=xs) (k:=j) (by omega)
    have hp:(0:Int)<((j+1:Nat):Int):=by omega
    have e:i64 (((j+1:Nat):Int)-1)=(j:Int):=by rw [show((j+1:Nat):Int)-1=(j:Int) by omega];exact ZE (by omega) (by omega)
    simp only [hp,decide_true,e,ZS hx,Zlc,Option.bind_some,Bool.true_and,dnC,hx]
    by_cases hq:q x=true
    · left
      exact⟨(j:Int),by rw [if_pos hq],⟨j,rfl,by omega⟩,by simp only [Int.toNat_natCast];omega,by rw [if_pos hq];simp⟩
    · right
      rw [if_neg hq,if_neg hq]
theorem Zpp{s:api_PanelState}(hl:s.Memos.length≤1000)(ht: ∀ m∈s.Memos,m.Tape.length≤1000):Xf s=some s:=by
  have h:loop (t2 (XH s)) ([],0)=some s.Memos:=by
    refine ZaZ (xs:=s.Memos) (body:=XH s) (fun a k=>a=s.Memos.take k) (fun _ _=>s.Memos) (fun a k x ha hx=> ?_) (fun a ha=> ?_) (by simp)
    · subst ha
      have hlt:=Xm hx
      have hk:=(List.getElem?_eq_some_iff.1 hx).1
      have e1:i64 ((k:Int)+1)=(k:Int)+1:=ZE (by omega) (by omega)
      have htx:=ht x (List.mem_of_getElem? hx)
      left
      refine⟨s.Memos.take k++ [x],?_,?_,rfl⟩
      · simp only [XH,hlt,decide_true,if_true,ZS hx,Option.bind_some,ZcF (show([]:List Int).length+x.Tape.length≤4294967296 by simp;omega),List.nil_append]
        rw [ZcF (show(s.Memos.take k).length+ [api_Memo.mk x.Lit x.Some x.N x.Count x.Tape].length≤4294967296 by simp;omega)]
        simp only [Option.bind_some,e1]
      · rw [List.take_succ_eq_append_getElem hk]
        rw [List.getElem?_eq_getElem hk] at hx
        cases hx;rfl
    · subst ha;simp [XH]
  unfold Xf
  simp only [h,Option.bind_some,t1]
theorem ZiJ{p:api_Panel}{l:List api_Track}(hb:XC p l=0){n:Nat}(h:n≤20000):Xf (stN p l n)=some (stN p l n):=Zpp (ZiV hb h).1 (ZiV hb h).2
theorem ZnW{p:api_Panel}{l:List api_Track}(hb:XC p l=0){n:Nat}(h:n<20000):Zck p l (stN p l n)=some (stN p l (n+1)):=by
  rw [ZmB hb (ZgW hb n (by omega)).ok (by rw [ZbP hb (by omega)];omega)]
  rfl
theorem Zq8{p:api_Panel}{l:List api_Track}(hb:XC p l=0){keep:Int}(hk:1≤keep∧keep≤1000){marks:List api_Bookmark}{ks:List Nat}(h:KS ks){m:Nat}(hm:m<20000):
    XO (ref8_Replay.mk p l keep (stN p l m) (ks.map (stN p l)) marks)=some (ref8_Replay.mk p l keep (stN p l (m+1)) ((Zlu keep m ks).map (stN p l)) marks):=by
  have hfr:(stN p l (m+1)).Frame=(m:Int):=by rw [ZbP hb (by omega)];omega
  have hrem:rem (m:Int) keep=some ((m:Int).tmod keep):=by unfold rem;rw [if_neg (by omega)]
  have e2:i64 (keep-1)=keep-1:=ZE (by omega) (by omega)
  have hlen:=Zku h
  unfold XO Zlu
  simp only [ZnW (l:=l) hb hm,Option.bind_some,hfr,hrem,e2]
  by_cases hq:(m:Int).tmod keep=keep-1
  · have hsp:=ZcP h.1 (m+1+1)
    have e:ks.filter (fun x=>decide (x<m+1+1))=ks.filter (fun x=>decide (x≤m+1)):=List.filter_congr fun y _=>by simp only [decide_eq_decide];omega
    rw [e] at hsp
    have hcl:(ks.filter (fun x=>decide (x≤m+1))).length≤ks.length:=List.length_filter_le ..
    have hloop:loop (t1 (Zap (ref8_Replay.mk p l keep (stN p l m) (ks.map (stN p l)) marks) (stN p l (m+1)))) ((ks.map (stN p l)).length:Int)=some (((ks.filter (fun x=>decide (x≤m+1))).length:Nat):Int):=by
      rw [Zp1 (xs:=ks.map (stN p l)) (d0:=api_PanelState.mk 0 []) (q:=fun x=>decide ((m:Int)<x.Frame)) (fun at_=>by simp only [Zap,hfr]) (by rw [List.length_map];omega)]
      rw [Zn0 (c:=(ks.filter (fun x=>decide (x≤m+1))).length) _ (by rw [List.length_map];exact hcl) (Nat.le_refl _) (fun j x hj hx=> ?_) (fun x hc hx=> ?_)]
      · rw [List.getElem?_map] at hx
        obtain⟨y,hy,rfl⟩:=Option.map_eq_some_iff.1 hx
        have hyk:=h.2 y (List.mem_of_getElem? hy)
        rw [hsp,List.getElem?_append_right hj] at hy
        have:=(List.mem_filter.1 (List.mem_of_getElem? hy)).2
        rw [ZbP hb hyk.2]
        simp only [decide_eq_true_eq] at this ⊢;omega
      · rw [List.getElem?_map] at hx
        obtain⟨y,hy,rfl⟩:=Option.map_eq_some_iff.1 hx
        have hyk:=h.2 y (List.mem_of_getElem? hy)
        have hy2:(ks.filter (fun x=>decide (x≤m+1))++ks.filter (fun x=>decide (m+1+1≤x)))[(ks.filter (fun x=>decide (x≤m+1))).length-1]?=some y:=by rw [←hsp];exact hy
        rw [List.getElem?_append_left (by omega)] at hy2
        have:=(List.mem_filter.1 (List.mem_of_getElem? hy2)).2
        rw [ZbP hb hyk.2]
        simp only [decide_eq_true_eq,decide_eq_false_iff_not] at this ⊢;omega
    simp only [hq,decide_true,Bool.not_true,Bool.false_eq_true,if_false,if_true,hloop,Option.bind_some,t1]
    have hc:=ZmU h.1 (m+1)
    by_cases hin:m+1∈ks
    · rw [if_pos hin] at hc
      have h3:=Zh4 h.1 hin
      have hs2:=ZcP h.1 (m+1)
      have hix:ks[(ks.filter (· <m+1)).length]?=some (m+1):=by
        have:(ks.filter (· <m+1)++ks.filter (fun x=>decide (m+1≤x)))[(ks.filter (· <m+1)).length]?=some (m+1):=by
          rw [List.getElem?_append_right (Nat.le_refl _),h3];simp
        rwa [←hs2] at this
      have hixm:(ks.map (stN p l))[(ks.filter (· <m+1)).length]?=some (stN p l (m+1)):=by rw [List.getElem?_map,hix];rfl
      have hp:(0:Int)<(((ks.filter (fun x=>decide (x≤m+1))).length:Nat):Int):=by omega
      have ei:i64 ((((ks.filter (fun x=>decide (x≤m+1))).length:Nat):Int)-1)=(((ks.filter (· <m+1)).length:Nat):Int):=by
        rw [hc,show(((ks.filter (· <m+1)).length+1:Nat):Int)-1=(((ks.filter (· <m+1)).length:Nat):Int) by omega]
        exact ZE (by omega) (by omega)
      simp only [hp,decide_true,Zlc,ei,ZS hixm,Option.bind_some,hfr,Bool.and_self,if_true,Zm1 h.1 hin]
    · have hc':(ks.filter (fun x=>decide (x≤m+1))).length=(ks.filter (· <m+1)).length:=by rw [hc,if_neg hin];rfl
      rw [hc']
      have hcl':(ks.filter (· <m+1)).length≤ks.length:=List.length_filter_le ..
      have hno:((gd ((decide ((0:Int)<(((ks.filter (· <m+1)).length:Nat):Int)))==true) (api_PanelState.mk 0 []) (idx (ks.map (stN p l)) (i64 ((((ks.filter (· <m+1)).length:Nat):Int)-1))))=none)∨
          ∃ x,(gd ((decide ((0:Int)<(((ks.filter (· <m+1)).length:Nat):Int)))==true) (api_PanelState.mk 0 []) (idx (ks.map (stN p l)) (i64 ((((ks.filter (· <m+1)).length:Nat):Int)-1))))=some x∧
            (decide ((0:Int)<(((ks.filter (· <m+1)).length:Nat):Int))&&decide (x.Frame=(m:Int)))=false:=by
        right
        by_cases hp:0<(ks.filter (· <m+1)).length
        · have hp':(0:Int)<(((ks.filter (· <m+1)).length:Nat):Int):=by omega
          obtain⟨y,hy⟩:=Xg (xs:=ks) (k:=(ks.filter (· <m+1)).length-1) (by omega)
          have hym:=List.mem_of_getElem? hy
          have hyk:=h.2 y hym
          have ei:i64 ((((ks.filter (· <m+1)).length:Nat):Int)-1)=(((ks.filter (· <m+1)).length-1:Nat):Int):=by
            rw [show(((ks.filter (· <m+1)).length:Nat):Int)-1=(((ks.filter (· <m+1)).length-1:Nat):Int) by omega]
            exact ZE (by omega) (by omega)
          refine⟨stN p l y,?_,?_⟩
          · rw [decide_eq_true hp',Zlc,ei,ZS (by rw [List.getElem?_map,hy];rfl)]
          · rw [ZbP hb hyk.2,Bool.and_eq_false_iff]
            right
            simp only [decide_eq_false_iff_not]
            intro e
            have:y=m+1:=by omega
            subst this;exact hin hym
        · have hp': ¬(0:Int)<(((ks.filter (· <m+1)).length:Nat):Int):=by omega
          exact⟨api_PanelState.mk 0 [],by rw [decide_eq_false hp'];rfl,by rw [decide_eq_false hp'];rfl⟩
      rcases hno with hno | ⟨x,hx1,hx2⟩
      · exfalso
        revert hno
        by_cases hp:0<(ks.filter (· <m+1)).length
        · have hp':(0:Int)<(((ks.filter (· <m+1)).length:Nat):Int):=by omega
          obtain⟨y,hy⟩:=Xg (xs:=ks.map (stN p l)) (k:=(ks.filter (· <m+1)).length-1) (by rw [List.length_map];omega)
          have ei:i64 ((((ks.filter (· <m+1)).length:Nat):Int)-1)=(((ks.filter (· <m+1)).length-1:Nat):Int):=by
            rw [show(((ks.filter (· <m+1)).length:Nat):Int)-1=(((ks.filter (· <m+1)).length-1:Nat):Int) by omega]
            exact ZE (by omega) (by omega)
          rw [decide_eq_true hp',Zlc,ei,ZS hy]
          intro h;cases h
        · have hp': ¬(0:Int)<(((ks.filter (· <m+1)).length:Nat):Int):=by omega
          rw [decide_eq_false hp']
          intro h;cases h
      · rw [hx1]
        simp only [Option.bind_some,hx2,Bool.false_eq_true,if_false]
        have hL:((ks.map (stN p l))++ [api_PanelState.mk 0 []]).length=ks.length+1:=by simp
        rw [ZcF (show(ks.map (stN p l)).length+ [api_PanelState.mk 0 []].length≤4294967296 by rw [List.length_map];simp;omega)]
        have e1:i64 ((((ks.filter (· <m+1)).length:Nat):Int)+1)=(((ks.filter (· <m+1)).length+1:Nat):Int):=by
          rw [show(((ks.filter (· <m+1)).length:Nat):Int)+1=(((ks.filter (· <m+1)).length+1:Nat):Int) by omega]
          exact ZE (by omega) (by omega)
        have s1:slq ((ks.map (stN p l))++ [api_PanelState.mk 0 []]) (((ks.filter (· <m+1)).length+1:Nat):Int) ((((ks.map (stN p l))++ [api_PanelState.mk 0 []]).length:Nat):Int)=some ():=by
          unfold slq;rw [hL]
          have a1:(0:Int)≤(((ks.filter (· <m+1)).length+1:Nat):Int):=by omega
          have a2:(((ks.filter (· <m+1)).length+1:Nat):Int)≤((ks.length+1:Nat):Int):=by omega
          simp only [a1,a2,decide_true,Int.le_refl,show 0<ks.length+1 from by omega,Bool.and_self];rfl
        have s2:slq ((ks.map (stN p l))++ [api_PanelState.mk 0 []]) (((ks.filter (· <m+1)).length:Nat):Int) ((((ks.map (stN p l))++ [api_PanelState.mk 0 []]).length:Nat):Int)=some ():=by
          unfold slq;rw [hL]
          have a1:(0:Int)≤(((ks.filter (· <m+1)).length:Nat):Int):=by omega
          have a2:(((ks.filter (· <m+1)).length:Nat):Int)≤((ks.length+1:Nat):Int):=by omega
          simp only [a1,a2,decide_true,Int.le_refl,show 0<ks.length+1 from by omega,Bool.and_self];rfl
        simp only [Option.bind_some,e1,s1,s2,ZiJ (l:=l) hb (show m+1≤20000 by omega),Int.toNat_natCast]
        have t1':Int.toNat (((((ks.map (stN p l))++ [api_PanelState.mk 0 []]).length:Nat):Int)-(((ks.filter (· <m+1)).length+1:Nat):Int))=((ks.map (stN p l))++ [api_PanelState.mk 0 []]).length-((ks.filter (· <m+1)).length+1):=by rw [hL];omega
        have t2':Int.toNat (((((ks.map (stN p l))++ [api_PanelState.mk 0 []]).length:Nat):Int)-(((ks.filter (· <m+1)).length:Nat):Int))=((ks.map (stN p l))++ [api_PanelState.mk 0 []]).length-(ks.filter (· <m+1)).length:=by rw [hL];omega
        rw [t1',t2']
        have hcc: ∃ z,(cpy ((ks.map (stN p l))++ [api_PanelState.mk 0 []]) ((ks.filter (· <m+1)).length+1) (((ks.map (stN p l))++ [api_PanelState.mk 0 []]).length-((ks.filter (· <m+1)).length+1)) (ks.filter (· <m+1)).length (((ks.map (stN p l))++ [api_PanelState.mk 0 []]).length-(ks.filter (· <m+1)).length))[(ks.filter (· <m+1)).length]?=some z:=
          Xg (by rw [Zcg (by rw [hL];omega) (by rw [hL];omega),hL];omega)
        obtain⟨z,hz⟩:=hcc
        rw [ZS hz]
        simp only [Option.bind_some]
        rw [Zk8 _ _ _ (by rw [List.length_map];exact hcl')]
        have:=Zlb (p:=p) (l:=l) h hin
        unfold ins at this
        rw [if_pos ⟨by omega,by rw [List.length_map];omega,by rw [List.length_map];omega,rfl⟩,Int.toNat_natCast] at this
        rw [Option.some.injEq] at this
        rw [this]
  · simp only [hq,decide_false,Bool.not_false,if_true,if_false]
end Go.Vx

namespace Go.Vx
open Go Go.RowKit
theorem ZpJ{p:api_Panel}{l:List api_Track}(hb:XC p l=0){keep:Int}(hk:1≤keep∧keep≤1000){marks:List api_Bookmark}{ks:List Nat}(h:KS ks){m n:Nat}(hmn:m+n≤20000)
    {body:api_Panel→List api_Track→Int→api_PanelState→List api_PanelState→List api_Bookmark→Int→Option ((api_Panel×(List api_Track)×Int×api_PanelState×(List api_PanelState)×(List api_Bookmark)×Int) ⊕ (api_Panel×(List api_Track)×Int×api_PanelState×(List api_PanelState)×(List api_Bookmark)))}
    (hbody: ∀ p l keep s kept marks i,body p l keep s kept marks i=if(decide (i<(n:Int)))=true then(XO (ref8_Replay.mk p l keep s kept marks)).bind fun y=>some (.inl (y.p,y.l,y.keep,y.state,y.kept,y.marks,(i64 (i+1)))) else some (.inr (p,l,keep,s,kept,marks))):
    loop (t7 body) (p,l,keep,stN p l m,ks.map (stN p l),marks,0)=some (p,l,keep,stN p l (m+n),(ZeY keep m n ks).map (stN p l),marks):=by
  refine ZcB (body:=t7 body) (fun s=> ∃ j:Nat,j≤n∧s=(p,l,keep,stN p l (m+j),(ZeY keep m j ks).map (stN p l),marks,(j:Int))) (fun s=>n-s.2.2.2.2.2.2.toNat) (fun _=>(p,l,keep,stN p l (m+n),(ZeY keep m n ks).map (stN p l),marks)) ?_ _ ⟨0,Nat.zero_le _,rfl⟩
  rintro s ⟨j,hj,rfl⟩
  have hks:=Zg0 (keep:=keep) (m:=m) h j (by omega)
  rcases Nat.lt_or_ge j n with hlt |hge
  · left
    have e1:i64 ((j:Int)+1)=((j+1:Nat):Int):=by rw [show(j:Int)+1=((j+1:Nat):Int) by omega];exact ZE (by omega) (by omega)
    have hlt':(j:Int)<n:=by omega
    refine⟨(p,l,keep,stN p l (m+(j+1)),(ZeY keep m (j+1) ks).map (stN p l),marks,((j+1:Nat):Int)),?_,⟨j+1,hlt,rfl⟩,by simp only [Int.toNat_natCast];omega,rfl⟩
    simp only [Zpw,hbody,hlt',decide_true,if_true,Zq8 (l:=l) hb hk hks (marks:=marks) (m:=m+j) (by omega),Option.bind_some,e1]
    rfl
  · right
    have:j=n:=by omega
    subst this
    simp [Zpw,hbody]
theorem Zl4{p:api_Panel}{l:List api_Track}(hb:XC p l=0)(hw: ∀ x∈p.Instruments,Zic x):Zdw p=some (stN p l 0,0):=by
  have b1:=(Zcw hb).1
  have hlp:=Zct b1
  unfold Zdw
  rw [Zla p hw,b1]
  simp only [Option.bind_some,decide_true,Bool.not_true,Bool.false_eq_true,if_false]
  rw [ZmC (by omega)];rfl
theorem Zpc{p:api_Panel}{l:List api_Track}(hb:XC p l=0){keep:Int}(hk:1≤keep∧keep≤1000){marks:List api_Bookmark}{ks:List Nat}(h:KS ks){m:Nat}(hm:m≤20000)(n:Int):
    (∃ ks' m',KS ks'∧m'≤20000∧Qc (panel_Replay.mk p l keep (stN p l m) (ks.map (stN p l)) marks) n=some (if n<0∨20000-(m:Int)<n then 9 else 0,panel_Replay.mk p l keep (stN p l m') (ks'.map (stN p l)) marks)∧
      Xb (ref8_Replay.mk p l keep (stN p l m) (ks.map (stN p l)) marks) n=some (if n<0∨20000-(m:Int)<n then 9 else 0,ref8_Replay.mk p l keep (stN p l m') (ks'.map (stN p l)) marks)):=by
  have e2:i64 (19999-(stN p l m).Frame)=20000-(m:Int):=by
    rw [ZbP hb hm,show 19999-((m:Int)-1)=20000-(m:Int) by omega]
    exact ZE (by omega) (by omega)
  by_cases hn:n<0∨20000-(m:Int)<n
  · refine⟨ks,m,h,hm,?_,?_⟩
    · unfold Qc
      simp only [e2]
      rw [if_pos (by simpa using hn),if_pos hn]
    · unfold Xb
      simp only [e2]
      rw [if_pos (by simpa using hn),if_pos hn]
  · obtain⟨N,rfl⟩:=Int.eq_ofNat_of_zero_le (show 0≤n by omega)
    refine⟨ZeY keep m N ks,m+N,Zg0 h N (by omega),by omega,?_,?_⟩
    · unfold Qc
      simp only [e2]
      rw [if_neg (by simpa using hn),if_neg hn]
      change ((Qy _ _).bind fun y=>some (0,y))=_
      unfold Qy
      rw [Zpt hb hk h (by omega)];rfl
    · unfold Xb
      simp only [e2]
      rw [if_neg (by simpa using hn),if_neg hn,ZpJ (n:=N) (m:=m) (body:=Zbd (N:Int)) hb hk h (by omega) (fun p l keep s kept marks i=>rfl)]
      rfl
theorem ZoZ{ks:List Nat}{k x N:Nat}(hx:ks[k]?=some x):kb (ks.take (k+1)) N=if x≤N then x else kb (ks.take k) N:=by
  have hk:=(List.getElem?_eq_some_iff.1 hx).1
  rw [List.getElem?_eq_getElem hk] at hx
  have e:ks.take (k+1)=ks.take k++ [x]:=by
    rw [List.take_succ_eq_append_getElem hk]
    cases hx;rfl
  unfold kb
  rw [e,List.filter_append]
  by_cases h:x≤N
  · rw [if_pos h,List.filter_cons_of_pos (by simpa using h)]
    simp
  · rw [if_neg h,List.filter_cons_of_neg (by simpa using h)]
    simp
theorem ZqV{ks:List Nat}(h:Ris ks){k x N:Nat}(hx:ks[k]?=some x)(hx1:1≤x):kb (ks.take k) N<x:=by
  unfold kb
  cases hl:((ks.take k).filter (fun x=>decide (x≤N))).getLast? with
  |none=>simp only [Option.getD_none];omega
  |some y=>
    have hy:=(List.mem_filter.1 (List.mem_of_getLast? hl)).1
    obtain⟨j,hj,e⟩:=List.getElem_of_mem hy
    rw [List.length_take] at hj
    have hk:=(List.getElem?_eq_some_iff.1 hx).1
    rw [List.getElem?_eq_getElem hk] at hx
    have:=List.pairwise_iff_getElem.1 h j k (by omega) hk (by omega)
    simp only [Option.getD_some]
    rw [List.getElem_take] at e
    cases hx
    omega
theorem ZpN{ks:List Nat}{m N:Nat}:sb m ks N=max (if m≤N∧0<m then m else 0) (kb ks N):=by
  unfold sb
  split<;>split<;>omega
theorem Znh{p:api_Panel}{l:List api_Track}(hb:XC p l=0)(hw: ∀ x∈p.Instruments,Zic x){keep:Int}(hk:1≤keep∧keep≤1000){marks:List api_Bookmark}{ks:List Nat}(h:KS ks){m N:Nat}(hm:m≤20000)(hN:N≤20000){f:Int}(hf:f=(N:Int)-1):
    Qt (ref8_Replay.mk p l keep (stN p l m) (ks.map (stN p l)) marks) f=
      some (((N-sb m ks N:Nat):Int),0,ref8_Replay.mk p l keep (stN p l N) ((ZeY keep (sb m ks N) (N-sb m ks N) ks).map (stN p l)) marks):=by
  have hw1:Z0 f (-1) 19999=some false:=by unfold Z0;rw [hf];congr 1;simp only [Bool.or_eq_false_iff,decide_eq_false_iff_not];omega
  have hlen:=Zku h
  have hbl:sb m ks N≤N:=Zna
  have hb0:((if((decide ((stN p l m).Frame≤f))&&(decide ((stN p l 0).Frame<(stN p l m).Frame)))=true then some (stN p l m) else some (stN p l 0)):Option api_PanelState)=some (stN p l (if m≤N∧0<m then m else 0)):=by
    rw [ZbP hb hm,ZbP hb (show 0≤20000 by omega),hf]
    by_cases hc:m≤N∧0<m
    · rw [if_pos (by simp only [Bool.and_eq_true,decide_eq_true_eq];omega),if_pos hc]
    · rw [if_neg (by simp only [Bool.and_eq_true,decide_eq_true_eq];omega),if_neg hc]
  have hloop:loop (t2 (Q6 (ref8_Replay.mk p l keep (stN p l m) (ks.map (stN p l)) marks) f)) (stN p l (if m≤N∧0<m then m else 0),0)=some (stN p l (sb m ks N)):=by
    have hB0:(if m≤N∧0<m then m else 0)≤20000:=by split<;>omega
    refine ZaZ (xs:=ks) (body:=Q6 (ref8_Replay.mk p l keep (stN p l m) (ks.map (stN p l)) marks) f)
      (fun a k=>a=stN p l (max (if m≤N∧0<m then m else 0) (kb (ks.take k) N))) (fun _ _=>stN p l (sb m ks N)) (fun a k x ha hx=> ?_) (fun a ha=> ?_) (by simp [kb])
    · left
      subst ha
      have hlt:=Xm hx
      have hxk:=h.2 x (List.mem_of_getElem? hx)
      have hxm:(ks.map (stN p l))[k]?=some (stN p l x):=by rw [List.getElem?_map,hx];rfl
      have e1:i64 ((k:Int)+1)=(k:Int)+1:=ZE (by omega) (by omega)
      have hkl:=ZqV h.1 (N:=N) hx hxk.1
      have hkN:kb (ks.take k) N≤N:=Zn9
      have hmx:max (if m≤N∧0<m then m else 0) (kb (ks.take k) N)≤20000:=by omega
      refine⟨_,?_,rfl,rfl⟩
      simp only [Q6,List.length_map,hlt,decide_true,if_true,ZS hxm,Option.bind_some,ZbP hb hxk.2,ZbP hb hmx,hf,e1,ZoZ hx]
      by_cases hxN:x≤N
      · by_cases hlt2:max (if m≤N∧0<m then m else 0) (kb (ks.take k) N)<x
        · rw [if_pos (by simp only [Bool.and_eq_true,decide_eq_true_eq];omega),if_pos hxN,Nat.max_eq_right (by omega)]
        · rw [if_neg (by simp only [Bool.and_eq_true,decide_eq_true_eq];omega),if_pos hxN]
          congr 4;omega
      · rw [if_neg (by simp only [Bool.and_eq_true,decide_eq_true_eq];omega),if_neg hxN]
    · subst ha
      rw [List.take_length,←ZpN]
      simp [Q6]
  unfold Qt
  rw [hw1]
  simp only [Option.bind_some,Bool.false_eq_true,if_false,Zl4 (l:=l) hb hw]
  rw [hb0]
  simp only [Option.bind_some,t1]
  rw [hloop]
  simp only [Option.bind_some,t1,ZiJ (l:=l) hb (Nat.le_trans hbl hN)]
  have en:i64 (f-(stN p l (sb m ks N)).Frame)=((N-sb m ks N:Nat):Int):=by
    rw [ZbP hb (Nat.le_trans hbl hN),hf,show(N:Int)-1-(((sb m ks N:Nat):Int)-1)=((N-sb m ks N:Nat):Int) by omega]
    exact ZE (by omega) (by omega)
  rw [ZpJ (n:=N-sb m ks N) (m:=sb m ks N) (body:=JN f (stN p l (sb m ks N))) hb hk h (by omega) (fun p l keep s kept marks i=>by simp only [JN,en])]
  simp only [Option.bind_some,ZqM,en,show sb m ks N+(N-sb m ks N)=N by omega]
theorem Zoe{r:panel_Replay}{f:Int}(h: ¬(-1≤f∧f≤19999)):Qd r f=some (0,9,r):=by
  have hw:ZM f (-1) 19999=some false:=by
    unfold ZM;congr 1;rw [Bool.and_eq_false_iff]
    simp only [decide_eq_false_iff_not];omega
  unfold Qd;rw [hw];rfl
theorem Znr{r:ref8_Replay}{f:Int}(h: ¬(-1≤f∧f≤19999)):Qt r f=some (0,9,r):=by
  have hw:Z0 f (-1) 19999=some true:=by
    unfold Z0;congr 1;rw [Bool.or_eq_true]
    simp only [decide_eq_true_eq];omega
  unfold Qt;rw [hw];rfl
end Go.Vx
