/- A text of the proof: a verified executor of the program form, or the contracts of the functions that the law reaches. -/
import Derived.Test.YtailpehcgelmdaaGreatDoorPB
import Derived.Test.YtailpehcgelmdaaGreatDoorPA
set_option linter.all false
namespace Go.Vx
open Go Go.RowKit
def MK(ms:List api_Bookmark):Prop:=ms.length≤100∧ ∀ x∈ms,0≤x.Frame∧x.Frame≤19999
def mkV(ms:List api_Bookmark)(f:Int)(tx:Str):List api_Bookmark:=
  ms.take (dnC (fun x=>decide (f<x.Frame)) ms ms.length)++ [api_Bookmark.mk f tx]++ms.drop (dnC (fun x=>decide (f<x.Frame)) ms ms.length)
theorem ZpV{ms:List api_Bookmark}(h:MK ms)(hl:ms.length<100){f:Int}(hf:0≤f∧f≤19999)(tx:Str):MK (mkV ms f tx):=by
  have hc:=ZmF (q:=fun x:api_Bookmark=>decide (f<x.Frame)) (xs:=ms) ms.length
  refine⟨by unfold mkV;simp;omega,fun x hx=> ?_⟩
  unfold mkV at hx
  rcases List.mem_append.1 hx with hx |hx
  · rcases List.mem_append.1 hx with hx |hx
    · exact h.2 x (List.mem_of_mem_take hx)
    · rw [List.mem_singleton.1 hx];exact hf
  · exact h.2 x (List.mem_of_mem_drop hx)
theorem Zo1{p:api_Panel}{l:List api_Track}{keep:Int}{s:api_PanelState}{kept:List api_PanelState}{ms:List api_Bookmark}(h:MK ms)(tx:Str)(hs: -1≤s.Frame∧s.Frame≤19999):
    ∃ e ms',MK ms'∧QC (panel_Replay.mk p l keep s kept ms) tx=some (e,panel_Replay.mk p l keep s kept ms')∧
      QM (ref8_Replay.mk p l keep s kept ms) tx=some (e,ref8_Replay.mk p l keep s kept ms'):=by
  have hlen:=h.1
  by_cases h0:s.Frame<0
  · exact⟨11,ms,h,by unfold QC;simp [h0],by unfold QM;simp [h0]⟩
  · by_cases h1:(decide (100<(tx.length:Int)) || decide (100≤(ms.length:Int)))=true
    · exact⟨3,ms,h,by unfold QC;simp only [h0,decide_false,Bool.false_eq_true,if_false];rw [if_pos h1],by unfold QM;simp only [h0,decide_false,Bool.false_eq_true,if_false];rw [if_pos h1]⟩
    · have hl:ms.length<100:=by
        simp only [Bool.or_eq_true,decide_eq_true_eq] at h1;omega
      have hc:=ZmF (q:=fun x:api_Bookmark=>decide (s.Frame<x.Frame)) (xs:=ms) ms.length
      refine⟨0,mkV ms s.Frame tx,ZpV h hl (by omega) tx,?_,?_⟩
      · unfold QC
        simp only [h0,decide_false,Bool.false_eq_true,if_false]
        rw [if_neg h1,Zp1 (xs:=ms) (d0:=api_Bookmark.mk 0 []) (q:=fun x=>decide (s.Frame<x.Frame)) (body:=ZaG (panel_Replay.mk p l keep s kept ms)) (fun at_=>rfl) (by omega)]
        simp only [Option.bind_some,t1]
        unfold ins
        rw [if_pos ⟨by omega,by omega,by omega,rfl⟩,Int.toNat_natCast]
        rfl
      · unfold QM
        simp only [h0,decide_false,Bool.false_eq_true,if_false]
        rw [if_neg h1,Zp1 (xs:=ms) (d0:=api_Bookmark.mk 0 []) (q:=fun x=>decide (s.Frame<x.Frame)) (body:=Zbc (ref8_Replay.mk p l keep s kept ms)) (fun at_=>rfl) (by omega)]
        simp only [Option.bind_some,t1]
        unfold mkV
        generalize dnC (fun x:api_Bookmark=>decide (s.Frame<x.Frame)) ms ms.length=c at hc ⊢
        rw [ZcF (show ms.length+ [api_Bookmark.mk s.Frame tx].length≤4294967296 by simp;omega)]
        have hL:(ms++ [api_Bookmark.mk s.Frame tx]).length=ms.length+1:=by simp
        have e1:i64 ((c:Int)+1)=((c+1:Nat):Int):=by
          rw [show(c:Int)+1=((c+1:Nat):Int) by omega]
          exact ZE (by omega) (by omega)
        have s1:slq (ms++ [api_Bookmark.mk s.Frame tx]) ((c+1:Nat):Int) (((ms++ [api_Bookmark.mk s.Frame tx]).length:Nat):Int)=some ():=by
          unfold slq;rw [hL]
          have a1:(0:Int)≤((c+1:Nat):Int):=by omega
          have a2:((c+1:Nat):Int)≤((ms.length+1:Nat):Int):=by omega
          simp only [a1,a2,decide_true,Int.le_refl,show 0<ms.length+1 from by omega,Bool.and_self];rfl
        have s2:slq (ms++ [api_Bookmark.mk s.Frame tx]) (c:Int) (((ms++ [api_Bookmark.mk s.Frame tx]).length:Nat):Int)=some ():=by
          unfold slq;rw [hL]
          have a1:(0:Int)≤(c:Int):=by omega
          have a2:(c:Int)≤((ms.length+1:Nat):Int):=by omega
          simp only [a1,a2,decide_true,Int.le_refl,show 0<ms.length+1 from by omega,Bool.and_self];rfl
        simp only [Option.bind_some,e1,s1,s2,Int.toNat_natCast]
        have t1':Int.toNat ((((ms++ [api_Bookmark.mk s.Frame tx]).length:Nat):Int)-((c+1:Nat):Int))=(ms++ [api_Bookmark.mk s.Frame tx]).length-(c+1):=by rw [hL];omega
        have t2':Int.toNat ((((ms++ [api_Bookmark.mk s.Frame tx]).length:Nat):Int)-(c:Int))=(ms++ [api_Bookmark.mk s.Frame tx]).length-c:=by rw [hL];omega
        rw [t1',t2']
        obtain⟨z,hz⟩:=Xg (xs:=cpy (ms++ [api_Bookmark.mk s.Frame tx]) (c+1) ((ms++ [api_Bookmark.mk s.Frame tx]).length-(c+1)) c ((ms++ [api_Bookmark.mk s.Frame tx]).length-c)) (k:=c) (by rw [Zcg (by rw [hL];omega) (by rw [hL];omega),hL];omega)
        rw [ZS hz]
        simp only [Option.bind_some]
        rw [Zk8 _ _ _ hc]
def nx(cur:Int)(back:Bool):List api_Bookmark→Int×Bool→Int×Bool
  | [],a=>a
  |x::t,a=>nx cur back t (if((back&&decide (x.Frame<cur)) || ((!back)&&decide (cur<x.Frame)&& !a.2))=true then(x.Frame,true) else a)
theorem Zlr(cur:Int)(back:Bool)(x:api_Bookmark): ∀ (ms:List api_Bookmark) (a:Int×Bool),nx cur back (ms++ [x]) a=(if((back&&decide (x.Frame<cur)) || ((!back)&&decide (cur<x.Frame)&& !(nx cur back ms a).2))=true then(x.Frame,true) else nx cur back ms a)
  | [],a=>rfl
  |y::t,a=>Zlr cur back x t _
theorem ZhV{α:Type}{xs:List α}{k:Nat}{x:α}(hx:xs[k]?=some x):xs.take (k+1)=xs.take k++ [x]:=by
  have hk:=(List.getElem?_eq_some_iff.1 hx).1
  rw [List.getElem?_eq_getElem hk] at hx
  rw [List.take_succ_eq_append_getElem hk]
  cases hx;rfl
theorem ZnU{cur:Int}{back:Bool}: ∀ (ms:List api_Bookmark) (a:Int×Bool),(∀ x∈ms,0≤x.Frame∧x.Frame≤19999)→(a.2=true→0≤a.1∧a.1≤19999)→(nx cur back ms a).2=true→0≤(nx cur back ms a).1∧(nx cur back ms a).1≤19999
  | [],a,_,ha,h=>ha h
  |x::t,a,hm,ha,h=>ZnU t _ (fun y hy=>hm y (List.mem_cons_of_mem _ hy)) (by split<;>intro h2<;>first |exact hm x (by simp) |exact ha h2) h
theorem Zph{r:panel_Replay}(hl:r.marks.length≤100)(back:Bool):loop (t3 (QZ r back)) (0,false,0)=some (nx r.state.Frame back r.marks (0,false)):=by
  refine ZcB (body:=t3 (QZ r back)) (fun s=> ∃ k:Nat,k≤r.marks.length∧s=((nx r.state.Frame back (r.marks.take k) (0,false)).1,(nx r.state.Frame back (r.marks.take k) (0,false)).2,(k:Int))) (fun s=>r.marks.length-s.2.2.toNat) (fun _=>nx r.state.Frame back r.marks (0,false)) ?_ _ ⟨0,Nat.zero_le _,rfl⟩
  rintro s ⟨k,hk,rfl⟩
  rcases Nat.lt_or_ge k r.marks.length with hlt |hge
  · left
    obtain⟨x,hx⟩:=Xg hlt
    have hlt':(k:Int)<r.marks.length:=by omega
    have e1:i64 ((k:Int)+1)=((k+1:Nat):Int):=by rw [show(k:Int)+1=((k+1:Nat):Int) by omega];exact ZE (by omega) (by omega)
    refine⟨((nx r.state.Frame back (r.marks.take (k+1)) (0,false)).1,(nx r.state.Frame back (r.marks.take (k+1)) (0,false)).2,((k+1:Nat):Int)),?_,⟨k+1,hlt,rfl⟩,by simp only [Int.toNat_natCast];omega,rfl⟩
    rw [ZhV hx,Zlr]
    simp only [Zj0,QZ,hlt',decide_true,if_true,ZS hx,Option.bind_some,e1]
    split<;>rfl
  · right
    have:k=r.marks.length:=by omega
    subst this
    simp [Zj0,QZ]
theorem ZoM{r:ref8_Replay}(h:MK r.marks)(back:Bool):loop (t2 (Q8 r back)) (-1,0)=some (if(nx r.state.Frame back r.marks (0,false)).2=true then(nx r.state.Frame back r.marks (0,false)).1 else-1):=by
  have hl:=h.1
  refine ZaZ (xs:=r.marks) (body:=Q8 r back) (fun a k=>a=if(nx r.state.Frame back (r.marks.take k) (0,false)).2=true then(nx r.state.Frame back (r.marks.take k) (0,false)).1 else-1)
    (fun _ _=>if(nx r.state.Frame back r.marks (0,false)).2=true then(nx r.state.Frame back r.marks (0,false)).1 else-1) (fun a k x ha hx=> ?_) (fun a ha=> ?_) (by simp [nx])
  · left
    have hlt:=Xm hx
    have e1:i64 ((k:Int)+1)=(k:Int)+1:=ZE (by omega) (by omega)
    have hbd:=ZnU (cur:=r.state.Frame) (back:=back) (r.marks.take k) (0,false) (fun y hy=>h.2 y (List.mem_of_mem_take hy)) (fun h=>by cases h)
    have hxf:=h.2 x (List.mem_of_getElem? hx)
    refine⟨_,?_,rfl,rfl⟩
    rw [ZhV hx,Zlr]
    simp only [Q8,hlt,decide_true,if_true,ZS hx,Option.bind_some,e1]
    generalize nx r.state.Frame back (r.marks.take k) (0,false)=z at ha hbd ⊢
    subst ha
    cases back with
    |true=>
      simp only [Bool.true_and,Bool.not_true,Bool.false_and,Bool.or_false,Bool.false_eq_true,if_false]
      by_cases hc:x.Frame<r.state.Frame
      · simp [hc,t1]
      · simp [hc,t1]
    |false=>
      simp only [Bool.false_and,Bool.false_eq_true,if_false,Option.bind_some,t1,Bool.not_false,Bool.true_and,Bool.false_or]
      by_cases hc:r.state.Frame<x.Frame
      · cases hz:z.2 with
        |true=>
          have:=hbd hz
          simp [hc,hz,show ¬z.1<0 by omega]
        |false=>simp [hc,hz]
      · simp [hc]
  · subst ha
    rw [List.take_length]
    simp [Q8]
theorem Zqt{p:api_Panel}{l:List api_Track}(hb:XC p l=0)(hw: ∀ x∈p.Instruments,Zic x){keep:Int}(hk:1≤keep∧keep≤1000){ms:List api_Bookmark}(h:MK ms){ks:List Nat}(hks:KS ks){m:Nat}(hm:m≤20000)(back:Bool):
    ∃ n ok e m' ks',m'≤20000∧KS ks'∧Q2 (panel_Replay.mk p l keep (stN p l m) (ks.map (stN p l)) ms) back=some (n,ok,e,panel_Replay.mk p l keep (stN p l m') (ks'.map (stN p l)) ms)∧
      XP (ref8_Replay.mk p l keep (stN p l m) (ks.map (stN p l)) ms) back=some (n,ok,e,ref8_Replay.mk p l keep (stN p l m') (ks'.map (stN p l)) ms):=by
  have h1:=Zph (r:=panel_Replay.mk p l keep (stN p l m) (ks.map (stN p l)) ms) h.1 back
  have h2:=ZoM (r:=ref8_Replay.mk p l keep (stN p l m) (ks.map (stN p l)) ms) h back
  have hbd:=ZnU (cur:=(stN p l m).Frame) (back:=back) ms (0,false) h.2 (fun h=>by cases h)
  simp only at h1 h2
  unfold Q2 XP
  rw [h1,h2]
  generalize nx (stN p l m).Frame back ms (0,false)=z at hbd ⊢
  obtain⟨to,found⟩:=z
  cases found with
  |false=>exact⟨0,false,0,m,ks,hm,hks,rfl,rfl⟩
  |true=>
    have hbd:0≤to∧to≤19999:=hbd rfl
    obtain⟨N,hN⟩:=Int.eq_ofNat_of_zero_le (show 0≤to+1 by omega)
    have s1:=ZnQ (p:=p) (l:=l) hb hk (marks:=ms) hks (m:=m) (N:=N) hm (by omega) (f:=to) (by omega)
    have s2:=Znh (p:=p) (l:=l) hb hw hk (marks:=ms) hks (m:=m) (N:=N) hm (by omega) (f:=to) (by omega)
    refine⟨to,true,0,N,ZeY keep (sb m ks N) (N-sb m ks N) ks,by omega,Zg0 hks _ (by have:=Zna (m:=m) (ks:=ks) (N:=N);omega),?_,?_⟩
    · simp only [Option.bind_some,Zhq,Bool.not_true,Bool.false_eq_true,if_false,s1]
    · simp only [Option.bind_some,t1,if_true,show ¬to<0 by omega,decide_false,Bool.false_eq_true,if_false,s2]
theorem Znu{l:List api_Bookmark}(hl:l.length≤1000000):Z5 l l=some true:=by
  have h:loop (t1 (ZN l l)) 0=some (Sum.inr ()):=by
    refine ZeP (xs:=l) (body:=ZN l l) (fun _=>Sum.inr ()) (fun k x hx=> .inl ⟨?_,rfl⟩) (by simp [ZN])
    have hlt:=Xm hx
    have e1:i64 ((k:Int)+1)=(k:Int)+1:=ZE (by omega) (by omega)
    simp [ZN,hlt,ZS hx,e1]
  unfold Z5
  rw [h];simp
theorem Zn7{xs:List api_PanelState}(hl:xs.length≤1000000){body:List Int→Int→Option (((List Int)×Int) ⊕ (List Int))}
    (hbody: ∀ a i,body a i=if(decide (i<(xs.length:Int)))=true then(idx xs i).bind fun x=>(app a ([x.Frame]:List Int)).bind fun l=>some (.inl (l,(i64 (i+1)))) else some (.inr a)):
    loop (t2 body) ([],0)=some (xs.map fun x=>x.Frame):=by
  refine ZaZ (xs:=xs) (body:=body) (a0:= []) (fun a k=>a=(xs.take k).map fun x=>x.Frame) (fun _ _=>xs.map fun x=>x.Frame) (fun a k x ha hx=> ?_) (fun a ha=> ?_) (by simp)
  · left
    subst ha
    have hlt:=Xm hx
    have e1:i64 ((k:Int)+1)=(k:Int)+1:=ZE (by omega) (by omega)
    refine⟨((xs.take k).map fun x=>x.Frame)++ [x.Frame],?_,by rw [ZhV hx];simp,rfl⟩
    simp only [hbody,hlt,decide_true,if_true,ZS hx,Option.bind_some,e1]
    rw [ZcF (show((xs.take k).map fun x=>x.Frame).length+ [x.Frame].length≤4294967296 by simp;omega)]
    rfl
  · subst ha
    rw [hbody]
    simp
theorem Zo9{p:api_Panel}{l:List api_Track}(hb:XC p l=0){keep:Int}{ms:List api_Bookmark}(h:MK ms){ks:List Nat}(hks:KS ks){m:Nat}(hm:m≤20000):
    Zbu (panel_Replay.mk p l keep (stN p l m) (ks.map (stN p l)) ms) (ref8_Replay.mk p l keep (stN p l m) (ks.map (stN p l)) ms)=some true:=by
  have hok:=(ZgW (l:=l) hb m hm).ok
  have hlp:=Zct (Zcw hb).1
  have hkl:=Zku hks
  have hml:=h.1
  have hfe:=Znl (l:=(List.range p.Instruments.length).map (fcV p l (stN p l m))) (by simp;omega)
  have hsm:=ZnD (ZiV (l:=l) hb hm).1 (ZiV (l:=l) hb hm).2
  have k1:Zar (panel_Replay.mk p l keep (stN p l m) (ks.map (stN p l)) ms)=some ((ks.map (stN p l)).map fun x=>x.Frame):=by
    unfold Zar
    rw [Zn7 (xs:=ks.map (stN p l)) (body:=Zb5 (panel_Replay.mk p l keep (stN p l m) (ks.map (stN p l)) ms)) (by rw [List.length_map];omega) (fun a i=>rfl)];rfl
  have k2:ZaI (ref8_Replay.mk p l keep (stN p l m) (ks.map (stN p l)) ms)=some ((ks.map (stN p l)).map fun x=>x.Frame):=by
    unfold ZaI
    rw [Zn7 (xs:=ks.map (stN p l)) (body:=Zcl (ref8_Replay.mk p l keep (stN p l m) (ks.map (stN p l)) ms)) (by rw [List.length_map];omega) (fun a i=>rfl)];rfl
  have hke:=ZlO (l:=(ks.map (stN p l)).map fun x=>x.Frame) (by simp;omega)
  have m1:JS (panel_Replay.mk p l keep (stN p l m) (ks.map (stN p l)) ms)=some ms:=by
    unfold JS
    simp only [Zdb (show ms.length≤4294967296 by omega),Option.bind_some]
  have m2:Zam (ref8_Replay.mk p l keep (stN p l m) (ks.map (stN p l)) ms)=some ms:=by
    unfold Zam
    simp only [ZcF (show([]:List api_Bookmark).length+ms.length≤4294967296 by simp;omega),Option.bind_some,List.nil_append]
  have hme:=Znu (l:=ms) (by omega)
  unfold Zbu
  simp only [Zbp,ZbT,Zbm,ZbV,Xk,ZbQ,Option.bind_some,decide_true,beq_self_eq_true,if_true,ZjK (l:=l) hb hm,ZiJ (l:=l) hb hm,ZoB,hsm,Bool.true_and,
    (Zm4 hb hok).1,(Zm4 hb hok).2,hfe,k1,k2,hke,m1,m2,hme]
theorem Zp3{p:api_Panel}{l:List api_Track}(hw: ∀ x∈p.Instruments,Zic x)(hs: ∀ x∈l,wfS x.Name)(keep:Int):
    ZdP p l keep=some (if XC p l=0 then(if 1≤keep∧keep≤1000 then Sum.inr (ref8_Replay.mk p l keep (stN p l 0) [] [],0) else Sum.inl 9) else Sum.inl (XC p l)):=by
  unfold ZdP
  rw [Zpj p l hw hs]
  simp only [Option.bind_some]
  by_cases hb:XC p l=0
  · by_cases hk:1≤keep∧keep≤1000
    · have hw1:Z0 keep 1 1000=some false:=by unfold Z0;congr 1;simp only [Bool.or_eq_false_iff,decide_eq_false_iff_not];omega
      simp only [hb,decide_true,Bool.not_true,Bool.false_eq_true,if_false,hw1,Option.bind_some,Zl4 (l:=l) hb hw,if_true,if_pos hk]
    · have hw1:Z0 keep 1 1000=some true:=by unfold Z0;congr 1;simp only [Bool.or_eq_true,decide_eq_true_eq];omega
      simp only [hb,decide_true,Bool.not_true,Bool.false_eq_true,if_false,hw1,Option.bind_some,if_true,if_neg hk]
  · simp [hb]
theorem ZpY{p:api_Panel}{l:List api_Track}(keep:Int):
    Zad p l keep=some (if XC p l=0 then(if 1≤keep∧keep≤1000 then Sum.inr (panel_Replay.mk p l keep (stN p l 0) [] [],0) else Sum.inl 9) else Sum.inl (XC p l)):=by
  by_cases hk:1≤keep∧keep≤1000
  · rw [Zq0 hk,if_pos hk]
  · unfold Zad
    rw [ZmV]
    have hw:ZM keep 1 1000=some false:=by
      unfold ZM;congr 1;rw [Bool.and_eq_false_iff]
      simp only [decide_eq_false_iff_not];omega
    by_cases hb:XC p l=0
    · simp [hb,hw,hk]
    · simp [hb]
theorem Zpl{p:api_Panel}{l:List api_Track}(hb:XC p l=0)(hw: ∀ x∈p.Instruments,Zic x){keep:Int}(hk:1≤keep∧keep≤1000){deeds:List law8_Deed}(hd:deeds.length≤9223372036854775807):
    loop (t13 (Z3 deeds)) (p,l,keep,stN p l 0,[],[],p,l,keep,stN p l 0,[],[],0)=some (Sum.inr ()):=by
  refine ZcB (body:=t13 (Z3 deeds))
    (fun s=> ∃ (j m:Nat) (ks:List Nat) (ms:List api_Bookmark),j≤deeds.length∧m≤20000∧KS ks∧MK ms∧s=(p,l,keep,stN p l m,ks.map (stN p l),ms,p,l,keep,stN p l m,ks.map (stN p l),ms,(j:Int)))
    (fun s=>deeds.length-s.2.2.2.2.2.2.2.2.2.2.2.2.toNat) (fun _=>Sum.inr ()) ?_ _ ⟨0,0,[],[],Nat.zero_le _,Nat.zero_le _,⟨.nil,fun x hx=>by cases hx⟩,⟨by simp,fun x hx=>by cases hx⟩,rfl⟩
  rintro s ⟨j,m,ks,ms,hj,hm,hks,hms,rfl⟩
  rcases Nat.lt_or_ge j deeds.length with hlt |hge
  · left
    obtain⟨x,hx⟩:=Xg hlt
    have hlt':(j:Int)<deeds.length:=by omega
    have e1:i64 ((j:Int)+1)=((j+1:Nat):Int):=by rw [show(j:Int)+1=((j+1:Nat):Int) by omega];exact ZE (by omega) (by omega)
    have hfr:=ZbP (l:=l) hb hm
    have fin: ∀ (m':Nat) (ks':List Nat) (ms':List api_Bookmark) (n:Int) (ok:Bool) (e:Int),m'≤20000→KS ks'→MK ms'→
        (∀ k:(api_Panel×(List api_Track)×Int×api_PanelState×(List api_PanelState)×(List api_Bookmark)×api_Panel×(List api_Track)×Int×api_PanelState×(List api_PanelState)×(List api_Bookmark)×Int×Bool×Int×Int×Bool×Int)→Option ((api_Panel×(List api_Track)×Int×api_PanelState×(List api_PanelState)×(List api_Bookmark)×api_Panel×(List api_Track)×Int×api_PanelState×(List api_PanelState)×(List api_Bookmark)×Int) ⊕ Bool ⊕ Unit),
          (((if(decide (x.Op=0))=true then
  (Qc (panel_Replay.mk p l keep (stN p l m) (ks.map (stN p l)) ms) x.N).bind fun y13=>
  (Xb (ref8_Replay.mk p l keep (stN p l m) (ks.map (stN p l)) ms) x.N).bind fun y14=>
  some (y13.2.p,y13.2.l,y13.2.keep,y13.2.state,y13.2.kept,y13.2.marks,y14.2.p,y14.2.l,y14.2.keep,y14.2.state,y14.2.kept,y14.2.marks,0,false,y13.1,0,false,y14.1)
  else
  if(decide (x.Op=1))=true then
  (Qd (panel_Replay.mk p l keep (stN p l m) (ks.map (stN p l)) ms) x.N).bind fun y15=>
  (Qt (ref8_Replay.mk p l keep (stN p l m) (ks.map (stN p l)) ms) x.N).bind fun y16=>
  some (y15.2.2.p,y15.2.2.l,y15.2.2.keep,y15.2.2.state,y15.2.2.kept,y15.2.2.marks,y16.2.2.p,y16.2.2.l,y16.2.2.keep,y16.2.2.state,y16.2.2.kept,y16.2.2.marks,y15.1,false,y15.2.1,y16.1,false,y16.2.1)
  else
  if(decide (x.Op=2))=true then
  (QC (panel_Replay.mk p l keep (stN p l m) (ks.map (stN p l)) ms) x.Text).bind fun y17=>
  (QM (ref8_Replay.mk p l keep (stN p l m) (ks.map (stN p l)) ms) x.Text).bind fun y18=>
  some (y17.2.p,y17.2.l,y17.2.keep,y17.2.state,y17.2.kept,y17.2.marks,y18.2.p,y18.2.l,y18.2.keep,y18.2.state,y18.2.kept,y18.2.marks,0,false,y17.1,0,false,y18.1)
  else
  (Q2 (panel_Replay.mk p l keep (stN p l m) (ks.map (stN p l)) ms) (decide (x.Op=4))).bind fun y19=>
  (XP (ref8_Replay.mk p l keep (stN p l m) (ks.map (stN p l)) ms) (decide (x.Op=4))).bind fun y20=>
  some (y19.2.2.2.p, y19.2.2.2.l, y19.2.2.2.keep, y19.2.2.2.state, y19.2.2.2.kept, y19.2.2.2.marks, y20.2.2.2.p, y20.2.2.2.l, y20.2.2.2.keep, y20.2.2.2.state, y20.2.2.2.kept, y20.2.2.2.marks, y19.1, y19.2.1, y19.2.2.1, y20.1, y20.2.1, y20.2.2.1)) : Option _).bind k) =
            k (p,l,keep,stN p l m',ks'.map (stN p l),ms',p,l,keep,stN p l m',ks'.map (stN p l),ms',n,ok,e,n,ok,e))→
        ∃ s',t13 (Z3 deeds) (p,l,keep,stN p l m,ks.map (stN p l),ms,p,l,keep,stN p l m,ks.map (stN p l),ms,(j:Int))=some (.inl s')∧
          (∃ (j m:Nat) (ks:List Nat) (ms:List api_Bookmark),j≤deeds.length∧m≤20000∧KS ks∧MK ms∧s'=(p,l,keep,stN p l m,ks.map (stN p l),ms,p,l,keep,stN p l m,ks.map (stN p l),ms,(j:Int)))∧
          deeds.length-s'.2.2.2.2.2.2.2.2.2.2.2.2.toNat<deeds.length-(((j:Int)).toNat)∧(Sum.inr ():Bool ⊕ Unit)=Sum.inr ():=by
      intro m' ks' ms' n ok e hm' hks' hms' hX
      refine⟨(p,l,keep,stN p l m',ks'.map (stN p l),ms',p,l,keep,stN p l m',ks'.map (stN p l),ms',((j+1:Nat):Int)),?_,⟨j+1,m',ks',ms',hlt,hm',hks',hms',rfl⟩,by simp only [Int.toNat_natCast];omega,rfl⟩
      simp only [Zoj,Z3,hlt',decide_true,if_true,ZS hx,Option.bind_some]
      rw [hX]
      simp only [Zp8,decide_true,beq_self_eq_true,Bool.not_true,Bool.or_self,if_true,Zo9 (l:=l) hb hms' hks' hm',Option.bind_some,Bool.false_eq_true,if_false,e1]
    by_cases h0:x.Op=0
    · obtain⟨ks',m',a1,a2,a3,a4⟩:=Zpc hb hk (marks:=ms) hks hm x.N
      exact fin m' ks' ms 0 false _ a2 a1 hms fun k=>by rw [if_pos (decide_eq_true h0),a3,a4];rfl
    · by_cases h1:x.Op=1
      · by_cases hr: -1≤x.N∧x.N≤19999
        · obtain⟨N,hN⟩:=Int.eq_ofNat_of_zero_le (show 0≤x.N+1 by omega)
          have s1:=ZnQ (p:=p) (l:=l) hb hk (marks:=ms) hks (m:=m) (N:=N) hm (by omega) (f:=x.N) (by omega)
          have s2:=Znh (p:=p) (l:=l) hb hw hk (marks:=ms) hks (m:=m) (N:=N) hm (by omega) (f:=x.N) (by omega)
          exact fin N (ZeY keep (sb m ks N) (N-sb m ks N) ks) ms _ false 0 (by omega) (Zg0 (m:=sb m ks N) hks (N-sb m ks N) (by have:=Zna (m:=m) (ks:=ks) (N:=N);omega)) hms fun k=>by rw [if_neg (by simpa using h0),if_pos (decide_eq_true h1),s1,s2];rfl
        · exact fin m ks ms 0 false 9 hm hks hms fun k=>by rw [if_neg (by simpa using h0),if_pos (decide_eq_true h1),Zoe hr,Znr hr];rfl
      · by_cases h2:x.Op=2
        · obtain⟨e,ms',a1,a2,a3⟩:=Zo1 (p:=p) (l:=l) (keep:=keep) (s:=stN p l m) (kept:=ks.map (stN p l)) hms x.Text (by rw [hfr];omega)
          exact fin m ks ms' 0 false e hm hks a1 fun k=>by rw [if_neg (by simpa using h0),if_neg (by simpa using h1),if_pos (decide_eq_true h2),a2,a3];rfl
        · obtain⟨n,ok,e,m',ks',a1,a2,a3,a4⟩:=Zqt hb hw hk hms hks hm (decide (x.Op=4))
          exact fin m' ks' ms n ok e a1 a2 hms fun k=>by rw [if_neg (by simpa using h0),if_neg (by simpa using h1),if_neg (by simpa using h2),a3,a4];rfl
  · right
    have:j=deeds.length:=by omega
    subst this
    simp [Zoj,Z3]
theorem Zmf(p:api_Panel)(l:List api_Track)(keep:Int)(deeds:List law8_Deed)(hp:Zim p)(hlw:wfL Zf6 l)(hdw:wfL Zgc deeds):Xy p l keep deeds=some true:=by
  have hw: ∀ x∈p.Instruments,Zic x:=fun x hx=>by
    have:=hp.1.2 x hx
    exact⟨this.2.1,fun z hz=>(this.2.2.2.2.2.2.2.1.2 z hz).2.2.1⟩
  have hn: ∀ x∈l,wfS x.Name:=fun x hx=>(hlw.2 x hx).1
  unfold Xy
  rw [ZpY,Zp3 hw hn]
  simp only [Option.bind_some]
  by_cases hb:XC p l=0
  · rw [if_pos hb,if_pos hb]
    by_cases hk:1≤keep∧keep≤1000
    · rw [if_pos hk,if_pos hk]
      simp only [Sum.elim_inr,decide_true,Bool.not_true,Bool.or_self,Bool.false_eq_true,if_false,Zpl (l:=l) hb hw hk hdw.1,Option.bind_some,t0,ZlE]
    · rw [if_neg hk,if_neg hk]
      simp [ZlE]
  · rw [if_neg hb,if_neg hb]
    simp [hb,ZlE]
end Go.Vx
