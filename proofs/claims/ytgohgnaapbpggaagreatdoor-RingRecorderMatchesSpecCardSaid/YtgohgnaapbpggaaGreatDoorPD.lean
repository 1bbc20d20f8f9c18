/- A text of the proof: a verified executor of the program form, or the contracts of the functions that the law reaches. -/
import Derived.Test.YtgohgnaapbpggaaGreatDoorPC
import Derived.Test.YtgohgnaapbpggaaGreatDoorPA
set_option linter.all false
namespace Go.Vx
open Go Go.RowKit
def Zlq(a:ring_Recorder)(b:ref3_Recorder)(i:Int):List api_Memory×List ring_spot×Int×Bool×Bool×Int×Bool×List api_Memory×Int×List ref3_stand×Bool×Bool×Int×Bool×Int×Int:=
  (a.bank.memories,a.bank.spots,a.copies,a.frozen,a.stopped,a.last,a.some_,b.list,b.copies,b.stands,b.frozen,b.stopped,b.last,b.some_,b.power,i)
theorem Zqa{m:api_Memory}(ok:MemOK m):memSz m:=by
  have h1:=ok.n;have h2:=ok.wear;have h3:=ok.bad;have h4:=ok.slots
  refine⟨by omega,fun s hs=> ?_,by omega,by omega⟩
  have:=ok.row s hs
  omega
theorem ZoE{deeds:List law3_Deed}(hn:deeds.length<9223372036854775808)(hD: ∀ d∈deeds,fU d.Frame){copies:Int}{a:ring_Recorder}{b:ref3_Recorder}(h:Sim a b)(hc:a.copies=copies):
    ∃ a' b',loop (t16 (ZZ deeds)) (Zlq a b 0)=some (.inr (a'.bank.memories,a'.bank.spots,a'.copies,a'.frozen,a'.stopped,a'.last,a'.some_,b'.list,b'.copies,b'.stands,b'.frozen,b'.stopped,b'.last,b'.some_,b'.power))∧Sim a' b'∧a'.copies=copies:=by
  obtain⟨r,h1,a',b',rfl,h2,h3⟩:=Ze4 (body:=t16 (ZZ deeds)) (fun s=> ∃ a b,∃ k:Nat,s=Zlq a b (k:Int)∧k≤deeds.length∧Sim a b∧a.copies=copies) (fun s=>deeds.length-s.2.2.2.2.2.2.2.2.2.2.2.2.2.2.2.toNat)
    (fun r=> ∃ a' b',r= .inr (a'.bank.memories,a'.bank.spots,a'.copies,a'.frozen,a'.stopped,a'.last,a'.some_,b'.list,b'.copies,b'.stands,b'.frozen,b'.stopped,b'.last,b'.some_,b'.power)∧Sim a' b'∧a'.copies=copies) (by
      rintro s ⟨a,b,k,rfl,hk,hS,hcp⟩
      show(∃ s',ZZ deeds a.bank.memories a.bank.spots a.copies a.frozen a.stopped a.last a.some_ b.list b.copies b.stands b.frozen b.stopped b.last b.some_ b.power (k:Int)=some (.inl s')∧_)∨ ∃ r,ZZ deeds a.bank.memories a.bank.spots a.copies a.frozen a.stopped a.last a.some_ b.list b.copies b.stands b.frozen b.stopped b.last b.some_ b.power (k:Int)=some (.inr r)∧_
      unfold ZZ
      rcases Nat.lt_or_ge k deeds.length with hlt |hge
      · obtain⟨d,hd⟩:=Za5 hlt
        have hf:=hD d (List.mem_of_getElem? hd)
        left
        rw [pG (by simpa using hlt),Zs hd,oB]
        have key: ∃ left all e a' b',((if d.Freeze=true then
            (XK a d.Power).bind fun y8=>
            (XD b d.Power).bind fun y9=>
            some (y8.2.2.2.bank.memories,y8.2.2.2.bank.spots,y8.2.2.2.copies,y8.2.2.2.frozen,y8.2.2.2.stopped,y8.2.2.2.last,y8.2.2.2.some_,y9.2.2.2.list,y9.2.2.2.copies,y9.2.2.2.stands,y9.2.2.2.frozen,y9.2.2.2.stopped,y9.2.2.2.last,y9.2.2.2.some_,y9.2.2.2.power,y8.1,y8.2.1,y8.2.2.1,y9.1,y9.2.1,y9.2.2.1)
            else
            (QB a d.Frame d.Power).bind fun y10=>
            (XH b d.Frame d.Power).bind fun y11=>
            some (y10.2.2.2.bank.memories,y10.2.2.2.bank.spots,y10.2.2.2.copies,y10.2.2.2.frozen,y10.2.2.2.stopped,y10.2.2.2.last,y10.2.2.2.some_,y11.2.2.2.list,y11.2.2.2.copies,y11.2.2.2.stands,y11.2.2.2.frozen,y11.2.2.2.stopped,y11.2.2.2.last,y11.2.2.2.some_,y11.2.2.2.power,y10.1,y10.2.1,y10.2.2.1,y11.1,y11.2.1,y11.2.2.1)):Option (List api_Memory×List ring_spot×Int×Bool×Bool×Int×Bool×List api_Memory×Int×List ref3_stand×Bool×Bool×Int×Bool×Int×Int×Bool×Int×Int×Bool×Int))=
            some (a'.bank.memories,a'.bank.spots,a'.copies,a'.frozen,a'.stopped,a'.last,a'.some_,b'.list,b'.copies,b'.stands,b'.frozen,b'.stopped,b'.last,b'.some_,b'.power,left,all,e,left,all,e)∧Sim a' b'∧a'.copies=copies:=by
          by_cases hz:d.Freeze=true
          · obtain⟨left,all,e,a',b',f1,f2,f3,f4⟩:=Znw hS d.Power
            exact⟨left,all,e,a',b',by rw [pG hz,f1,oB,f2];rfl,f3,f4.trans hcp⟩
          · obtain⟨left,all,e,a',b',f1,f2,f3,f4⟩:=Znj hS hf d.Power
            exact⟨left,all,e,a',b',by rw [nG hz,f1,oB,f2];rfl,f3,f4.trans hcp⟩
        obtain⟨left,all,e,a',b',k1,k2,k3⟩:=key
        rw [show i64 ((k:Int)+1)=(k:Int)+1 from Zr (by omega) (by omega)]
        refine⟨Zlq a' b' ((k:Int)+1),?_,⟨a',b',k+1,by push_cast;rfl,hlt,k2,k3⟩,by simp only [Zlq];omega⟩
        refine(congrArg (fun z=>Option.bind z _) k1).trans ?_
        simp only [oB,ZrA,ZaZ,ZaY]
        rw [k2.last,k2.some']
        simp [Zlq,k2.last,k2.some']
      · have:k=deeds.length:=by omega
        subst this
        right
        exact⟨_,by rw [nG (by simp)],a,b,rfl,hS,hcp⟩) (Zlq a b 0) ⟨a,b,0,rfl,Nat.zero_le _,h,hc⟩
  exact⟨a',b',h1,h2,h3⟩
theorem Zlu(l:List api_Memory)(copies:Int)(deeds:List law3_Deed)(hl:wfL Zd5 l)(hd:wfL Zgr deeds):Xx l copies deeds=some true:=by
  have hR: ∀ m∈l,memR m:=fun m hm=>ZqU (hl.2 m hm)
  have hD: ∀ d∈deeds,fU d.Frame:=fun d hd'=>Zs7 (hd.2 d hd').2.1
  have hdl:=hd.1
  unfold Xx
  rcases ZlK hR copies with ⟨e,e0,e1,e2,_⟩ | ⟨a,b,e1,e2,hS,hc⟩
  · rw [e1,e2]
    simp only [oB,Sum.elim_inl]
    rw [pG (by simp [e0]),ZoZ]
    simp [gd]
  · rw [e1,e2]
    simp only [oB,Sum.elim_inr]
    rw [nG (by decide)]
    obtain⟨r,h1,rfl⟩:=Ze4 (body:=t16 (Z7 copies deeds)) (fun s=> ∃ a b,∃ k:Nat,s=Zlq a b (k:Int)∧k≤2∧Sim a b∧a.copies=copies) (fun s=>2-s.2.2.2.2.2.2.2.2.2.2.2.2.2.2.2.toNat) (fun r=>r= .inr ()) (by
      rintro s ⟨a,b,k,rfl,hk,hS,hcp⟩
      show(∃ s',Z7 copies deeds a.bank.memories a.bank.spots a.copies a.frozen a.stopped a.last a.some_ b.list b.copies b.stands b.frozen b.stopped b.last b.some_ b.power (k:Int)=some (.inl s')∧_)∨ ∃ r,Z7 copies deeds a.bank.memories a.bank.spots a.copies a.frozen a.stopped a.last a.some_ b.list b.copies b.stands b.frozen b.stopped b.last b.some_ b.power (k:Int)=some (.inr r)∧_
      unfold Z7
      rcases Nat.lt_or_ge k 2 with hlt |hge
      · left
        obtain⟨a',b',f1,f2,f3⟩:=ZoE (by omega) hD hS hcp
        have f1':loop (t16 (ZZ deeds)) (a.bank.memories,a.bank.spots,a.copies,a.frozen,a.stopped,a.last,a.some_,b.list,b.copies,b.stands,b.frozen,b.stopped,b.last,b.some_,b.power,0)=_:=f1
        rw [pG (by simp;omega),f1',oB]
        simp only [Sum.elim_inr,ZrL]
        obtain⟨m1,m2⟩:=ZpW f2
        have m1':Z6 (ring_Recorder.mk (ring_bank.mk a'.bank.memories a'.bank.spots) a'.copies a'.frozen a'.stopped a'.last a'.some_)=_:=m1
        have m2':Xk (ref3_Recorder.mk b'.list b'.copies b'.stands b'.frozen b'.stopped b'.last b'.some_ b'.power)=_:=m2
        have hJ:=f2.J
        have hb:=hJ.b
        have hcp':=hJ.cp
        rw [m1',oB,m2',oB,eqM (by have:=hb.n;omega) (fun m hm=>Zqa (hb.ok m hm)),oB,nG (by decide)]
        rcases ZlK hb.u8 copies with ⟨e,e0,g1,g2,g3⟩ | ⟨a2,b2,g1,g2,g3,g4⟩
        · exact absurd ⟨⟨hb.n,hb.ok⟩,by omega,by omega⟩ g3
        · rw [g1,oB]
          simp only [Sum.elim_inr]
          rw [g2,oB]
          simp only [Sum.elim_inr]
          rw [nG (by decide),show i64 ((k:Int)+1)=(k:Int)+1 from Zr (by omega) (by omega)]
          exact⟨Zlq a2 b2 ((k:Int)+1),rfl,⟨a2,b2,k+1,by push_cast;rfl,hlt,g3,g4⟩,by simp only [Zlq];omega⟩
      · right
        exact⟨.inr (),by rw [nG (by simp;omega)],rfl⟩) (Zlq a b 0) ⟨a,b,0,rfl,by omega,hS,hc⟩
    have h1':loop (t16 (Z7 copies deeds)) (a.bank.memories,a.bank.spots,a.copies,a.frozen,a.stopped,a.last,a.some_,b.list,b.copies,b.stands,b.frozen,b.stopped,b.last,b.some_,b.power,0)=_:=h1
    rw [h1',oB]
    simp only [Sum.elim_inr,Zpz,ZoZ,oB]
end Go.Vx
