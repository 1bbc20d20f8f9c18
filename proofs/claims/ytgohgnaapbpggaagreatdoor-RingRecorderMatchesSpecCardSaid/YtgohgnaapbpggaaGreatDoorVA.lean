/- A text of the proof: a verified executor of the program form, or the contracts of the functions that the law reaches. -/
import Derived.Orders
import Derived.Tactics
import Derived.Below
import Derived.Laws.Sem
import Derived.Laws.World
import Derived.Laws.AppendOwn
import Derived.Deep.LoopGhost
import Derived.Scope
import Derived.KernelRfl
import Derived.Laws.Small
import Derived.Laws.Slices
import Derived.Laws.Build
import Derived.Laws.Cells
import Derived.Laws.Entries
import Derived.Deep.MidRow
import Derived.Laws.NewBlocks
set_option linter.all false
namespace Go.Vx
open Go Go.RowKit
inductive AV:Type
  |int (k:IntKind) (n:Int)
  |bool (b:Bool)
  |str (s:List UInt8)
  |lit (v:Value)
  |nils
  |sl (e:TypeId) (l:List (List AV))
  |rp (cells:List AV) (off:Nat)
  |own (r n:Nat)
  |ptr (r n i j:Nat)
  |osl (r n j len:Nat)
  |agg (l:List AV)
  |tuple (l:List AV)
  |fn (f:FuncId) (caps:List AV)
  |when (b:Bool) (v:AV)
  |any
  |mref (r n:Nat)
  |bptr (r n:Nat)
  |osub (e:TypeId) (l:List (List AV))
  |mcon (l:List (List AV))
  |slf (e:TypeId) (l:List (List AV))
  |ifc (b:Bool)
structure Loc where
  blk:Option Nat
  cap:Nat
  n:Nat
  sz:Nat
  mp:Bool
  sub:Nat→Prop
abbrev Phi:=Nat→Loc
def Loc.same(L L':Loc):Prop:=L.blk=L'.blk∧L.cap=L'.cap∧L.n=L'.n∧L.sz=L'.sz∧L.mp=L'.mp
theorem Loc.same.refl(L:Loc):L.same L:=⟨rfl,rfl,rfl,rfl,rfl⟩
theorem Loc.same.trans{L M N:Loc}(h:L.same M)(k:M.same N):L.same N:=⟨h.1.trans k.1,h.2.1.trans k.2.1,h.2.2.1.trans k.2.2.1,h.2.2.2.1.trans k.2.2.2.1,h.2.2.2.2.trans k.2.2.2.2⟩
def cellAt(l:List (List AV))(i j:Nat):AV:=(l.getD i []).getD j .any
inductive RelD (P:Program) (w:World) (M:Nat→Prop):AV→Value→Prop
  |int (k:IntKind) (n:Int):RelD P w M (.int k n) (.int k n)
  |bool (b:Bool):RelD P w M (.bool b) (.bool b)
  |str (s:List UInt8):RelD P w M (.str s) (.string ⟨s.toArray⟩)
  |lit (v:Value):RelD P w M (.lit v) v
  |nils:RelD P w M .nils (.slice none 0 0)
  |sl0 (e:TypeId) (a:Option Addr) (c:Nat):RelD P w M (.sl e []) (.slice a 0 c)
  |sl (e:TypeId) (l:List (List AV)) (b off c:Nat) (us:Nat→Nat→Value):b<w.heap.size→ ¬M b→l.length<2^63→l.length≤c→(∀ row∈l,row.length=P.cellsOf e)→
      (∀ i j,i<l.length→j<P.cellsOf e→w.cell? ⟨b,off+(i*P.cellsOf e+j),none⟩=some (us i j))→
      (∀ i j,i<l.length→j<P.cellsOf e→RelD P w M (cellAt l i j) (us i j))→RelD P w M (.sl e l) (.slice (some ⟨b,off,none⟩) l.length c)
  |rp (cells:List AV) (b base off:Nat) (us:Nat→Value):b<w.heap.size→ ¬M b→
      (∀ j,j<cells.length→w.cell? ⟨b,base+j,none⟩=some (us j))→
      (∀ j,j<cells.length→RelD P w M (cells.getD j .any) (us j))→RelD P w M (.rp cells off) (.pointer (some ⟨b,base+off,none⟩))
  |agg (l:List AV) (vs:Array Value):l.length=vs.size→(∀ i,i<l.length→RelD P w M (l.getD i .any) (vs.getD i undef))→RelD P w M (.agg l) (.agg vs)
  |tuple (l:List AV) (vs:Array Value):l.length=vs.size→(∀ i,i<l.length→RelD P w M (l.getD i .any) (vs.getD i undef))→RelD P w M (.tuple l) (.tuple vs)
  |fn (f:FuncId) (l:List AV) (vs:Array Value):l.length=vs.size→(∀ i,i<l.length→RelD P w M (l.getD i .any) (vs.getD i undef))→RelD P w M (.fn f l) (.func (.func f) #[] vs)
  |any (v:Value):RelD P w M .any v
  |slf (e:TypeId) (l:List (List AV)) (v:Value):RelD P w M (.sl e l) v→(∃ a n,v= .slice a n n)→RelD P w M (.slf e l) v
  |ifc (b:Bool) (v:Value):(b=false→v= .nilIface)→(b=true→ ∃ t p,v= .iface t p)→RelD P w M (.ifc b) v
inductive Rel (P:Program) (w:World) (M:Nat→Prop) (φ:Phi):AV→Value→Prop
  |data {av:AV} {v:Value}:RelD P w M av v→Rel P w M φ av v
  |own (r n:Nat) (v:Value):v.oneCell'=true→n≤(φ r).n→((φ r).n=n→(φ r).mp=false∧v= .slice ((φ r).blk.map fun b=>⟨b,0,none⟩) n (φ r).cap)→Rel P w M φ (.own r n) v
  |ptr (r n i j:Nat) (v:Value):v.oneCell'=true→n≤(φ r).n→((φ r).n=n→(φ r).mp=false∧ ∃ b,(φ r).blk=some b∧v= .pointer (some ⟨b,i*(φ r).sz+j,none⟩))→Rel P w M φ (.ptr r n i j) v
  |osl (r n j len:Nat) (v:Value):v.oneCell'=true→n≤(φ r).n→((φ r).n=n→(φ r).mp=false∧ ∃ b j' cap,(φ r).blk=some b∧len≤cap∧(0<len→j'=j)∧v= .slice (some ⟨b,j',none⟩) len cap)→Rel P w M φ (.osl r n j len) v
  |agg (l:List AV) (vs:Array Value):l.length=vs.size→(∀ i,i<l.length→Rel P w M φ (l.getD i .any) (vs.getD i undef))→Rel P w M φ (.agg l) (.agg vs)
  |tuple (l:List AV) (vs:Array Value):l.length=vs.size→(∀ i,i<l.length→Rel P w M φ (l.getD i .any) (vs.getD i undef))→Rel P w M φ (.tuple l) (.tuple vs)
  |fn (f:FuncId) (l:List AV) (vs:Array Value):l.length=vs.size→(∀ i,i<l.length→Rel P w M φ (l.getD i .any) (vs.getD i undef))→Rel P w M φ (.fn f l) (.func (.func f) #[] vs)
  |when (b:Bool) (av:AV) (v:Value):(b=true→Rel P w M φ av v)→(b=false→v=undef)→Rel P w M φ (.when b av) v
  |mref (r n:Nat) (v:Value):v.oneCell'=true→n≤(φ r).n→((φ r).n=n→(φ r).mp=true∧ ∃ b,(φ r).blk=some b∧v= .map (some b))→Rel P w M φ (.mref r n) v
  |bptr (r n:Nat) (v:Value):v.oneCell'=true→n≤(φ r).n→((φ r).n=n→(φ r).mp=false∧(φ r).cap=1∧ ∃ b,(φ r).blk=some b∧(v= .pointer none∨v= .pointer (some ⟨b,0,none⟩)))→Rel P w M φ (.bptr r n) v
theorem RelD.mono{P:Program}{w w':World}{M M':Nat→Prop}{av:AV}{v:Value}(h:RelD P w M av v)(hsz:w.heap.size≤w'.heap.size)
    (hb: ∀ b,b<w.heap.size→ ¬M b→w'.heap[b]?=w.heap[b]?) (hm: ∀ b,b<w.heap.size→ ¬M b→ ¬M' b):RelD P w' M' av v:=by
  induction h with
  |int k n=>exact .int k n
  |bool b=>exact .bool b
  |str s=>exact .str s
  |lit v=>exact .lit v
  |nils=>exact .nils
  |sl0 e a c=>exact .sl0 e a c
  |sl e l b off c us hlt h1 h2 h2' h3 h4 h5 ih=>
    refine .sl e l b off c us (by omega) (hm b hlt h1) h2 h2' h3 (fun i j hi hj=> ?_) ih
    rw [←h4 i j hi hj]
    exact World.cell?_of_block (w:=w) (hb b hlt h1)
  |rp cells b base off us hlt h1 h2 h3 ih=>
    refine .rp cells b base off us (by omega) (hm b hlt h1) (fun j hj=> ?_) ih
    rw [←h2 j hj]
    exact World.cell?_of_block (w:=w) (hb b hlt h1)
  |agg l vs h1 h2 ih=>exact .agg l vs h1 ih
  |tuple l vs h1 h2 ih=>exact .tuple l vs h1 ih
  |fn f l vs h1 h2 ih=>exact .fn f l vs h1 ih
  |any v=>exact .any v
  |slf e l v h hc ih=>exact .slf e l v ih hc
  |ifc b v h1 h2=>exact .ifc b v h1 h2
theorem Rel.mono{P:Program}{w w':World}{M M':Nat→Prop}{φ:Phi}{av:AV}{v:Value}(h:Rel P w M φ av v)(hsz:w.heap.size≤w'.heap.size)
    (hb: ∀ b,b<w.heap.size→ ¬M b→w'.heap[b]?=w.heap[b]?) (hm: ∀ b,b<w.heap.size→ ¬M b→ ¬M' b):Rel P w' M' φ av v:=by
  induction h with
  |data h=>exact .data (h.mono hsz hb hm)
  |own r n v hv h0 h=>exact .own r n v hv h0 h
  |ptr r n i j v hv h0 h=>exact .ptr r n i j v hv h0 h
  |osl r n j len v hv h0 h=>exact .osl r n j len v hv h0 h
  |agg l vs h1 h2 ih=>exact .agg l vs h1 ih
  |tuple l vs h1 h2 ih=>exact .tuple l vs h1 ih
  |fn f l vs h1 h2 ih=>exact .fn f l vs h1 ih
  |when b av v h1 h2 ih=>exact .when b av v ih h2
  |mref r n v hv h0 h=>exact .mref r n v hv h0 h
  |bptr r n v hv h0 h=>exact .bptr r n v hv h0 h
theorem Rel.loc{P:Program}{w:World}{M:Nat→Prop}{φ ψ:Phi}{av:AV}{v:Value}(h:Rel P w M φ av v)(hs: ∀ s,(ψ s).same (φ s)∨(φ s).n<(ψ s).n):Rel P w M ψ av v:=by
  induction h with
  |data h=>exact .data h
  |own r n v hv h0 h=>
    rcases hs r with ⟨e1,e2,e3,e4,e5⟩ |hn
    · exact .own r n v hv (by rw [e3];exact h0) (by rw [e3,e1,e2,e5];exact h)
    · exact .own r n v hv (by omega) (fun e=>by omega)
  |ptr r n i j v hv h0 h=>
    rcases hs r with ⟨e1,e2,e3,e4,e5⟩ |hn
    · exact .ptr r n i j v hv (by rw [e3];exact h0) (by rw [e3,e1,e4,e5];exact h)
    · exact .ptr r n i j v hv (by omega) (fun e=>by omega)
  |osl r n j len v hv h0 h=>
    rcases hs r with ⟨e1,e2,e3,e4,e5⟩ |hn
    · exact .osl r n j len v hv (by rw [e3];exact h0) (by rw [e3,e1,e5];exact h)
    · exact .osl r n j len v hv (by omega) (fun e=>by omega)
  |mref r n v hv h0 h=>
    rcases hs r with ⟨e1,e2,e3,e4,e5⟩ |hn
    · exact .mref r n v hv (by rw [e3];exact h0) (by rw [e3,e1,e5];exact h)
    · exact .mref r n v hv (by omega) (fun e=>by omega)
  |bptr r n v hv h0 h=>
    rcases hs r with ⟨e1,e2,e3,e4,e5⟩ |hn
    · exact .bptr r n v hv (by rw [e3];exact h0) (by rw [e3,e1,e2,e5];exact h)
    · exact .bptr r n v hv (by omega) (fun e=>by omega)
  |agg l vs h1 h2 ih=>exact .agg l vs h1 ih
  |tuple l vs h1 h2 ih=>exact .tuple l vs h1 ih
  |fn f l vs h1 h2 ih=>exact .fn f l vs h1 ih
  |when b av v h1 h2 ih=>exact .when b av v ih h2
structure Own where
  elem:TypeId
  es:List (List AV)
structure Gl where
  n:Nat
  tabs:List (Nat×Array Value)
structure Ctx where
  P:Program
  nt:Nat
  w0:World
  A:Nat→Prop
  W:List Nat
  gl:Gl
  n0:Nat
  φ0:Phi
structure St where
  tm:List (Nat×AV)
  hp:List (Option Own)
def look:List (Nat×AV)→Nat→Option AV
  | [],_=>none
  | (s,v)::tl,t=>match Nat.beq s t with
    |true=>some v
    |false=>look tl t
def nth:List (Option Own)→Nat→Option Own
  | [],_=>none
  |o::_,0=>o
  |_::tl,r+1=>nth tl r
def Loc.has(L:Loc)(b:Nat):Prop:=L.blk=some b∨L.sub b
def Mut(A:Nat→Prop)(φ:Phi)(hp:List (Option Own)):Nat→Prop:=fun b=>A b∨ ∃ r o,nth hp r=some o∧(φ r).has b
def ZfP(n:Nat)(φ φ':Phi):Prop:= ∀ r,r<n→φ' r=φ r
def RelF(P:Program)(w:World)(M:Nat→Prop)(n:Nat)(φ:Phi)(av:AV)(v:Value):Prop:= ∀ φ',ZfP n φ φ'→Rel P w M φ' av v
def noSub:AV→Bool
  | .osub _ _ | .mcon _=>false
  |_=>true
inductive TRel (P:Program) (w:World) (M:Nat→Prop) (n:Nat) (φ:Phi):(Nat→Prop)→AV→Value→Prop
  |leaf {S:Nat→Prop} {av:AV} {v:Value}:RelF P w M n φ av v→TRel P w M n φ S av v
  |nil {S:Nat→Prop} (e:TypeId):TRel P w M n φ S (.osub e []) (.slice none 0 0)
  |osub {S:Nat→Prop} (e:TypeId) (l:List (List AV)) (b cap:Nat) (cs:Array Value) (T:Nat→Nat→Nat→Prop):S b→l.length≤cap→cap<2^63→w.heap[b]?=some (.cells cs e (0,0))→
      cs.size=cap*P.cellsOf e→(∀ row∈l,row.length=P.cellsOf e)→(∀ i j x,T i j x→S x∧x≠b)→(∀ i j i' j' x,T i j x→T i' j' x→i=i'∧j=j')→
      (∀ i j,i<l.length→j<P.cellsOf e→TRel P w M n φ (T i j) (cellAt l i j) (cs.getD (i*P.cellsOf e+j) undef))→TRel P w M n φ S (.osub e l) (.slice (some ⟨b,0,none⟩) l.length cap)
  |mcon {S:Nat→Prop} (l:List (List AV)) (ks vs:Nat→Value) (es:Array Value) (T:Nat→Nat→Prop):es.size=l.length→(∀ i,i<l.length→es[i]?=some (.tuple #[ks i,vs i]))→
      (∀ i x,T i x→S x)→(∀ i i' x,T i x→T i' x→i=i')→(∀ i,i<l.length→RelF P w M n φ (cellAt l i 0) (ks i))→
      (∀ i,i<l.length→TRel P w M n φ (T i) (cellAt l i 1) (vs i))→TRel P w M n φ S (.mcon l) (.tuple es)
theorem Zsl{P:Program}{w:World}{M:Nat→Prop}{φ:Phi}{av:AV}{v:Value}(h:Rel P w M φ av v):noSub av=true:=by
  cases h with
  |data h=>cases h<;>rfl
  |_=>rfl
theorem TRel.plain{P:Program}{w:World}{M:Nat→Prop}{n:Nat}{φ:Phi}{S:Nat→Prop}{av:AV}{v:Value}(h:TRel P w M n φ S av v)(hn:noSub av=true):RelF P w M n φ av v:=by
  cases h with
  |leaf h=>exact h
  |nil=>cases hn
  |osub=>cases hn
  |mcon=>cases hn
theorem TRel.tr{P:Program}{w w':World}{M M':Nat→Prop}{n n':Nat}{φ φ':Phi}{S:Nat→Prop}{av:AV}{v:Value}(h:TRel P w M n φ S av v)(hw: ∀ b,S b→w'.heap[b]?=w.heap[b]?)
    (hr: ∀ av x,RelF P w M n φ av x→RelF P w' M' n' φ' av x):TRel P w' M' n' φ' S av v:=by
  induction h with
  |leaf h=>exact .leaf (hr _ _ h)
  |nil e=>exact .nil e
  |osub e l b cap cs T h1 h2 h3 h4 h5 h6 h7 h8 _ ih=>exact .osub e l b cap cs T h1 h2 h3 ((hw b h1).trans h4) h5 h6 h7 h8 fun i j hi hj=>ih i j hi hj fun x hx=>hw x (h7 i j x hx).1
  |mcon l ks vs es T h1 h2 h3 h4 h5 _ ih=>exact .mcon l ks vs es T h1 h2 h3 h4 (fun i hi=>hr _ _ (h5 i hi)) fun i hi=>ih i hi fun x hx=>hw x (h3 i x hx)
theorem TRel.sub{P:Program}{w:World}{M:Nat→Prop}{n:Nat}{φ:Phi}{S S':Nat→Prop}{av:AV}{v:Value}(h:TRel P w M n φ S av v)(hs: ∀ b,S b→S' b):TRel P w M n φ S' av v:=by
  cases h with
  |leaf h=>exact .leaf h
  |nil e=>exact .nil e
  |osub e l b cap cs T h1 h2 h3 h4 h5 h6 h7 h8 h9=>exact .osub e l b cap cs T (hs b h1) h2 h3 h4 h5 h6 (fun i j x hx=>⟨hs x (h7 i j x hx).1,(h7 i j x hx).2⟩) h8 h9
  |mcon l ks vs es T h1 h2 h3 h4 h5 h6=>exact .mcon l ks vs es T h1 h2 (fun i x hx=>hs x (h3 i x hx)) h4 h5 h6
def Cells(P:Program)(w:World)(M:Nat→Prop)(n:Nat)(φ:Phi)(S:Nat→Prop)(es:List (List AV))(cs:Array Value)(sz:Nat):Prop:=
  ∃ T:Nat→Nat→Nat→Prop,(∀ i j b,T i j b→S b)∧(∀ i j i' j' b,T i j b→T i' j' b→i=i'∧j=j')∧
    ∀ i j,i<es.length→j<sz→TRel P w M n φ (T i j) (cellAt es i j) (cs.getD (i*sz+j) undef)
theorem Cells.of{P:Program}{w:World}{M:Nat→Prop}{n:Nat}{φ:Phi}{S:Nat→Prop}{es:List (List AV)}{cs:Array Value}{sz:Nat}
    (h: ∀ i j,i<es.length→j<sz→RelF P w M n φ (cellAt es i j) (cs.getD (i*sz+j) undef)):Cells P w M n φ S es cs sz:=
  ⟨fun _ _ _=>False,fun _ _ _ h=>h.elim,fun _ _ _ _ _ h=>h.elim,fun i j hi hj=> .leaf (h i j hi hj)⟩
theorem Cells.plain{P:Program}{w:World}{M:Nat→Prop}{n:Nat}{φ:Phi}{S:Nat→Prop}{es:List (List AV)}{cs:Array Value}{sz:Nat}(h:Cells P w M n φ S es cs sz)
    {i j:Nat} (hi:i<es.length) (hj:j<sz) (hn:noSub (cellAt es i j)=true):RelF P w M n φ (cellAt es i j) (cs.getD (i*sz+j) undef):=
  let ⟨_,_,_,h⟩:=h;(h i j hi hj).plain hn
theorem Cells.tr{P:Program}{w w':World}{M M':Nat→Prop}{n n':Nat}{φ φ':Phi}{S:Nat→Prop}{es:List (List AV)}{cs:Array Value}{sz:Nat}(h:Cells P w M n φ S es cs sz)
    (hw: ∀ b,S b→w'.heap[b]?=w.heap[b]?) (hr: ∀ av x,RelF P w M n φ av x→RelF P w' M' n' φ' av x):Cells P w' M' n' φ' S es cs sz:=
  let ⟨T,h1,h2,h3⟩:=h;⟨T,h1,h2,fun i j hi hj=>(h3 i j hi hj).tr (fun b hb=>hw b (h1 i j b hb)) hr⟩
def ZfZ(es:Array MapEntry):Value:= .tuple (es.map fun e=> .tuple #[e.key,e.val])
def Blk(w:World)(b:Nat)(mp:Bool)(e:TypeId)(cs:Array Value):Prop:=match mp with
  |false=>w.heap[b]?=some (.cells cs e (0,0))
  |true=> ∃ es clock,w.heap[b]?=some (.map es clock)∧cs= #[ZfZ es]∧clock=es.size∧ ∀ (i:Nat) (x:MapEntry),es[i]?=some x→x.born=i
theorem Blk.lt{w:World}{b:Nat}{mp:Bool}{e:TypeId}{cs:Array Value}(h:Blk w b mp e cs):b<w.heap.size:=by
  cases mp with
  |false=>exact(Array.getElem?_eq_some_iff.1 h).1
  |true=>obtain⟨_,_,h,_⟩:=h;exact(Array.getElem?_eq_some_iff.1 h).1
theorem Blk.congr{w w':World}{b:Nat}{mp:Bool}{e:TypeId}{cs:Array Value}(h:Blk w b mp e cs)(hw:w'.heap[b]?=w.heap[b]?):Blk w' b mp e cs:=by
  cases mp with
  |false=>exact hw.trans h
  |true=>obtain⟨es,clock,h,h2⟩:=h;exact⟨es,clock,hw.trans h,h2⟩
theorem Blk.cells{w:World}{b:Nat}{mp:Bool}{e:TypeId}{cs:Array Value}(h:Blk w b mp e cs)(hm:mp=false):w.heap[b]?=some (.cells cs e (0,0)):=by subst hm;exact h
structure HRel (P:Program) (w:World) (M:Nat→Prop) (n:Nat) (φ:Phi) (r:Nat) (o:Own):Prop where
  len:(φ r).n=o.es.length
  sz:(φ r).sz=P.cellsOf o.elem
  rows: ∀ row∈o.es,row.length=P.cellsOf o.elem
  room:o.es.length≤(φ r).cap
  cap:(φ r).cap<2^63
  none:(φ r).blk=none→o.es= []∧(φ r).cap=0
  subl: ∀ b,(φ r).sub b→b<w.heap.size
  subn: ∀ b,(φ r).blk=some b→ ¬(φ r).sub b
  some: ∀ b,(φ r).blk=some b→ ∃ cs,Blk w b (φ r).mp o.elem cs∧cs.size=(φ r).cap*P.cellsOf o.elem∧Cells P w M n φ (φ r).sub o.es cs (P.cellsOf o.elem)
theorem HRel.has_lt{P:Program}{w:World}{M:Nat→Prop}{n:Nat}{φ:Phi}{r:Nat}{o:Own}(h:HRel P w M n φ r o){b:Nat}(hb:(φ r).has b):b<w.heap.size:=by
  rcases hb with hb |hb
  · obtain⟨cs,h1,_⟩:=h.some b hb;exact h1.lt
  · exact h.subl b hb
structure GlOK (gl:Gl) (w:World) (A:Nat→Prop) (W:List Nat):Prop where
  len:gl.n≤w.heap.size
  W: ∀ b∈W,gl.n≤b
  tab: ∀ p∈gl.tabs,p.1<gl.n∧(∃ e fr,w.heap[p.1]?=some (.cells p.2 e fr))∧ ¬A p.1
structure HeapOK (c:Ctx) (φ:Phi) (hp:List (Option Own)) (w:World):Prop where
  os:w.os=c.w0.os
  tape:w.tape=c.w0.tape
  output:w.output=c.w0.output
  heap:c.w0.heap.size≤w.heap.size
  frame: ∀ b,b<c.w0.heap.size→b∉c.W→w.heap[b]?=c.w0.heap[b]?
  owned: ∀ r o b,nth hp r=some o→(φ r).has b→(b∈c.W∨c.w0.heap.size≤b)∧ ¬c.A b
  apart: ∀ r r' o o' b,nth hp r=some o→nth hp r'=some o'→(φ r).has b→(φ r').has b→r=r'
  obj: ∀ r o,nth hp r=some o→HRel c.P w (Mut c.A φ hp) hp.length φ r o
  amb: ∀ b,c.A b→b<c.w0.heap.size∧b∉c.W
  glob:GlOK c.gl c.w0 c.A c.W
  len:c.n0≤hp.length
  mono: ∀ r,r<c.n0→(φ r).same (c.φ0 r)∨(c.φ0 r).n<(φ r).n
structure Conc (c:Ctx) (φ:Phi) (st:St) (a:Act) (w:World):Prop where
  size:a.tmps.size=c.nt
  defers:a.defers= []
  hok:HeapOK c φ st.hp w
  tm: ∀ t av,look st.tm t=some av→RelF c.P w (Mut c.A φ st.hp) st.hp.length φ av (a.tmps.getD t undef)
theorem XA{hp:List (Option Own)}{r:Nat}{o:Own}(h:nth hp r=some o):r<hp.length:=by
  induction hp generalizing r with
  |nil=>simp [nth] at h
  |cons x tl ih=>
    cases r with
    |zero=>simp
    |succ r=>simp only [nth] at h;have:=ih h;simp;omega
theorem HRel.below{P:Program}{w w':World}{M:Nat→Prop}{n:Nat}{φ:Phi}{r:Nat}{o:Own}(h:HRel P w M n φ r o)
    (hsz:w.heap.size≤w'.heap.size) (hb: ∀ b,b<w.heap.size→w'.heap[b]?=w.heap[b]?):HRel P w' M n φ r o:=by
  refine⟨h.len,h.sz,h.rows,h.room,h.cap,h.none,fun b hs=>Nat.lt_of_lt_of_le (h.subl b hs) hsz,h.subn,fun b hbk=> ?_⟩
  obtain⟨cs,h1,h2,h3⟩:=h.some b hbk
  exact⟨cs,h1.congr (hb b h1.lt),h2,h3.tr (fun b hs=>hb b (h.subl b hs)) fun av x hx φ' hφ=>(hx φ' hφ).mono hsz (fun b hb' _=>hb b hb') (fun _ _ h=>h)⟩
theorem RelF.below{P:Program}{w w':World}{M:Nat→Prop}{n:Nat}{φ:Phi}{av:AV}{v:Value}(h:RelF P w M n φ av v)(hw:Below w.heap.size w w'):RelF P w' M n φ av v:=
  fun φ' hφ=>(h φ' hφ).mono hw.size (fun b hb _=>hw.block b hb) (fun _ _ h=>h)
theorem HeapOK.below{c:Ctx}{φ:Phi}{hp:List (Option Own)}{w w':World}(h:HeapOK c φ hp w)(hw:Below w.heap.size w w'):HeapOK c φ hp w' where
  os:=hw.os.trans h.os
  tape:=hw.tape.trans h.tape
  output:=hw.output.trans h.output
  heap:=Nat.le_trans h.heap hw.size
  frame:=fun b hb hn=>(hw.block b (Nat.lt_of_lt_of_le hb h.heap)).trans (h.frame b hb hn)
  owned:=h.owned
  apart:=h.apart
  obj:=fun r o hr=>(h.obj r o hr).below hw.size hw.block
  amb:=h.amb
  glob:=h.glob
  len:=h.len
  mono:=h.mono
theorem Conc.below{c:Ctx}{φ:Phi}{st:St}{a:Act}{w w':World}(h:Conc c φ st a w)(hw:Below w.heap.size w w'):Conc c φ st a w' where
  size:=h.size
  defers:=h.defers
  hok:=h.hok.below hw
  tm:=fun t av ht=>(h.tm t av ht).below hw
def St.put(st:St)(d:Nat)(v:AV):St:={st with tm:=(d,v)::st.tm}
def St.puto(st:St)(d:Option Nat)(v:AV):St:=match d with |some d=>st.put d v |none=>st
theorem Zmo(xs:Array Value)(d t:Nat)(v:Value)(hd:d<xs.size):(xs.setIfInBounds d v).getD t undef=if d=t then v else xs.getD t undef:=by
  by_cases h:d=t
  · subst h;simp [hd]
  · simp [Array.getD_eq_getD_getElem?,Array.getElem?_setIfInBounds_ne h,h]
theorem Zov(a:Act)(d:Option Tmp)(v:Value):(a.put d v).tmps.size=a.tmps.size:=by cases d<;>simp [Act.put]
theorem Zna(a:Act)(d:Option Tmp)(v:Value):(a.put d v).defers=a.defers:=by cases d<;>rfl
def dstLt(d:Option Tmp)(n:Nat):Bool:=match d with |some d=>Nat.blt d n |none=>true
theorem Zsj{tm:List (Nat×AV)}{a:Act}{n:Nat}{R:AV→Value→Prop}(hsz:a.tmps.size=n)(h: ∀ t av,look tm t=some av→R av (a.tmps.getD t undef))
    {d:Nat} {av:AV} {v:Value} (hd:d<n) (hv:R av v): ∀ t av',look ((d,av)::tm) t=some av'→R av' ((a.put (some d) v).tmps.getD t undef):=by
  intro t av' ht
  simp only [Act.put,Zmo a.tmps d t v (by rw [hsz];exact hd)]
  simp only [look] at ht
  split at ht
  · rename_i he
    have he:=Nat.eq_of_beq_eq_true he
    subst he
    cases ht
    rw [if_pos rfl]
    exact hv
  · rename_i he
    have he:=Nat.ne_of_beq_eq_false he
    rw [if_neg he]
    exact h t av' ht
theorem Conc.puto{c:Ctx}{φ:Phi}{st:St}{a:Act}{w:World}(h:Conc c φ st a w){d:Option Nat}{av:AV}{v:Value}(hd:dstLt d c.nt=true)
    (hv:RelF c.P w (Mut c.A φ st.hp) st.hp.length φ av v):Conc c φ (st.puto d av) (a.put d v) w:=by
  cases d with
  |none=>exact h
  |some d=>
    exact⟨by rw [Zov];exact h.size,by rw [Zna];exact h.defers,h.hok,
      Zsj (R:=fun av v=>RelF c.P w (Mut c.A φ st.hp) st.hp.length φ av v) h.size h.tm (by simpa [dstLt,Nat.blt_eq] using hd) hv⟩
def ZoI(c:Ctx)(K:Exit→St→Prop):Exit→Act→World→Prop:=fun e a w=> ∃ st φ,K e st∧Conc c φ st a w
def T(c:Ctx)(code:Code)(st:St)(K:Exit→St→Prop):Prop:= ∀ φ a w,Conc c φ st a w→code.wp c.P (ZoI c K) a w
def Zft(K':St→Prop)(K:Exit→St→Prop):Exit→St→Prop
  | .normal,st=>K' st
  |e,st=>K e st
theorem Zh{c:Ctx}{x y:Code}{st:St}{K:Exit→St→Prop}(h:T c x st (Zft (fun st'=>T c y st' K) K)):T c (.seq x y) st K:=by
  intro φ a w hc
  refine wp_seq (wp_mono (h φ a w hc) ?_)
  rintro e a' w' ⟨st',φ',hk,hc'⟩
  cases e with
  |normal=>exact hk φ' a' w' hc'
  |exit id=>exact⟨st',φ',hk,hc'⟩
  |goto l=>exact⟨st',φ',hk,hc'⟩
  |ret=>exact⟨st',φ',hk,hc'⟩
  |panic ch=>exact⟨st',φ',hk,hc'⟩
  |outgrown=>exact⟨st',φ',hk,hc'⟩
theorem Zg{c:Ctx}{st:St}{K:Exit→St→Prop}(h:K .normal st):T c .skip st K:=fun φ _ _ hc=>wp_skip ⟨st,φ,h,hc⟩
theorem Zk{c:Ctx}{st:St}{K:Exit→St→Prop}(h:K .ret st):T c .ret st K:=fun φ _ _ hc=>wp_ret ⟨st,φ,h,hc⟩
theorem ZA{c:Ctx}{id:Nat}{st:St}{K:Exit→St→Prop}(h:K (.exit id) st):T c (.exit id) st K:=fun φ _ _ hc=>wp_exit ⟨st,φ,h,hc⟩
theorem Zni{c:Ctx}{code:Code}{st:St}{K K':Exit→St→Prop}(h:T c code st K)(hk: ∀ e st,K e st→K' e st):T c code st K':=
  fun φ a w hc=>wp_mono (h φ a w hc) fun _ _ _ ⟨st',φ',k,hc'⟩=>⟨st',φ',hk _ _ k,hc'⟩
def Ent(c:Ctx)(st st':St):Prop:= ∀ φ a w,Conc c φ st a w→ ∃ φ',Conc c φ' st' a w
theorem Ent.refl{c:Ctx}{st:St}:Ent c st st:=fun φ _ _ h=>⟨φ,h⟩
theorem Ent.trans{c:Ctx}{s1 s2 s3:St}(h:Ent c s1 s2)(k:Ent c s2 s3):Ent c s1 s3:=fun φ a w hc=>
  let ⟨φ',hc'⟩:=h φ a w hc
  k φ' a w hc'
theorem ZbK{c:Ctx}{code:Code}{st st':St}{K:Exit→St→Prop}(he:Ent c st st')(h:T c code st' K):T c code st K:=
  fun φ a w hc=>let ⟨φ',hc'⟩:=he φ a w hc;h φ' a w hc'
def Zo4(id:Nat)(K:Exit→St→Prop):Exit→St→Prop
  | .exit id',st=>if Nat.beq id' id then K .normal st else K (.exit id') st
  |e,st=>K e st
theorem Zf{c:Ctx}{id:Nat}{code:Code}{st:St}{K:Exit→St→Prop}(h:T c code st (Zo4 id K)):T c (.block id code) st K:=by
  intro φ a w hc
  refine wp_block (wp_mono (h φ a w hc) ?_)
  rintro e a' w' ⟨st',φ',hk,hc'⟩
  cases e with
  |exit id'=>
    simp only [Zo4] at hk
    simp only [Exit.inBlock]
    by_cases he:id'=id
    · subst he;simp at hk;rw [if_pos rfl];exact⟨st',φ',hk,hc'⟩
    · have:Nat.beq id' id=false:=by
        cases hb:Nat.beq id' id
        · rfl
        · exact absurd (Nat.eq_of_beq_eq_true hb) he
      rw [this] at hk
      rw [if_neg he];exact⟨st',φ',by simpa using hk,hc'⟩
  |normal=>exact⟨st',φ',hk,hc'⟩
  |goto l=>exact⟨st',φ',hk,hc'⟩
  |ret=>exact⟨st',φ',hk,hc'⟩
  |panic ch=>exact⟨st',φ',hk,hc'⟩
  |outgrown=>exact⟨st',φ',hk,hc'⟩
theorem ZhG{P:Program}{w:World}{M:Nat→Prop}{n:Nat}{φ:Phi}{b:Bool}{v:Value}(h:RelF P w M n φ (.bool b) v):v= .bool b:=by
  have:=h φ (fun _ _=>rfl)
  cases this with |data h=>cases h;rfl
theorem ZhA{P:Program}{w:World}{M:Nat→Prop}{n:Nat}{φ:Phi}{k:IntKind}{z:Int}{v:Value}(h:RelF P w M n φ (.int k z) v):v= .int k z:=by
  have:=h φ (fun _ _=>rfl)
  cases this with |data h=>cases h;rfl
theorem Zl6{c:Ctx}{t:Nat}{x y:Code}{st:St}{K:Exit→St→Prop}{b:Bool}(hl:look st.tm t=some (.bool b))
    (h1:b=true→T c x st K) (h2:b=false→T c y st K):T c (.cond (.tmp t) x y) st K:=by
  intro φ a w hc
  have hv:=ZhG (hc.tm t _ hl)
  exact wp_cond_split (t:=b) (by simpa [Act.eval] using hv) (fun h=>h1 h φ a w hc) (fun h=>h2 h φ a w hc)
theorem Zpl{c:Ctx}{code:Code}{st:St}{K:Exit→St→Prop}{ι:Type}(C:ι→Prop)(I:ι→St)(μ:ι→Nat)(i0:ι)(hC:C i0)(h0:Ent c st (I i0))
    (hr: ∀ i,C i→T c code (I i) (Zft (fun st'=> ∃ i',C i'∧μ i'<μ i∧Ent c st' (I i')) K)):T c (.loop code) st K:=by
  intro φ a w hc
  obtain⟨φ0,hc0⟩:=h0 φ a w hc
  refine wp_loop_ghost (fun n a w=> ∃ i φ,C i∧μ i=n∧Conc c φ (I i) a w) (μ i0) ⟨i0,φ0,hC,rfl,hc0⟩ ?_
  rintro n a w ⟨i,φ,hCi,hn,hci⟩
  refine wp_mono (hr i hCi φ a w hci) ?_
  rintro e a' w' ⟨st',φ',hk,hc'⟩
  cases e with
  |normal=>
    obtain⟨i',hC',hlt,he⟩:=hk
    obtain⟨φ'',hc''⟩:=he φ' a' w' hc'
    exact⟨μ i',by omega,i',φ'',hC',rfl,hc''⟩
  |exit id=>exact⟨st',φ',hk,hc'⟩
  |goto l=>exact⟨st',φ',hk,hc'⟩
  |ret=>exact⟨st',φ',hk,hc'⟩
  |panic ch=>exact⟨st',φ',hk,hc'⟩
  |outgrown=>exact⟨st',φ',hk,hc'⟩
theorem oB{α β:Type _}(a:α)(f:α→Option β):(some a).bind f=f a:=rfl
theorem gQ{α:Type _}{l:List α}{i:Nat}{a:α}:l.getD i a=l[i]?.getD a:=List.getD_eq_getElem?_getD
theorem nG{c:Prop}{h:Decidable c}(hn:¬c){α:Sort _}{t e:α}:ite c t e=e:=if_neg hn
theorem pG{c:Prop}{h:Decidable c}(hc:c){α:Sort _}{t e:α}:ite c t e=t:=if_pos hc
theorem lM{α β:Type _}{as:List α}(f:α→β):(as.map f).length=as.length:=List.length_map f
end Go.Vx

namespace Go.Vx
open Go Go.RowKit
theorem LetsOut.imp{Q Q':Exit→Act→World→Prop}(h: ∀ e a w,Q e a w→Q' e a w):LetsOut Q→LetsOut Q':=fun⟨a,w,q⟩=>⟨a,w,h _ _ _ q⟩
theorem Zin{P:Program}{o:Oper}{a:Act}{w:World}{K K':Act→World→Prop}{Q Q':Exit→Act→World→Prop}(hK: ∀ a w,K a w→K' a w)
    (hQ: ∀ e a w,Q e a w→Q' e a w) (hh:o.wp P a w K Q):o.wp P a w K' Q':=by
  unfold Oper.wp at*
  generalize (execOp a.eval o).run P w=r at*
  cases r with
  |ok n w'=>
    cases n<;>simp only [Oper.upon] at hh ⊢ <;>
      first
        |exact hK _ _ hh
        |exact Calls.mono hh (fun e w'' he=>by cases e<;>first |exact hK _ _ he |exact hQ _ _ _ he |exact LetsOut.imp hQ he)
        |exact Rows.mono hh (fun _ _ he=>hK _ _ he)
  |halt x w'=>cases x<;>simp only [Oper.upon] at hh ⊢ <;>first |exact hQ _ _ _ hh |exact hh
def noQ:Exit→Act→World→Prop:=fun _ _ _=>False
def SVal(c:Ctx)(ops:Array Oper)(st:St)(o:Oper)(v:AV):Prop:= ∀ φ a w,Conc c φ st a w→
  (Region.wanted o (yielded ops a.tmps)=true→o.wp c.P a w (fun a' w'=> ∃ u,a'=a.put o.dst u∧Below w.heap.size w w'∧RelF c.P w' (Mut c.A φ st.hp) st.hp.length φ v u) noQ)∧
  (Region.wanted o (yielded ops a.tmps)=false→RelF c.P w (Mut c.A φ st.hp) st.hp.length φ v undef)
def WVal(c:Ctx)(ops:Array Oper)(st:St)(o:Oper)(v:AV)(hp':List (Option Own)):Prop:= ∀ φ a w,Conc c φ st a w→
  Region.wanted o (yielded ops a.tmps)=true∧o.wp c.P a w (fun a' w'=> ∃ u φ',a'=a.put o.dst u∧HeapOK c φ' hp' w'∧
    (∀ av x,RelF c.P w (Mut c.A φ st.hp) st.hp.length φ av x→RelF c.P w' (Mut c.A φ' hp') hp'.length φ' av x)∧RelF c.P w' (Mut c.A φ' hp') hp'.length φ' v u) noQ
def R(c:Ctx)(ops:Array Oper)(rest:List Oper)(st:St)(K:Exit→St→Prop):Prop:= ∀ φ a w,Conc c φ st a w→wpList c.P ops (ZoI c K) rest a w
theorem Zb{c:Ctx}{ops:Array Oper}{st:St}{K:Exit→St→Prop}(h:K .normal st):R c ops [] st K:=fun φ _ _ hc=>⟨st,φ,h,hc⟩
theorem R_q{c:Ctx}{ops:Array Oper}{o:Oper}{rest:List Oper}{st:St}{K:Exit→St→Prop}(v:AV)(hd:dstLt o.dst c.nt=true)(hv:SVal c ops st o v)
    (h:R c ops rest (st.puto o.dst v) K):R c ops (o::rest) st K:=by
  intro φ a w hc
  obtain⟨h1,h2⟩:=hv φ a w hc
  unfold wpList
  by_cases hw:Region.wanted o (yielded ops a.tmps)=true
  · rw [pG hw]
    refine .inl (Zin ?_ (fun _ _ _ h=>h.elim) (h1 hw))
    rintro a' w' ⟨u,rfl,hb,hr⟩
    exact h φ _ _ ((hc.below hb).puto hd hr)
  · rw [nG hw]
    exact h φ _ _ (hc.puto hd (h2 (by simpa using hw)))
theorem R_w{c:Ctx}{ops:Array Oper}{o:Oper}{rest:List Oper}{st:St}{K:Exit→St→Prop}(v:AV)(hp':List (Option Own))(hd:dstLt o.dst c.nt=true)(hv:WVal c ops st o v hp')
    (h:R c ops rest (St.puto ⟨st.tm,hp'⟩ o.dst v) K):R c ops (o::rest) st K:=by
  intro φ a w hc
  obtain⟨h1,h2⟩:=hv φ a w hc
  unfold wpList
  rw [pG h1]
  refine .inl (Zin ?_ (fun _ _ _ h=>h.elim) h2)
  rintro a' w' ⟨u,φ',rfl,hh,hf,hr⟩
  have hc':Conc c φ' ⟨st.tm,hp'⟩ a w':=⟨hc.size,hc.defers,hh,fun t av ht=>hf _ _ (hc.tm t av ht)⟩
  exact h φ' _ _ (hc'.puto hd hr)
theorem Zo{c:Ctx}{id:Nat}{l:List Oper}{st:St}{K:Exit→St→Prop}(h:R c l.toArray l st K):T c (.region id l.toArray false) st K:=
  fun φ a w hc=>wp_region_lit (h φ a w hc)
theorem ZkH{d t:Nat}(h:d≠t):Nat.beq d t=false:=by
  cases hb:Nat.beq d t
  · rfl
  · exact absurd (Nat.eq_of_beq_eq_true hb) h
def restr(tm:List (Nat×AV)):List Nat→List (Nat×AV)
  | []=> []
  |t::ts=>match look tm t with
    |some v=>(t,v)::restr tm ts
    |none=>restr tm ts
theorem ZnD{tm:List (Nat×AV)}{ts:List Nat}{t:Nat}{v:AV}(h:look (restr tm ts) t=some v):look tm t=some v:=by
  induction ts with
  |nil=>simp [restr,look] at h
  |cons s ts ih=>
    simp only [restr] at h
    split at h
    · rename_i u hu
      simp only [look] at h
      split at h
      · rename_i he
        have he:=Nat.eq_of_beq_eq_true he
        subst he
        rw [hu];exact h
      · exact ih h
    · exact ih h
theorem ZfH{tm tm':List (Nat×AV)}{ts:List Nat}(h: ∀ t∈ts,look tm t=look tm' t):restr tm ts=restr tm' ts:=by
  induction ts with
  |nil=>rfl
  |cons s ts ih=>
    simp only [restr]
    rw [h s (by simp),ih (fun t ht=>h t (by simp [ht]))]
theorem Conc.restr{c:Ctx}{φ:Phi}{st:St}{a:Act}{w:World}(h:Conc c φ st a w)(ts:List Nat):Conc c φ ⟨restr st.tm ts,st.hp⟩ a w:=
  ⟨h.size,h.defers,h.hok,fun t av ht=>h.tm t av (ZnD ht)⟩
def Zqj:Op→Bool
  | .move _ | .assign _ | .pick .. | .build .. | .buildSlice .. | .field .. | .unOp .. | .extract .. | .binOp .. | .index .. | .makeFunc .. =>true
  | .call {callee:= .builtin .min,..} | .call {callee:= .builtin .max,..}=>true
  |_=>false
def Zny:Op→Bool
  | .load .. | .fieldAddr .. | .nilCheck _ | .indexAddr .. | .slice .. | .convert .. | .makeInterface .. | .lookup .. | .call {callee:= .value _,..} | .call {callee:= .builtin .len,..}=>true
  |_=>false
def Zrn:Op→Bool
  | .call {callee:= .value _,..}=>true
  |_=>false
def ZsQ:Op→Bool
  | .buildSlice .. =>true
  |_=>false
def noWrite(cw:Bool)(o:Op):Bool:=(Zqj o&& !(cw&&ZsQ o)) || (Zny o&& !(cw&&Zrn o))
def Ext(hp hp':List (Option Own)):Prop:=hp.length≤hp'.length∧ ∀ r o,nth hp r=some o→nth hp' r=some o
theorem Ext.refl{hp:List (Option Own)}:Ext hp hp:=⟨Nat.le_refl _,fun _ _ h=>h⟩
def ExtW(wl:List Nat)(hp hp':List (Option Own)):Prop:=hp.length≤hp'.length∧ ∀ r o,nth hp r=some o→(wl.contains r=false→nth hp' r=some o)∧ ∃ o',nth hp' r=some o'∧o'.elem=o.elem∧o'.es.length=o.es.length
theorem ExtW.refl{wl:List Nat}{hp:List (Option Own)}:ExtW wl hp hp:=⟨Nat.le_refl _,fun _ o h=>⟨fun _=>h,o,h,rfl,rfl⟩⟩
theorem ExtW.transL{wl:List Nat}{a b c:List (Option Own)}(h:Ext a b)(k:ExtW wl b c):ExtW wl a c:=⟨Nat.le_trans h.1 k.1,fun r o hr=>k.2 r o (h.2 r o hr)⟩
theorem ExtW.get{wl:List Nat}{hp hp':List (Option Own)}(h:ExtW wl hp hp'){r:Nat}{o:Own}(hr:nth hp r=some o)(hw:wl.contains r=false):nth hp' r=some o:=(h.2 r o hr).1 hw
theorem exW{wl:List Nat}{hp hp':List (Option Own)}{r:Nat}{o:Own}{G:Prop}(hx:ExtW wl hp hp')(h:nth hp r=some o)(k: ∀ o',nth hp' r=some o'→o'.es.length=o.es.length→G):G:=by
  obtain⟨_,o',h1,_,h2⟩:=hx.2 r o h
  exact k o' h1 h2
inductive EL (wl:List Nat):Nat→List (Option Own)→List (Option Own)→Prop
  |nil {k:Nat} {t:List (Option Own)}:EL wl k [] t
  |keep {k:Nat} {o:Option Own} {b t:List (Option Own)}:EL wl (k+1) b t→EL wl k (o::b) (o::t)
  |wr {k:Nat} {o o':Own} {b t:List (Option Own)}:wl.contains k=true→o'.elem=o.elem→o'.es.length=o.es.length→EL wl (k+1) b t→EL wl k (some o::b) (some o'::t)
theorem EL.extK{wl:List Nat}{k:Nat}{b t:List (Option Own)}(h:EL wl k b t):b.length≤t.length∧ ∀ r o,nth b r=some o→(wl.contains (k+r)=false→nth t r=some o)∧ ∃ o',nth t r=some o'∧o'.elem=o.elem∧o'.es.length=o.es.length:=by
  induction h with
  |nil=>exact⟨Nat.zero_le _,fun r o h=>by cases h⟩
  | @keep k o b t _ ih=>
    refine⟨by simp only [List.length_cons];omega,fun r q hq=> ?_⟩
    cases r with
    |zero=>exact⟨fun _=>hq,q,hq,rfl,rfl⟩
    |succ r=>
      have:=ih.2 r q hq
      rw [show k+1+r=k+(r+1) by omega] at this
      exact this
  | @wr k o o' b t hw he hl _ ih=>
    refine⟨by simp only [List.length_cons];omega,fun r q hq=> ?_⟩
    cases r with
    |zero=>
      simp only [nth,Option.some.injEq] at hq
      subst hq
      exact⟨fun h=>absurd (Nat.add_zero k▸h) (by rw [hw];simp),o',rfl,he,hl⟩
    |succ r=>
      have:=ih.2 r q hq
      rw [show k+1+r=k+(r+1) by omega] at this
      exact this
theorem EL.ext{wl:List Nat}{b t:List (Option Own)}(h:EL wl 0 b t):ExtW wl b t:=by
  have:=h.extK
  simp only [Nat.zero_add] at this
  exact this
structure Md where
  cw:Bool
  fr:Bool
  base:List (Option Own)
  fd:List Nat
  wl:List Nat
def md0:Md:=⟨false,false,[],[],[]⟩
def Zir(cw:Md)(o:Oper):Bool:=Zqj o.op || (match o.dst with |some d=>cw.fd.contains d |none=>false)
def Md.bs(cw:Md)(hp:List (Option Own)):List (Option Own):=if cw.fr then cw.base else hp
def QStep(cw:Md)(c:Ctx)(ops:Array Oper)(st:St)(o:Oper)(v:AV):Prop:=
  dstLt o.dst c.nt=true∧
  ((Zir cw o = true ∧ ∀ hp', SVal c ops ⟨restr st.tm (o.looksAt ops), hp'⟩ o v) ∨
   ((Zny o.op=true∧Zir cw o=false)∧ExtW cw.wl (cw.bs st.hp) st.hp∧ ∀ hp',ExtW cw.wl (cw.bs st.hp) hp'→SVal c ops ⟨restr st.tm (o.looksAt ops),hp'⟩ o v))
theorem Ext.trans{a b c:List (Option Own)}(h:Ext a b)(k:Ext b c):Ext a c:=⟨Nat.le_trans h.1 k.1,fun r o hr=>k.2 r o (h.2 r o hr)⟩
def extOp:Op→Bool
  | .alloc _ | .box .. | .makeSlice .. | .makeMap .. =>true
  | .call {callee:= .builtin .append,args:= #[.const (.slice none 0 0),_],..}=>true
  |_=>false
def WStep(cw:Md)(c:Ctx)(ops:Array Oper)(st:St)(o:Oper)(v:AV)(hp':List (Option Own)):Prop:=
  dstLt o.dst c.nt=true∧noWrite cw.cw o.op=false∧(extOp o.op=true→Ext st.hp hp')∧(cw.fr=true→ExtW cw.wl cw.base hp')∧WVal c ops ⟨restr st.tm (o.looksAt ops),st.hp⟩ o v hp'
def QStep0(cw:Md)(c:Ctx)(ops:Array Oper)(st:St)(o:Oper)(v:AV):Prop:=dstLt o.dst c.nt=true∧noWrite cw.cw o.op=true∧SVal c ops ⟨restr st.tm (o.looksAt ops),st.hp⟩ o v
inductive SStep (cw:Md) (c:Ctx) (ops:Array Oper) (i:Nat) (st:St):St→Prop
  |q {o:Oper} {v:AV}:ops[i]?=some o→QStep cw c ops st o v→SStep cw c ops i st (st.puto o.dst v)
  |w {o:Oper} {v:AV} {hp':List (Option Own)}:ops[i]?=some o→WStep cw c ops st o v hp'→SStep cw c ops i st (St.puto ⟨st.tm,hp'⟩ o.dst v)
  |q0 {o:Oper} {v:AV}:ops[i]?=some o→QStep0 cw c ops st o v→SStep cw c ops i st (st.puto o.dst v)
theorem SStep.sound{cw:Md}{c:Ctx}{ops:Array Oper}{i:Nat}{st st':St}(h:SStep cw c ops i st st'){Q:Exit→Act→World→Prop}{N:Act→World→Prop}
    (hN: ∀ φ a w,Conc c φ st' a w→N a w): ∀ φ a w,Conc c φ st a w→wpOp c.P ops Q i N a w:=by
  intro φ a w hc
  cases h with
  |q ho hq=>
    rename_i o v
    obtain⟨hd,hq⟩:=hq
    have hv:SVal c ops ⟨restr st.tm (o.looksAt ops),st.hp⟩ o v:=by
      rcases hq with ⟨_,h⟩ | ⟨_,h⟩
      · exact h _
      · exact h.2 _ h.1
    obtain⟨h1,h2⟩:=hv φ a w (hc.restr _)
    unfold wpOp
    simp only [ho]
    by_cases hw:Region.wanted o (yielded ops a.tmps)=true
    · rw [pG hw]
      refine .inl (Zin ?_ (fun _ _ _ h=>h.elim) (h1 hw))
      rintro a' w' ⟨u,rfl,hb,hr⟩
      exact hN φ _ _ ((hc.below hb).puto hd hr)
    · rw [nG hw]
      exact hN φ _ _ (hc.puto hd (h2 (by simpa using hw)))
  |w ho hq=>
    rename_i o v hp'
    obtain⟨hd,_,_,_,hv⟩:=hq
    obtain⟨h1,h2⟩:=hv φ a w (hc.restr _)
    unfold wpOp
    simp only [ho]
    rw [pG h1]
    refine .inl (Zin ?_ (fun _ _ _ h=>h.elim) h2)
    rintro a' w' ⟨u,φ',rfl,hh,hf,hr⟩
    have hc':Conc c φ' ⟨st.tm,hp'⟩ a w':=⟨hc.size,hc.defers,hh,fun t av ht=>hf _ _ (hc.tm t av ht)⟩
    exact hN φ' _ _ (hc'.puto hd hr)
  |q0 ho hq=>
    rename_i o v
    obtain⟨hd,_,hv⟩:=hq
    obtain⟨h1,h2⟩:=hv φ a w (hc.restr _)
    unfold wpOp
    simp only [ho]
    by_cases hw:Region.wanted o (yielded ops a.tmps)=true
    · rw [pG hw]
      refine .inl (Zin ?_ (fun _ _ _ h=>h.elim) (h1 hw))
      rintro a' w' ⟨u,rfl,hb,hr⟩
      exact hN φ _ _ ((hc.below hb).puto hd hr)
    · rw [nG hw]
      exact hN φ _ _ (hc.puto hd (h2 (by simpa using hw)))
def bit(m i:Nat):Bool:=Nat.testBit m i
def setBit(m i:Nat):Nat:=m ||| 1<<<i
theorem Zar(m i j:Nat):bit (setBit m i) j=(bit m j || decide (i=j)):=by
  unfold bit setBit
  rw [Nat.testBit_or,Nat.one_shiftLeft,Nat.testBit_two_pow]
def readyAt(ops:Array Oper)(m i:Nat):Bool:=
  !bit m i&&(match ops[i]? with |some o=>o.after.all fun e=> !Region.binds .any e || bit m e.on |none=>false)
def Zgz(o:Oper):Nat:=o.after.toList.foldl (fun m e=>if Region.binds .any e then setBit m e.on else m) 0
def Zjj(ops:Array Oper):Nat→Nat→Nat
  |0,m=>m
  |i+1,m=>Zjj ops i (if bit m i then m ||| (match ops[i]? with |some o=>Zgz o |none=>0) else m)
def Zbp(ops:Array Oper)(j:Nat):Nat:=Zjj ops j (match ops[j]? with |some o=>Zgz o |none=>0)
def Closed(ops:Array Oper)(m:Nat):Prop:= ∀ j o,ops[j]?=some o→bit m j=true→ ∀ e∈o.after,Region.binds .any e=true→bit m e.on=true
theorem ZgW{o:Oper}{i:Nat}(h:bit (Zgz o) i=true): ∃ e∈o.after,Region.binds .any e=true∧e.on=i:=by
  unfold Zgz at h
  have key: ∀ (l:List Edge) (m:Nat),bit (l.foldl (fun m e=>if Region.binds .any e then setBit m e.on else m) m) i=true→bit m i=true∨ ∃ e∈l,Region.binds .any e=true∧e.on=i:=by
    intro l
    induction l with
    |nil=>intro m h;exact .inl h
    |cons e l ih=>
      intro m h
      rcases ih _ h with h | ⟨e',h1,h2⟩
      · simp only at h
        split at h
        · rename_i hb
          rw [Zar] at h
          simp only [Bool.or_eq_true,decide_eq_true_eq] at h
          rcases h with h |h
          · exact .inl h
          · exact .inr ⟨e,by simp,hb,h⟩
        · exact .inl h
      · exact .inr ⟨e',by simp [h1],h2⟩
  rcases key _ _ h with h | ⟨e,h1,h2⟩
  · simp [bit] at h
  · exact⟨e,by simpa using h1,h2⟩
theorem Zk6{ops:Array Oper}{m:Nat}(hc:Closed ops m): ∀ (n x:Nat),(∀ i,bit x i=true→bit m i=true)→ ∀ i,bit (Zjj ops n x) i=true→bit m i=true:=by
  intro n
  induction n with
  |zero=>intro x h i hi;exact h i hi
  |succ n ih=>
    intro x h i hi
    refine ih _ ?_ i hi
    intro j hj
    split at hj
    · rename_i hb
      unfold bit at hj
      rw [Nat.testBit_or,Bool.or_eq_true] at hj
      rcases hj with hj |hj
      · exact h j hj
      · split at hj
        · rename_i o ho
          obtain⟨e,he,hbi,rfl⟩:=ZgW (o:=o) (by unfold bit;exact hj)
          exact hc n o ho (h n hb) e he hbi
        · simp at hj
    · exact h j hj
theorem ZkP{ops:Array Oper}{m j i:Nat}(hc:Closed ops m)(hr:readyAt ops m j=true)(h:bit (Zbp ops j) i=true):bit m i=true:=by
  unfold Zbp at h
  refine Zk6 hc j _ ?_ i h
  intro x hx
  unfold readyAt at hr
  split at hx
  · rename_i o ho
    rw [ho] at hr
    simp only [Bool.and_eq_true,Array.all_eq_true_iff_forall_mem] at hr
    obtain⟨e,he,hbi,rfl⟩:=ZgW hx
    have:=hr.2 e he
    simpa [hbi] using this
  · simp [bit] at hx
theorem Closed.set{ops:Array Oper}{m i:Nat}(hc:Closed ops m)(hr:readyAt ops m i=true):Closed ops (setBit m i):=by
  intro j o ho hj e he hb
  rw [Zar] at hj ⊢
  simp only [Bool.or_eq_true,decide_eq_true_eq] at hj ⊢
  rcases hj with hj |rfl
  · exact .inl (hc j o ho hj e he hb)
  · unfold readyAt at hr
    rw [ho] at hr
    simp only [Bool.and_eq_true,Array.all_eq_true_iff_forall_mem] at hr
    have:=hr.2 e he
    exact .inl (by simpa [hb] using this)
theorem readyAt.mono{ops:Array Oper}{m i j:Nat}(h:readyAt ops m j=true)(hne:j≠i):readyAt ops (setBit m i) j=true:=by
  unfold readyAt at*
  simp only [Bool.and_eq_true,Bool.not_eq_true'] at h ⊢
  refine⟨by rw [Zar];simp [h.1,Ne.symm hne],?_⟩
  have h2:=h.2
  split at h2
  · rename_i o ho
    rw [Array.all_eq_true_iff_forall_mem] at h2 ⊢
    intro e he
    have:=h2 e he
    rw [Zar]
    simp only [Bool.or_eq_true,Bool.not_eq_true',decide_eq_true_eq] at this ⊢
    rcases this with h |h
    · exact .inl h
    · exact .inr (.inl h)
  · cases h2
def takeAt(cw:Md)(ops:Array Oper)(m i:Nat):Bool:=
  readyAt ops m i&&(match ops[i]? with
    |some oi=>noWrite cw.cw oi.op&&(List.range ops.size).all fun j=>Nat.beq j i || bit m j || bit (Zbp ops j) i ||
      (match ops[j]? with
        |some oj=>oi.apart ops oj&&(Zir cw oi || noWrite cw.cw oj.op || extOp oj.op || cw.fr)
        |none=>true)
    |none=>false)
theorem takeAt.spec{cw:Md}{ops:Array Oper}{m i:Nat}(h:takeAt cw ops m i=true):readyAt ops m i=true∧ ∃ oi,ops[i]?=some oi∧noWrite cw.cw oi.op=true∧
    ∀ j oj,ops[j]?=some oj→j≠i→bit m j=false→bit (Zbp ops j) i=false→oi.apart ops oj=true∧(Zir cw oi=true∨noWrite cw.cw oj.op=true∨extOp oj.op=true∨cw.fr=true):=by
  unfold takeAt at h
  simp only [Bool.and_eq_true] at h
  obtain⟨h1,h2⟩:=h
  split at h2
  · rename_i oi hoi
    simp only [Bool.and_eq_true,List.all_eq_true,List.mem_range] at h2
    refine⟨h1,oi,hoi,h2.1,fun j oj hj hne hb ha=> ?_⟩
    have h3:=h2.2 j (Array.getElem?_eq_some_iff.1 hj).1
    rw [hj,hb,ha,ZkH hne] at h3
    simp only [Bool.and_eq_true,Bool.or_eq_true] at h3
    rcases h3 with ((h3 |h3) |h3) |h3
    · cases h3
    · cases h3
    · cases h3
    · exact⟨h3.1,by simpa [or_assoc] using h3.2⟩
  · cases h2
theorem takeAt.intro{cw:Md}{ops:Array Oper}{m i:Nat}(h1:readyAt ops m i=true){oi:Oper}(hi:ops[i]?=some oi)(hn:noWrite cw.cw oi.op=true)
    (h: ∀ j oj,ops[j]?=some oj→j≠i→bit m j=false→bit (Zbp ops j) i=false→oi.apart ops oj=true∧(Zir cw oi=true∨noWrite cw.cw oj.op=true∨extOp oj.op=true∨cw.fr=true)):takeAt cw ops m i=true:=by
  unfold takeAt
  rw [h1,hi]
  simp only [Bool.true_and,hn,List.all_eq_true,List.mem_range]
  intro j hj
  by_cases hne:j=i
  · subst hne;simp
  · cases hb:bit m j
    · cases ha:bit (Zbp ops j) i
      · have:ops[j]?=some ops[j]:=by simp [hj]
        rw [this]
        obtain⟨h2,h3⟩:=h j ops[j] this hne hb ha
        rcases h3 with h3 |h3 |h3 |h3<;>simp [h2,h3]
      · simp
    · simp
def takeQ(cw:Md)(ops:Array Oper)(m i:Nat):Bool:=
  readyAt ops m i&&(match ops[i]? with
    |some oi=>noWrite cw.cw oi.op&&(List.range ops.size).all fun j=>Nat.beq j i || bit m j || bit (Zbp ops j) i ||
      (match ops[j]? with
        |some oj=>oi.apart ops oj&&noWrite cw.cw oj.op
        |none=>true)
    |none=>false)
theorem takeQ.spec{cw:Md}{ops:Array Oper}{m i:Nat}(h:takeQ cw ops m i=true):readyAt ops m i=true∧ ∃ oi,ops[i]?=some oi∧noWrite cw.cw oi.op=true∧
    ∀ j oj,ops[j]?=some oj→j≠i→bit m j=false→bit (Zbp ops j) i=false→oi.apart ops oj=true∧noWrite cw.cw oj.op=true:=by
  unfold takeQ at h
  simp only [Bool.and_eq_true] at h
  obtain⟨h1,h2⟩:=h
  split at h2
  · rename_i oi hoi
    simp only [Bool.and_eq_true,List.all_eq_true,List.mem_range] at h2
    refine⟨h1,oi,hoi,h2.1,fun j oj hj hne hb ha=> ?_⟩
    have h3:=h2.2 j (Array.getElem?_eq_some_iff.1 hj).1
    rw [hj,hb,ha,ZkH hne] at h3
    simp only [Bool.and_eq_true,Bool.or_eq_true] at h3
    rcases h3 with ((h3 |h3) |h3) |h3
    · cases h3
    · cases h3
    · cases h3
    · exact h3
  · cases h2
theorem takeQ.intro{cw:Md}{ops:Array Oper}{m i:Nat}(h1:readyAt ops m i=true){oi:Oper}(hi:ops[i]?=some oi)(hn:noWrite cw.cw oi.op=true)
    (h: ∀ j oj,ops[j]?=some oj→j≠i→bit m j=false→bit (Zbp ops j) i=false→oi.apart ops oj=true∧noWrite cw.cw oj.op=true):takeQ cw ops m i=true:=by
  unfold takeQ
  rw [h1,hi]
  simp only [Bool.true_and,hn,List.all_eq_true,List.mem_range]
  intro j hj
  by_cases hne:j=i
  · subst hne;simp
  · cases hb:bit m j
    · cases ha:bit (Zbp ops j) i
      · have:ops[j]?=some ops[j]:=by simp [hj]
        rw [this]
        obtain⟨h2,h3⟩:=h j ops[j] this hne hb ha
        simp [h2,h3]
      · simp
    · simp
def Eqv(st st':St):Prop:=st.hp=st'.hp∧ ∀ t,look st.tm t=look st'.tm t
theorem Eqv.symm{st st':St}(h:Eqv st st'):Eqv st' st:=⟨h.1.symm,fun t=>(h.2 t).symm⟩
theorem Eqv.trans{a b c:St}(h:Eqv a b)(k:Eqv b c):Eqv a c:=⟨h.1.trans k.1,fun t=>(h.2 t).trans (k.2 t)⟩
theorem Eqv.puto{st st':St}(h:Eqv st st')(d:Option Nat)(v:AV):Eqv (st.puto d v) (st'.puto d v):=by
  cases d with
  |none=>exact h
  |some d=>exact⟨h.1,fun t=>by simp only [St.puto,St.put,look];split;rfl;exact h.2 t⟩
theorem Eqv.comm{st:St}{d e:Option Nat}{u v:AV}(h: ∀ x,d=some x→e≠some x):Eqv ((st.puto d u).puto e v) ((st.puto e v).puto d u):=by
  cases d with
  |none=>exact⟨rfl,fun _=>rfl⟩
  |some d=>
    cases e with
    |none=>exact⟨rfl,fun _=>rfl⟩
    |some e=>
      refine⟨rfl,fun t=> ?_⟩
      simp only [St.puto,St.put,look]
      by_cases h1:e=t
      · by_cases h2:d=t
        · exact absurd (by rw [h1,h2]) (h d rfl)
        · subst h1
          have:=ZkH h2
          rw [this,Nat.beq_refl e]
      · rw [ZkH h1]
theorem Eqv.conc{c:Ctx}{φ:Phi}{st st':St}{a:Act}{w:World}(h:Eqv st st')(hc:Conc c φ st a w):Conc c φ st' a w:=by
  obtain⟨h1,h2⟩:=h
  obtain⟨tm,hp⟩:=st
  obtain⟨tm',hp'⟩:=st'
  simp only at h1
  subst h1
  exact⟨hc.size,hc.defers,hc.hok,fun t av ht=>hc.tm t av (by rw [h2 t];exact ht)⟩
theorem QStep.congr{cw:Md}{c:Ctx}{ops:Array Oper}{st st':St}{o:Oper}{v:AV}(h:QStep cw c ops st o v)(hh:st'.hp=st.hp)(hl: ∀ t∈o.looksAt ops,look st'.tm t=look st.tm t):
    QStep cw c ops st' o v:=by
  unfold QStep at*
  rw [ZfH hl,hh]
  exact h
theorem WStep.congr{cw:Md}{c:Ctx}{ops:Array Oper}{st st':St}{o:Oper}{v:AV}{hp:List (Option Own)}(h:WStep cw c ops st o v hp)(hh:st'.hp=st.hp)(hl: ∀ t∈o.looksAt ops,look st'.tm t=look st.tm t):
    WStep cw c ops st' o v hp:=by
  unfold WStep at*
  rw [ZfH hl,hh]
  exact h
theorem QStep0.congr{cw:Md}{c:Ctx}{ops:Array Oper}{st st':St}{o:Oper}{v:AV}(h:QStep0 cw c ops st o v)(hh:st'.hp=st.hp)(hl: ∀ t∈o.looksAt ops,look st'.tm t=look st.tm t):
    QStep0 cw c ops st' o v:=by
  unfold QStep0 at*
  rw [ZfH hl,hh]
  exact h
inductive Dv (cw:Md) (c:Ctx) (ops:Array Oper) (K:St→Prop):Nat→St→Prop
  |done {m:Nat} {st:St}:(∀ i,i<ops.size→readyAt ops m i=false)→K st→Dv cw c ops K m st
  |take {m:Nat} {st:St} (i:Nat) (o:Oper) (v:AV):ops[i]?=some o→takeAt cw ops m i=true→QStep cw c ops st o v→Dv cw c ops K (setBit m i) (st.puto o.dst v)→Dv cw c ops K m st
  |take0 {m:Nat} {st:St} (i:Nat) (o:Oper) (v:AV):ops[i]?=some o→takeQ cw ops m i=true→QStep0 cw c ops st o v→Dv cw c ops K (setBit m i) (st.puto o.dst v)→Dv cw c ops K m st
  |branch {m:Nat} {st:St} (f:Nat→St):(∃ i,i<ops.size∧readyAt ops m i=true)→(∀ i,i<ops.size→readyAt ops m i=true→SStep cw c ops i st (f i))→
      (∀ i,i<ops.size→readyAt ops m i=true→Dv cw c ops K (setBit m i) (f i))→Dv cw c ops K m st
theorem SStep.congr{cw:Md}{c:Ctx}{ops:Array Oper}{i:Nat}{st st' s1:St}(h:SStep cw c ops i st s1)(he:Eqv st st'): ∃ s1',SStep cw c ops i st' s1'∧Eqv s1 s1':=by
  obtain⟨he1,he2⟩:=he
  cases h with
  |q ho hq=>exact⟨_,.q ho (hq.congr he1.symm fun t _=>(he2 t).symm),Eqv.puto ⟨he1,he2⟩ _ _⟩
  |w ho hq=>
    rename_i o v hp'
    exact⟨_,.w ho (hq.congr he1.symm fun t _=>(he2 t).symm),Eqv.puto (st:=⟨st.tm,hp'⟩) (st':=⟨st'.tm,hp'⟩) ⟨rfl,he2⟩ _ _⟩
  |q0 ho hq=>exact⟨_,.q0 ho (hq.congr he1.symm fun t _=>(he2 t).symm),Eqv.puto ⟨he1,he2⟩ _ _⟩
theorem Dv.congr{cw:Md}{c:Ctx}{ops:Array Oper}{K:St→Prop}(hK: ∀ st st',Eqv st st'→K st→K st'){m:Nat}{st:St}(h:Dv cw c ops K m st): ∀ st',Eqv st st'→Dv cw c ops K m st':=by
  induction h with
  |done h1 h2=>intro st' he;exact .done h1 (hK _ _ he h2)
  |take i o v ho ht hq hd ih=>
    intro st' he
    exact .take i o v ho ht (hq.congr he.1.symm fun t _=>(he.2 t).symm) (ih _ (he.puto _ _))
  |take0 i o v ho ht hq hd ih=>
    intro st' he
    exact .take0 i o v ho ht (hq.congr he.1.symm fun t _=>(he.2 t).symm) (ih _ (he.puto _ _))
  | @branch m st f hex hs hd ih=>
    intro st' he
    have this: ∀ i,∃ s,i<ops.size→readyAt ops m i=true→SStep cw c ops i st' s∧Eqv (f i) s:=fun i=>by
      by_cases h:i<ops.size∧readyAt ops m i=true
      · obtain⟨s,h1,h2⟩:=(hs i h.1 h.2).congr he
        exact⟨s,fun _ _=>⟨h1,h2⟩⟩
      · exact⟨st',fun h1 h2=>absurd ⟨h1,h2⟩ h⟩
    exact .branch (fun i=>Classical.choose (this i)) hex (fun i hi hr=>(Classical.choose_spec (this i) hi hr).1)
      (fun i hi hr=>ih i hi hr _ (Classical.choose_spec (this i) hi hr).2)
theorem Zmg{listed:Array Bool}{i j:Nat}(h:i≠j):(listed.setIfInBounds i true).getD j false=listed.getD j false:=by
  simp [Array.getElem?_setIfInBounds_ne h]
theorem Zen(m i j:Nat):setBit (setBit m i) j=setBit (setBit m j) i:=by
  unfold setBit
  rw [Nat.or_assoc,Nat.or_comm (1<<<i),←Nat.or_assoc]
theorem ZjD{ops:Array Oper}{x y:Oper}(h:x.apart ops y=true):(∀ d,x.dst=some d→d∉y.looksAt ops)∧(∀ d,x.dst=some d→y.dst≠some d)∧(∀ d,y.dst=some d→d∉x.looksAt ops):=
  Oper.apart_spec h
theorem ZeX{st:St}{d:Option Nat}{v:AV}{t:Nat}(h: ∀ x,d=some x→x≠t):look (st.puto d v).tm t=look st.tm t:=by
  cases d with
  |none=>rfl
  |some d=>
    simp only [St.puto,St.put,look]
    rw [ZkH (h d rfl)]
theorem Dv.advance{cw:Md}{c:Ctx}{ops:Array Oper}{K:St→Prop}(hK: ∀ st st',Eqv st st'→K st→K st'){m:Nat}{st:St}(h:Dv cw c ops K m st):
    Closed ops m→ ∀ j,j<ops.size→readyAt ops m j=true→ ∃ s1,SStep cw c ops j st s1∧Dv cw c ops K (setBit m j) s1:=by
  induction h with
  |done h1 h2=>intro _ j hj hr;rw [h1 j hj] at hr;cases hr
  |branch f hex hs hd ih=>intro _ j hj hr;exact⟨f j,hs j hj hr,hd j hj hr⟩
  | @take m st i o v ho ht hq hd ih=>
    intro hcl j hj hr
    obtain⟨hri,oi,hoi,hni,hsp⟩:=takeAt.spec ht
    obtain rfl:o=oi:=Option.some.inj (ho.symm.trans hoi)
    by_cases hji:j=i
    · subst hji;exact⟨_,.q ho hq,hd⟩
    · obtain⟨s2,hs2,hd2⟩:=ih (hcl.set hri) j hj (readyAt.mono hr hji)
      have hoj:ops[j]?=some ops[j]:=by simp [hj]
      have hbi:bit m i=false:=by unfold readyAt at hri;simp only [Bool.and_eq_true,Bool.not_eq_true'] at hri;exact hri.1
      have hbj:bit m j=false:=by unfold readyAt at hr;simp only [Bool.and_eq_true,Bool.not_eq_true'] at hr;exact hr.1
      have hai:bit (Zbp ops j) i=false:=by
        cases hb:bit (Zbp ops j) i
        · rfl
        · have:=ZkP hcl hr hb;rw [hbi] at this;cases this
      obtain⟨hap,hcls⟩:=hsp j _ hoj hji hbj hai
      obtain⟨hl1,hl2,hl3⟩:=ZjD hap
      have hlook: ∀ t∈(ops[j]).looksAt ops,look st.tm t=look (st.puto o.dst v).tm t:=fun t ht=>(ZeX fun x hx=>fun e=>hl1 x hx (e▸ht)).symm
      have hhp:(st.puto o.dst v).hp=st.hp:=by cases o.dst<;>rfl
      have htk:takeAt cw ops (setBit m j) i=true:=takeAt.intro (readyAt.mono hri (Ne.symm hji)) ho hni fun k ok hk hki hbk hak=>hsp k ok hk hki (by
        rw [Zar] at hbk;simp only [Bool.or_eq_false_iff] at hbk;exact hbk.1) hak
      cases hs2 with
      |q ho2 hq2=>
        rename_i o2 u
        obtain rfl:ops[j]=o2:=Option.some.inj (hoj.symm.trans ho2)
        refine⟨_,.q ho2 (hq2.congr hhp.symm hlook),.take i o v ho htk (hq.congr (by cases (ops[j]).dst<;>rfl) fun t ht=>ZeX fun x hx e=>hl3 x hx (e▸ht)) ?_⟩
        rw [Zen]
        exact hd2.congr hK _ (Eqv.comm hl2)
      |q0 ho2 hq2=>
        rename_i o2 u
        obtain rfl:ops[j]=o2:=Option.some.inj (hoj.symm.trans ho2)
        refine⟨_,.q0 ho2 (hq2.congr hhp.symm hlook),.take i o v ho htk (hq.congr (by cases (ops[j]).dst<;>rfl) fun t ht=>ZeX fun x hx e=>hl3 x hx (e▸ht)) ?_⟩
        rw [Zen]
        exact hd2.congr hK _ (Eqv.comm hl2)
      |w ho2 hq2=>
        rename_i o2 u hp'
        obtain rfl:ops[j]=o2:=Option.some.inj (hoj.symm.trans ho2)
        have hq':QStep cw c ops (St.puto ⟨st.tm,hp'⟩ (ops[j]).dst u) o v:=by
          have h1:=hq.1
          have e:restr (St.puto ⟨st.tm,hp'⟩ (ops[j]).dst u).tm (o.looksAt ops)=restr st.tm (o.looksAt ops):=
            ZfH fun t ht=>ZeX (st:=⟨st.tm,hp'⟩) fun x hx e=>hl3 x hx (e▸ht)
          have e0:(St.puto ⟨st.tm,hp'⟩ (ops[j]).dst u).hp=hp':=by cases (ops[j]).dst<;>rfl
          refine⟨h1,?_⟩
          rw [e,e0]
          rcases hq.2 with h | ⟨h,hb0,hv⟩
          · exact .inl h
          · cases hfr:cw.fr with
            |true=>
              have hbb: ∀ hp,cw.bs hp=cw.base:=fun hp=>by unfold Md.bs;rw [pG hfr]
              rw [hbb] at hv ⊢
              exact .inr ⟨h,hq2.2.2.2.1 hfr,hv⟩
            |false=>
              have hbb: ∀ hp,cw.bs hp=hp:=fun hp=>by unfold Md.bs;rw [hfr];rfl
              rw [hbb] at hv ⊢
              rcases hcls with h' |h' |h' |h'
              · exact absurd h' (by rw [h.2];simp)
              · have:=hq2.2.1;rw [h'] at this;cases this
              · have hx:=hq2.2.2.1 h'
                rw [hhp] at hx
                exact .inr ⟨h,ExtW.refl,fun hp'' hx''=>hv hp'' (ExtW.transL hx hx'')⟩
              · rw [hfr] at h';cases h'
        refine⟨_,.w ho2 (hq2.congr hhp.symm hlook),.take i o v ho htk hq' ?_⟩
        rw [Zen]
        refine hd2.congr hK _ ?_
        have e2:St.puto ⟨(st.puto o.dst v).tm,hp'⟩ (ops[j]).dst u=((St.puto ⟨st.tm,hp'⟩ o.dst v).puto (ops[j]).dst u):=by cases o.dst<;>rfl
        rw [e2]
        exact Eqv.comm (st:=⟨st.tm,hp'⟩) hl2
  | @take0 m st i o v ho ht hq hd ih=>
    intro hcl j hj hr
    obtain⟨hri,oi,hoi,hni,hsp⟩:=takeQ.spec ht
    obtain rfl:o=oi:=Option.some.inj (ho.symm.trans hoi)
    by_cases hji:j=i
    · subst hji;exact⟨_,.q0 ho hq,hd⟩
    · obtain⟨s2,hs2,hd2⟩:=ih (hcl.set hri) j hj (readyAt.mono hr hji)
      have hoj:ops[j]?=some ops[j]:=by simp [hj]
      have hbi:bit m i=false:=by unfold readyAt at hri;simp only [Bool.and_eq_true,Bool.not_eq_true'] at hri;exact hri.1
      have hbj:bit m j=false:=by unfold readyAt at hr;simp only [Bool.and_eq_true,Bool.not_eq_true'] at hr;exact hr.1
      have hai:bit (Zbp ops j) i=false:=by
        cases hb:bit (Zbp ops j) i
        · rfl
        · have:=ZkP hcl hr hb;rw [hbi] at this;cases this
      obtain⟨hap,hcls⟩:=hsp j _ hoj hji hbj hai
      obtain⟨hl1,hl2,hl3⟩:=ZjD hap
      have hlook: ∀ t∈(ops[j]).looksAt ops,look st.tm t=look (st.puto o.dst v).tm t:=fun t ht=>(ZeX fun x hx=>fun e=>hl1 x hx (e▸ht)).symm
      have hhp:(st.puto o.dst v).hp=st.hp:=by cases o.dst<;>rfl
      have htk:takeQ cw ops (setBit m j) i=true:=takeQ.intro (readyAt.mono hri (Ne.symm hji)) ho hni fun k ok hk hki hbk hak=>hsp k ok hk hki (by
        rw [Zar] at hbk;simp only [Bool.or_eq_false_iff] at hbk;exact hbk.1) hak
      have hq': ∀ u,QStep0 cw c ops (st.puto (ops[j]).dst u) o v:=fun u=>hq.congr (by cases (ops[j]).dst<;>rfl) fun t ht=>ZeX fun x hx e=>hl3 x hx (e▸ht)
      cases hs2 with
      |q ho2 hq2=>
        rename_i o2 u
        obtain rfl:ops[j]=o2:=Option.some.inj (hoj.symm.trans ho2)
        refine⟨_,.q ho2 (hq2.congr hhp.symm hlook),.take0 i o v ho htk (hq' u) ?_⟩
        rw [Zen]
        exact hd2.congr hK _ (Eqv.comm hl2)
      |q0 ho2 hq2=>
        rename_i o2 u
        obtain rfl:ops[j]=o2:=Option.some.inj (hoj.symm.trans ho2)
        refine⟨_,.q0 ho2 (hq2.congr hhp.symm hlook),.take0 i o v ho htk (hq' u) ?_⟩
        rw [Zen]
        exact hd2.congr hK _ (Eqv.comm hl2)
      |w ho2 hq2=>
        rename_i o2 u hp'
        obtain rfl:ops[j]=o2:=Option.some.inj (hoj.symm.trans ho2)
        have:=hq2.2.1;rw [hcls] at this;cases this
theorem Dv.over{cw:Md}{c:Ctx}{ops:Array Oper}{K:St→Prop}{m:Nat}{st:St}(h:Dv cw c ops K m st)(hn: ∀ i,i<ops.size→readyAt ops m i=false):K st:=by
  cases h with
  |done _ h=>exact h
  |take i o v ho ht hq hd=>
    have:=hn i (Array.getElem?_eq_some_iff.1 ho).1
    rw [(takeAt.spec ht).1] at this;cases this
  |take0 i o v ho ht hq hd=>
    have:=hn i (Array.getElem?_eq_some_iff.1 ho).1
    rw [(takeQ.spec ht).1] at this;cases this
  |branch f hex hs hd=>obtain⟨i,hi,hr⟩:=hex;rw [hn i hi] at hr;cases hr
theorem Zfh{ops:Array Oper}{m:Nat}{listed:Array Bool}(hs:listed.size=ops.size)(hl: ∀ i,i<ops.size→listed.getD i false=bit m i)(hm: ∀ i,bit m i=true→i<ops.size){i:Nat}:
    i∈Region.ready .any ops listed↔i<ops.size∧readyAt ops m i=true:=by
  unfold Region.ready readyAt
  rw [List.mem_filter,List.mem_range]
  have hgt: ∀ j,listed.getD j false=bit m j:=fun j=>by
    by_cases hj:j<ops.size
    · exact hl j hj
    · have:bit m j=false:=by cases hb:bit m j;rfl;exact absurd (hm j hb) hj
      rw [this];simp [hs,hj]
  refine and_congr_right fun hi=> ?_
  have h1:listed.getD i true=bit m i:=by rw [←hl i hi];simp [hs,hi]
  rw [h1]
  cases ho:ops[i]? with
  |none=>simp
  |some o=>
    simp only [Option.map_some,Option.getD_some]
    have:(o.after.all fun e=> !Region.binds .any e || listed.getD e.on false)=(o.after.all fun e=> !Region.binds .any e || bit m e.on):=by
      congr 1;funext e;rw [hgt e.on]
    rw [this]
def left(ops:Array Oper)(m:Nat):Nat:=(List.range ops.size).countP fun i=> !bit m i
theorem ZoM{l:List Nat}{p q:Nat→Bool}(h: ∀ x∈l,q x=true→p x=true){y:Nat}(hy:y∈l)(h1:p y=true)(h2:q y=false):l.countP q<l.countP p:=by
  induction l with
  |nil=>cases hy
  |cons x l ih=>
    have hle:l.countP q≤l.countP p:=List.countP_mono_left (fun z hz hq=>h z (by simp [hz]) hq)
    rcases List.mem_cons.1 hy with rfl |hy
    · rw [List.countP_cons_of_pos h1,List.countP_cons_of_neg (by simp [h2])];omega
    · have:=ih (fun z hz=>h z (by simp [hz])) hy
      by_cases hq:q x=true
      · rw [List.countP_cons_of_pos hq,List.countP_cons_of_pos (h x (by simp) hq)];omega
      · rw [List.countP_cons_of_neg hq]
        have:l.countP p≤(x::l).countP p:=by rw [List.countP_cons];omega
        omega
theorem Zmw{ops:Array Oper}{m i:Nat}(hi:i<ops.size)(hr:readyAt ops m i=true):left ops (setBit m i)<left ops m:=by
  have hb:bit m i=false:=by unfold readyAt at hr;simp only [Bool.and_eq_true,Bool.not_eq_true'] at hr;exact hr.1
  refine ZoM (y:=i) (fun x _ hx=> ?_) (List.mem_range.2 hi) (by simp [hb]) (by simp [Zar])
  simp only [Bool.not_eq_true',Zar,Bool.or_eq_false_iff] at hx ⊢
  exact hx.1
theorem Dv.sound{cw:Md}{c:Ctx}{ops:Array Oper}{K:Exit→St→Prop}{K':St→Prop}(hK: ∀ st st',Eqv st st'→K' st→K' st')(hK': ∀ st,K' st→ ∃ s0,K .normal s0∧Ent c st s0):
    ∀ (fuel m:Nat) (st:St) (listed:Array Bool),Dv cw c ops K' m st→left ops m≤fuel→listed.size=ops.size→(∀ i,i<ops.size→listed.getD i false=bit m i)→Closed ops m→
      (∀ i,bit m i=true→i<ops.size)→ ∀ φ a w,Conc c φ st a w→wpAny c.P .any ops (ZoI c K) fuel listed a w:=by
  have fin: ∀ (m:Nat) (st:St) (listed:Array Bool),Dv cw c ops K' m st→listed.size=ops.size→(∀ i,i<ops.size→listed.getD i false=bit m i)→Closed ops m→(∀ i,bit m i=true→i<ops.size)→
      Region.ready .any ops listed= []→ ∀ φ a w,Conc c φ st a w→ZoI c K .normal a w:=by
    intro m st listed hd hs hl hcl hm hr φ a w hc
    have hn: ∀ i,i<ops.size→readyAt ops m i=false:=fun i hi=>by
      cases hb:readyAt ops m i
      · rfl
      · have:=(Zfh hs hl hm).2 ⟨hi,hb⟩
        rw [hr] at this;cases this
    obtain⟨s0,h1,h2⟩:=hK' _ (hd.over hn)
    obtain⟨φ',hc'⟩:=h2 φ a w hc
    exact⟨s0,φ',h1,hc'⟩
  intro fuel
  induction fuel with
  |zero=>
    intro m st listed hd hlt hs hl hcl hm φ a w hc
    have hr:Region.ready .any ops listed= []:=by
      refine List.eq_nil_iff_forall_not_mem.2 fun i hi=> ?_
      obtain⟨h1,h2⟩:=(Zfh hs hl hm).1 hi
      have:=Zmw h1 h2
      omega
    exact⟨hr,fin m st listed hd hs hl hcl hm hr φ a w hc⟩
  |succ fuel ih=>
    intro m st listed hd hlt hs hl hcl hm φ a w hc
    refine⟨fun hr=>fin m st listed hd hs hl hcl hm hr φ a w hc,fun j hj=> ?_⟩
    obtain⟨hj1,hj2⟩:=(Zfh hs hl hm).1 hj
    obtain⟨s1,hs1,hd1⟩:=hd.advance hK hcl j hj1 hj2
    refine hs1.sound (N:=wpAny c.P .any ops (ZoI c K) fuel (listed.setIfInBounds j true)) (fun φ a w hc=> ?_) φ a w hc
    refine ih (setBit m j) s1 _ hd1 (by have:=Zmw hj1 hj2;omega) (by simp [hs]) (fun i hi=> ?_) (hcl.set hj2) (fun i hi=> ?_) φ a w hc
    · rw [Zar]
      by_cases hij:j=i
      · subst hij;simp [hs,hj1]
      · rw [Zmg hij,hl i hi];simp [hij]
    · rw [Zar] at hi
      simp only [Bool.or_eq_true,decide_eq_true_eq] at hi
      rcases hi with h |rfl
      · exact hm i h
      · exact hj1
def KE(c:Ctx)(K:Exit→St→Prop):St→Prop:=fun st=> ∃ s0,K .normal s0∧Ent c st s0
theorem Z5{cw:Md}{c:Ctx}{id:Nat}{ops:Array Oper}{st:St}{K:Exit→St→Prop}(hm:c.P.follows .mixedOrders=true)(h:Dv cw c ops (KE c K) 0 st):T c (.region id ops true) st K:=by
  intro φ a w hc
  refine wp_region_any hm ?_
  refine Dv.sound (K':=KE c K) (fun st st' he ⟨s0,h1,h2⟩=>⟨s0,h1,fun φ a w hc=>h2 φ a w (he.symm.conc hc)⟩) (fun st h=>h) ops.size 0 st _ h ?_ (by simp) (fun i hi=>by simp [bit,hi]) ?_ (fun i hi=>by simp [bit] at hi) φ a _
    (hc.below ⟨rfl,rfl,rfl,Nat.le_refl _,fun _ _=>rfl⟩)
  · exact Nat.le_trans List.countP_le_length (by simp)
  · intro j o _ hb;simp [bit] at hb
end Go.Vx

namespace Go.Vx
open Go Go.RowKit
def constAV:Value→AV
  | .int k n=> .int k n
  | .bool b=> .bool b
  | .string s=> .str s.data.toList
  | .slice none 0 0=> .nils
  |v=> .lit v
theorem ZcI(P:Program)(w:World)(M:Nat→Prop)(v:Value):RelD P w M (constAV v) v:=by
  unfold constAV
  split
  · exact .int _ _
  · exact .bool _
  · exact .str _
  · exact .nils
  · exact .lit _
def opv(tm:List (Nat×AV)):Operand→Option AV
  | .tmp t=>look tm t
  | .const v=>some (constAV v)
  | .global g=>some (.lit (.pointer (some ⟨g,0,none⟩)))
  | .func f=>some (.fn f [])
def Opv(c:Ctx)(st:St)(x:Operand)(v:AV):Prop:= ∀ φ a w,Conc c φ st a w→RelF c.P w (Mut c.A φ st.hp) st.hp.length φ v (a.eval x)
theorem ov{c:Ctx}{st:St}{x:Operand}{v:AV}(h:opv st.tm x=some v):Opv c st x v:=by
  intro φ a w hc
  cases x with
  |tmp t=>exact hc.tm t v h
  |const u=>cases h;exact fun φ' _=> .data (ZcI _ _ _ _)
  |global g=>cases h;exact fun φ' _=> .data (.lit _)
  |func f=>cases h;exact fun φ' _=> .data (.fn f [] #[] rfl (fun i hi=>by cases hi))
theorem ow{c:Ctx}{st:St}{x:Operand}{v:AV}{g:Bool}(h:opv st.tm x=some (.when g v))(hg:g=true):Opv c st x v:=by
  intro φ a w hc φ' hφ
  have:=ov h φ a w hc φ' hφ
  cases this with
  |data h=>cases h
  |when _ _ _ h _=>exact h hg
theorem Opv.int{c:Ctx}{st:St}{x:Operand}{k:IntKind}{n:Int}(h:Opv c st x (.int k n)){φ:Phi}{a:Act}{w:World}(hc:Conc c φ st a w):a.eval x= .int k n:=ZhA (h φ a w hc)
theorem Opv.bool{c:Ctx}{st:St}{x:Operand}{b:Bool}(h:Opv c st x (.bool b)){φ:Phi}{a:Act}{w:World}(hc:Conc c φ st a w):a.eval x= .bool b:=ZhG (h φ a w hc)
theorem Zp4{P:Program}{w:World}{M:Nat→Prop}{n:Nat}{φ:Phi}{b:List UInt8}{v:Value}(h:RelF P w M n φ (.str b) v):v= .string ⟨b.toArray⟩:=by
  have:=h φ (fun _ _=>rfl)
  cases this with |data h=>cases h;rfl
theorem Opv.str{c:Ctx}{st:St}{x:Operand}{b:List UInt8}(h:Opv c st x (.str b)){φ:Phi}{a:Act}{w:World}(hc:Conc c φ st a w):a.eval x= .string ⟨b.toArray⟩:=Zp4 (h φ a w hc)
theorem ZbC{o:Oper}{y:Nat→Option Bool}(h:o.guard=none):Region.wanted o y=true:=by unfold Region.wanted;rw [h]
theorem SVal.run{c:Ctx}{ops:Array Oper}{st:St}{o:Oper}{v:AV}(hg:o.guard=none)
    (h: ∀ φ a w,Conc c φ st a w→ ∃ u w',(execOp a.eval o).run c.P w= .ok (.value u) w'∧Below w.heap.size w w'∧RelF c.P w' (Mut c.A φ st.hp) st.hp.length φ v u):SVal c ops st o v:=by
  intro φ a w hc
  refine⟨fun _=> ?_,fun hw=>by rw [ZbC hg] at hw;cases hw⟩
  obtain⟨u,w',h1,h2,h3⟩:=h φ a w hc
  unfold Oper.wp
  rw [h1]
  exact⟨u,rfl,h2,h3⟩
theorem SVal.pure{c:Ctx}{ops:Array Oper}{st:St}{o:Oper}{v:AV}(hg:o.guard=none)
    (h: ∀ φ a w,Conc c φ st a w→ ∃ u,(execOp a.eval o).run c.P w= .ok (.value u) w∧RelF c.P w (Mut c.A φ st.hp) st.hp.length φ v u):SVal c ops st o v:=
  .run hg fun φ a w hc=>let ⟨u,h1,h2⟩:=h φ a w hc;⟨u,w,h1,Below.refl _ _,h2⟩
theorem Zt{P:Program}{w:World}{M:Nat→Prop}{n:Nat}{φ:Phi}{av:AV}{v:Value}(h:RelD P w M av v):RelF P w M n φ av v:=fun _ _=> .data h
theorem ZmC{P:Program}{dst:Option Tmp}{op:Op}{ty:TypeId}{pos:String}{after:Array Edge}{g:Option (Nat×Bool)}{a:Act}{w:World}{K:Act→World→Prop}{Q:Exit→Act→World→Prop}:
    Oper.wp P ⟨dst,op,ty,pos,after,g⟩ a w K Q=Oper.wp P ⟨dst,op,ty,pos,after,none⟩ a w K Q:=by
  unfold Oper.wp
  have:execOp a.eval ⟨dst,op,ty,pos,after,g⟩=execOp a.eval ⟨dst,op,ty,pos,after,none⟩:=by cases op<;>rfl
  rw [this]
  generalize (execOp a.eval ⟨dst,op,ty,pos,after,none⟩).run P w=r
  cases r with
  |ok n w'=>cases n<;>rfl
  |halt h w'=>cases h<;>rfl
theorem SVal.guarded{c:Ctx}{ops:Array Oper}{st:St}{dst:Option Tmp}{op:Op}{ty:TypeId}{pos:String}{after:Array Edge}{j d:Nat}{want:Bool}{v:AV}{b:Bool}(g:Bool)
    (hj:(ops[j]?).bind (·.dst)=some d) (hd:Nat.blt d c.nt=true) (hl:look st.tm d=some (.bool b)) (hgg:g=(b==want))
    (h:g=true→SVal c ops st ⟨dst,op,ty,pos,after,none⟩ v):SVal c ops st ⟨dst,op,ty,pos,after,some (j,want)⟩ (.when g v):=by
  intro φ a w hc
  have hv:a.tmps.getD d undef= .bool b:=ZhG (hc.tm d _ hl)
  have hy:yielded ops a.tmps j=some b:=by
    unfold yielded
    rw [hj]
    have hlt:d<a.tmps.size:=by rw [hc.size];simpa using hd
    have:a.tmps[d]?=some (.bool b):=by
      rw [Array.getElem?_eq_getElem hlt]
      simpa [hlt] using hv
    simp [this]
  have hwa:Region.wanted ⟨dst,op,ty,pos,after,some (j,want)⟩ (yielded ops a.tmps)=g:=by
    unfold Region.wanted
    simp only [hy,hgg]
    cases b<;>cases want<;>rfl
  rw [hwa]
  refine⟨fun hg=> ?_,fun hg φ' _=> .when g v undef (fun h=>by rw [hg] at h;cases h) (fun _=>rfl)⟩
  obtain⟨h1,_⟩:=h hg φ a w hc
  rw [ZmC]
  refine Zin ?_ (fun _ _ _ h=>h) (h1 (ZbC rfl))
  rintro a' w' ⟨u,rfl,hb,hr⟩
  exact⟨u,rfl,hb,fun φ' hφ=> .when g v u (fun _=>hr φ' hφ) (fun h=>by rw [hg] at h;cases h)⟩
section ops
variable {c:Ctx} {ops:Array Oper} {st:St} {dst:Option Tmp} {ty:TypeId} {pos:String} {after:Array Edge}
theorem Zc{x:Operand}{v:AV}(h:Opv c st x v):SVal c ops st ⟨dst,.move x,ty,pos,after,none⟩ v:=
  .pure rfl fun φ a w hc=>⟨a.eval x,rfl,h φ a w hc⟩
theorem ZS{x:Operand}{v:AV}(h:Opv c st x v):SVal c ops st ⟨dst,.assign x,ty,pos,after,none⟩ v:=
  .pure rfl fun φ a w hc=>⟨a.eval x,rfl,h φ a w hc⟩
theorem Zph{x y z:Operand}{b:Bool}{v:AV}(h:Opv c st x (.bool b))(h1:b=true→Opv c st y v)(h2:b=false→Opv c st z v):SVal c ops st ⟨dst,.pick x y z,ty,pos,after,none⟩ v:=
  .pure rfl fun φ a w hc=>by
    have e:=h.bool hc
    cases b with
    |true=>exact⟨a.eval y,by simp [execOp,e,asBool,pure,bind,Sem.bind],h1 rfl φ a w hc⟩
    |false=>exact⟨a.eval z,by simp [execOp,e,asBool,pure,bind,Sem.bind],h2 rfl φ a w hc⟩
theorem ZaO{x z:Operand}{p q:Bool}(h:Opv c st x (.bool p))(h2:p=false→Opv c st z (.bool q)):SVal c ops st ⟨dst,.pick x (.const (.bool true)) z,ty,pos,after,none⟩ (.bool (p || q)):=
  Zph h (fun hp=>by rw [hp];exact ov rfl) (fun hp=>by rw [hp];exact h2 hp)
theorem J6{x z:Operand}{p q:Bool}(h:Opv c st x (.bool p))(h2:p=true→Opv c st z (.bool q)):SVal c ops st ⟨dst,.pick x z (.const (.bool false)),ty,pos,after,none⟩ (.bool (p&&q)):=
  Zph h (fun hp=>by rw [hp];exact h2 hp) (fun hp=>by rw [hp];exact ov rfl)
section arith
variable {x y:Operand} {k:IntKind} {m n:Int} {t u:TypeId}
theorem ZfO{op:BinOp}{z:Int}(h:Opv c st x (.int k m))(h':Opv c st y (.int k n))
    (hz:(binOp op t (.int k m) (.int k n):Sem Value)= .pure (.int k z)) (hne:op≠ .eql) (hnn:op≠ .neq):SVal c ops st ⟨dst,.binOp op t x y u,ty,pos,after,none⟩ (.int k z):=
  .pure rfl fun φ a w hc=>by
    refine⟨.int k z,?_,Zt (.int _ _)⟩
    have e:=h.int hc
    have e':=h'.int hc
    simp only [execOp,e,e',hz]
    cases op<;>first |rfl |exact absurd rfl hne |exact absurd rfl hnn
theorem ZkV{z:Int}(h:Opv c st x (.int k m))(h':Opv c st y (.int k n))(hz:k.wrap (m+n)=z):SVal c ops st ⟨dst,.binOp .add t x y u,ty,pos,after,none⟩ (.int k z):=
  ZfO h h' (by simp [binOp,Op.intArith,hz,pure]) (by simp) (by simp)
theorem Zn8{z:Int}(h:Opv c st x (.int k m))(h':Opv c st y (.int k n))(hz:k.wrap (m-n)=z):SVal c ops st ⟨dst,.binOp .sub t x y u,ty,pos,after,none⟩ (.int k z):=
  ZfO h h' (by simp [binOp,Op.intArith,hz,pure]) (by simp) (by simp)
theorem Zrj{z:Int}(h:Opv c st x (.int k m))(h':Opv c st y (.int k n))(hz:k.wrap (m*n)=z):SVal c ops st ⟨dst,.binOp .mul t x y u,ty,pos,after,none⟩ (.int k z):=
  ZfO h h' (by simp [binOp,Op.intArith,hz,pure]) (by simp) (by simp)
theorem ZsT{z:Int}(h:Opv c st x (.int k m))(h':Opv c st y (.int k n))(h0:n≠0)(hz:k.wrap (m.tdiv n)=z):SVal c ops st ⟨dst,.binOp .quo t x y u,ty,pos,after,none⟩ (.int k z):=
  ZfO h h' (by simp [binOp,Op.intDiv,h0,hz,pure]) (by simp) (by simp)
theorem ZsF{z:Int}(h:Opv c st x (.int k m))(h':Opv c st y (.int k n))(h0:n≠0)(hz:m.tmod n=z):SVal c ops st ⟨dst,.binOp .rem t x y u,ty,pos,after,none⟩ (.int k z):=
  ZfO h h' (by simp [binOp,Op.intDiv,h0,hz,pure]) (by simp) (by simp)
theorem ZlH{op:BinOp}{b:Bool}(h:Opv c st x (.int k m))(h':Opv c st y (.int k n))(hz:(binOp op t (.int k m) (.int k n):Sem Value)= .pure (.bool b)):SVal c ops st ⟨dst,.binOp op t x y u,ty,pos,after,none⟩ (.bool b):=
  .pure rfl fun φ a w hc=>by
    refine⟨.bool b,?_,Zt (.bool _)⟩
    have e:=h.int hc
    have e':=h'.int hc
    simp only [execOp,e,e',hz]
    cases op<;>rfl
theorem Zae(h:Opv c st x (.int k m))(h':Opv c st y (.int k n)):SVal c ops st ⟨dst,.binOp .eql t x y u,ty,pos,after,none⟩ (.bool (decide (m=n))):=ZlH h h' (by simp [binOp,Op.intCmp,pure];rfl)
theorem Qy(h:Opv c st x (.int k m))(h':Opv c st y (.int k n)):SVal c ops st ⟨dst,.binOp .neq t x y u,ty,pos,after,none⟩ (.bool (!decide (m=n))):=ZlH h h' (by simp [binOp,Op.intCmp,pure];rfl)
theorem ZL(h:Opv c st x (.int k m))(h':Opv c st y (.int k n)):SVal c ops st ⟨dst,.binOp .lss t x y u,ty,pos,after,none⟩ (.bool (decide (m<n))):=ZlH h h' (by simp [binOp,Op.intCmp,pure])
theorem ZiK(h:Opv c st x (.int k m))(h':Opv c st y (.int k n)):SVal c ops st ⟨dst,.binOp .leq t x y u,ty,pos,after,none⟩ (.bool (decide (m≤n))):=ZlH h h' (by simp [binOp,Op.intCmp,pure])
theorem Za9(h:Opv c st x (.int k m))(h':Opv c st y (.int k n)):SVal c ops st ⟨dst,.binOp .gtr t x y u,ty,pos,after,none⟩ (.bool (decide (n<m))):=ZlH h h' (by simp [binOp,Op.intCmp,pure])
theorem ZiV(h:Opv c st x (.int k m))(h':Opv c st y (.int k n)):SVal c ops st ⟨dst,.binOp .geq t x y u,ty,pos,after,none⟩ (.bool (decide (n≤m))):=ZlH h h' (by simp [binOp,Op.intCmp,pure])
theorem XM{b:Bool}(h:Opv c st x (.bool b)):SVal c ops st ⟨dst,.unOp .not t x,ty,pos,after,none⟩ (.bool (!b)):=
  .pure rfl fun φ a w hc=>by
    refine⟨.bool (!b),?_,Zt (.bool _)⟩
    simp [execOp,h.bool hc,Op.unary,pure,bind,Sem.bind]
end arith
end ops
end Go.Vx

namespace Go.Vx
open Go Go.RowKit
def Xh:List (Option Own)→Nat→Option Own→List (Option Own)
  | [],_,_=> []
  |_::tl,0,o=>o::tl
  |x::tl,r+1,o=>x::Xh tl r o
theorem Zcj{hp:List (Option Own)}{r:Nat}{o:Own}(h:nth hp r=some o)(o':Option Own)(s:Nat):nth (Xh hp r o') s=if s=r then o' else nth hp s:=by
  induction hp generalizing r s with
  |nil=>simp [nth] at h
  |cons x tl ih=>
    cases r with
    |zero=>cases s<;>simp [Xh,nth]
    |succ r=>
      cases s with
      |zero=>simp [Xh,nth]
      |succ s=>simp only [nth] at h;simp only [Xh,nth,ih h];simp
theorem ZbA(hp:List (Option Own))(r:Nat)(o:Option Own):(Xh hp r o).length=hp.length:=by
  induction hp generalizing r with
  |nil=>rfl
  |cons x tl ih=>cases r<;>simp [Xh,ih]
theorem Za2(hp:List (Option Own))(o:Option Own)(s:Nat):nth (hp++ [o]) s=if s=hp.length then o else nth hp s:=by
  induction hp generalizing s with
  |nil=>cases s<;>simp [nth]
  |cons x tl ih=>cases s<;>simp [nth,ih]
theorem Zcw{c:Ctx}{φ:Phi}{hp:List (Option Own)}{w w':World}{r:Nat}{o o':Own}{L:Loc}(h:HeapOK c φ hp w)(hr:nth hp r=some o)
    (hos:w'.os=w.os) (htp:w'.tape=w.tape) (hou:w'.output=w.output) (hsz:w.heap.size≤w'.heap.size)
    (hb: ∀ b,b<w.heap.size→(φ r).blk≠some b→w'.heap[b]?=w.heap[b]?)
    (hblk:L.blk=(φ r).blk∨ ∀ b,L.blk=some b→w.heap.size≤b)
    (hn:L.same (φ r)∨(φ r).n<L.n)
    (hnew:(∀ av x,RelF c.P w (Mut c.A φ hp) hp.length φ av x→RelF c.P w' (Mut c.A (fun x=>if x=r then L else φ x) (Xh hp r (some o'))) hp.length (fun x=>if x=r then L else φ x) av x)→
      HRel c.P w' (Mut c.A (fun x=>if x=r then L else φ x) (Xh hp r (some o'))) hp.length (fun x=>if x=r then L else φ x) r o') (hsub:L.sub=(φ r).sub:=by rfl):
    HeapOK c (fun x=>if x=r then L else φ x) (Xh hp r (some o')) w'∧
    (∀ av x,RelF c.P w (Mut c.A φ hp) hp.length φ av x→RelF c.P w' (Mut c.A (fun x=>if x=r then L else φ x) (Xh hp r (some o'))) (Xh hp r (some o')).length (fun x=>if x=r then L else φ x) av x):=by
  have hlen:=ZbA hp r (some o')
  have hrl:r<hp.length:=XA hr
  have hLh: ∀ b,L.has b→(φ r).has b∨w.heap.size≤b:=by
    rintro b (h1 |h1)
    · rcases hblk with e |e
      · exact .inl (.inl (e▸h1))
      · exact .inr (e b h1)
    · exact .inl (.inr (hsub▸h1))
  have hbm: ∀ b,b<w.heap.size→ ¬Mut c.A φ hp b→w'.heap[b]?=w.heap[b]?:=fun b hlt hm=>hb b hlt fun e=>hm (.inr ⟨r,o,hr,.inl e⟩)
  have hmm: ∀ b,b<w.heap.size→ ¬Mut c.A φ hp b→ ¬Mut c.A (fun x=>if x=r then L else φ x) (Xh hp r (some o')) b:=by
    intro b hlt hm hm'
    rcases hm' with ha | ⟨s,os,hs,hbs⟩
    · exact hm (.inl ha)
    · rw [Zcj hr] at hs
      by_cases hsr:s=r
      · subst hsr
        simp only [if_true] at hbs
        rcases hLh b hbs with e |e
        · exact hm (.inr ⟨s,o,hr,e⟩)
        · omega
      · rw [nG hsr] at hs
        simp only [nG hsr] at hbs
        exact hm (.inr ⟨s,os,hs,hbs⟩)
  have hrel: ∀ (ψ:Phi) av x,(∀ s,s<hp.length→ψ s=if s=r then L else φ s)→Rel c.P w (Mut c.A φ hp) (fun s=>if s<hp.length then φ s else ψ s) av x→
      Rel c.P w' (Mut c.A (fun x=>if x=r then L else φ x) (Xh hp r (some o'))) ψ av x:=by
    intro ψ av x hψ hx
    refine(hx.mono hsz hbm hmm).loc fun s=> ?_
    by_cases hsl:s<hp.length
    · rw [hψ s hsl,pG hsl]
      by_cases hsr:s=r
      · subst hsr;rw [pG rfl];exact hn
      · rw [nG hsr];exact .inl (.refl _)
    · rw [nG hsl];exact .inl (.refl _)
  have htr: ∀ av x,RelF c.P w (Mut c.A φ hp) hp.length φ av x→RelF c.P w' (Mut c.A (fun x=>if x=r then L else φ x) (Xh hp r (some o'))) hp.length (fun x=>if x=r then L else φ x) av x:=by
    intro av x hx ψ hψ
    refine hrel ψ av x (fun s hs=>hψ s hs) (hx _ fun s hs=> ?_)
    simp only [pG hs]
  refine⟨⟨hos.trans h.os,htp.trans h.tape,hou.trans h.output,Nat.le_trans h.heap hsz,?_,?_,?_,?_,h.amb,h.glob,by rw [hlen];exact h.len,fun s hs=> ?_⟩,by rw [hlen];exact htr⟩
  rotate_left 4
  · by_cases hsr:s=r
    · subst hsr
      simp only [if_true]
      rcases h.mono s hs with h1 |h1
      · rcases hn with h2 |h2
        · exact .inl (h2.trans h1)
        · exact .inr (by rw [←h1.2.2.1];exact h2)
      · rcases hn with h2 |h2
        · exact .inr (by rw [h2.2.2.1];exact h1)
        · exact .inr (Nat.lt_trans h1 h2)
    · simp only [nG hsr];exact h.mono s hs
  · intro b hlt hnW
    rw [hb b (Nat.lt_of_lt_of_le hlt h.heap) fun e=> ?_]
    · exact h.frame b hlt hnW
    · rcases(h.owned r o b hr (.inl e)).1 with hw |hw
      · exact hnW hw
      · omega
  · intro s os b hs hbs
    rw [Zcj hr] at hs
    by_cases hsr:s=r
    · subst hsr
      simp only [if_true] at hbs
      rcases hLh b hbs with e |h1
      · exact h.owned s o b hr e
      · have h2:=h.heap
        exact⟨.inr (by omega),fun ha=>by have:=(h.amb b ha).1;omega⟩
    · rw [nG hsr] at hs
      simp only [nG hsr] at hbs
      exact h.owned s os b hs hbs
  · intro s s' os os' b hs hs' hbs hbs'
    rw [Zcj hr] at hs hs'
    have hold: ∀ x ox,nth hp x=some ox→(φ x).has b→b<w.heap.size:=fun x ox hx hbx=>(h.obj x ox hx).has_lt hbx
    by_cases hsr:s=r
    · by_cases hsr':s'=r
      · rw [hsr,hsr']
      · rw [nG hsr'] at hs'
        simp only [nG hsr'] at hbs'
        simp only [hsr,if_true] at hbs
        rcases hLh b hbs with e |e
        · rw [hsr];exact h.apart r s' o os' b hr hs' e hbs'
        · have:=hold s' os' hs' hbs';omega
    · rw [nG hsr] at hs
      simp only [nG hsr] at hbs
      by_cases hsr':s'=r
      · simp only [hsr',if_true] at hbs'
        rcases hLh b hbs' with e |e
        · rw [hsr'];exact h.apart s r os o b hs hr hbs e
        · have:=hold s os hs hbs;omega
      · rw [nG hsr'] at hs'
        simp only [nG hsr'] at hbs'
        exact h.apart s s' os os' b hs hs' hbs hbs'
  · intro s os hs
    rw [Zcj hr] at hs
    rw [hlen]
    by_cases hsr:s=r
    · subst hsr
      rw [pG rfl] at hs
      cases hs
      exact hnew htr
    · rw [nG hsr] at hs
      have hO:=h.obj s os hs
      refine⟨by simp only [nG hsr];exact hO.len,by simp only [nG hsr];exact hO.sz,hO.rows,by simp only [nG hsr];exact hO.room,by simp only [nG hsr];exact hO.cap,
        by simp only [nG hsr];exact hO.none,by simp only [nG hsr];exact fun b hb=>Nat.lt_of_lt_of_le (hO.subl b hb) hsz,by simp only [nG hsr];exact hO.subn,?_⟩
      intro b hbk
      simp only [nG hsr] at hbk ⊢
      obtain⟨cs,h1,h2,h3⟩:=hO.some b hbk
      exact⟨cs,h1.congr (hb b h1.lt fun e=>hsr (h.apart s r os o b hs hr (.inl hbk) (.inl e))),h2,h3.tr (fun x hx=>hb x (hO.subl x hx) fun e=>hsr (h.apart s r os o x hs hr (.inr hx) (.inl e))) htr⟩
theorem Zmm{c:Ctx}{φ:Phi}{hp:List (Option Own)}{w:World}{o:Own}{cs:Array Value}{cap:Nat}{mp:Bool}{ob:Obj}(h:HeapOK c φ hp w)(hob:Blk (w.alloc ob) w.heap.size mp o.elem cs)
    (hcs:cs.size=cap*c.P.cellsOf o.elem) (hcap:cap<2^63) (hlen:o.es.length≤cap) (hrows: ∀ row∈o.es,row.length=c.P.cellsOf o.elem)
    (hv:Cells c.P w (Mut c.A φ hp) hp.length φ (fun _=>False) o.es cs (c.P.cellsOf o.elem)):
    HeapOK c (fun x=>if x=hp.length then⟨some w.heap.size,cap,o.es.length,c.P.cellsOf o.elem,mp,fun _=>False⟩ else φ x) (hp++ [some o]) (w.alloc ob)∧
    (∀ av x,RelF c.P w (Mut c.A φ hp) hp.length φ av x→RelF c.P (w.alloc ob) (Mut c.A (fun x=>if x=hp.length then⟨some w.heap.size,cap,o.es.length,c.P.cellsOf o.elem,mp,fun _=>False⟩ else φ x) (hp++ [some o]))
      (hp++ [some o]).length (fun x=>if x=hp.length then⟨some w.heap.size,cap,o.es.length,c.P.cellsOf o.elem,mp,fun _=>False⟩ else φ x) av x):=by
  generalize hL:(⟨some w.heap.size,cap,o.es.length,c.P.cellsOf o.elem,mp,fun _=>False⟩:Loc)=L
  have hLh: ∀ b,L.has b→b=w.heap.size:=by
    rintro b (h1 |h1)<;>rw [←hL] at h1
    · cases h1;rfl
    · exact h1.elim
  have hBl:Below w.heap.size w (w.alloc ob):=(Below.refl _ _).alloc (Nat.le_refl _) _
  have hlenA:(hp++ [some o]).length=hp.length+1:=by simp
  have hmm: ∀ b,b<w.heap.size→ ¬Mut c.A φ hp b→ ¬Mut c.A (fun x=>if x=hp.length then L else φ x) (hp++ [some o]) b:=by
    intro b hlt hm hm'
    rcases hm' with ha | ⟨s,os,hs,hbs⟩
    · exact hm (.inl ha)
    · rw [Za2] at hs
      by_cases hsr:s=hp.length
      · simp only [hsr,if_true] at hbs;rw [hLh b hbs] at hlt;omega
      · rw [nG hsr] at hs
        simp only [nG hsr] at hbs
        exact hm (.inr ⟨s,os,hs,hbs⟩)
  have htr: ∀ av x,RelF c.P w (Mut c.A φ hp) hp.length φ av x→RelF c.P (w.alloc ob) (Mut c.A (fun x=>if x=hp.length then L else φ x) (hp++ [some o])) (hp.length+1) (fun x=>if x=hp.length then L else φ x) av x:=by
    intro av x hx ψ hψ
    refine(hx ψ fun s hs=> ?_).mono hBl.size (fun b hb _=>hBl.block b hb) hmm
    rw [hψ s (by omega)]
    show(if s=hp.length then L else φ s)=φ s
    rw [nG (by omega)]
  refine⟨⟨h.os,h.tape,h.output,Nat.le_trans h.heap hBl.size,fun b hb hn=>(hBl.block b (Nat.lt_of_lt_of_le hb h.heap)).trans (h.frame b hb hn),?_,?_,?_,h.amb,h.glob,by rw [hlenA];exact Nat.le_succ_of_le h.len,fun s hs=>by
    have:=h.len
    simp only [nG (show ¬s=hp.length by omega)];exact h.mono s hs⟩,by rw [hlenA];exact htr⟩
  · intro s os b hs hbs
    rw [Za2] at hs
    by_cases hsr:s=hp.length
    · simp only [hsr,if_true] at hbs
      rw [hLh b hbs]
      have h2:=h.heap
      exact⟨.inr h2,fun ha=>by have:=(h.amb _ ha).1;omega⟩
    · rw [nG hsr] at hs
      simp only [nG hsr] at hbs
      exact h.owned s os b hs hbs
  · intro s s' os os' b hs hs' hbs hbs'
    rw [Za2] at hs hs'
    have hold: ∀ x ox,nth hp x=some ox→(φ x).has b→b<w.heap.size:=fun x ox hx hbx=>(h.obj x ox hx).has_lt hbx
    by_cases hsr:s=hp.length
    · by_cases hsr':s'=hp.length
      · rw [hsr,hsr']
      · rw [nG hsr'] at hs'
        simp only [nG hsr'] at hbs'
        simp only [hsr,if_true] at hbs
        have:=hLh b hbs
        have:=hold s' os' hs' hbs';omega
    · rw [nG hsr] at hs
      simp only [nG hsr] at hbs
      by_cases hsr':s'=hp.length
      · simp only [hsr',if_true] at hbs'
        have:=hLh b hbs'
        have:=hold s os hs hbs;omega
      · rw [nG hsr'] at hs'
        simp only [nG hsr'] at hbs'
        exact h.apart s s' os os' b hs hs' hbs hbs'
  · intro s os hs
    rw [hlenA]
    rw [Za2] at hs
    by_cases hsr:s=hp.length
    · rw [pG hsr] at hs
      cases hs
      refine⟨by simp [hsr,←hL],by simp [hsr,←hL],hrows,by simp [hsr,←hL,hlen],by simp [hsr,←hL];omega,by simp [hsr,←hL],by simp [hsr,←hL],by simp [hsr,←hL],?_⟩
      intro b hb
      simp only [hsr,if_true,←hL] at hb
      cases hb
      rw [pG hsr]
      have hLs:L.sub=fun _=>False:=by rw [←hL]
      exact⟨cs,by rw [←hL];exact hob,by rw [←hL];exact hcs,by rw [hLs];exact hv.tr (fun b hb=>hb.elim) htr⟩
    · rw [nG hsr] at hs
      have hO:=h.obj s os hs
      refine⟨by simp only [nG hsr];exact hO.len,by simp only [nG hsr];exact hO.sz,hO.rows,by simp only [nG hsr];exact hO.room,by simp only [nG hsr];exact hO.cap,
        by simp only [nG hsr];exact hO.none,by simp only [nG hsr];exact fun b hb=>Nat.lt_of_lt_of_le (hO.subl b hb) hBl.size,by simp only [nG hsr];exact hO.subn,?_⟩
      intro b hbk
      simp only [nG hsr] at hbk ⊢
      obtain⟨cs',h1,h2,h3⟩:=hO.some b hbk
      exact⟨cs',h1.congr (hBl.block b h1.lt),h2,h3.tr (fun x hx=>hBl.block x (hO.subl x hx)) htr⟩
theorem ZiB{c:Ctx}{φ:Phi}{hp:List (Option Own)}{w:World}{o:Own}{cs:Array Value}{cap:Nat}(h:HeapOK c φ hp w)
    (hcs:cs.size=cap*c.P.cellsOf o.elem) (hcap:cap<2^63) (hlen:o.es.length≤cap) (hrows: ∀ row∈o.es,row.length=c.P.cellsOf o.elem)
    (hv: ∀ i j,i<o.es.length→j<c.P.cellsOf o.elem→RelF c.P w (Mut c.A φ hp) hp.length φ (cellAt o.es i j) (cs.getD (i*c.P.cellsOf o.elem+j) undef)):
    HeapOK c (fun x=>if x=hp.length then⟨some w.heap.size,cap,o.es.length,c.P.cellsOf o.elem,false,fun _=>False⟩ else φ x) (hp++ [some o]) (w.alloc (.cells cs o.elem))∧
    (∀ av x,RelF c.P w (Mut c.A φ hp) hp.length φ av x→RelF c.P (w.alloc (.cells cs o.elem)) (Mut c.A (fun x=>if x=hp.length then⟨some w.heap.size,cap,o.es.length,c.P.cellsOf o.elem,false,fun _=>False⟩ else φ x) (hp++ [some o]))
      (hp++ [some o]).length (fun x=>if x=hp.length then⟨some w.heap.size,cap,o.es.length,c.P.cellsOf o.elem,false,fun _=>False⟩ else φ x) av x):=
  Zmm (mp:=false) h (by show(w.heap.push _)[w.heap.size]?=_;simp) hcs hcap hlen hrows (.of hv)
end Go.Vx
