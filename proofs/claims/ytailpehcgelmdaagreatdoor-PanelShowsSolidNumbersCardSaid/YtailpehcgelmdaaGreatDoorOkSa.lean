/- A text of the proof: a verified executor of the program form, or the contracts of the functions that the law reaches. -/
import Derived.Test.YtailpehcgelmdaaGreatDoorVR
import Derived.Test.YtailpehcgelmdaaGreatDoorShT
import Derived.Test.YtailpehcgelmdaaGreatDoorProg
import Derived.Test.YtailpehcgelmdaaGreatDoorLayA
set_option linter.all false
namespace Go.Proofs.YtailpehcgelmdaaGreatDoor
open Go Go.Vx
set_option maxRecDepth 10000
set_option maxHeartbeats 1000000
set_option linter.unusedVariables false
theorem tZ_136:Tryz.prog.cellsOf 136=3:=by kernel_rfl
instance:SzD Tryz.prog 136 3:=⟨tZ_136⟩
theorem tZ_49:Tryz.prog.cellsOf 49=12:=by kernel_rfl
instance:SzD Tryz.prog 49 12:=⟨tZ_49⟩
theorem tZ_56:Tryz.prog.cellsOf 56=3:=by kernel_rfl
instance:SzD Tryz.prog 56 3:=⟨tZ_56⟩
theorem tZ_54:Tryz.prog.cellsOf 54=4:=by kernel_rfl
instance:SzD Tryz.prog 54 4:=⟨tZ_54⟩
theorem tZ_24:Tryz.prog.cellsOf 24=1:=by kernel_rfl
instance:SzD Tryz.prog 24 1:=⟨tZ_24⟩
theorem ZeY:tAgg Tryz.prog 24 1=true:=by kernel_rfl
theorem tZ_25:Tryz.prog.cellsOf 25=1:=by kernel_rfl
instance:SzD Tryz.prog 25 1:=⟨tZ_25⟩
theorem Zba:tFld Tryz.prog 24 0 0=true:=by kernel_rfl
theorem Zfq:tScal Tryz.prog 22=true:=by kernel_rfl
theorem Zc1:tSl Tryz.prog 22 49 12 128=true:=by kernel_rfl
theorem Zds:tAgg Tryz.prog 49 12=true:=by kernel_rfl
theorem ZkE:Zau Tryz.prog 49=some [.int .i64 0,.string ⟨#[]⟩,.string ⟨#[]⟩,.int .i64 0,.int .i64 0,.int .i64 0,.int .i64 0,.slice none 0 0,.int .i64 0,.int .i64 0,.bool false,.int .i64 0]:=by kernel_rfl
theorem Zcp:tFld Tryz.prog 49 0 0=true:=by kernel_rfl
theorem tS3:tScal Tryz.prog 3=true:=by kernel_rfl
theorem Zjj:tFld Tryz.prog 49 1 1=true:=by kernel_rfl
theorem tS9:tScal Tryz.prog 9=true:=by kernel_rfl
theorem QB:tStr Tryz.prog 9=true:=by kernel_rfl
theorem ZlR:Zau Tryz.prog 203=some [.bool false,.bool false,.bool false,.bool false,.bool false,.bool false,.bool false,.bool false,.bool false,.bool false,.bool false,.bool false,.bool false,.bool false,.bool false,.bool false,.bool false,.bool false,.bool false,.bool false,.bool false,.bool false,.bool false,.bool false,.bool false,.bool false,.bool false,.bool false,.bool false,.bool false,.bool false,.bool false,.bool false,.bool false,.bool false,.bool false,.bool false,.bool false,.bool false,.bool false,.bool false,.bool false,.bool false,.bool false,.bool false,.bool false,.bool false,.bool false,.bool false,.bool false,.bool false,.bool false,.bool false,.bool false,.bool false,.bool false,.bool false,.bool false,.bool false,.bool false,.bool false,.bool false,.bool false,.bool false,.bool false,.bool false,.bool false,.bool false,.bool false,.bool false,.bool false,.bool false,.bool false,.bool false,.bool false,.bool false,.bool false,.bool false,.bool false,.bool false,.bool false,.bool false,.bool false,.bool false,.bool false,.bool false,.bool false,.bool false,.bool false,.bool false,.bool false,.bool false,.bool false,.bool false,.bool false,.bool false,.bool false,.bool false,.bool false,.bool false,.bool false,.bool false,.bool false,.bool false,.bool false,.bool false,.bool false,.bool false,.bool false,.bool false,.bool false,.bool false,.bool false,.bool false,.bool false,.bool false,.bool false,.bool false,.bool false,.bool false,.bool false,.bool false,.bool false,.bool false,.bool false,.bool false,.bool false,.bool false,.bool false,.bool false,.bool false,.bool false,.bool false,.bool false,.bool false,.bool false,.bool false,.bool false,.bool false,.bool false,.bool false,.bool false,.bool false,.bool false,.bool false,.bool false,.bool false,.bool false,.bool false,.bool false,.bool false,.bool false,.bool false,.bool false,.bool false,.bool false,.bool false,.bool false,.bool false,.bool false,.bool false,.bool false,.bool false,.bool false,.bool false,.bool false,.bool false,.bool false,.bool false,.bool false,.bool false,.bool false,.bool false,.bool false,.bool false,.bool false,.bool false,.bool false,.bool false,.bool false,.bool false,.bool false,.bool false,.bool false,.bool false,.bool false,.bool false,.bool false,.bool false,.bool false,.bool false,.bool false,.bool false,.bool false,.bool false,.bool false,.bool false,.bool false,.bool false,.bool false,.bool false,.bool false,.bool false,.bool false,.bool false,.bool false,.bool false,.bool false,.bool false,.bool false,.bool false,.bool false,.bool false,.bool false,.bool false,.bool false,.bool false,.bool false,.bool false,.bool false,.bool false,.bool false,.bool false,.bool false,.bool false,.bool false,.bool false,.bool false,.bool false,.bool false,.bool false,.bool false,.bool false,.bool false,.bool false,.bool false,.bool false,.bool false,.bool false,.bool false,.bool false,.bool false,.bool false,.bool false,.bool false,.bool false,.bool false,.bool false,.bool false,.bool false,.bool false,.bool false,.bool false,.bool false,.bool false,.bool false]:=by kernel_rfl
theorem tZ_203:Tryz.prog.cellsOf 203=256:=by kernel_rfl
instance:SzD Tryz.prog 203 256:=⟨tZ_203⟩
theorem Zhi:tAgg Tryz.prog 203 256=true:=by kernel_rfl
theorem ZlX:tArr Tryz.prog 203 256 4 1=true:=by kernel_rfl
theorem tS4:tScal Tryz.prog 4=true:=by kernel_rfl
theorem tI5:tInt Tryz.prog 5 .u8=true:=by kernel_rfl
theorem Zmd:tInt Tryz.prog 21 .i32=true:=by kernel_rfl
theorem ZiW:tFld Tryz.prog 49 2 2=true:=by kernel_rfl
theorem ZfL:tFld Tryz.prog 49 3 3=true:=by kernel_rfl
theorem Zdh:tSl Tryz.prog 26 3 1 8=true:=by kernel_rfl
theorem tZ_3:Tryz.prog.cellsOf 3=1:=by kernel_rfl
instance:SzD Tryz.prog 3 1:=⟨tZ_3⟩
theorem Zf3:tFld Tryz.prog 49 4 4=true:=by kernel_rfl
theorem Zhc:tFld Tryz.prog 49 5 5=true:=by kernel_rfl
theorem Zim:tFld Tryz.prog 49 6 6=true:=by kernel_rfl
theorem ZeL:tFld Tryz.prog 49 7 7=true:=by kernel_rfl
theorem ZiU:tScal Tryz.prog 47=true:=by kernel_rfl
theorem Zh0:tSl Tryz.prog 47 136 3 32=true:=by kernel_rfl
theorem Zjd:tFld Tryz.prog 49 8 8=true:=by kernel_rfl
theorem Zja:tFld Tryz.prog 49 9 9=true:=by kernel_rfl
theorem ZjO:tFld Tryz.prog 49 10 10=true:=by kernel_rfl
theorem ZhR:tFld Tryz.prog 49 11 11=true:=by kernel_rfl
theorem Zjo:tAgg Tryz.prog 136 3=true:=by kernel_rfl
theorem Zl1:Zau Tryz.prog 136=some [.int .i64 0,.int .i64 0,.string ⟨#[]⟩]:=by kernel_rfl
theorem Zjv:tFld Tryz.prog 136 2 2=true:=by kernel_rfl
theorem ZhS:tFld Tryz.prog 136 0 0=true:=by kernel_rfl
theorem Zh6:tFld Tryz.prog 136 1 1=true:=by kernel_rfl
theorem Zkp:tScal Tryz.prog 25=true:=by kernel_rfl
theorem Zeq:tSl Tryz.prog 25 54 4 56=true:=by kernel_rfl
theorem Zic:tAgg Tryz.prog 54 4=true:=by kernel_rfl
theorem Zlz:Zau Tryz.prog 54=some [.string ⟨#[]⟩,.int .i64 0,.slice none 0 0,.int .i64 0]:=by kernel_rfl
theorem ZgM:tFld Tryz.prog 54 0 0=true:=by kernel_rfl
theorem ZeU:tFld Tryz.prog 54 1 1=true:=by kernel_rfl
theorem ZkL:tAgg Tryz.prog 52 2=true:=by kernel_rfl
theorem tZ_52:Tryz.prog.cellsOf 52=2:=by kernel_rfl
instance:SzD Tryz.prog 52 2:=⟨tZ_52⟩
theorem ZiV:tFld Tryz.prog 52 0 0=true:=by kernel_rfl
theorem ZcU:tFld Tryz.prog 52 1 1=true:=by kernel_rfl
theorem Zho:tScal Tryz.prog 50=true:=by kernel_rfl
theorem ZeH:tSl Tryz.prog 50 56 3 24=true:=by kernel_rfl
theorem ZdA:tAgg Tryz.prog 56 3=true:=by kernel_rfl
theorem Zio:Zau Tryz.prog 56=some [.int .i64 0,.int .i64 0,.int .i64 0]:=by kernel_rfl
theorem ZfH:tFld Tryz.prog 56 0 0=true:=by kernel_rfl
theorem Ze6:tFld Tryz.prog 56 1 1=true:=by kernel_rfl
theorem ZgI:tFld Tryz.prog 56 2 2=true:=by kernel_rfl
theorem Zkd:tFld Tryz.prog 54 2 3=true:=by kernel_rfl
theorem Zke:Zau Tryz.prog 24=some [.slice none 0 0]:=by kernel_rfl
theorem Zmt:(match Tryz.prog.underlying 22 with |some (.slice _)=>true |_=>false)=true:=by kernel_rfl
theorem Zl6:ZaL Tryz.prog 24=some [(0,1)]:=by kernel_rfl
theorem Zl3:ZcN Tryz.prog 24=true:=by kernel_rfl
theorem Zmq:(match Tryz.prog.underlying 47 with |some (.slice _)=>true |_=>false)=true:=by kernel_rfl
theorem ZmC:(match Tryz.prog.underlying 25 with |some (.slice _)=>true |_=>false)=true:=by kernel_rfl
theorem Zmj:(match Tryz.prog.underlying 50 with |some (.slice _)=>true |_=>false)=true:=by kernel_rfl
theorem Zhw:Zau Tryz.prog 44=some [.int .i64 0,.slice none 0 0]:=by kernel_rfl
theorem tZ_44:Tryz.prog.cellsOf 44=2:=by kernel_rfl
instance:SzD Tryz.prog 44 2:=⟨tZ_44⟩
theorem tZ_99:Tryz.prog.cellsOf 99=5:=by kernel_rfl
instance:SzD Tryz.prog 99 5:=⟨tZ_99⟩
theorem Zfm:tSl Tryz.prog 42 99 5 48=true:=by kernel_rfl
theorem Zk7:Zau Tryz.prog 99=some [.bool false,.bool false,.int .i64 0,.int .i64 0,.slice none 0 0]:=by kernel_rfl
theorem ZkY:ZaL Tryz.prog 44=some [(0,1),(1,1)]:=by kernel_rfl
theorem Zk3:ZcN Tryz.prog 44=true:=by kernel_rfl
theorem ZaO:tAgg Tryz.prog 44 2=true:=by kernel_rfl
theorem Zni:ZaL Tryz.prog 91=some [(0,1),(1,1),(2,1),(3,2),(5,1),(6,1)]:=by kernel_rfl
theorem ZmW:ZcN Tryz.prog 91=true:=by kernel_rfl
theorem Znp:Zau Tryz.prog 91=some [.slice none 0 0,.slice none 0 0,.int .i64 0,.int .i64 0,.slice none 0 0,.slice none 0 0,.slice none 0 0]:=by kernel_rfl
theorem Znj:tAgg Tryz.prog 91 7=true:=by kernel_rfl
theorem tZ_91:Tryz.prog.cellsOf 91=7:=by kernel_rfl
instance:SzD Tryz.prog 91 7:=⟨tZ_91⟩
theorem tZ_120:Tryz.prog.cellsOf 120=2:=by kernel_rfl
instance:SzD Tryz.prog 120 2:=⟨tZ_120⟩
theorem ZmZ:ZaL Tryz.prog 49=some [(0,1),(1,1),(2,1),(3,1),(4,1),(5,1),(6,1),(7,1),(8,1),(9,1),(10,1),(11,1)]:=by kernel_rfl
theorem Zm3:ZcN Tryz.prog 49=true:=by kernel_rfl
theorem Zl0:ZaL Tryz.prog 56=some [(0,1),(1,1),(2,1)]:=by kernel_rfl
theorem Zl5:ZcN Tryz.prog 56=true:=by kernel_rfl
theorem ZmT:ZaL Tryz.prog 52=some [(0,1),(1,1)]:=by kernel_rfl
theorem ZmO:ZcN Tryz.prog 52=true:=by kernel_rfl
theorem Znt:Zau Tryz.prog 52=some [.int .i64 0,.slice none 0 0]:=by kernel_rfl
theorem Zm9:ZaL Tryz.prog 54=some [(0,1),(1,2),(3,1)]:=by kernel_rfl
theorem Zne:ZcN Tryz.prog 54=true:=by kernel_rfl
theorem Za7:tFld Tryz.prog 91 3 3=true:=by kernel_rfl
theorem Zbg:tFld Tryz.prog 44 0 0=true:=by kernel_rfl
theorem ZhU:tFld Tryz.prog 91 0 0=true:=by kernel_rfl
theorem Zi2:tFld Tryz.prog 91 1 1=true:=by kernel_rfl
theorem tI3:tInt Tryz.prog 3 .i64=true:=by kernel_rfl
theorem ZjK:tInt Tryz.prog 126 .u64=true:=by kernel_rfl
theorem Za5:tFld Tryz.prog 44 1 1=true:=by kernel_rfl
theorem Zft:tScal Tryz.prog 42=true:=by kernel_rfl
theorem Ziq:tAgg Tryz.prog 99 5=true:=by kernel_rfl
theorem Zdy:tFld Tryz.prog 99 4 4=true:=by kernel_rfl
theorem ZhO:tScal Tryz.prog 26=true:=by kernel_rfl
theorem ZkQ:(match Tryz.prog.underlying 26 with |some (.slice _)=>true |_=>false)=true:=by kernel_rfl
theorem ZeK:tFld Tryz.prog 99 0 0=true:=by kernel_rfl
theorem Zi3:tFld Tryz.prog 99 3 3=true:=by kernel_rfl
theorem Zi0:tFld Tryz.prog 99 1 1=true:=by kernel_rfl
theorem ZiY:tFld Tryz.prog 99 2 2=true:=by kernel_rfl
theorem ZkP:tArr Tryz.prog 244 2 3 1=true:=by kernel_rfl
theorem Zk5:Zau Tryz.prog 39=some [.string ⟨#[]⟩,.int .i64 0,.bool false,.int .i64 0]:=by kernel_rfl
theorem tZ_39:Tryz.prog.cellsOf 39=4:=by kernel_rfl
instance:SzD Tryz.prog 39 4:=⟨tZ_39⟩
theorem Zl9:ZaL Tryz.prog 39=some [(0,1),(1,1),(2,1),(3,1)]:=by kernel_rfl
theorem Zl2:ZcN Tryz.prog 39=true:=by kernel_rfl
theorem ZkM:tAgg Tryz.prog 39 4=true:=by kernel_rfl
theorem Zdz:tFld Tryz.prog 39 0 0=true:=by kernel_rfl
theorem Zmn:tFld Tryz.prog 39 1 1=true:=by kernel_rfl
theorem Zj9:tSl Tryz.prog 171 9 1 16=true:=by kernel_rfl
theorem tZ_9:Tryz.prog.cellsOf 9=1:=by kernel_rfl
instance:SzD Tryz.prog 9 1:=⟨tZ_9⟩
theorem Zje:tSl Tryz.prog 37 39 4 40=true:=by kernel_rfl
theorem Zig:tFld Tryz.prog 91 2 2=true:=by kernel_rfl
theorem Qx:tFld Tryz.prog 91 4 5=true:=by kernel_rfl
theorem Jp:tScal Tryz.prog 88=true:=by kernel_rfl
theorem Jf:tSl Tryz.prog 88 44 2 32=true:=by kernel_rfl
theorem Zmr:(match Tryz.prog.underlying 42 with |some (.slice _)=>true |_=>false)=true:=by kernel_rfl
theorem Znh:ZhZ Tryz.prog 39 [.s,.i .i64,.b,.i .i64]=true:=by kernel_rfl
def gl0:Gl:=⟨2,[(1,(Go.Lib.pow10Tab.map fun z=>Value.int .u64 z).toArray)]⟩
def R136(x:api_Zone):List AV:= [.int .i64 x.From,.int .i64 x.To,.str x.Name]
def R49(x:api_Instrument):List AV:= [.int .i64 x.Kind,.str x.Name,.str x.Track,.int .i64 x.Places,.int .i64 x.Low,.int .i64 x.High,.int .i64 x.Steps,.sl 136 (List.map R136 x.Zones),.int .i64 x.Op,.int .i64 x.N,.bool x.Latch,.int .i64 x.Size]
def R56(x:api_Sample):List AV:= [.int .i64 x.At,.int .i64 x.N,.int .i64 x.Mark]
def R54(x:api_Track):List AV:= [.str x.Name,.int .i64 x.Series.Den,.sl 56 (List.map R56 x.Series.Samples),.int .i64 x.Long]
def C4(x:Bool):AV:= .bool x
def R3(x:Int):List AV:= [.int .i64 x]
theorem D49(x:api_Instrument):(R49 x).length=Tryz.prog.cellsOf 49∧(R49 x).all datB=true:=⟨tZ_49.symm,rfl⟩
instance:RowD Tryz.prog 49 R49:=⟨D49⟩
theorem D136(x:api_Zone):(R136 x).length=Tryz.prog.cellsOf 136∧(R136 x).all datB=true:=⟨tZ_136.symm,rfl⟩
instance:RowD Tryz.prog 136 R136:=⟨D136⟩
theorem D54(x:api_Track):(R54 x).length=Tryz.prog.cellsOf 54∧(R54 x).all datB=true:=⟨tZ_54.symm,rfl⟩
instance:RowD Tryz.prog 54 R54:=⟨D54⟩
theorem D56(x:api_Sample):(R56 x).length=Tryz.prog.cellsOf 56∧(R56 x).all datB=true:=⟨tZ_56.symm,rfl⟩
instance:RowD Tryz.prog 56 R56:=⟨D56⟩
def R99(x:api_Memo):List AV:= [.bool x.Lit,.bool x.Some,.int .i64 x.N,.int .i64 x.Count,.sl 3 (List.map R3 x.Tape)]
theorem D99(x:api_Memo):(R99 x).length=Tryz.prog.cellsOf 99∧(R99 x).all datB=true:=⟨tZ_99.symm,rfl⟩
instance:RowD Tryz.prog 99 R99:=⟨D99⟩
def R44(x:api_PanelState):List AV:= [.int .i64 x.Frame,.sl 99 (List.map R99 x.Memos)]
def R120(x:api_Bookmark):List AV:= [.int .i64 x.Frame,.str x.Text]
theorem D44(x:api_PanelState):(R44 x).length=Tryz.prog.cellsOf 44∧(R44 x).all datB=true:=⟨tZ_44.symm,rfl⟩
instance:RowD Tryz.prog 44 R44:=⟨D44⟩
theorem D120(x:api_Bookmark):(R120 x).length=Tryz.prog.cellsOf 120∧(R120 x).all datB=true:=⟨tZ_120.symm,rfl⟩
instance:RowD Tryz.prog 120 R120:=⟨D120⟩
theorem D3(x:Int):(R3 x).length=Tryz.prog.cellsOf 3∧(R3 x).all datB=true:=⟨tZ_3.symm,rfl⟩
instance:RowD Tryz.prog 3 R3:=⟨D3⟩
def R9(x:Str):List AV:= [.str x]
theorem D9(x:Str):(R9 x).length=Tryz.prog.cellsOf 9∧(R9 x).all datB=true:=⟨tZ_9.symm,rfl⟩
instance:RowD Tryz.prog 9 R9:=⟨D9⟩
def R39(x:api_Face):List AV:= [.str x.Text,.int .i64 x.Needle,.bool x.Lit,.int .i64 x.Mark]
theorem D39(x:api_Face):(R39 x).length=Tryz.prog.cellsOf 39∧(R39 x).all datB=true:=⟨tZ_39.symm,rfl⟩
instance:RowD Tryz.prog 39 R39:=⟨D39⟩
theorem Qj{n:Int}{low:Int}{high:Int}{r:Bool}(h:ZF n low high=some r):
 CSpec Tryz.prog gl0 37 [.int .i64 n,.int .i64 low,.int .i64 high] (.bool r):=by
 unfold ZF at h
 replace h:=Z9 h
 refine So Tryz.func37 Y fun w0 A=>Tr<|Ra Y<|Za<|Tr<|Rm Y<|Rm Y<|R2 ZbN Y<|Rm Y<|Rq Y (.guarded ((decide (low≤n))==true) Y Y Y Y fun h=>Zg<|ov Y)<|Rq Y (.guarded ((decide (low≤n))==true) Y Y Y Y fun h=>Zg<|ov Y)<|Rq Y (.guarded ((decide (low≤n))==true) Y Y Y Y fun h=>ZcL (ow Y h)<|ow Y h)<|Rq Y (XT (ov Y) fun hp=>ow Y<|gT hp)<|Ra Y<|Za<|?_
 obtain rfl:=rt h
 exact Zj (ZD Y (.one<|rb Y))
theorem ZcP{s:Str}{c_:Int}{r:Str}(h:Xe s c_=some r):
 CSpec Tryz.prog gl0 177 [.str s,.int .u8 c_] (.str r):=by
 unfold Xe at h
 replace h:=Z9 h
 refine So Tryz.func177 Y fun w0 A=>Tr<|Ra Y<|Za<|I1 (fun s2=>⟨[(0,.str s2)],[]⟩) h (fun h=>?_) fun s2 h=>?_
 ·
  refine Zr<|?_
  obtain⟨r1,hl1,ho1⟩:=Zay h
  refine L1 (fun s3=>⟨[(0,.str s3),(1,.int .u8 c_)],[]⟩) hl1 (ES []) fun n1 s3 h=>?_
  unfold Xm at h
  refine Zt<|Tr<|Rm Y<|Rq Y (QL (ov Y) QB Y)<|R2 JC Y<|Rm Y<|Rq Y (.guarded ((decide (0<(s3.length:Int)))==true) Y Y Y Y fun h=>Zg<|ov Y)<|Rq Y (.guarded ((decide (0<(s3.length:Int)))==true) Y Y Y Y fun h=>Zg<|ov Y)<|Rq Y (.guarded ((decide (0<(s3.length:Int)))==true) Y Y Y Y fun h=>QL (ow Y h) QB Y)<|Rq Y (.guarded ((decide (0<(s3.length:Int)))==true) Y Y Y Y fun h=>ZhF (ow Y h) (ov Y) Y)<|bE h fun b h_b h=>Rq Y (.guarded ((decide (0<(s3.length:Int)))==true) Y Y Y Y fun h=>Xp (ow Y h) (ow Y h) QB<|gdT h_b h)<|Rq Y (.guarded ((decide (0<(s3.length:Int)))==true) Y Y Y Y fun h=>Zg<|ov Y)<|Rq Y (.guarded ((decide (0<(s3.length:Int)))==true) Y Y Y Y fun h=>Xs (ow Y h)<|ow Y h)<|Rq Y (XT (ov Y) fun hp=>ow Y<|gT hp)<|Za<|K3 0 1 16 Y<|If h Y (fun h=>?_) fun h=>?_
  ·
   exact Zf<|Zr<|K2 0 1 Y<|ZH<|Rm Y<|Rm Y<|Rq Y (QL (ov Y) QB Y)<|R2 Zda Y<|bE h fun s4 h_s4 h=>Rq Y (Ja (ov Y) QB on (oi<|ov Y) h_s4)<|Ra Y<|Za<|⟨_,h,ES []⟩
  ·
   refine Z3<|?_
   replace h:=lx h▸ho1
   exact⟨_,h,ES []⟩
 ·
  refine Tr<|Rm Y<|Ra Y<|Za<|?_
  obtain rfl:=rt h
  exact Zj (ZD Y (.one<|rb Y))
theorem Zdi{s:Str}{c_:Int}{r:Str}(h:Xw s c_=some r):
 CSpec Tryz.prog gl0 176 [.str s,.int .u8 c_] (.str r):=by
 unfold Xw at h
 replace h:=Z9 h
 refine So Tryz.func176 Y fun w0 A=>Tr<|Ra Y<|Za<|I1 (fun s2=>⟨[(0,.str s2)],[]⟩) h (fun h=>?_) fun s2 h=>?_
 ·
  refine Zr<|?_
  obtain⟨r1,hl1,ho1⟩:=Zay h
  refine L1 (fun s3=>⟨[(0,.str s3),(1,.int .u8 c_)],[]⟩) hl1 (ES []) fun n1 s3 h=>?_
  unfold XA at h
  refine Zt<|Tr<|Rm Y<|Rq Y (QL (ov Y) QB Y)<|R2 JC Y<|Rm Y<|Rq Y (.guarded ((decide (0<(s3.length:Int)))==true) Y Y Y Y fun h=>Zg<|ov Y)<|bE h fun b h_b h=>Rq Y (.guarded ((decide (0<(s3.length:Int)))==true) Y Y Y Y fun h=>Xp (ow Y h) (ov Y) QB<|gdT h_b h)<|Rq Y (.guarded ((decide (0<(s3.length:Int)))==true) Y Y Y Y fun h=>Zg<|ov Y)<|Rq Y (.guarded ((decide (0<(s3.length:Int)))==true) Y Y Y Y fun h=>Xs (ow Y h)<|ow Y h)<|Rq Y (XT (ov Y) fun hp=>ow Y<|gT hp)<|Za<|K3 0 1 13 Y<|If h Y (fun h=>?_) fun h=>?_
  ·
   exact Zf<|Zr<|K2 0 1 Y<|ZH<|Rm Y<|bE h fun s4 h_s4 h=>Rq Y (Ja (ov Y) QB (oi<|ov Y) on h_s4)<|Ra Y<|Za<|⟨_,h,ES []⟩
  ·
   refine Z3<|?_
   replace h:=lx h▸ho1
   exact⟨_,h,ES []⟩
 ·
  refine Tr<|Rm Y<|Ra Y<|Za<|?_
  obtain rfl:=rt h
  exact Zj (ZD Y (.one<|rb Y))
theorem Zc8{chars:Str}{r:(Vector Bool 256)×Bool}(h:QJ chars=some r):
 CSpec Tryz.prog gl0 178 [.str chars] (.tuple [.agg (List.map C4 r.1.toList),.bool r.2]):=by
 unfold QJ at h
 replace h:=Z9 h
 refine So Tryz.func178 Y fun w0 A=>Tr<|Rx Y (Z8 (row:=(List.map C4 (Vector.replicate 256 false).toList)) 0 Y ZlR Y tZ_203)<|Ra Y<|Za<|J1 (fun j=>(.inr j)) (fun as_=>⟨[(2,.ptr 0 1 0 0)],[some ⟨203,[(List.map C4 as_.toList)]⟩]⟩) h (fun h=>?_) fun as_ h=>?_
 ·
  refine K2 0 2 Y<|Tr<|Ra Y<|Za<|Zr<|?_
  obtain⟨r1,hl1,ho1⟩:=Zay h
  refine L2 (fun as_2 i=>⟨[(0,.str chars),(2,.ptr 0 1 0 0),(4,.int .i64 i)],[some ⟨203,[(List.map C4 as_2.toList)]⟩]⟩) hl1 (ES [some 0]) fun n1 as_2 i h=>?_
  unfold XB at h
  refine Zt<|Tr<|Rm Y<|Rm Y<|Rq Y (QL (ov Y) QB Y)<|R2 QE Y<|Za<|K4 0 2 4 9 Y<|If h Y (fun h=>?_) fun h=>?_
  ·
   refine Zf<|Zt<|Zr<|K3 0 2 4 Y<|Tr<|Rm Y<|Rm Y<|bE h fun b h_b h=>Rq Y (Xp (ov Y) (ov Y) QB h_b)<|Ra Y<|Za<|Zt<|K4 0 2 4 5 Y<|Tr<|Rm Y<|R2 ZbN Y<|Za<|K5 0 2 4 5 16 Y<|If h Y (fun h=>?_) fun h=>?_
   ·
    refine K1 2 Y<|Tr<|Rq Y (Qk (ov Y) Y Y Y Zhi (Zih<|Zd9 arL) arL (hns:=(nsM fun _=>Y)))<|Rx Y (Zq (ov Y) (ov Y) (ZE Zhi arL) Y Y Y (Zi9 (Zd9 arL) arL) (Zd<|arC fun _=>Y)<|ZhP<|Eq.trans arL<|Eq.symm arL)<|Ra Y<|Za<|?_
    replace h:=lx h▸ho1
    obtain rfl:=rt h
    exact Zj (ZD Y (.two (.agg Y Y Y Y Zhi (Zih<|Zd9 arL) arL (pwB<|arD fun _=>Y) (hns:=(nsM fun _=>Y)))<|rb Y))
   ·
    exact Zf<|K4 0 2 4 5 Y<|ZH<|Rm Y<|bE h fun x h_x h=>Rq Y (Zmf (ov Y) (ov Y) ZlX Y Y h_x)<|Rx Y (Zq (ov Y) (ov Y) (Zv tS4) Y Y Y (arB h_x) (Zd Y)<|arS h_x)<|Za<|K3 0 2 4 Y<|ZH<|Rm Y<|R2 Jh Y<|Ra Y<|Za<|⟨_,h,ES [some 0]⟩
  ·
   refine Z3<|?_
   replace h:=lx h▸ho1
   exact⟨_,h,ES [some 0]⟩
 ·
  replace h:=elr h
  replace h:=t1i h
  refine Tr<|Rq Y (Qk (ov Y) Y Y Y Zhi (Zih<|Zd9 arL) arL (hns:=(nsM fun _=>Y)))<|Rx Y (Zq (ov Y) (ov Y) (ZE Zhi arL) Y Y Y (Zi9 (Zd9 arL) arL) (Zd<|arC fun _=>Y)<|ZhP<|Eq.trans arL<|Eq.symm arL)<|Ra Y<|Za<|?_
  obtain rfl:=rt h
  exact Zj (ZD Y (.two (.agg Y Y Y Y Zhi (Zih<|Zd9 arL) arL (pwB<|arD fun _=>Y) (hns:=(nsM fun _=>Y)))<|rb Y))
theorem JW{as_:Vector Bool 256}{c_:Int}{r:Bool}(h:ZO as_ c_=some r):
 CSpec Tryz.prog gl0 193 [.rp (List.map C4 as_.toList) 0,.int .u8 c_] (.bool r):=by
 unfold ZO at h
 replace h:=Z9 h
 refine So Tryz.func193 Y fun w0 A=>Tr<|Ra Y<|Za<|Tr<|Rm Y<|Rm Y<|R1 ZiC Y<|bE h fun x h_x h=>Rq Y (Zmz (ov Y) (ov Y) ZlX h_x)<|Rq Y (Zc (ov Y) tS4<|ZmJ<|Zm8 (o:=0) (o':=(c_.toNat*1)) (Zd9 arL)<|ZmN h_x)<|Ra Y<|Za<|?_
 obtain rfl:=rt h
 exact Zj (ZD Y (.one<|rb Y))
theorem ZcE{s:Str}{as_:Vector Bool 256}{r:Str}(h:Qc s as_=some r):
 CSpec Tryz.prog gl0 180 [.str s,.rp (List.map C4 as_.toList) 0] (.str r):=by
 unfold Qc at h
 replace h:=Z9 h
 refine So Tryz.func180 Y fun w0 A=>Tr<|Ra Y<|Za<|I1 (fun s2=>⟨[(0,.str s2)],[]⟩) h (fun h=>?_) fun s2 h=>?_
 ·
  refine Zr<|?_
  obtain⟨r1,hl1,ho1⟩:=Zay h
  refine L1 (fun s3=>⟨[(0,.str s3),(1,.rp (List.map C4 as_.toList) 0)],[]⟩) hl1 (ES []) fun n1 s3 h=>?_
  unfold ZN at h
  refine Zt<|Tr<|Rm Y<|Rq Y (QL (ov Y) QB Y)<|R2 JC Y<|Za<|K3 0 1 7 Y<|If h Y (fun h=>?_) fun h=>?_
  ·
   refine Zf<|Zr<|Zt<|K2 0 1 Y<|Tr<|Rm Y<|Rm Y<|Rm Y<|Rq Y (QL (ov Y) QB Y)<|R2 Zda Y<|bE h fun b h_b h=>Rq Y (Xp (ov Y) (ov Y) QB h_b)<|bE h fun y h_y h=>Rq Y (Zm (JW h_y)<|.cons (ov Y) (.b Y)<|.cons (ov Y) (.b Y) .nil)<|R1 Xt Y<|Za<|K3 0 1 15 Y<|If h Y (fun h=>?_) fun h=>?_
   ·
    refine Z3<|?_
    replace h:=lx h▸ho1
    exact⟨_,h,ES []⟩
   ·
    exact Zf<|K2 0 1 Y<|ZH<|Rm Y<|Rm Y<|Rq Y (QL (ov Y) QB Y)<|R2 Zda Y<|bE h fun s4 h_s4 h=>Rq Y (Ja (ov Y) QB on (oi<|ov Y) h_s4)<|Ra Y<|Za<|⟨_,h,ES []⟩
  ·
   refine Z3<|?_
   replace h:=lx h▸ho1
   exact⟨_,h,ES []⟩
 ·
  refine Tr<|Rm Y<|Ra Y<|Za<|?_
  obtain rfl:=rt h
  exact Zj (ZD Y (.one<|rb Y))
theorem ZcM{s:Str}{as_:Vector Bool 256}{r:Str}(h:Qm s as_=some r):
 CSpec Tryz.prog gl0 179 [.str s,.rp (List.map C4 as_.toList) 0] (.str r):=by
 unfold Qm at h
 replace h:=Z9 h
 refine So Tryz.func179 Y fun w0 A=>Tr<|Ra Y<|Za<|I1 (fun s2=>⟨[(0,.str s2)],[]⟩) h (fun h=>?_) fun s2 h=>?_
 ·
  refine Zr<|?_
  obtain⟨r1,hl1,ho1⟩:=Zay h
  refine L1 (fun s3=>⟨[(0,.str s3),(1,.rp (List.map C4 as_.toList) 0)],[]⟩) hl1 (ES []) fun n1 s3 h=>?_
  unfold ZQ at h
  refine Zt<|Tr<|Rm Y<|Rq Y (QL (ov Y) QB Y)<|R2 JC Y<|Za<|K3 0 1 7 Y<|If h Y (fun h=>?_) fun h=>?_
  ·
   refine Zf<|Zr<|Zt<|K2 0 1 Y<|Tr<|Rm Y<|Rm Y<|bE h fun b h_b h=>Rq Y (Xp (ov Y) (ov Y) QB h_b)<|bE h fun y h_y h=>Rq Y (Zm (JW h_y)<|.cons (ov Y) (.b Y)<|.cons (ov Y) (.b Y) .nil)<|R1 Xt Y<|Za<|K3 0 1 12 Y<|If h Y (fun h=>?_) fun h=>?_
   ·
    refine Z3<|?_
    replace h:=lx h▸ho1
    exact⟨_,h,ES []⟩
   ·
    exact Zf<|K2 0 1 Y<|ZH<|Rm Y<|bE h fun s4 h_s4 h=>Rq Y (Ja (ov Y) QB (oi<|ov Y) on h_s4)<|Ra Y<|Za<|⟨_,h,ES []⟩
  ·
   refine Z3<|?_
   replace h:=lx h▸ho1
   exact⟨_,h,ES []⟩
 ·
  refine Tr<|Rm Y<|Ra Y<|Za<|?_
  obtain rfl:=rt h
  exact Zj (ZD Y (.one<|rb Y))
theorem Zfx{b:Int}{r:Bool}(h:Zav b=some r):
 CSpec Tryz.prog gl0 201 [.int .u8 b] (.bool r):=by
 unfold Zav at h
 replace h:=Z9 h
 refine So Tryz.func201 Y fun w0 A=>Tr<|Ra Y<|Za<|Tr<|Rm Y<|R2 Zmu Y<|R2 Jz Y<|Ra Y<|Za<|?_
 obtain rfl:=rt h
 exact Zj (ZD Y (.one<|rb Y))
theorem Zbr{s:Str}{r:Int×Int}(h:Qr s=some r):
 CSpec Tryz.prog gl0 199 [.str s] (.tuple [.int .i32 r.1,.int .i64 r.2]):=by
 unfold Qr at h
 replace h:=Z9 h
 refine So Tryz.func199 Y fun w0 A=>Tr<|Ra Y<|Ra Y<|Za<|K1 0 Y<|Tr<|Rm Y<|Rq Y (QL (ov Y) QB Y)<|Ra Y<|Za<|Zt<|K2 0 4 Y<|Tr<|Rm Y<|R2 QE Y<|Za<|K3 0 4 16 Y<|If h Y (fun h=>?_) fun h=>?_
 ·
  refine K0<|Tr<|Ra Y<|Ra Y<|Za<|?_
  obtain rfl:=rt h
  exact Zj (ZD Y (.two (rb Y)<|rb Y))
 ·
  exact Zf<|K2 0 4 Y<|Tr<|Rm Y<|bE h fun b h_b h=>Rq Y (Xp (ov Y) (ov Y) QB h_b)<|Ra Y<|Za<|(ZjG h).elim
theorem Zal{s:Str}{r:Int×Int}(h:Qu s=some r):
 CSpec Tryz.prog gl0 194 [.str s] (.tuple [.int .i32 r.1,.int .i64 r.2]):=by
 unfold Qu at h
 replace h:=Z9 h
 refine So Tryz.func194 Y fun w0 A=>Tr<|Ra Y<|Ra Y<|Za<|Zt<|K1 0 Y<|Tr<|Rm Y<|R2 ZkB Y<|Rm Y<|Rq Y (.guarded ((!decide (s= []))==true) Y Y Y Y fun h=>Zg<|ov Y)<|bE h fun b h_b h=>Rq Y (.guarded ((!decide (s= []))==true) Y Y Y Y fun h=>Xp (ow Y h) (ov Y) QB<|gdT h_b h)<|Rq Y (.guarded ((!decide (s= []))==true) Y Y Y Y fun h=>QE (ow Y h)<|ov Y)<|Rq Y (XT (ov Y) fun hp=>ow Y<|gT hp)<|Za<|K2 0 10 Y<|If h Y (fun h=>?_) fun h=>?_
 ·
  refine K1 0 Y<|Tr<|Rm Y<|bE h fun b2 h_b2 h=>Rq Y (Xp (ov Y) (ov Y) QB h_b2)<|Rq Y (ZeQ (ov Y) tI5 Zmd Y)<|Ra Y<|Ra Y<|Za<|?_
  obtain rfl:=rt h
  exact Zj (ZD Y (.two (rb Y)<|rb Y))
 ·
  refine K1 0 Y<|ZH<|Rm Y<|bE h fun y h_y h=>Rq Y (Zm (Zbr h_y)<|.cons (ov Y) (.b Y) .nil)<|Rm Y<|Rq Y (Zx (ov Y) Y)<|Rq Y (Zx (ov Y) Y)<|Ra Y<|Ra Y<|Za<|?_
  obtain rfl:=rt h
  exact Zj (ZD Y (.two (rb Y)<|rb Y))
theorem Zbu{s:Str}{r:Int×Int}(h:Qs s=some r):
 CSpec Tryz.prog gl0 196 [.str s] (.tuple [.int .i32 r.1,.int .i64 r.2]):=by
 unfold Qs at h
 replace h:=Z9 h
 refine So Tryz.func196 Y fun w0 A=>Tr<|Ra Y<|Ra Y<|Za<|K1 0 Y<|Tr<|Rm Y<|Rq Y (QL (ov Y) QB Y)<|Ra Y<|Za<|Zt<|K2 0 4 Y<|Tr<|Rm Y<|R2 Xs Y<|Za<|K3 0 4 10 Y<|If h Y (fun h=>?_) fun h=>?_
 ·
  refine K0<|Tr<|Ra Y<|Ra Y<|Za<|?_
  obtain rfl:=rt h
  exact Zj (ZD Y (.two (rb Y)<|rb Y))
 ·
  refine Zf<|K2 0 4 Y<|Tr<|Rm Y<|R2 Zda Y<|Ra Y<|Za<|K3 0 4 5 Y<|Tr<|Rm Y<|Rm Y<|bE h fun b h_b h=>Rq Y (Xp (ov Y) (ov Y) QB h_b)<|Rq Y (ZeQ (ov Y) tI5 Zmd Y)<|Ra Y<|Za<|Zt<|K4 0 2 4 5 Y<|Tr<|Rm Y<|R2 QE Y<|Za<|K5 0 2 4 5 18 Y<|If h Y (fun h=>?_) fun h=>?_
  ·
   refine K1 2 Y<|Tr<|Rm Y<|Ra Y<|Ra Y<|Za<|?_
   obtain rfl:=rt h
   exact Zj (ZD Y (.two (rb Y)<|rb Y))
  ·
   refine Zf<|K3 0 4 5 Y<|Tr<|Rm Y<|R2 Zda Y<|Rq Y (ZkI (ov Y) (ov Y) Y)<|Ra Y<|Za<|I1 (fun start=>⟨[(0,.str s),(4,.int .i64 (s.length:Int)),(5,.int .i64 start)],[]⟩) h (fun h=>?_) fun start h=>?_
   ·
    refine K4 0 4 5 6 Y<|Tr<|Rm Y<|R2 Zda Y<|Ra Y<|Za<|Zr<|?_
    obtain⟨r1,hl1,ho1⟩:=Zay h
    refine L1 (fun start2=>⟨[(0,.str s),(4,.int .i64 (s.length:Int)),(5,.int .i64 start2),(6,.int .i64 (max (i64 ((s.length:Int)-4)) 0))],[]⟩) hl1 (ES []) fun n1 start2 h=>?_
    unfold QC at h
    refine Zt<|Tr<|Rm Y<|Rm Y<|R2 ZbN Y<|Za<|K5 0 4 5 6 27 Y<|If h Y (fun h=>?_) fun h=>?_
    ·
     refine Zf<|Zt<|Zr<|K4 0 4 5 6 Y<|Tr<|Rm Y<|Rm Y<|bE h fun b2 h_b2 h=>Rq Y (Xp (ov Y) (ov Y) QB h_b2)<|bE h fun y h_y h=>Rq Y (Zm (Zfx h_y)<|.cons (ov Y) (.b Y) .nil)<|Za<|K5 0 4 5 6 33 Y<|If h Y (fun h=>?_) fun h=>?_
     ·
      refine Z3<|?_
      replace h:=lx h▸ho1
      exact⟨_,h,ES []⟩
     ·
      exact Zf<|K4 0 4 5 6 Y<|ZH<|Rm Y<|R2 Zda Y<|Ra Y<|Za<|⟨_,h,ES []⟩
    ·
     refine Z3<|?_
     replace h:=lx h▸ho1
     exact⟨_,h,ES []⟩
   ·
    refine I1 (fun start3=>⟨[(0,.str s),(4,.int .i64 (s.length:Int)),(5,.int .i64 start3)],[]⟩) h (fun h=>?_) fun start3 h=>?_
    ·
     refine Tr<|Rm Y<|R2 QE Y<|Za<|K4 0 4 5 35 Y<|If h Y (fun h=>?_) fun h=>?_
     ·
      exact K3 0 4 5 Y<|ZH<|Ra Y<|Za<|⟨_,h,ES []⟩
     ·
      exact Zf<|⟨_,h,ES []⟩
    ·
     refine Tr<|Rm Y<|Rm Y<|Rm Y<|bE h fun s2 h_s2 h=>Rq Y (Ja (ov Y) QB (oi<|ov Y) (oi<|ov Y) h_s2)<|bE h fun y2 h_y2 h=>Rq Y (Zm (Zal h_y2)<|.cons (ov Y) (.b Y) .nil)<|Rm Y<|Rq Y (Zx (ov Y) Y)<|Rq Y (Zx (ov Y) Y)<|Ra Y<|Ra Y<|Za<|Zt<|K4 2 3 4 5 Y<|Tr<|Rm Y<|Rm Y<|R2 Jh Y<|Rm Y<|R2 Jz Y<|Za<|K3 2 3 48 Y<|If h Y (fun h=>?_) fun h=>?_
     ·
      refine K2 2 3 Y<|Tr<|Ra Y<|Ra Y<|Za<|?_
      obtain rfl:=rt h
      exact Zj (ZD Y (.two (rb Y)<|rb Y))
     ·
      refine Zf<|K2 2 3 Y<|Tr<|Rm Y<|Rm Y<|Ra Y<|Ra Y<|Za<|?_
      obtain rfl:=rt h
      exact Zj (ZD Y (.two (rb Y)<|rb Y))
theorem Za0{s:Str}{r_:Int}{r:Bool}(h:QT s r_=some r):
 CSpec Tryz.prog gl0 195 [.str s,.int .i32 r_] (.bool r):=by
 unfold QT at h
 replace h:=Z9 h
 exact So Tryz.func195 Y fun w0 A=>Tr<|Ra Y<|Za<|(ZjG h).elim
theorem Zb8{s:Str}{cutset:Str}{r:Str}(h:QF s cutset=some r):
 CSpec Tryz.prog gl0 182 [.str s,.str cutset] (.str r):=by
 unfold QF at h
 replace h:=Z9 h
 refine So Tryz.func182 Y fun w0 A=>Tr<|Ra Y<|Za<|I1 (fun s2=>⟨[(0,.str s2)],[]⟩) h (fun h=>?_) fun s2 h=>?_
 ·
  refine Zr<|?_
  obtain⟨r1,hl1,ho1⟩:=Zay h
  refine L1 (fun s3=>⟨[(0,.str s3),(1,.str cutset)],[]⟩) hl1 (ES []) fun n1 s3 h=>?_
  unfold QV at h
  refine Zt<|Tr<|Rm Y<|Rq Y (QL (ov Y) QB Y)<|R2 JC Y<|Za<|K3 0 1 9 Y<|If h Y (fun h=>?_) fun h=>?_
  ·
   refine Zf<|Zr<|K2 0 1 Y<|Tr<|Rm Y<|Rm Y<|Rq Y (QL (ov Y) QB Y)<|R2 Zda Y<|bE h fun b h_b h=>Rq Y (Xp (ov Y) (ov Y) QB h_b)<|Rq Y (ZeQ (ov Y) tI5 Zmd Y)<|Ra Y<|Ra Y<|Za<|I2 (fun r_ n=>⟨[(0,.str s3),(1,.str cutset),(5,.int .i32 r_),(6,.int .i64 n)],[]⟩) h (fun h=>?_) fun r_ n h=>?_
   ·
    refine K4 0 1 5 6 Y<|Tr<|Rm Y<|R2 ZbN Y<|Za<|K5 0 1 5 6 17 Y<|If h Y (fun h=>?_) fun h=>?_
    ·
     exact K4 0 1 5 6 Y<|ZH<|Rm Y<|bE h fun y h_y h=>Rq Y (Zm (Zbu h_y)<|.cons (ov Y) (.b Y) .nil)<|Rm Y<|Rq Y (Zx (ov Y) Y)<|Rq Y (Zx (ov Y) Y)<|Ra Y<|Ra Y<|Za<|⟨_,h,ES []⟩
    ·
     exact Zf<|⟨((i32 b),1),h,ES []⟩
   ·
    refine Zt<|Tr<|Rm Y<|Rm Y<|bE h fun y2 h_y2 h=>Rq Y (Zm (Za0 h_y2)<|.cons (ov Y) (.b Y)<|.cons (ov Y) (.b Y) .nil)<|R1 Xt Y<|Za<|K4 0 1 6 26 Y<|If h Y (fun h=>?_) fun h=>?_
    ·
     refine Z3<|?_
     replace h:=lx h▸ho1
     exact⟨_,h,ES []⟩
    ·
     exact Zf<|K3 0 1 6 Y<|ZH<|Rm Y<|Rm Y<|Rq Y (QL (ov Y) QB Y)<|Rm Y<|R2 Zda Y<|bE h fun s4 h_s4 h=>Rq Y (Ja (ov Y) QB on (oi<|ov Y) h_s4)<|Ra Y<|Za<|⟨_,h,ES []⟩
  ·
   refine Z3<|?_
   replace h:=lx h▸ho1
   exact⟨_,h,ES []⟩
 ·
  refine Tr<|Rm Y<|Ra Y<|Za<|?_
  obtain rfl:=rt h
  exact Zj (ZD Y (.one<|rb Y))
theorem Zcv{s:Str}{cutset:Str}{r:Str}(h:QQ s cutset=some r):
 CSpec Tryz.prog gl0 181 [.str s,.str cutset] (.str r):=by
 unfold QQ at h
 replace h:=Z9 h
 refine So Tryz.func181 Y fun w0 A=>Tr<|Ra Y<|Za<|I1 (fun s2=>⟨[(0,.str s2)],[]⟩) h (fun h=>?_) fun s2 h=>?_
 ·
  refine Zr<|?_
  obtain⟨r1,hl1,ho1⟩:=Zay h
  refine L1 (fun s3=>⟨[(0,.str s3),(1,.str cutset)],[]⟩) hl1 (ES []) fun n1 s3 h=>?_
  unfold Q2 at h
  refine Zt<|Tr<|Rm Y<|Rq Y (QL (ov Y) QB Y)<|R2 JC Y<|Za<|K3 0 1 9 Y<|If h Y (fun h=>?_) fun h=>?_
  ·
   refine Zf<|Zr<|K2 0 1 Y<|Tr<|Rm Y<|bE h fun y h_y h=>Rq Y (Zm (Zal h_y)<|.cons (ov Y) (.b Y) .nil)<|Rm Y<|Rq Y (Zx (ov Y) Y)<|Rq Y (Zx (ov Y) Y)<|Ra Y<|Ra Y<|Za<|Zt<|K4 0 1 5 6 Y<|Tr<|Rm Y<|Rm Y<|bE h fun y2 h_y2 h=>Rq Y (Zm (Za0 h_y2)<|.cons (ov Y) (.b Y)<|.cons (ov Y) (.b Y) .nil)<|R1 Xt Y<|Za<|K4 0 1 6 18 Y<|If h Y (fun h=>?_) fun h=>?_
   ·
    refine Z3<|?_
    replace h:=lx h▸ho1
    exact⟨_,h,ES []⟩
   ·
    exact Zf<|K3 0 1 6 Y<|ZH<|Rm Y<|Rm Y<|bE h fun s4 h_s4 h=>Rq Y (Ja (ov Y) QB (oi<|ov Y) on h_s4)<|Ra Y<|Za<|⟨_,h,ES []⟩
  ·
   refine Z3<|?_
   replace h:=lx h▸ho1
   exact⟨_,h,ES []⟩
 ·
  refine Tr<|Rm Y<|Ra Y<|Za<|?_
  obtain rfl:=rt h
  exact Zj (ZD Y (.one<|rb Y))
theorem Zgt{s:Str}{cutset:Str}{r:Str}(h:Ji s cutset=some r):
 CSpec Tryz.prog gl0 160 [.str s,.str cutset] (.str r):=by
 unfold Ji at h
 replace h:=Z9 h
 refine So Tryz.func160 Y fun w0 A=>Tr<|Ra Y<|Za<|Zt<|K2 0 1 Y<|Tr<|Rm Y<|R2 Qg Y<|Rm Y<|Rq Y (.guarded ((decide (s= []))==false) Y Y Y Y fun h=>Zg<|ov Y)<|Rq Y (.guarded ((decide (s= []))==false) Y Y Y Y fun h=>Qg (ow Y h)<|ov Y)<|Rq Y (Zab (ov Y) fun hp=>ow Y<|gF hp)<|Za<|K3 0 1 12 Y<|If h Y (fun h=>?_) fun h=>?_
 ·
  refine K1 0 Y<|Tr<|Rm Y<|Ra Y<|Za<|?_
  obtain rfl:=rt h
  exact Zj (ZD Y (.one<|rb Y))
 ·
  refine Zf<|Zt<|K2 0 1 Y<|Tr<|Rm Y<|Rq Y (QL (ov Y) QB Y)<|R2 Xs Y<|Rm Y<|Rq Y (.guarded ((decide ((cutset.length:Int)=1))==true) Y Y Y Y fun h=>Zg<|ov Y)<|bE h fun b h_b h=>Rq Y (.guarded ((decide ((cutset.length:Int)=1))==true) Y Y Y Y fun h=>Xp (ow Y h) (ov Y) QB<|gdT h_b h)<|Rq Y (.guarded ((decide ((cutset.length:Int)=1))==true) Y Y Y Y fun h=>QE (ow Y h)<|ov Y)<|Rq Y (XT (ov Y) fun hp=>ow Y<|gT hp)<|Za<|K3 0 1 21 Y<|If h Y (fun h=>?_) fun h=>?_
  ·
   refine K2 0 1 Y<|Td md0<|D1 0 Zg Y<|D1 1 Zg Y<|bE h fun b2 h_b2 h=>Dq 2 Y (Xp (ov Y) (ov Y) QB h_b2)<|bE h fun y h_y h=>Dq 3 Y (Zm (ZcP h_y)<|.cons (ov Y) (.b Y)<|.cons (ov Y) (.b Y) .nil)<|D1 4 Zg Y<|bE h fun b3 h_b3 h=>Dq 5 Y (Xp (ov Y) (ov Y) QB h_b3)<|bE h fun y2 h_y2 h=>Dq 6 Y (Zm (Zdi h_y2)<|.cons (ov Y) (.b Y)<|.cons (ov Y) (.b Y) .nil)<|D1 7 Zaw Y<|Dd<|?_
   obtain rfl:=rt h
   exact Zj (ZD Y (.one<|rb Y))
  ·
   refine Zf<|Zt<|K2 0 1 Y<|Tr<|Rm Y<|bE h fun y3 h_y3 h=>Rq Y (Zm (Zc8 h_y3)<|.cons (ov Y) (.b Y) .nil)<|Rm Y<|Rq Y (Zx (ov Y) Y)<|Rq Y (Zx (ov Y) Y)<|Rx Y (Z8 (row:=(List.map C4 (Vector.replicate 256 false).toList)) 0 Y ZlR Y tZ_203)<|Rx Y (Zq (ov Y) (ov Y) (ZE Zhi arL) Y Y Y (Zi9 (Zd9 arL) arL) (Zd<|arC fun _=>Y)<|ZhP<|Eq.trans arL<|Eq.symm arL)<|Ra Y<|Za<|K4 0 1 5 6 Y<|Tr<|Rm Y<|Za<|K4 0 1 5 34 Y<|If h Y (fun h=>?_) fun h=>?_
   ·
    refine K2 0 5 Y<|Tr<|Rm Y<|bE h fun y4 h_y4 h=>Rq Y (Zfy (ZcE h_y4) .str<|.cons (ov Y) (Dat.view<|.b Y)<|.cons (ov Y) (View.ptr Y Y Y (pwB<|arD fun _=>Y) (hns:=(nsM fun _=>Y))) .nil)<|bE h fun y5 h_y5 h=>Rq Y (Zfy (ZcM h_y5) .str<|.cons (ov Y) (Dat.view<|.b Y)<|.cons (ov Y) (View.ptr Y Y Y (pwB<|arD fun _=>Y) (hns:=(nsM fun _=>Y))) .nil)<|Ra Y<|Za<|?_
    obtain rfl:=rt h
    exact Zj (ZD Y (.one<|rb Y))
   ·
    refine Zf<|K2 0 1 Y<|Tr<|Rm Y<|Rm Y<|bE h fun y6 h_y6 h=>Rq Y (Zm (Zb8 h_y6)<|.cons (ov Y) (.b Y)<|.cons (ov Y) (.b Y) .nil)<|Rm Y<|bE h fun y7 h_y7 h=>Rq Y (Zm (Zcv h_y7)<|.cons (ov Y) (.b Y)<|.cons (ov Y) (.b Y) .nil)<|Ra Y<|Za<|?_
    obtain rfl:=rt h
    exact Zj (ZD Y (.one<|rb Y))
theorem ZdJ{s:Str}{r:Bool}(h:Jc s=some r):
 CSpec Tryz.prog gl0 136 [.str s] (.bool r):=by
 unfold Jc at h
 replace h:=Z9 h
 refine So Tryz.func136 Y fun w0 A=>Tr<|Ra Y<|Za<|Tr<|Rm Y<|Rq Y (QL (ov Y) QB Y)<|bE h fun y h_y h=>Rq Y (Zm (Qj h_y)<|.cons (ov Y) (.b Y)<|.cons (ov Y) (.b Y)<|.cons (ov Y) (.b Y) .nil)<|Rm Y<|Rq Y (.guarded (y==true) Y Y Y Y fun h=>Zg<|ov Y)<|bE h fun y2 h_y2 h=>Rq Y (.guarded (y==true) Y Y Y Y fun h=>Zm (Zgt<|gdT h_y2 h)<|.cons (ow Y h) (.b Y)<|.cons (ov Y) (.b Y) .nil)<|Rq Y (.guarded (y==true) Y Y Y Y fun h=>Qg (ow Y h)<|ov Y)<|Rq Y (XT (ov Y) fun hp=>ow Y<|gT hp)<|Ra Y<|Za<|?_
 obtain rfl:=rt h
 exact Zj (ZD Y (.one<|rb Y))
theorem Zde{s:List Int}{v:Int}{r:Int}(h:QO s v=some r):
 CSpec Tryz.prog gl0 183 [.sl 3 (List.map R3 s),.int .i64 v] (.int .i64 r):=by
 unfold QO at h
 replace h:=Z9 h
 refine So Tryz.func183 Y fun w0 A=>Tr<|Ra Y<|Za<|J0 (fun j=>(.inr j)) ⟨[],[]⟩ h (fun h=>?_) fun h=>?_
 ·
  refine K2 0 1 Y<|Tr<|Rm Y<|Rl tZ_3 Zdh Y<|Rm Y<|Za<|Zr<|?_
  obtain⟨r1,hl1,ho1⟩:=Zay h
  refine L1 (fun i=>⟨[(0,.sl 3 (List.map R3 s)),(1,.int .i64 v),(7,.int .i64 (s.length:Int)),(8,.int .i64 i)],[]⟩) hl1 (ES []) fun n1 i h=>?_
  unfold ZY at h
  refine Tr<|R2 QE Y<|Za<|Zt<|If h Y (fun h=>?_) fun h=>?_
  ·
   refine Zf<|Zt<|Zr<|K4 0 1 7 8 Y<|Tr<|Rm Y<|Ra Y<|Za<|K5 0 1 5 7 8 Y<|Tr<|Rm Y<|Rm Y<|Rm Y<|bE h fun x h_x h=>Rq Y (QX (ov Y) (ov Y) Zdh h_x)<|Rq Y (Zc (ov Y) tS3 Y)<|R2 Xs Y<|Za<|K6 0 1 5 7 8 16 Y<|If h Y (fun h=>?_) fun h=>?_
   ·
    refine K1 5 Y<|Tr<|Rm Y<|Ra Y<|Za<|?_
    replace h:=lx h▸ho1
    obtain rfl:=rt h
    exact Zj (ZD Y (.one<|rb Y))
   ·
    exact Zf<|K4 0 1 7 8 Y<|ZH<|R2 Jh Y<|Rm Y<|Za<|⟨_,h,ES []⟩
  ·
   refine Z3<|?_
   replace h:=lx h▸ho1
   exact⟨(),h,ES []⟩
 ·
  replace h:=elr h
  replace h:=t0i h
  refine Tr<|Ra Y<|Za<|?_
  obtain rfl:=rt h
  exact Zj (ZD Y (.one<|rb Y))
theorem Zcg{s:List Int}{v:Int}{r:Bool}(h:Z6 s v=some r):
 CSpec Tryz.prog gl0 162 [.sl 3 (List.map R3 s),.int .i64 v] (.bool r):=by
 unfold Z6 at h
 replace h:=Z9 h
 refine So Tryz.func162 Y fun w0 A=>Tr<|Ra Y<|Za<|Tr<|Rm Y<|Rm Y<|bE h fun y h_y h=>Rq Y (Zm (Zde h_y)<|.cons (ov Y) (.b Y)<|.cons (ov Y) (.b Y) .nil)<|R2 ZbN Y<|Ra Y<|Za<|?_
 obtain rfl:=rt h
 exact Zj (ZD Y (.one<|rb Y))
theorem Jb{l:List Int}{c0:api_Instrument}{r:Bool}(h:ZJ l c0=some r):
 CSpec Tryz.prog gl0 161 [.sl 3 (List.map R3 l),.rp [.int .i64 c0.Kind,.str c0.Name,.str c0.Track,.int .i64 c0.Places,.int .i64 c0.Low,.int .i64 c0.High,.int .i64 c0.Steps,.sl 136 (List.map R136 c0.Zones),.int .i64 c0.Op,.int .i64 c0.N,.bool c0.Latch,.int .i64 c0.Size] 0] (.bool r):=by
 unfold ZJ at h
 replace h:=Z9 h
 refine So Tryz.func161 Y fun w0 A=>Tr<|Ra Y<|Za<|Tr<|Rm Y<|Rq Y (Ze (ov Y) Zcp)<|Rq Y (Zc (ov Y) tS3 Y)<|bE h fun y h_y h=>Rq Y (Zm (Zcg h_y)<|.cons (ov Y) (.b Y)<|.cons (ov Y) (.b Y) .nil)<|Ra Y<|Za<|?_
 obtain rfl:=rt h
 exact Zj (ZD Y (.one<|rb Y))
theorem Zgs{i:api_Instrument}{r:Bool}(h:JG i=some r):
 CSpec Tryz.prog gl0 137 [.agg [.int .i64 i.Kind,.str i.Name,.str i.Track,.int .i64 i.Places,.int .i64 i.Low,.int .i64 i.High,.int .i64 i.Steps,.sl 136 (List.map R136 i.Zones),.int .i64 i.Op,.int .i64 i.N,.bool i.Latch,.int .i64 i.Size]] (.bool r):=by
 unfold JG at h
 replace h:=Z9 h
 refine So Tryz.func137 Y fun w0 A=>Tr<|Rq Y (Qn (cva<|ov Y) Y tZ_49 Y)<|Ra Y<|Za<|K1 1 Y<|Tr<|Rq Y (Zbq<|.cons (ov Y) .nil)<|Ra Y<|Za<|K2 1 3 Y<|Tr<|Rq Y (Ze (ov Y) ZfL)<|Rq Y (Zc (ov Y) tS3 Y)<|R2 Jz Y<|Rm Y<|Rq Y (.guarded ((!decide (i.Places=0))==true) Y Y Y Y fun h=>Zg<|ov Y)<|R_q (.when ((!decide (i.Places=0))==true)<|.sl 3<|List.map R3 ([1,4,6]:List Int)) Y (.guarded ((!decide (i.Places=0))==true) Y Y Y Y fun h=>ZdF Zdh (.cons (cvs (ov Y)<|ZX Y) Y (.cons (.b Y) .nil)<|.cons (cvs (ov Y)<|ZX Y) Y (.cons (.b Y) .nil)<|.cons (cvs (ov Y)<|ZX Y) Y (.cons (.b Y) .nil) .nil) Y Y)<|bE h fun y h_y h=>Rq Y (.guarded ((!decide (i.Places=0))==true) Y Y Y Y fun h=>Zbi (ow Y h) Y (Jb<|gdT h_y h)<|.cons (ow Y h) (.b Y) .nil)<|Rq Y (.guarded ((!decide (i.Places=0))==true) Y Y Y Y fun h=>Xt<|ow Y h)<|Rq Y (XT (ov Y) fun hp=>ow Y<|gT hp)<|Rm Y<|Rq Y (.guarded (((!decide (i.Places=0))&&(!y))==false) Y Y Y Y fun h=>Ze (ov Y) Zf3)<|Rq Y (.guarded (((!decide (i.Places=0))&&(!y))==false) Y Y Y Y fun h=>Zc (ow Y h) tS3 Y)<|Rq Y (.guarded (((!decide (i.Places=0))&&(!y))==false) Y Y Y Y fun h=>Jz (ow Y h)<|ov Y)<|Rq Y (.guarded (((!decide (i.Places=0))&&(!y))==false) Y Y Y Y fun h=>Zg<|ow Y h)<|Rq Y (.guarded2 ((((!decide (i.Places=0))&&(!y))==false)&&((!decide (i.Low=0))==false)) Y Y Y Y fun h=>Ze (ov Y) Zhc)<|Rq Y (.guarded2 ((((!decide (i.Places=0))&&(!y))==false)&&((!decide (i.Low=0))==false)) Y Y Y Y fun h=>Zc (ow Y h) tS3 Y)<|Rq Y (.guarded2 ((((!decide (i.Places=0))&&(!y))==false)&&((!decide (i.Low=0))==false)) Y Y Y Y fun h=>Jz (ow Y h)<|ov Y)<|Rq Y (.guarded (((!decide (i.Places=0))&&(!y))==false) Y Y Y Y fun h=>Zab (ow Y h) fun hp=>ow Y<|gA h<|gF hp)<|Rq Y (.guarded (((!decide (i.Places=0))&&(!y))==false) Y Y Y Y fun h=>Zg<|ow Y h)<|Rq Y (.guarded2 ((((!decide (i.Places=0))&&(!y))==false)&&(((!decide (i.Low=0)) || (!decide (i.High=0)))==false)) Y Y Y Y fun h=>Ze (ov Y) Zim)<|Rq Y (.guarded2 ((((!decide (i.Places=0))&&(!y))==false)&&(((!decide (i.Low=0)) || (!decide (i.High=0)))==false)) Y Y Y Y fun h=>Zc (ow Y h) tS3 Y)<|Rq Y (.guarded2 ((((!decide (i.Places=0))&&(!y))==false)&&(((!decide (i.Low=0)) || (!decide (i.High=0)))==false)) Y Y Y Y fun h=>Jz (ow Y h)<|ov Y)<|Rq Y (.guarded (((!decide (i.Places=0))&&(!y))==false) Y Y Y Y fun h=>Zab (ow Y h) fun hp=>ow Y<|gA h<|gF hp)<|Rq Y (.guarded (((!decide (i.Places=0))&&(!y))==false) Y Y Y Y fun h=>Zg<|ow Y h)<|Rq Y (.guarded2 ((((!decide (i.Places=0))&&(!y))==false)&&((((!decide (i.Low=0)) || (!decide (i.High=0))) || (!decide (i.Steps=0)))==false)) Y Y Y Y fun h=>Ze (ov Y) ZeL)<|Rq Y (.guarded2 ((((!decide (i.Places=0))&&(!y))==false)&&((((!decide (i.Low=0)) || (!decide (i.High=0))) || (!decide (i.Steps=0)))==false)) Y Y Y Y fun h=>Zc (ow Y h) ZiU Y)<|Rq Y (.guarded2 ((((!decide (i.Places=0))&&(!y))==false)&&((((!decide (i.Low=0)) || (!decide (i.High=0))) || (!decide (i.Steps=0)))==false)) Y Y Y Y fun h=>Zma (ZbE (ow Y h) tZ_136) Zh0<|Zjt _ _)<|Rq Y (.guarded2 ((((!decide (i.Places=0))&&(!y))==false)&&((((!decide (i.Low=0)) || (!decide (i.High=0))) || (!decide (i.Steps=0)))==false)) Y Y Y Y fun h=>JC (ow Y h)<|ov Y)<|Rq Y (.guarded (((!decide (i.Places=0))&&(!y))==false) Y Y Y Y fun h=>Zab (ow Y h) fun hp=>ow Y<|gA h<|gF hp)<|Rq Y (.guarded (((!decide (i.Places=0))&&(!y))==false) Y Y Y Y fun h=>Zg<|ow Y h)<|Rq Y (.guarded2 ((((!decide (i.Places=0))&&(!y))==false)&&(((((!decide (i.Low=0)) || (!decide (i.High=0))) || (!decide (i.Steps=0))) || (decide (0<(i.Zones.length:Int))))==true)) Y Y Y Y fun h=>Zg<|ov Y)<|R_q (.when ((((!decide (i.Places=0))&&(!y))==false)&&(((((!decide (i.Low=0)) || (!decide (i.High=0))) || (!decide (i.Steps=0))) || (decide (0<(i.Zones.length:Int))))==true))<|.sl 3<|List.map R3 ([2]:List Int)) Y (.guarded2 ((((!decide (i.Places=0))&&(!y))==false)&&(((((!decide (i.Low=0)) || (!decide (i.High=0))) || (!decide (i.Steps=0))) || (decide (0<(i.Zones.length:Int))))==true)) Y Y Y Y fun h=>ZdF Zdh (.cons (cvs (ov Y)<|ZX Y) Y (.cons (.b Y) .nil) .nil) Y Y)<|bE h fun y2 h_y2 h=>Rq Y (.guarded2 ((((!decide (i.Places=0))&&(!y))==false)&&(((((!decide (i.Low=0)) || (!decide (i.High=0))) || (!decide (i.Steps=0))) || (decide (0<(i.Zones.length:Int))))==true)) Y Y Y Y fun h=>Zbi (ow Y h) Y (Jb<|gdT h_y2 h)<|.cons (ow Y h) (.b Y) .nil)<|Rq Y (.guarded2 ((((!decide (i.Places=0))&&(!y))==false)&&(((((!decide (i.Low=0)) || (!decide (i.High=0))) || (!decide (i.Steps=0))) || (decide (0<(i.Zones.length:Int))))==true)) Y Y Y Y fun h=>Xt<|ow Y h)<|Rq Y (.guarded (((!decide (i.Places=0))&&(!y))==false) Y Y Y Y fun h=>XT (ow Y h) fun hp=>ow Y<|gA h<|gT hp)<|Rq Y (Zab (ov Y) fun hp=>ow Y<|gF hp)<|Rm Y<|Rq Y (.guarded ((((!decide (i.Places=0))&&(!y)) || (((((!decide (i.Low=0)) || (!decide (i.High=0))) || (!decide (i.Steps=0))) || (decide (0<(i.Zones.length:Int))))&&(!y2)))==false) Y Y Y Y fun h=>Ze (ov Y) Zjd)<|Rq Y (.guarded ((((!decide (i.Places=0))&&(!y)) || (((((!decide (i.Low=0)) || (!decide (i.High=0))) || (!decide (i.Steps=0))) || (decide (0<(i.Zones.length:Int))))&&(!y2)))==false) Y Y Y Y fun h=>Zc (ow Y h) tS3 Y)<|Rq Y (.guarded ((((!decide (i.Places=0))&&(!y)) || (((((!decide (i.Low=0)) || (!decide (i.High=0))) || (!decide (i.Steps=0))) || (decide (0<(i.Zones.length:Int))))&&(!y2)))==false) Y Y Y Y fun h=>Jz (ow Y h)<|ov Y)<|Rq Y (.guarded ((((!decide (i.Places=0))&&(!y)) || (((((!decide (i.Low=0)) || (!decide (i.High=0))) || (!decide (i.Steps=0))) || (decide (0<(i.Zones.length:Int))))&&(!y2)))==false) Y Y Y Y fun h=>Zg<|ow Y h)<|Rq Y (.guarded2 (((((!decide (i.Places=0))&&(!y)) || (((((!decide (i.Low=0)) || (!decide (i.High=0))) || (!decide (i.Steps=0))) || (decide (0<(i.Zones.length:Int))))&&(!y2)))==false)&&((!decide (i.Op=0))==false)) Y Y Y Y fun h=>Ze (ov Y) Zja)<|Rq Y (.guarded2 (((((!decide (i.Places=0))&&(!y)) || (((((!decide (i.Low=0)) || (!decide (i.High=0))) || (!decide (i.Steps=0))) || (decide (0<(i.Zones.length:Int))))&&(!y2)))==false)&&((!decide (i.Op=0))==false)) Y Y Y Y fun h=>Zc (ow Y h) tS3 Y)<|Rq Y (.guarded2 (((((!decide (i.Places=0))&&(!y)) || (((((!decide (i.Low=0)) || (!decide (i.High=0))) || (!decide (i.Steps=0))) || (decide (0<(i.Zones.length:Int))))&&(!y2)))==false)&&((!decide (i.Op=0))==false)) Y Y Y Y fun h=>Jz (ow Y h)<|ov Y)<|Rq Y (.guarded ((((!decide (i.Places=0))&&(!y)) || (((((!decide (i.Low=0)) || (!decide (i.High=0))) || (!decide (i.Steps=0))) || (decide (0<(i.Zones.length:Int))))&&(!y2)))==false) Y Y Y Y fun h=>Zab (ow Y h) fun hp=>ow Y<|gA h<|gF hp)<|Rq Y (.guarded ((((!decide (i.Places=0))&&(!y)) || (((((!decide (i.Low=0)) || (!decide (i.High=0))) || (!decide (i.Steps=0))) || (decide (0<(i.Zones.length:Int))))&&(!y2)))==false) Y Y Y Y fun h=>Zg<|ow Y h)<|Rq Y (.guarded2 (((((!decide (i.Places=0))&&(!y)) || (((((!decide (i.Low=0)) || (!decide (i.High=0))) || (!decide (i.Steps=0))) || (decide (0<(i.Zones.length:Int))))&&(!y2)))==false)&&(((!decide (i.Op=0)) || (!decide (i.N=0)))==true)) Y Y Y Y fun h=>Zg<|ov Y)<|R_q (.when (((((!decide (i.Places=0))&&(!y)) || (((((!decide (i.Low=0)) || (!decide (i.High=0))) || (!decide (i.Steps=0))) || (decide (0<(i.Zones.length:Int))))&&(!y2)))==false)&&(((!decide (i.Op=0)) || (!decide (i.N=0)))==true))<|.sl 3<|List.map R3 ([3,5]:List Int)) Y (.guarded2 (((((!decide (i.Places=0))&&(!y)) || (((((!decide (i.Low=0)) || (!decide (i.High=0))) || (!decide (i.Steps=0))) || (decide (0<(i.Zones.length:Int))))&&(!y2)))==false)&&(((!decide (i.Op=0)) || (!decide (i.N=0)))==true)) Y Y Y Y fun h=>ZdF Zdh (.cons (cvs (ov Y)<|ZX Y) Y (.cons (.b Y) .nil)<|.cons (cvs (ov Y)<|ZX Y) Y (.cons (.b Y) .nil) .nil) Y Y)<|bE h fun y3 h_y3 h=>Rq Y (.guarded2 (((((!decide (i.Places=0))&&(!y)) || (((((!decide (i.Low=0)) || (!decide (i.High=0))) || (!decide (i.Steps=0))) || (decide (0<(i.Zones.length:Int))))&&(!y2)))==false)&&(((!decide (i.Op=0)) || (!decide (i.N=0)))==true)) Y Y Y Y fun h=>Zbi (ow Y h) Y (Jb<|gdT h_y3 h)<|.cons (ow Y h) (.b Y) .nil)<|Rq Y (.guarded2 (((((!decide (i.Places=0))&&(!y)) || (((((!decide (i.Low=0)) || (!decide (i.High=0))) || (!decide (i.Steps=0))) || (decide (0<(i.Zones.length:Int))))&&(!y2)))==false)&&(((!decide (i.Op=0)) || (!decide (i.N=0)))==true)) Y Y Y Y fun h=>Xt<|ow Y h)<|Rq Y (.guarded ((((!decide (i.Places=0))&&(!y)) || (((((!decide (i.Low=0)) || (!decide (i.High=0))) || (!decide (i.Steps=0))) || (decide (0<(i.Zones.length:Int))))&&(!y2)))==false) Y Y Y Y fun h=>XT (ow Y h) fun hp=>ow Y<|gA h<|gT hp)<|Rq Y (Zab (ov Y) fun hp=>ow Y<|gF hp)<|Rm Y<|Rq Y (.guarded (((((!decide (i.Places=0))&&(!y)) || (((((!decide (i.Low=0)) || (!decide (i.High=0))) || (!decide (i.Steps=0))) || (decide (0<(i.Zones.length:Int))))&&(!y2))) || (((!decide (i.Op=0)) || (!decide (i.N=0)))&&(!y3)))==false) Y Y Y Y fun h=>Ze (ov Y) ZjO)<|Rq Y (.guarded (((((!decide (i.Places=0))&&(!y)) || (((((!decide (i.Low=0)) || (!decide (i.High=0))) || (!decide (i.Steps=0))) || (decide (0<(i.Zones.length:Int))))&&(!y2))) || (((!decide (i.Op=0)) || (!decide (i.N=0)))&&(!y3)))==false) Y Y Y Y fun h=>Zc (ow Y h) tS4 Y)<|Rq Y (.guarded (((((!decide (i.Places=0))&&(!y)) || (((((!decide (i.Low=0)) || (!decide (i.High=0))) || (!decide (i.Steps=0))) || (decide (0<(i.Zones.length:Int))))&&(!y2))) || (((!decide (i.Op=0)) || (!decide (i.N=0)))&&(!y3)))==false) Y Y Y Y fun h=>Zg<|ow Y h)<|Rq Y (.guarded2 ((((((!decide (i.Places=0))&&(!y)) || (((((!decide (i.Low=0)) || (!decide (i.High=0))) || (!decide (i.Steps=0))) || (decide (0<(i.Zones.length:Int))))&&(!y2))) || (((!decide (i.Op=0)) || (!decide (i.N=0)))&&(!y3)))==false)&&(i.Latch==true)) Y Y Y Y fun h=>Zg<|ov Y)<|R_q (.when ((((((!decide (i.Places=0))&&(!y)) || (((((!decide (i.Low=0)) || (!decide (i.High=0))) || (!decide (i.Steps=0))) || (decide (0<(i.Zones.length:Int))))&&(!y2))) || (((!decide (i.Op=0)) || (!decide (i.N=0)))&&(!y3)))==false)&&(i.Latch==true))<|.sl 3<|List.map R3 ([3]:List Int)) Y (.guarded2 ((((((!decide (i.Places=0))&&(!y)) || (((((!decide (i.Low=0)) || (!decide (i.High=0))) || (!decide (i.Steps=0))) || (decide (0<(i.Zones.length:Int))))&&(!y2))) || (((!decide (i.Op=0)) || (!decide (i.N=0)))&&(!y3)))==false)&&(i.Latch==true)) Y Y Y Y fun h=>ZdF Zdh (.cons (cvs (ov Y)<|ZX Y) Y (.cons (.b Y) .nil) .nil) Y Y)<|bE h fun y4 h_y4 h=>Rq Y (.guarded2 ((((((!decide (i.Places=0))&&(!y)) || (((((!decide (i.Low=0)) || (!decide (i.High=0))) || (!decide (i.Steps=0))) || (decide (0<(i.Zones.length:Int))))&&(!y2))) || (((!decide (i.Op=0)) || (!decide (i.N=0)))&&(!y3)))==false)&&(i.Latch==true)) Y Y Y Y fun h=>Zbi (ow Y h) Y (Jb<|gdT h_y4 h)<|.cons (ow Y h) (.b Y) .nil)<|Rq Y (.guarded2 ((((((!decide (i.Places=0))&&(!y)) || (((((!decide (i.Low=0)) || (!decide (i.High=0))) || (!decide (i.Steps=0))) || (decide (0<(i.Zones.length:Int))))&&(!y2))) || (((!decide (i.Op=0)) || (!decide (i.N=0)))&&(!y3)))==false)&&(i.Latch==true)) Y Y Y Y fun h=>Xt<|ow Y h)<|Rq Y (.guarded (((((!decide (i.Places=0))&&(!y)) || (((((!decide (i.Low=0)) || (!decide (i.High=0))) || (!decide (i.Steps=0))) || (decide (0<(i.Zones.length:Int))))&&(!y2))) || (((!decide (i.Op=0)) || (!decide (i.N=0)))&&(!y3)))==false) Y Y Y Y fun h=>XT (ow Y h) fun hp=>ow Y<|gA h<|gT hp)<|Rq Y (Zab (ov Y) fun hp=>ow Y<|gF hp)<|Rm Y<|Rq Y (.guarded ((((((!decide (i.Places=0))&&(!y)) || (((((!decide (i.Low=0)) || (!decide (i.High=0))) || (!decide (i.Steps=0))) || (decide (0<(i.Zones.length:Int))))&&(!y2))) || (((!decide (i.Op=0)) || (!decide (i.N=0)))&&(!y3))) || (i.Latch&&(!y4)))==false) Y Y Y Y fun h=>Ze (ov Y) ZhR)<|Rq Y (.guarded ((((((!decide (i.Places=0))&&(!y)) || (((((!decide (i.Low=0)) || (!decide (i.High=0))) || (!decide (i.Steps=0))) || (decide (0<(i.Zones.length:Int))))&&(!y2))) || (((!decide (i.Op=0)) || (!decide (i.N=0)))&&(!y3))) || (i.Latch&&(!y4)))==false) Y Y Y Y fun h=>Zc (ow Y h) tS3 Y)<|Rq Y (.guarded ((((((!decide (i.Places=0))&&(!y)) || (((((!decide (i.Low=0)) || (!decide (i.High=0))) || (!decide (i.Steps=0))) || (decide (0<(i.Zones.length:Int))))&&(!y2))) || (((!decide (i.Op=0)) || (!decide (i.N=0)))&&(!y3))) || (i.Latch&&(!y4)))==false) Y Y Y Y fun h=>Jz (ow Y h)<|ov Y)<|Rq Y (.guarded ((((((!decide (i.Places=0))&&(!y)) || (((((!decide (i.Low=0)) || (!decide (i.High=0))) || (!decide (i.Steps=0))) || (decide (0<(i.Zones.length:Int))))&&(!y2))) || (((!decide (i.Op=0)) || (!decide (i.N=0)))&&(!y3))) || (i.Latch&&(!y4)))==false) Y Y Y Y fun h=>Zg<|ow Y h)<|Rq Y (.guarded2 (((((((!decide (i.Places=0))&&(!y)) || (((((!decide (i.Low=0)) || (!decide (i.High=0))) || (!decide (i.Steps=0))) || (decide (0<(i.Zones.length:Int))))&&(!y2))) || (((!decide (i.Op=0)) || (!decide (i.N=0)))&&(!y3))) || (i.Latch&&(!y4)))==false)&&((!decide (i.Size=0))==true)) Y Y Y Y fun h=>Zg<|ov Y)<|R_q (.when (((((((!decide (i.Places=0))&&(!y)) || (((((!decide (i.Low=0)) || (!decide (i.High=0))) || (!decide (i.Steps=0))) || (decide (0<(i.Zones.length:Int))))&&(!y2))) || (((!decide (i.Op=0)) || (!decide (i.N=0)))&&(!y3))) || (i.Latch&&(!y4)))==false)&&((!decide (i.Size=0))==true))<|.sl 3<|List.map R3 ([6]:List Int)) Y (.guarded2 (((((((!decide (i.Places=0))&&(!y)) || (((((!decide (i.Low=0)) || (!decide (i.High=0))) || (!decide (i.Steps=0))) || (decide (0<(i.Zones.length:Int))))&&(!y2))) || (((!decide (i.Op=0)) || (!decide (i.N=0)))&&(!y3))) || (i.Latch&&(!y4)))==false)&&((!decide (i.Size=0))==true)) Y Y Y Y fun h=>ZdF Zdh (.cons (cvs (ov Y)<|ZX Y) Y (.cons (.b Y) .nil) .nil) Y Y)<|bE h fun y5 h_y5 h=>Rq Y (.guarded2 (((((((!decide (i.Places=0))&&(!y)) || (((((!decide (i.Low=0)) || (!decide (i.High=0))) || (!decide (i.Steps=0))) || (decide (0<(i.Zones.length:Int))))&&(!y2))) || (((!decide (i.Op=0)) || (!decide (i.N=0)))&&(!y3))) || (i.Latch&&(!y4)))==false)&&((!decide (i.Size=0))==true)) Y Y Y Y fun h=>Zbi (ow Y h) Y (Jb<|gdT h_y5 h)<|.cons (ow Y h) (.b Y) .nil)<|Rq Y (.guarded2 (((((((!decide (i.Places=0))&&(!y)) || (((((!decide (i.Low=0)) || (!decide (i.High=0))) || (!decide (i.Steps=0))) || (decide (0<(i.Zones.length:Int))))&&(!y2))) || (((!decide (i.Op=0)) || (!decide (i.N=0)))&&(!y3))) || (i.Latch&&(!y4)))==false)&&((!decide (i.Size=0))==true)) Y Y Y Y fun h=>Xt<|ow Y h)<|Rq Y (.guarded ((((((!decide (i.Places=0))&&(!y)) || (((((!decide (i.Low=0)) || (!decide (i.High=0))) || (!decide (i.Steps=0))) || (decide (0<(i.Zones.length:Int))))&&(!y2))) || (((!decide (i.Op=0)) || (!decide (i.N=0)))&&(!y3))) || (i.Latch&&(!y4)))==false) Y Y Y Y fun h=>XT (ow Y h) fun hp=>ow Y<|gA h<|gT hp)<|Rq Y (Zab (ov Y) fun hp=>ow Y<|gF hp)<|Ra Y<|Za<|?_
 obtain rfl:=rt h
 exact Zj (ZD Y (.one<|rb Y))
theorem ZbT{n:Int}{r:Bool}(h:Xj n=some r):
 CSpec Tryz.prog gl0 126 [.int .i64 n] (.bool r):=by
 unfold Xj at h
 replace h:=Z9 h
 refine So Tryz.func126 Y fun w0 A=>Tr<|Ra Y<|Za<|Tr<|Rm Y<|bE h fun y h_y h=>Rq Y (Zm (Qj h_y)<|.cons (ov Y) (.b Y)<|.cons (ov Y) (.b Y)<|.cons (ov Y) (.b Y) .nil)<|Ra Y<|Za<|?_
 obtain rfl:=rt h
 exact Zj (ZD Y (.one<|rb Y))
theorem Ze5{i:api_Instrument}{r:Int}(h:XG i=some r):
 CSpec Tryz.prog gl0 138 [.agg [.int .i64 i.Kind,.str i.Name,.str i.Track,.int .i64 i.Places,.int .i64 i.Low,.int .i64 i.High,.int .i64 i.Steps,.sl 136 (List.map R136 i.Zones),.int .i64 i.Op,.int .i64 i.N,.bool i.Latch,.int .i64 i.Size]] (.int .i64 r):=by
 unfold XG at h
 replace h:=Z9 h
 refine So Tryz.func138 Y fun w0 A=>Tr<|Rq Y (Qn (cva<|ov Y) Y tZ_49 Y)<|Ra Y<|Za<|Zt<|Zr<|K1 1 Y<|Tr<|Rq Y (Ze (ov Y) Zf3)<|Rq Y (Zc (ov Y) tS3 Y)<|Rq Y (Ze (ov Y) Zhc)<|Rq Y (Zc (ov Y) tS3 Y)<|R2 ZbN Y<|Rm Y<|Rq Y (.guarded ((decide (i.High≤i.Low))==false) Y Y Y Y fun h=>Ze (ov Y) Zf3)<|Rq Y (.guarded ((decide (i.High≤i.Low))==false) Y Y Y Y fun h=>Zc (ow Y h) tS3 Y)<|bE h fun y h_y h=>Rq Y (.guarded ((decide (i.High≤i.Low))==false) Y Y Y Y fun h=>Zm (ZbT<|gdT h_y h)<|.cons (ow Y h) (.b Y) .nil)<|Rq Y (.guarded ((decide (i.High≤i.Low))==false) Y Y Y Y fun h=>Xt<|ow Y h)<|Rq Y (Zab (ov Y) fun hp=>ow Y<|gF hp)<|Rm Y<|Rq Y (.guarded (((decide (i.High≤i.Low)) || (!y))==false) Y Y Y Y fun h=>Ze (ov Y) Zhc)<|Rq Y (.guarded (((decide (i.High≤i.Low)) || (!y))==false) Y Y Y Y fun h=>Zc (ow Y h) tS3 Y)<|bE h fun y2 h_y2 h=>Rq Y (.guarded (((decide (i.High≤i.Low)) || (!y))==false) Y Y Y Y fun h=>Zm (ZbT<|gdT h_y2 h)<|.cons (ow Y h) (.b Y) .nil)<|Rq Y (.guarded (((decide (i.High≤i.Low)) || (!y))==false) Y Y Y Y fun h=>Xt<|ow Y h)<|Rq Y (Zab (ov Y) fun hp=>ow Y<|gF hp)<|Rm Y<|Rq Y (.guarded ((((decide (i.High≤i.Low)) || (!y)) || (!y2))==false) Y Y Y Y fun h=>Ze (ov Y) Zim)<|Rq Y (.guarded ((((decide (i.High≤i.Low)) || (!y)) || (!y2))==false) Y Y Y Y fun h=>Zc (ow Y h) tS3 Y)<|bE h fun y3 h_y3 h=>Rq Y (.guarded ((((decide (i.High≤i.Low)) || (!y)) || (!y2))==false) Y Y Y Y fun h=>Zm (Qj<|gdT h_y3 h)<|.cons (ow Y h) (.b Y)<|.cons (ov Y) (.b Y)<|.cons (ov Y) (.b Y) .nil)<|Rq Y (.guarded ((((decide (i.High≤i.Low)) || (!y)) || (!y2))==false) Y Y Y Y fun h=>Xt<|ow Y h)<|Rq Y (Zab (ov Y) fun hp=>ow Y<|gF hp)<|Ra Y<|Za<|K2 1 5 Y<|If h Y (fun h=>?_) fun h=>?_
 ·
  refine K0<|Tr<|Ra Y<|Za<|?_
  obtain rfl:=rt h
  exact Zj (ZD Y (.one<|rb Y))
 ·
  refine K1 1 Y<|Tr<|Rq Y (Ze (ov Y) ZeL)<|Rq Y (Zc (ov Y) ZiU Y)<|Rl tZ_136 Zh0 Y<|R2 JC Y<|Ra Y<|Za<|K2 1 29 Y<|If h Y (fun h=>?_) fun h=>?_
  ·
   refine K0<|Tr<|Ra Y<|Za<|?_
   obtain rfl:=rt h
   exact Zj (ZD Y (.one<|rb Y))
  ·
   refine Zf<|J0 (fun j=>(.inr j)) ⟨[],[]⟩ h (fun h=>?_) fun h=>?_
   ·
    refine K1 1 Y<|Tr<|Rq Y (Ze (ov Y) ZeL)<|Rq Y (Zc (ov Y) ZiU Y)<|Rl tZ_136 Zh0 Y<|Rm Y<|Za<|Zr<|?_
    obtain⟨r1,hl1,ho1⟩:=Zay h
    refine L1 (fun i2=>⟨[(1,.rp [.int .i64 i.Kind,.str i.Name,.str i.Track,.int .i64 i.Places,.int .i64 i.Low,.int .i64 i.High,.int .i64 i.Steps,.sl 136 (List.map R136 i.Zones),.int .i64 i.Op,.int .i64 i.N,.bool i.Latch,.int .i64 i.Size] 0),(35,.sl 136 (List.map R136 i.Zones)),(36,.int .i64 (i.Zones.length:Int)),(37,.int .i64 i2)],[]⟩) hl1 (ES []) fun n1 i2 h=>?_
    unfold Qz at h
    refine Tr<|R2 QE Y<|Za<|Zt<|If h Y (fun h=>?_) fun h=>?_
    ·
     refine Zf<|Zt<|Zr<|K4 1 35 36 37 Y<|Tr<|Rm Y<|bE h fun x h_x h=>Rq Y (QX (ov Y) (ov Y) Zh0 h_x)<|Rq Y (ZB (ov Y) Zjo Y Y)<|Rx Y (Z8 (row:= [_,_,_]) 0 Y Zl1 Y tZ_136)<|Ra Y<|Rx Y (Zq (ov Y) (ov Y) (ZE Zjo Y) Y Y Y (Nat.le_of_ble_eq_true Y) (Zd Y) Y)<|Za<|Zr<|K6 1 3 4 35 36 37 Y<|Tr<|Rq Y (Zb (ov Y) Y Y Zjv)<|Rq Y (Zo (ov Y) Y Y Y tS9 Y)<|bE h fun y4 h_y4 h=>Rq Y (Zm (ZdJ h_y4)<|.cons (ov Y) (.b Y) .nil)<|R1 Xt Y<|Ra Y<|Za<|K7 1 3 4 35 36 37 42 Y<|If h Y (fun h=>?_) fun h=>?_
     ·
      refine K0<|Tr<|Ra Y<|Za<|?_
      replace h:=lx h▸ho1
      obtain rfl:=rt h
      exact Zj (ZD Y (.one<|rb Y))
     ·
      refine K6 1 3 4 35 36 37 Y<|Tr<|Rq Y (Zb (ov Y) Y Y ZhS)<|Rq Y (Zo (ov Y) Y Y Y tS3 Y)<|Rq Y (Zb (ov Y) Y Y Zh6)<|Rq Y (Zo (ov Y) Y Y Y tS3 Y)<|R2 JC Y<|Ra Y<|Za<|K7 1 3 4 35 36 37 47 Y<|If h Y (fun h=>?_) fun h=>?_
      ·
       refine K0<|Tr<|Ra Y<|Za<|?_
       replace h:=lx h▸ho1
       obtain rfl:=rt h
       exact Zj (ZD Y (.one<|rb Y))
      ·
       refine K6 1 3 4 35 36 37 Y<|Td md0<|D1 0 Zg Y<|D2 1 JC Y<|D1 2 Zg Y<|Dq 3 Y (.guarded ((decide (0<i2))==true) Y Y Y Y fun h=>Zb (ov Y) Y Y ZhS)<|Dq 4 Y (.guarded ((decide (0<i2))==true) Y Y Y Y fun h=>Zo (ow Y h) Y Y Y tS3 Y)<|Dq 5 Y (.guarded ((decide (0<i2))==true) Y Y Y Y fun h=>Ze (ov Y) ZeL)<|Dq 6 Y (.guarded ((decide (0<i2))==true) Y Y Y Y fun h=>Zc (ow Y h) ZiU Y)<|Dq 7 Y (.guarded ((decide (0<i2))==true) Y Y Y Y fun h=>Zg<|ov Y)<|Dq 8 Y (.guarded ((decide (0<i2))==true) Y Y Y Y fun h=>ZhF (ow Y h) (ov Y) Y)<|bE h fun x2 h_x2 h=>Dq 9 Y (.guarded ((decide (0<i2))==true) Y Y Y Y fun h=>QX (ow Y h) (ow Y h) Zh0<|gdT h_x2 h)<|Dq 10 Y (.guarded ((decide (0<i2))==true) Y Y Y Y fun h=>Ze (ow Y h) Zh6)<|Dq 11 Y (.guarded ((decide (0<i2))==true) Y Y Y Y fun h=>Zc (ow Y h) tS3 Y)<|Dq 12 Y (.guarded ((decide (0<i2))==true) Y Y Y Y fun h=>ZcL (ow Y h)<|ow Y h)<|Dq 13 Y (XT (ov Y) fun hp=>ow Y<|gT hp)<|D1 14 Zaw Y<|Dd<|K5 1 35 36 37 53 Y<|If h Y (fun h=>?_) fun h=>?_
       ·
        refine K0<|Tr<|Ra Y<|Za<|?_
        replace h:=lx h▸ho1
        obtain rfl:=rt h
        exact Zj (ZD Y (.one<|rb Y))
       ·
        exact Zf<|K4 1 35 36 37 Y<|ZH<|R2 Jh Y<|Rm Y<|Za<|⟨_,h,ES []⟩
    ·
     refine Z3<|?_
     replace h:=lx h▸ho1
     exact⟨(),h,ES []⟩
   ·
    replace h:=elr h
    replace h:=t0i h
    refine Tr<|Ra Y<|Za<|?_
    obtain rfl:=rt h
    exact Zj (ZD Y (.one<|rb Y))
theorem Zc2{i:api_Instrument}{r:Int}(h:Qo i=some r):
 CSpec Tryz.prog gl0 97 [.agg [.int .i64 i.Kind,.str i.Name,.str i.Track,.int .i64 i.Places,.int .i64 i.Low,.int .i64 i.High,.int .i64 i.Steps,.sl 136 (List.map R136 i.Zones),.int .i64 i.Op,.int .i64 i.N,.bool i.Latch,.int .i64 i.Size]] (.int .i64 r):=by
 unfold Qo at h
 replace h:=Z9 h
 refine So Tryz.func97 Y fun w0 A=>Tr<|Rq Y (Qn (cva<|ov Y) Y tZ_49 Y)<|Ra Y<|Za<|Zt<|Zr<|K1 1 Y<|Tr<|Rq Y (Ze (ov Y) Zcp)<|Rq Y (Zc (ov Y) tS3 Y)<|bE h fun y h_y h=>Rq Y (Zm (Qj h_y)<|.cons (ov Y) (.b Y)<|.cons (ov Y) (.b Y)<|.cons (ov Y) (.b Y) .nil)<|R1 Xt Y<|Ra Y<|Za<|K2 1 3 Y<|If h Y (fun h=>?_) fun h=>?_
 ·
  refine K0<|Tr<|Ra Y<|Za<|?_
  obtain rfl:=rt h
  exact Zj (ZD Y (.one<|rb Y))
 ·
  refine K1 1 Y<|Tr<|Rq Y (Ze (ov Y) Zjj)<|Rq Y (Zc (ov Y) tS9 Y)<|bE h fun y2 h_y2 h=>Rq Y (Zm (ZdJ h_y2)<|.cons (ov Y) (.b Y) .nil)<|R1 Xt Y<|Rm Y<|Rq Y (.guarded ((!y2)==false) Y Y Y Y fun h=>Ze (ov Y) ZiW)<|Rq Y (.guarded ((!y2)==false) Y Y Y Y fun h=>Zc (ow Y h) tS9 Y)<|Rq Y (.guarded ((!y2)==false) Y Y Y Y fun h=>QL (ow Y h) QB Y)<|bE h fun y3 h_y3 h=>Rq Y (.guarded ((!y2)==false) Y Y Y Y fun h=>Zm (Qj<|gdT h_y3 h)<|.cons (ow Y h) (.b Y)<|.cons (ov Y) (.b Y)<|.cons (ov Y) (.b Y) .nil)<|Rq Y (.guarded ((!y2)==false) Y Y Y Y fun h=>Xt<|ow Y h)<|Rq Y (Zab (ov Y) fun hp=>ow Y<|gF hp)<|Ra Y<|Za<|K2 1 8 Y<|If h Y (fun h=>?_) fun h=>?_
  ·
   refine K0<|Tr<|Ra Y<|Za<|?_
   obtain rfl:=rt h
   exact Zj (ZD Y (.one<|rb Y))
  ·
   refine K1 1 Y<|Tr<|Rq Y (ZB (ov Y) Zds Y Y)<|bE h fun y4 h_y4 h=>Rq Y (Zm (Zgs h_y4)<|.cons (ov Y) (.aggB Y) .nil)<|Ra Y<|Za<|K2 1 20 Y<|If h Y (fun h=>?_) fun h=>?_
   ·
    refine K0<|Tr<|Ra Y<|Za<|?_
    obtain rfl:=rt h
    exact Zj (ZD Y (.one<|rb Y))
   ·
    refine K1 1 Y<|Tr<|Rq Y (Ze (ov Y) ZfL)<|Rq Y (Zc (ov Y) tS3 Y)<|bE h fun y5 h_y5 h=>Rq Y (Zm (Qj h_y5)<|.cons (ov Y) (.b Y)<|.cons (ov Y) (.b Y)<|.cons (ov Y) (.b Y) .nil)<|R1 Xt Y<|Ra Y<|Za<|K2 1 23 Y<|If h Y (fun h=>?_) fun h=>?_
    ·
     refine K0<|Tr<|Ra Y<|Za<|?_
     obtain rfl:=rt h
     exact Zj (ZD Y (.one<|rb Y))
    ·
     refine Zf<|Zt<|K1 1 Y<|Tr<|Rq Y (Ze (ov Y) Zcp)<|Rq Y (Zc (ov Y) tS3 Y)<|Za<|Zr<|K2 1 29 Y<|Tr<|R2 Xs Y<|Ra Y<|Za<|K3 1 29 30 Y<|If h Y (fun h=>?_) fun h=>?_
     ·
      refine K1 1 Y<|Tr<|Rq Y (ZB (ov Y) Zds Y Y)<|bE h fun y6 h_y6 h=>Rq Y (Zm (Ze5 h_y6)<|.cons (ov Y) (.aggB Y) .nil)<|Ra Y<|Za<|?_
      obtain rfl:=rt h
      exact Zj (ZD Y (.one<|rb Y))
     ·
      refine I1 (fun v=>⟨[(1,.rp [.int .i64 i.Kind,.str i.Name,.str i.Track,.int .i64 i.Places,.int .i64 i.Low,.int .i64 i.High,.int .i64 i.Steps,.sl 136 (List.map R136 i.Zones),.int .i64 i.Op,.int .i64 i.N,.bool i.Latch,.int .i64 i.Size] 0),(29,.int .i64 i.Kind),(34,.bool v)],[]⟩) h (fun h=>?_) fun v h=>?_
      ·
       refine K2 1 29 Y<|Tr<|R2 Xs Y<|Ra Y<|Za<|K3 1 29 34 Y<|If h Y (fun h=>?_) fun h=>?_
       ·
        exact Zf<|⟨_,h,ES []⟩
       ·
        exact ZH<|R2 Xs Y<|Ra Y<|Za<|⟨_,h,ES []⟩
      ·
       refine If h Y (fun h=>?_) fun h=>?_
       ·
        refine Zt<|K1 1 Y<|Tr<|Rq Y (Ze (ov Y) Zjd)<|Rq Y (Zc (ov Y) tS3 Y)<|bE h fun y7 h_y7 h=>Rq Y (Zm (Qj h_y7)<|.cons (ov Y) (.b Y)<|.cons (ov Y) (.b Y)<|.cons (ov Y) (.b Y) .nil)<|R1 Xt Y<|Za<|K2 1 40 Y<|If h Y (fun h=>?_) fun h=>?_
        ·
         refine K0<|Tr<|Ra Y<|Za<|?_
         obtain rfl:=rt h
         exact Zj (ZD Y (.one<|rb Y))
        ·
         refine Zf<|K1 1 Y<|Tr<|Rq Y (Ze (ov Y) Zja)<|Rq Y (Zc (ov Y) tS3 Y)<|bE h fun y8 h_y8 h=>Rq Y (Zm (ZbT h_y8)<|.cons (ov Y) (.b Y) .nil)<|R1 Xt Y<|Za<|K1 44 Y<|If h Y (fun h=>?_) fun h=>?_
         ·
          refine K0<|Tr<|Ra Y<|Za<|?_
          obtain rfl:=rt h
          exact Zj (ZD Y (.one<|rb Y))
         ·
          refine Zf<|K0<|Tr<|Ra Y<|Za<|?_
          obtain rfl:=rt h
          exact Zj (ZD Y (.one<|rb Y))
       ·
        refine K2 1 29 Y<|Tr<|R2 Xs Y<|Ra Y<|Za<|K2 1 45 Y<|If h Y (fun h=>?_) fun h=>?_
        ·
         refine K1 1 Y<|Tr<|Rq Y (Ze (ov Y) ZhR)<|Rq Y (Zc (ov Y) tS3 Y)<|bE h fun y9 h_y9 h=>Rq Y (Zm (Qj h_y9)<|.cons (ov Y) (.b Y)<|.cons (ov Y) (.b Y)<|.cons (ov Y) (.b Y) .nil)<|R1 Xt Y<|Za<|K1 50 Y<|If h Y (fun h=>?_) fun h=>?_
         ·
          refine K0<|Tr<|Ra Y<|Za<|?_
          obtain rfl:=rt h
          exact Zj (ZD Y (.one<|rb Y))
         ·
          refine Zf<|K0<|Tr<|Ra Y<|Za<|?_
          obtain rfl:=rt h
          exact Zj (ZD Y (.one<|rb Y))
        ·
         refine Zf<|K0<|Tr<|Ra Y<|Za<|?_
         obtain rfl:=rt h
         exact Zj (ZD Y (.one<|rb Y))
end Go.Proofs.YtailpehcgelmdaaGreatDoor
