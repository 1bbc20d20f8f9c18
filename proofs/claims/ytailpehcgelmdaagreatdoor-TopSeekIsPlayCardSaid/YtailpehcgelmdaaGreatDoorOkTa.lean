/- A text of the proof: a verified executor of the program form, or the contracts of the functions that the law reaches. -/
import Derived.Test.YtailpehcgelmdaaGreatDoorVS
import Derived.Test.YtailpehcgelmdaaGreatDoorShT
import Derived.Test.YtailpehcgelmdaaGreatDoorProg
import Derived.Test.YtailpehcgelmdaaGreatDoorLayA
set_option linter.all false
namespace Go.Proofs.YtailpehcgelmdaaGreatDoor
open Go Go.Vx
set_option maxRecDepth 10000
set_option maxHeartbeats 1000000
set_option linter.unusedVariables false
theorem tZ_136:Tryz.prog.cellsOf 136=3:=by kernel_rfl
instance:SzD Tryz.prog 136 3:=⟨tZ_136⟩
theorem tZ_49:Tryz.prog.cellsOf 49=12:=by kernel_rfl
instance:SzD Tryz.prog 49 12:=⟨tZ_49⟩
theorem tZ_56:Tryz.prog.cellsOf 56=3:=by kernel_rfl
instance:SzD Tryz.prog 56 3:=⟨tZ_56⟩
theorem tZ_54:Tryz.prog.cellsOf 54=4:=by kernel_rfl
instance:SzD Tryz.prog 54 4:=⟨tZ_54⟩
theorem tZ_3:Tryz.prog.cellsOf 3=1:=by kernel_rfl
instance:SzD Tryz.prog 3 1:=⟨tZ_3⟩
theorem tZ_24:Tryz.prog.cellsOf 24=1:=by kernel_rfl
instance:SzD Tryz.prog 24 1:=⟨tZ_24⟩
theorem XM:tSl Tryz.prog 26 3 1 8=true:=by kernel_rfl
theorem tZ3:XE Tryz.prog 3=some [.int .i64 0]:=by kernel_rfl
theorem tS3:tScal Tryz.prog 3=true:=by kernel_rfl
theorem Zih:XE Tryz.prog 80=some [.int .u16 0,.int .u16 0,.int .u16 0,.int .u16 0,.int .u16 0,.int .u16 0,.int .u16 0,.int .u16 0,.int .u16 0,.int .u16 0,.int .u16 0,.int .u16 0,.int .u16 0,.int .u16 0,.int .u16 0,.int .u16 0,.int .u16 0,.int .u16 0,.int .u16 0,.int .u16 0,.int .u16 0,.int .u16 0,.int .u16 0,.int .u16 0,.int .u16 0,.int .u16 0,.int .u16 0,.int .u16 0,.int .u16 0,.int .u16 0,.int .u16 0,.int .u16 0,.int .u16 0,.int .u16 0,.int .u16 0,.int .u16 0,.int .u16 0,.int .u16 0,.int .u16 0,.int .u16 0,.int .u16 0,.int .u16 0,.int .u16 0,.int .u16 0,.int .u16 0,.int .u16 0,.int .u16 0,.int .u16 0,.int .u16 0,.int .u16 0,.int .u16 0,.int .u16 0,.int .u16 0,.int .u16 0,.int .u16 0,.int .u16 0,.int .u16 0,.int .u16 0,.int .u16 0,.int .u16 0,.int .u16 0,.int .u16 0,.int .u16 0,.int .u16 0]:=by kernel_rfl
theorem tZ_80:Tryz.prog.cellsOf 80=64:=by kernel_rfl
instance:SzD Tryz.prog 80 64:=⟨tZ_80⟩
theorem Zb7:tArr Tryz.prog 80 64 78 1=true:=by kernel_rfl
theorem Zfz:tAgg Tryz.prog 80 64=true:=by kernel_rfl
theorem tI3:tInt Tryz.prog 3 .i64=true:=by kernel_rfl
theorem Zk1:tInt Tryz.prog 78 .u16=true:=by kernel_rfl
theorem Qb:tStr Tryz.prog 9=true:=by kernel_rfl
theorem tI5:tInt Tryz.prog 5 .u8=true:=by kernel_rfl
theorem Zcd:tScal Tryz.prog 78=true:=by kernel_rfl
theorem ZkV:tArr Tryz.prog 158 4 78 1=true:=by kernel_rfl
theorem tB4:(match Tryz.prog.underlying 4 with |some .bool=>true |_=>false)=true:=by kernel_rfl
theorem Zdg:tAgg Tryz.prog 24 1=true:=by kernel_rfl
theorem tZ_25:Tryz.prog.cellsOf 25=1:=by kernel_rfl
instance:SzD Tryz.prog 25 1:=⟨tZ_25⟩
theorem ZaN:tFld Tryz.prog 24 0 0=true:=by kernel_rfl
theorem Zem:tScal Tryz.prog 22=true:=by kernel_rfl
theorem Zcq:tSl Tryz.prog 22 49 12 128=true:=by kernel_rfl
theorem Zcu:tAgg Tryz.prog 49 12=true:=by kernel_rfl
theorem ZkE:XE Tryz.prog 49=some [.int .i64 0,.string ⟨#[]⟩,.string ⟨#[]⟩,.int .i64 0,.int .i64 0,.int .i64 0,.int .i64 0,.slice none 0 0,.int .i64 0,.int .i64 0,.bool false,.int .i64 0]:=by kernel_rfl
theorem ZbB:tFld Tryz.prog 49 0 0=true:=by kernel_rfl
theorem Zhf:tFld Tryz.prog 49 1 1=true:=by kernel_rfl
theorem tS9:tScal Tryz.prog 9=true:=by kernel_rfl
theorem Zj8:XE Tryz.prog 203=some [.bool false,.bool false,.bool false,.bool false,.bool false,.bool false,.bool false,.bool false,.bool false,.bool false,.bool false,.bool false,.bool false,.bool false,.bool false,.bool false,.bool false,.bool false,.bool false,.bool false,.bool false,.bool false,.bool false,.bool false,.bool false,.bool false,.bool false,.bool false,.bool false,.bool false,.bool false,.bool false,.bool false,.bool false,.bool false,.bool false,.bool false,.bool false,.bool false,.bool false,.bool false,.bool false,.bool false,.bool false,.bool false,.bool false,.bool false,.bool false,.bool false,.bool false,.bool false,.bool false,.bool false,.bool false,.bool false,.bool false,.bool false,.bool false,.bool false,.bool false,.bool false,.bool false,.bool false,.bool false,.bool false,.bool false,.bool false,.bool false,.bool false,.bool false,.bool false,.bool false,.bool false,.bool false,.bool false,.bool false,.bool false,.bool false,.bool false,.bool false,.bool false,.bool false,.bool false,.bool false,.bool false,.bool false,.bool false,.bool false,.bool false,.bool false,.bool false,.bool false,.bool false,.bool false,.bool false,.bool false,.bool false,.bool false,.bool false,.bool false,.bool false,.bool false,.bool false,.bool false,.bool false,.bool false,.bool false,.bool false,.bool false,.bool false,.bool false,.bool false,.bool false,.bool false,.bool false,.bool false,.bool false,.bool false,.bool false,.bool false,.bool false,.bool false,.bool false,.bool false,.bool false,.bool false,.bool false,.bool false,.bool false,.bool false,.bool false,.bool false,.bool false,.bool false,.bool false,.bool false,.bool false,.bool false,.bool false,.bool false,.bool false,.bool false,.bool false,.bool false,.bool false,.bool false,.bool false,.bool false,.bool false,.bool false,.bool false,.bool false,.bool false,.bool false,.bool false,.bool false,.bool false,.bool false,.bool false,.bool false,.bool false,.bool false,.bool false,.bool false,.bool false,.bool false,.bool false,.bool false,.bool false,.bool false,.bool false,.bool false,.bool false,.bool false,.bool false,.bool false,.bool false,.bool false,.bool false,.bool false,.bool false,.bool false,.bool false,.bool false,.bool false,.bool false,.bool false,.bool false,.bool false,.bool false,.bool false,.bool false,.bool false,.bool false,.bool false,.bool false,.bool false,.bool false,.bool false,.bool false,.bool false,.bool false,.bool false,.bool false,.bool false,.bool false,.bool false,.bool false,.bool false,.bool false,.bool false,.bool false,.bool false,.bool false,.bool false,.bool false,.bool false,.bool false,.bool false,.bool false,.bool false,.bool false,.bool false,.bool false,.bool false,.bool false,.bool false,.bool false,.bool false,.bool false,.bool false,.bool false,.bool false,.bool false,.bool false,.bool false,.bool false,.bool false,.bool false,.bool false,.bool false,.bool false,.bool false,.bool false,.bool false,.bool false,.bool false,.bool false,.bool false,.bool false,.bool false,.bool false,.bool false,.bool false,.bool false,.bool false]:=by kernel_rfl
theorem tZ_203:Tryz.prog.cellsOf 203=256:=by kernel_rfl
instance:SzD Tryz.prog 203 256:=⟨tZ_203⟩
theorem Zfk:tAgg Tryz.prog 203 256=true:=by kernel_rfl
theorem Zka:tArr Tryz.prog 203 256 4 1=true:=by kernel_rfl
theorem tS4:tScal Tryz.prog 4=true:=by kernel_rfl
theorem Zkn:tInt Tryz.prog 21 .i32=true:=by kernel_rfl
theorem Zi3:tFld Tryz.prog 49 2 2=true:=by kernel_rfl
theorem ZeW:tFld Tryz.prog 49 3 3=true:=by kernel_rfl
theorem Zd8:tFld Tryz.prog 49 4 4=true:=by kernel_rfl
theorem Ze7:tFld Tryz.prog 49 5 5=true:=by kernel_rfl
theorem Zgm:tFld Tryz.prog 49 6 6=true:=by kernel_rfl
theorem Zdk:tFld Tryz.prog 49 7 7=true:=by kernel_rfl
theorem Zhe:tScal Tryz.prog 47=true:=by kernel_rfl
theorem Zgd:tSl Tryz.prog 47 136 3 32=true:=by kernel_rfl
theorem Zhg:tFld Tryz.prog 49 8 8=true:=by kernel_rfl
theorem Zhi:tFld Tryz.prog 49 9 9=true:=by kernel_rfl
theorem ZhL:tFld Tryz.prog 49 10 10=true:=by kernel_rfl
theorem Zgx:tFld Tryz.prog 49 11 11=true:=by kernel_rfl
theorem ZhQ:tAgg Tryz.prog 136 3=true:=by kernel_rfl
theorem Zke:XE Tryz.prog 136=some [.int .i64 0,.int .i64 0,.string ⟨#[]⟩]:=by kernel_rfl
theorem ZhC:tFld Tryz.prog 136 2 2=true:=by kernel_rfl
theorem ZgB:tFld Tryz.prog 136 0 0=true:=by kernel_rfl
theorem Zgi:tFld Tryz.prog 136 1 1=true:=by kernel_rfl
theorem Zi5:tScal Tryz.prog 25=true:=by kernel_rfl
theorem ZdN:tSl Tryz.prog 25 54 4 56=true:=by kernel_rfl
theorem Zhj:tAgg Tryz.prog 54 4=true:=by kernel_rfl
theorem Zlm:XE Tryz.prog 54=some [.string ⟨#[]⟩,.int .i64 0,.slice none 0 0,.int .i64 0]:=by kernel_rfl
theorem Zf1:tFld Tryz.prog 54 0 0=true:=by kernel_rfl
theorem ZeV:tFld Tryz.prog 54 1 1=true:=by kernel_rfl
theorem Zi4:tAgg Tryz.prog 52 2=true:=by kernel_rfl
theorem tZ_52:Tryz.prog.cellsOf 52=2:=by kernel_rfl
instance:SzD Tryz.prog 52 2:=⟨tZ_52⟩
theorem Zjn:tFld Tryz.prog 52 0 0=true:=by kernel_rfl
theorem Zb8:tFld Tryz.prog 52 1 1=true:=by kernel_rfl
theorem Zgf:tScal Tryz.prog 50=true:=by kernel_rfl
theorem Zev:tSl Tryz.prog 50 56 3 24=true:=by kernel_rfl
theorem Zcx:tAgg Tryz.prog 56 3=true:=by kernel_rfl
theorem Zhk:XE Tryz.prog 56=some [.int .i64 0,.int .i64 0,.int .i64 0]:=by kernel_rfl
theorem ZeX:tFld Tryz.prog 56 0 0=true:=by kernel_rfl
theorem ZdW:tFld Tryz.prog 56 1 1=true:=by kernel_rfl
theorem Zgq:tFld Tryz.prog 56 2 2=true:=by kernel_rfl
theorem Zjm:tFld Tryz.prog 54 2 3=true:=by kernel_rfl
theorem Zkz:XE Tryz.prog 24=some [.slice none 0 0]:=by kernel_rfl
theorem Zkk:(match Tryz.prog.underlying 22 with |some (.slice _)=>true |_=>false)=true:=by kernel_rfl
theorem Zk8:Za4 Tryz.prog 24=some [(0,1)]:=by kernel_rfl
theorem Zk5:Zdb Tryz.prog 24=true:=by kernel_rfl
theorem ZkH:(match Tryz.prog.underlying 47 with |some (.slice _)=>true |_=>false)=true:=by kernel_rfl
theorem Zkh:(match Tryz.prog.underlying 25 with |some (.slice _)=>true |_=>false)=true:=by kernel_rfl
theorem Zkq:(match Tryz.prog.underlying 50 with |some (.slice _)=>true |_=>false)=true:=by kernel_rfl
theorem ZeS:XE Tryz.prog 44=some [.int .i64 0,.slice none 0 0]:=by kernel_rfl
theorem tZ_44:Tryz.prog.cellsOf 44=2:=by kernel_rfl
instance:SzD Tryz.prog 44 2:=⟨tZ_44⟩
theorem tZ_99:Tryz.prog.cellsOf 99=5:=by kernel_rfl
instance:SzD Tryz.prog 99 5:=⟨tZ_99⟩
theorem ZbX:tSl Tryz.prog 42 99 5 48=true:=by kernel_rfl
theorem Zh6:XE Tryz.prog 99=some [.bool false,.bool false,.int .i64 0,.int .i64 0,.slice none 0 0]:=by kernel_rfl
theorem Zio:Za4 Tryz.prog 44=some [(0,1),(1,1)]:=by kernel_rfl
theorem Zix:Zdb Tryz.prog 44=true:=by kernel_rfl
theorem X8:tAgg Tryz.prog 44 2=true:=by kernel_rfl
theorem Zld:Za4 Tryz.prog 91=some [(0,1),(1,1),(2,1),(3,2),(5,1),(6,1)]:=by kernel_rfl
theorem ZkT:Zdb Tryz.prog 91=true:=by kernel_rfl
theorem Zlu:XE Tryz.prog 91=some [.slice none 0 0,.slice none 0 0,.int .i64 0,.int .i64 0,.slice none 0 0,.slice none 0 0,.slice none 0 0]:=by kernel_rfl
theorem Zls:tAgg Tryz.prog 91 7=true:=by kernel_rfl
theorem tZ_91:Tryz.prog.cellsOf 91=7:=by kernel_rfl
instance:SzD Tryz.prog 91 7:=⟨tZ_91⟩
theorem tZ_120:Tryz.prog.cellsOf 120=2:=by kernel_rfl
instance:SzD Tryz.prog 120 2:=⟨tZ_120⟩
theorem Zgv:tFld Tryz.prog 91 0 0=true:=by kernel_rfl
theorem Z9:tFld Tryz.prog 91 4 5=true:=by kernel_rfl
theorem Xt:tScal Tryz.prog 88=true:=by kernel_rfl
theorem Xo:tSl Tryz.prog 88 44 2 32=true:=by kernel_rfl
theorem ZhD:tInt Tryz.prog 126 .u64=true:=by kernel_rfl
theorem X6:tFld Tryz.prog 44 0 0=true:=by kernel_rfl
theorem X0:tFld Tryz.prog 44 1 1=true:=by kernel_rfl
theorem Zcf:tScal Tryz.prog 42=true:=by kernel_rfl
theorem Zkx:(match Tryz.prog.underlying 42 with |some (.slice _)=>true |_=>false)=true:=by kernel_rfl
theorem Zbf:tFld Tryz.prog 99 4 4=true:=by kernel_rfl
theorem Zfg:tScal Tryz.prog 26=true:=by kernel_rfl
theorem Zja:(match Tryz.prog.underlying 26 with |some (.slice _)=>true |_=>false)=true:=by kernel_rfl
theorem Jt:tFld Tryz.prog 91 3 3=true:=by kernel_rfl
theorem Zhr:tFld Tryz.prog 91 1 1=true:=by kernel_rfl
theorem Zln:Za4 Tryz.prog 56=some [(0,1),(1,1),(2,1)]:=by kernel_rfl
theorem ZkX:Zdb Tryz.prog 56=true:=by kernel_rfl
theorem Zeq:tAgg Tryz.prog 99 5=true:=by kernel_rfl
theorem Zb6:tFld Tryz.prog 99 0 0=true:=by kernel_rfl
theorem Zfj:tFld Tryz.prog 99 3 3=true:=by kernel_rfl
theorem ZeP:tFld Tryz.prog 99 1 1=true:=by kernel_rfl
theorem ZeQ:tFld Tryz.prog 99 2 2=true:=by kernel_rfl
theorem Zjo:tArr Tryz.prog 244 2 3 1=true:=by kernel_rfl
theorem Zgo:tFld Tryz.prog 91 2 2=true:=by kernel_rfl
theorem Zkp:XE Tryz.prog 39=some [.string ⟨#[]⟩,.int .i64 0,.bool false,.int .i64 0]:=by kernel_rfl
theorem tZ_39:Tryz.prog.cellsOf 39=4:=by kernel_rfl
instance:SzD Tryz.prog 39 4:=⟨tZ_39⟩
theorem Zlh:Za4 Tryz.prog 39=some [(0,1),(1,1),(2,1),(3,1)]:=by kernel_rfl
theorem Zll:Zdb Tryz.prog 39=true:=by kernel_rfl
theorem Zh2:tAgg Tryz.prog 39 4=true:=by kernel_rfl
theorem Zde:tFld Tryz.prog 39 0 0=true:=by kernel_rfl
theorem ZkI:tFld Tryz.prog 39 1 1=true:=by kernel_rfl
theorem ZiT:tSl Tryz.prog 171 9 1 16=true:=by kernel_rfl
theorem tZ_9:Tryz.prog.cellsOf 9=1:=by kernel_rfl
instance:SzD Tryz.prog 9 1:=⟨tZ_9⟩
theorem Zht:tSl Tryz.prog 37 39 4 40=true:=by kernel_rfl
theorem Zk7:Zf3 Tryz.prog 39 [.s,.i .i64,.b,.i .i64]=true:=by kernel_rfl
def gl0:Gl:=⟨2,[(0,(gv_frame_syncs.toList.map fun z=>Value.int .u16 z).toArray),(1,(Go.Lib.pow10Tab.map fun z=>Value.int .u64 z).toArray)]⟩
def R136(x:api_Zone):List AV:= [.int .i64 x.From,.int .i64 x.To,.str x.Name]
def R49(x:api_Instrument):List AV:= [.int .i64 x.Kind,.str x.Name,.str x.Track,.int .i64 x.Places,.int .i64 x.Low,.int .i64 x.High,.int .i64 x.Steps,.sl 136 (List.map R136 x.Zones),.int .i64 x.Op,.int .i64 x.N,.bool x.Latch,.int .i64 x.Size]
def R56(x:api_Sample):List AV:= [.int .i64 x.At,.int .i64 x.N,.int .i64 x.Mark]
def R54(x:api_Track):List AV:= [.str x.Name,.int .i64 x.Series.Den,.sl 56 (List.map R56 x.Series.Samples),.int .i64 x.Long]
def R3(x:Int):List AV:= [.int .i64 x]
def C78(x:Int):AV:= .int .u16 x
theorem D3(x:Int):(R3 x).length=Tryz.prog.cellsOf 3∧(R3 x).all datB=true:=⟨tZ_3.symm,rfl⟩
instance:RowD Tryz.prog 3 R3:=⟨D3⟩
def C4(x:Bool):AV:= .bool x
theorem D49(x:api_Instrument):(R49 x).length=Tryz.prog.cellsOf 49∧(R49 x).all datB=true:=⟨tZ_49.symm,rfl⟩
instance:RowD Tryz.prog 49 R49:=⟨D49⟩
theorem D136(x:api_Zone):(R136 x).length=Tryz.prog.cellsOf 136∧(R136 x).all datB=true:=⟨tZ_136.symm,rfl⟩
instance:RowD Tryz.prog 136 R136:=⟨D136⟩
theorem D54(x:api_Track):(R54 x).length=Tryz.prog.cellsOf 54∧(R54 x).all datB=true:=⟨tZ_54.symm,rfl⟩
instance:RowD Tryz.prog 54 R54:=⟨D54⟩
theorem D56(x:api_Sample):(R56 x).length=Tryz.prog.cellsOf 56∧(R56 x).all datB=true:=⟨tZ_56.symm,rfl⟩
instance:RowD Tryz.prog 56 R56:=⟨D56⟩
def R99(x:api_Memo):List AV:= [.bool x.Lit,.bool x.Some,.int .i64 x.N,.int .i64 x.Count,.sl 3 (List.map R3 x.Tape)]
theorem D99(x:api_Memo):(R99 x).length=Tryz.prog.cellsOf 99∧(R99 x).all datB=true:=⟨tZ_99.symm,rfl⟩
instance:RowD Tryz.prog 99 R99:=⟨D99⟩
def R44(x:api_PanelState):List AV:= [.int .i64 x.Frame,.sl 99 (List.map R99 x.Memos)]
def R120(x:api_Bookmark):List AV:= [.int .i64 x.Frame,.str x.Text]
theorem D44(x:api_PanelState):(R44 x).length=Tryz.prog.cellsOf 44∧(R44 x).all datB=true:=⟨tZ_44.symm,rfl⟩
instance:RowD Tryz.prog 44 R44:=⟨D44⟩
theorem D120(x:api_Bookmark):(R120 x).length=Tryz.prog.cellsOf 120∧(R120 x).all datB=true:=⟨tZ_120.symm,rfl⟩
instance:RowD Tryz.prog 120 R120:=⟨D120⟩
def R9(x:Str):List AV:= [.str x]
theorem D9(x:Str):(R9 x).length=Tryz.prog.cellsOf 9∧(R9 x).all datB=true:=⟨tZ_9.symm,rfl⟩
instance:RowD Tryz.prog 9 R9:=⟨D9⟩
def R39(x:api_Face):List AV:= [.str x.Text,.int .i64 x.Needle,.bool x.Lit,.int .i64 x.Mark]
theorem D39(x:api_Face):(R39 x).length=Tryz.prog.cellsOf 39∧(R39 x).all datB=true:=⟨tZ_39.symm,rfl⟩
instance:RowD Tryz.prog 39 R39:=⟨D39⟩
theorem ZcN{x:Int}{r:Int}(h:XA x=some r):
 CSpec Tryz.prog gl0 146 [.int .u16 x] (.int .i64 r):=by
 unfold XA at h
 replace h:=ZM h
 refine So Tryz.func146 Y fun w0 A=>Tr<|Ra Y<|Za<|Td md0<|D1 0 Ze Y<|bE h fun q h_q h=>Dq 1 Y (Zd3 (ov Y) (ov Y) h_q)<|bE h fun b h_b h=>Dq 2 Y (Qu (ov Y) (ov Y) Qb h_b)<|D1 3 Ze Y<|D2 4 Zci Y<|bE h fun b2 h_b2 h=>Dq 5 Y (Qu (ov Y) (ov Y) Qb h_b2)<|D2 6 Q4 Y<|Dq 7 Y (Zby (ov Y) tI5 tI3 Y)<|D1 8 Ji Y<|Dd<|?_
 obtain rfl:=rt h
 exact Zi (Zu Y (.one<|rb Y))
theorem ZfY{w:Int}{r:Bool}(h:ZbH w=some r):
 CSpec Tryz.prog gl0 106 [.int .u16 w] (.bool r):=by
 unfold ZbH at h
 replace h:=ZM h
 refine So Tryz.func106 Y fun w0 A=>Tr<|Ra Y<|Za<|Tr<|Rm Y<|R2 Zbl Y<|Rm Y<|Rq Y (.guarded ((decide (w≤4095))==true) Y Y Y Y fun h=>Ze<|ov Y)<|bE h fun y h_y h=>Rq Y (.guarded ((decide (w≤4095))==true) Y Y Y Y fun h=>Zo (ZcN<|gdT h_y h)<|.cons (ow Y h) (.b Y) .nil)<|bE h fun q h_q h=>Rq Y (.guarded ((decide (w≤4095))==true) Y Y Y Y fun h=>ZeK (ow Y h) (ov Y)<|gdT h_q h)<|Rq Y (.guarded ((decide (w≤4095))==true) Y Y Y Y fun h=>Qq (ow Y h)<|ov Y)<|Rq Y (Qh (ov Y) fun hp=>ow Y<|gT hp)<|Ra Y<|Za<|?_
 obtain rfl:=rt h
 exact Zi (Zu Y (.one<|rb Y))
theorem XW{data:Int}{r:Int}(h:Xq data=some r):
 CSpec Tryz.prog gl0 73 [.int .i64 data] (.int .u16 r):=by
 unfold Xq at h
 replace h:=ZM h
 refine So Tryz.func73 Y fun w0 A=>Tr<|Ra Y<|Za<|K1 0 Y<|Tr<|Rm Y<|Rq Y (Zby (ov Y) tI3 Zk1 Y)<|Ra Y<|Za<|Zl<|K1 3 Y<|Tr<|Rm Y<|bE h fun y h_y h=>Rq Y (Zo (ZfY h_y)<|.cons (ov Y) (.b Y) .nil)<|R1 Qz Y<|Za<|K2 3 8 Y<|If h Y (fun h=>?_) fun h=>?_
 ·
  refine K1 3 Y<|ZE<|Rm Y<|R2 Zj4 Y<|Ra Y<|Za<|K1 3 Y<|Tr<|Rm Y<|Ra Y<|Za<|?_
  obtain rfl:=rt h
  exact Zi (Zu Y (.one<|rb Y))
 ·
  refine Zf<|K1 3 Y<|Tr<|Rm Y<|Ra Y<|Za<|?_
  obtain rfl:=rt h
  exact Zi (Zu Y (.one<|rb Y))
theorem ZbD{w:Int}{r:Int}(h:JK w=some r):
 CSpec Tryz.prog gl0 147 [.int .u16 w] (.int .i64 r):=by
 unfold JK at h
 replace h:=ZM h
 refine So Tryz.func147 Y fun w0 A=>Tr<|Ra Y<|Za<|Tr<|Rm Y<|R2 Zci Y<|Rq Y (Zby (ov Y) Zk1 tI3 Y)<|Ra Y<|Za<|?_
 obtain rfl:=rt h
 exact Zi (Zu Y (.one<|rb Y))
theorem Zdu{f:Vector Int 64}{r:Int}(h:Ja f=some r):
 CSpec Tryz.prog gl0 107 [.rp (List.map C78 f.toList) 0] (.int .i64 r):=by
 unfold Ja at h
 replace h:=ZM h
 refine So Tryz.func107 Y fun w0 A=>Tr<|Ra Y<|Za<|Td md0<|D1 0 Ze Y<|D1 1 ZaM Y<|bE h fun x h_x h=>Dq 2 Y (ZdQ (ov Y) (ov Y) Zb7 h_x)<|Dq 3 Y (Zb (ov Y) Zcd<|Zbz<|ZcX (o:=0) (o':=((Int.toNat 1)*1)) (QB arL)<|ZcW h_x)<|bE h fun y h_y h=>Dq 4 Y (Zo (ZbD h_y)<|.cons (ov Y) (.b Y) .nil)<|D1 5 Ze Y<|D1 6 ZaM Y<|bE h fun x2 h_x2 h=>Dq 7 Y (ZdQ (ov Y) (ov Y) Zb7 h_x2)<|Dq 8 Y (Zb (ov Y) Zcd<|Zbz<|ZcX (o:=0) (o':=((Int.toNat 2)*1)) (QB arL)<|ZcW h_x2)<|bE h fun y2 h_y2 h=>Dq 9 Y (Zo (ZbD h_y2)<|.cons (ov Y) (.b Y) .nil)<|bE h fun q h_q h=>Dq 10 Y (ZiA (ov Y) (ov Y) h_q)<|D2 11 Zj4 Y<|D1 12 Ji Y<|Dd<|?_
 obtain rfl:=rt h
 exact Zi (Zu Y (.one<|rb Y))
theorem ZeZ{f:Vector Int 64}{r:Int}(h:ZaE f=some r):
 CSpec Tryz.prog gl0 108 [.rp (List.map C78 f.toList) 0] (.int .i64 r):=by
 unfold ZaE at h
 replace h:=ZM h
 refine So Tryz.func108 Y fun w0 A=>Tr<|Ra Y<|Za<|K1 0 Y<|Tr<|Ra Y<|Za<|I1 (fun n=>⟨[(3,.int .i64 n)],[]⟩) h (fun h=>?_) fun n h=>?_
 ·
  refine Tr<|Rm Y<|Za<|Zk<|?_
  obtain⟨r1,hl1,ho1⟩:=XB h
  refine L2 (fun n2 i=>⟨[(0,.rp (List.map C78 f.toList) 0),(3,.int .i64 n2),(5,.int .i64 i)],[]⟩) hl1 (ES []) fun n1 n2 i h=>?_
  unfold Zae at h
  refine Tr<|R2 ZU Y<|Za<|Zl<|If h Y (fun h=>?_) fun h=>?_
  ·
   exact Zf<|Zl<|Zk<|K3 0 3 5 Y<|Tr<|Rm Y<|Ra Y<|Za<|K4 0 3 4 5 Y<|ZE<|Rm Y<|Rm Y<|Rm Y<|R2 Q4 Y<|R1 ZaM Y<|bE h fun x h_x h=>Rq Y (ZdQ (ov Y) (ov Y) Zb7 h_x)<|Rq Y (Zb (ov Y) Zcd<|Zbz<|ZcX (o:=0) (o':=((i64 (i+1)).toNat*1)) (QB arL)<|ZcW h_x)<|bE h fun y h_y h=>Rq Y (Zo (ZbD h_y)<|.cons (ov Y) (.b Y) .nil)<|R2 Ziy Y<|Ra Y<|Za<|K3 0 3 5 Y<|ZE<|R2 Q4 Y<|Rm Y<|Za<|⟨_,h,ES []⟩
  ·
   refine ZL<|?_
   replace h:=lx h▸ho1
   exact⟨_,h,ES []⟩
 ·
  refine Tr<|Rm Y<|Ra Y<|Za<|?_
  obtain rfl:=rt h
  exact Zi (Zu Y (.one<|rb Y))
theorem ZdO{f:Vector Int 64}{r:Int}(h:JB f=some r):
 CSpec Tryz.prog gl0 109 [.rp (List.map C78 f.toList) 0] (.int .i64 r):=by
 unfold JB at h
 replace h:=ZM h
 refine So Tryz.func109 Y fun w0 A=>Tr<|Ra Y<|Za<|K1 0 Y<|Tr<|Ra Y<|Za<|I1 (fun n=>⟨[(3,.int .i64 n)],[]⟩) h (fun h=>?_) fun n h=>?_
 ·
  refine Tr<|Rm Y<|Za<|Zk<|?_
  obtain⟨r1,hl1,ho1⟩:=XB h
  refine L2 (fun n2 i=>⟨[(0,.rp (List.map C78 f.toList) 0),(3,.int .i64 n2),(7,.int .i64 i)],[]⟩) hl1 (ES []) fun n1 n2 i h=>?_
  unfold Js at h
  refine Tr<|R2 ZU Y<|Za<|Zl<|If h Y (fun h=>?_) fun h=>?_
  ·
   refine Zf<|I1 (fun n3=>⟨[(0,.rp (List.map C78 f.toList) 0),(3,.int .i64 n3),(7,.int .i64 i)],[]⟩) h (fun h=>?_) fun n3 h=>?_
   ·
    refine Zk<|K3 0 3 7 Y<|Tr<|Rm Y<|Ra Y<|Za<|K4 0 3 4 7 Y<|Tr<|Ra Y<|Za<|Zk<|?_
    obtain⟨r2,hl2,ho2⟩:=XB h
    refine L2 (fun n4 k=>⟨[(0,.rp (List.map C78 f.toList) 0),(3,.int .i64 n4),(4,.int .i64 i),(5,.int .i64 k),(7,.int .i64 i)],[]⟩) hl2 (ES []) fun n2 n4 k h=>?_
    unfold Jp at h
    refine Zl<|Tr<|Rm Y<|R2 Zag Y<|Za<|K6 0 3 4 5 7 11 Y<|If h Y (fun h=>?_) fun h=>?_
    ·
     refine Zf<|Zl<|Zk<|K5 0 3 4 5 7 Y<|Tr<|Rm Y<|R2 Zci Y<|R2 Qw Y<|Ra Y<|Za<|K6 0 3 4 5 6 7 Y<|Tr<|Rm Y<|bE h fun q h_q h=>Rq Y (ZiA (ov Y) (ov Y) h_q)<|R2 Zci Y<|Ra Y<|Za<|K6 0 3 4 5 6 7 Y<|Tr<|Rm Y<|Rm Y<|Rm Y<|R1 ZaM Y<|bE h fun x h_x h=>Rq Y (ZdQ (ov Y) (ov Y) Zb7 h_x)<|Rq Y (Zb (ov Y) Zcd<|Zbz<|ZcX (o:=0) (o':=(i.toNat*1)) (QB arL)<|ZcW h_x)<|Rm Y<|bE h fun q2 h_q2 h=>Rq Y (Zd3 (ov Y) (ov Y) h_q2)<|R2 Zci Y<|R2 Qq Y<|Rq Y (Ze8 .neq (by simp) (ov Y) (ov Y) tB4)<|Za<|K6 0 3 4 5 7 30 Y<|If h Y (fun h=>?_) fun h=>?_
     ·
      exact K5 0 3 4 5 7 Y<|ZE<|Rm Y<|R2 Ziy Y<|Ra Y<|Za<|K5 0 3 4 5 7 Y<|ZE<|Rm Y<|R2 Zbk Y<|Ra Y<|Za<|⟨_,h,ES []⟩
     ·
      exact Zf<|K5 0 3 4 5 7 Y<|ZE<|Rm Y<|R2 Zbk Y<|Ra Y<|Za<|⟨_,h,ES []⟩
    ·
     refine ZL<|?_
     replace h:=lx h▸ho2
     exact⟨_,h,ES []⟩
   ·
    exact ZE<|R2 Q4 Y<|Rm Y<|Za<|⟨_,h,ES []⟩
  ·
   refine ZL<|?_
   replace h:=lx h▸ho1
   exact⟨_,h,ES []⟩
 ·
  refine Tr<|Rm Y<|Ra Y<|Za<|?_
  obtain rfl:=rt h
  exact Zi (Zu Y (.one<|rb Y))
theorem Zdw{f:Vector Int 64}{r:(Vector Int 64)}(h:J3 f=some r):
 GSpec Tryz.prog gl0 74 [.ptr 0 1 0 0] [some ⟨80,[(List.map C78 f.toList)]⟩] (.tuple []) [some ⟨80,[(List.map C78 r.toList)]⟩]:=by
 unfold J3 at h
 replace h:=ZM h
 refine Qs (by kernel_rfl) Tryz.func74 Y Y<|?_
 intro w0 A W φ0
 refine Td md0<|D1 0 Ze Y<|D1 1 Ze Y<|bE h fun y h_y h=>Dq 2 Y (ZaZ (Zdu h_y) .int<|.cons (ov Y) (View.ptr Y Y Y (pwB<|arD fun _=>Y) (hns:=(nsM fun _=>Y))) .nil)<|bE h fun q h_q h=>Dq 3 Y (ZeK (ov Y) (ov Y) h_q)<|bE h fun x h_x h=>Dq 4 Y (ZdQ (og (v:=gv_frame_syncs) (k:= .u16) (f:=C78) (by simp [gl0]) fun _=>Y) (ov Y) ZkV h_x)<|Dq 5 Y (Zb (ov Y) Zcd<|Zbz<|ZcX (o:=0) (o':=(q.toNat*1)) (QB arL)<|ZcW h_x)<|Dq 6 Y (Zh (ov Y) Y Y)<|bE h fun x2 h_x2 h=>Dq 7 Y (Zah (ov Y) (ov Y) Zb7 Y Y h_x2)<|Do 8 Y (Zj (ov Y) (ov Y) (Zn Zcd) Y Y Y (arB h_x2) (Zd Y)<|arS h_x2)<|Dd<|K1 0 Y<|Td md0<|D1 0 Ze Y<|D1 1 Ze Y<|bE h fun y2 h_y2 h=>Dq 2 Y (ZaZ (ZeZ h_y2) .int<|.cons (ov Y) (View.ptr Y Y Y (pwB<|arD fun _=>Y) (hns:=(nsM fun _=>Y))) .nil)<|bE h fun y3 h_y3 h=>Dq 3 Y (Zo (XW h_y3)<|.cons (ov Y) (.b Y) .nil)<|Dq 4 Y (Zh (ov Y) Y Y)<|bE h fun x3 h_x3 h=>Dq 5 Y (Zah (ov Y) (ov Y) Zb7 Y Y h_x3)<|Do 6 Y (Zj (ov Y) (ov Y) (Zn Zcd) Y Y Y (arB h_x3) (Zd Y)<|arS h_x3)<|Dd<|K1 0 Y<|Tr<|Rm Y<|bE h fun y4 h_y4 h=>Rq Y (ZaZ (ZdO h_y4) .int<|.cons (ov Y) (View.ptr Y Y Y (pwB<|arD fun _=>Y) (hns:=(nsM fun _=>Y))) .nil)<|Ra Y<|Za<|K2 0 2 Y<|Zbh (cw:=md0) (by kernel_rfl)<|D1 0 Ze Y<|D1 2 Ze Y<|bE h fun q2 h_q2 h=>Dq 3 Y (Zd3 (ov Y) (ov Y) h_q2)<|bE h fun y5 h_y5 h=>Dq 4 Y (Zo (XW h_y5)<|.cons (ov Y) (.b Y) .nil)<|D1 5 Ze Y<|D2 6 Zci Y<|bE h fun y6 h_y6 h=>Dq 7 Y (Zo (XW h_y6)<|.cons (ov Y) (.b Y) .nil)<|Dq 8 Y (Zh (ov Y) Y Y)<|bE h fun x4 h_x4 h=>Dq 9 Y (Zah (ov Y) (ov Y) Zb7 Y Y h_x4)<|JZ 1 _ Y (by kernel_rfl) Y Y (fun hp'=>Ze<|ov Y)<|Dw 11 10 Y (Zh (ov Y) Y Y) (Zj (ov Y) (ov Y) (Zn Zcd) Y Y Y (arB h_x4) (Zd Y)<|arS h_x4) ?_ ?_
 ·
  refine Do 10 Y (Zj (ov Y) (ov Y) (Zn Zcd) Y Y Y (arB h_x4) (Zd Y)<|arS h_x4)<|bE h fun x5 h_x5 h=>Dq 12 Y (Zah (ov Y) (ov Y) Zb7 Y Y h_x5)<|Do 13 Y (Zj (ov Y) (ov Y) (Zn Zcd) Y Y Y (arB h_x5) (Zd Y)<|arS h_x5)<|Dd<|?_
  obtain rfl:=rt h
  exact ZfT [some 0] Y .nil (.cons Y (ro1 (by exact Eq.trans (b:=64) arL tZ_80.symm)<|rld<|arD fun _=>Y) .nil) Y Y<|Jw rln
 ·
  refine Dq 11 Y (Zh (ov Y) Y Y)<|bE h fun x5 h_x5 h=>Dq 12 Y (Zah (ov Y) (ov Y) Zb7 Y Y h_x5)<|Do 13 Y (Zj (ov Y) (ov Y) (Zn Zcd) Y Y Y (arB h_x5) (Zd Y)<|arS h_x5)<|Dd<|?_
  obtain rfl:=rt h
  exact ZfT [some 0] Y .nil (.cons Y (ro1 (by exact Eq.trans (b:=64) arL tZ_80.symm)<|rld<|arD fun _=>Y) .nil) Y Y<|Jw rln
theorem Zgj{number:Int}{data:List Int}{r:(Vector Int 64)×Int}(h:ZbF number data=some r):
 CSpec Tryz.prog gl0 35 [.int .i64 number,.sl 3 (List.map R3 data)] (.tuple [.agg (List.map C78 r.1.toList),.int .i64 r.2]):=by
 unfold ZbF at h
 replace h:=ZM h
 refine So Tryz.func35 Y fun w0 A=>Tr<|Rx Y (ZO (row:=(List.map C78 (Vector.replicate 64 0).toList)) 0 Y Zih Y tZ_80)<|Ra Y<|Za<|Zl<|K3 0 1 4 Y<|Tr<|Rm Y<|R2 ZU Y<|Rm Y<|Rq Y (.guarded ((decide (number<0))==false) Y Y Y Y fun h=>Ze<|ov Y)<|Rq Y (.guarded ((decide (number<0))==false) Y Y Y Y fun h=>Zag (ow Y h)<|ov Y)<|Rq Y (Xa (ov Y) fun hp=>ow Y<|gF hp)<|Za<|K4 0 1 4 14 Y<|If h Y (fun h=>?_) fun h=>?_
 ·
  refine K1 4 Y<|Tr<|R_q (.agg<|List.map C78 (#v[0,0,0,0,0,0,0,0,0,0,0,0,0,0,0,0,0,0,0,0,0,0,0,0,0,0,0,0,0,0,0,0,0,0,0,0,0,0,0,0,0,0,0,0,0,0,0,0,0,0,0,0,0,0,0,0,0,0,0,0,0,0,0,0]:Vector Int 64).toList) Y (Zft (ys:= [_,_,_,_,_,_,_,_,_,_,_,_,_,_,_,_,_,_,_,_,_,_,_,_,_,_,_,_,_,_,_,_,_,_,_,_,_,_,_,_,_,_,_,_,_,_,_,_,_,_,_,_,_,_,_,_,_,_,_,_,_,_,_,_]) Zb7 Zih .nil Y)<|Rx Y (Zj (ov Y) (ov Y) (Zv Zfz arL) Y Y Y (Zck (QB arL) arL) (Zd<|arC fun _=>Y)<|Zbm<|Eq.trans arL<|Eq.symm arL)<|Ra Y<|Za<|?_
  obtain rfl:=rt h
  exact Zi (Zu Y (.two (.agg Y Y Y Y Zfz (Zb1<|QB arL) arL (pwB<|arD fun _=>Y) (hns:=(nsM fun _=>Y)))<|rb Y))
 ·
  refine Zf<|Zl<|K3 0 1 4 Y<|Tr<|Rm Y<|Rl tZ_3 XM Y<|R2 Qw Y<|Za<|K4 0 1 4 18 Y<|If h Y (fun h=>?_) fun h=>?_
  ·
   refine K1 4 Y<|Tr<|R_q (.agg<|List.map C78 (#v[0,0,0,0,0,0,0,0,0,0,0,0,0,0,0,0,0,0,0,0,0,0,0,0,0,0,0,0,0,0,0,0,0,0,0,0,0,0,0,0,0,0,0,0,0,0,0,0,0,0,0,0,0,0,0,0,0,0,0,0,0,0,0,0]:Vector Int 64).toList) Y (Zft (ys:= [_,_,_,_,_,_,_,_,_,_,_,_,_,_,_,_,_,_,_,_,_,_,_,_,_,_,_,_,_,_,_,_,_,_,_,_,_,_,_,_,_,_,_,_,_,_,_,_,_,_,_,_,_,_,_,_,_,_,_,_,_,_,_,_]) Zb7 Zih .nil Y)<|Rx Y (Zj (ov Y) (ov Y) (Zv Zfz arL) Y Y Y (Zck (QB arL) arL) (Zd<|arC fun _=>Y)<|Zbm<|Eq.trans arL<|Eq.symm arL)<|Ra Y<|Za<|?_
   obtain rfl:=rt h
   exact Zi (Zu Y (.two (.agg Y Y Y Y Zfz (Zb1<|QB arL) arL (pwB<|arD fun _=>Y) (hns:=(nsM fun _=>Y)))<|rb Y))
  ·
   refine Zf<|K3 0 1 4 Y<|Tr<|Rx Y (ZO (row:=(List.map C78 (Vector.replicate 64 0).toList)) 1 Y Zih Y tZ_80)<|Za<|Tr<|Rm Y<|R2 Zci Y<|bE h fun y h_y h=>Rq Y (Zo (XW h_y)<|.cons (ov Y) (.b Y) .nil)<|Rm Y<|bE h fun q h_q h=>Rq Y (Zd3 (ov Y) (ov Y) h_q)<|bE h fun y2 h_y2 h=>Rq Y (Zo (XW h_y2)<|.cons (ov Y) (.b Y) .nil)<|bE h fun x h_x h=>Rq Y (Zah (ov Y) (ov Y) Zb7 Y Y h_x)<|Rx Y (Zj (ov Y) (ov Y) (Zn Zcd) Y Y Y (arB h_x) (Zd Y)<|arS h_x)<|bE h fun x2 h_x2 h=>Rq Y (Zah (ov Y) (ov Y) Zb7 Y Y h_x2)<|Rx Y (Zj (ov Y) (ov Y) (Zn Zcd) Y Y Y (arB h_x2) (Zd Y)<|arS h_x2)<|Za<|J1 (fun j=>(.inr j)) (fun f=>⟨[(4,.ptr 0 1 0 0),(6,.ptr 1 1 0 0)],[some ⟨80,[(List.map C78 (Vector.replicate 64 0).toList)]⟩,some ⟨80,[(List.map C78 f.toList)]⟩]⟩) h (fun h=>?_) fun f h=>?_
   ·
    refine K3 1 4 6 Y<|Tr<|Rm Y<|Rl tZ_3 XM Y<|Rm Y<|Za<|Zk<|?_
    obtain⟨r1,hl1,ho1⟩:=XB h
    refine L2 (fun f2 i=>⟨[(4,.ptr 0 1 0 0),(6,.ptr 1 1 0 0),(28,.sl 3 (List.map R3 data)),(29,.int .i64 (data.length:Int)),(30,.int .i64 i)],[some ⟨80,[(List.map C78 (Vector.replicate 64 0).toList)]⟩,some ⟨80,[(List.map C78 f2.toList)]⟩]⟩) hl1 (ES [some 0,some 1]) fun n1 f2 i h=>?_
    unfold ZaX at h
    refine Tr<|R2 ZU Y<|Za<|Zl<|If h Y (fun h=>?_) fun h=>?_
    ·
     refine Zf<|Zl<|Zk<|K5 4 6 28 29 30 Y<|Tr<|Rm Y<|bE h fun x3 h_x3 h=>Rq Y (Qa (ov Y) (ov Y) XM h_x3)<|Rq Y (Zb (ov Y) tS3 Y)<|Ra Y<|Ra Y<|Za<|Zl<|K7 4 6 7 8 28 29 30 Y<|Tr<|Rm Y<|R2 ZU Y<|Rm Y<|Rq Y (.guarded ((decide (x3<0))==false) Y Y Y Y fun h=>Ze<|ov Y)<|Rq Y (.guarded ((decide (x3<0))==false) Y Y Y Y fun h=>QN (ow Y h)<|ov Y)<|Rq Y (Xa (ov Y) fun hp=>ow Y<|gF hp)<|Za<|K8 4 6 7 8 28 29 30 40 Y<|If h Y (fun h=>?_) fun h=>?_
     ·
      refine K1 4 Y<|Tr<|R_q (.agg<|List.map C78 (#v[0,0,0,0,0,0,0,0,0,0,0,0,0,0,0,0,0,0,0,0,0,0,0,0,0,0,0,0,0,0,0,0,0,0,0,0,0,0,0,0,0,0,0,0,0,0,0,0,0,0,0,0,0,0,0,0,0,0,0,0,0,0,0,0]:Vector Int 64).toList) Y (Zft (ys:= [_,_,_,_,_,_,_,_,_,_,_,_,_,_,_,_,_,_,_,_,_,_,_,_,_,_,_,_,_,_,_,_,_,_,_,_,_,_,_,_,_,_,_,_,_,_,_,_,_,_,_,_,_,_,_,_,_,_,_,_,_,_,_,_]) Zb7 Zih .nil Y)<|Rx Y (Zj (ov Y) (ov Y) (Zv Zfz arL) Y Y Y (Zck (QB arL) arL) (Zd<|arC fun _=>Y)<|Zbm<|Eq.trans arL<|Eq.symm arL)<|Ra Y<|Za<|?_
      replace h:=lx h▸ho1
      obtain rfl:=rt h
      exact Zi (Zu Y (.two (.agg Y Y Y Y Zfz (Zb1<|QB arL) arL (pwB<|arD fun _=>Y) (hns:=(nsM fun _=>Y)))<|rb Y))
     ·
      exact Zf<|K7 4 6 7 8 28 29 30 Y<|ZE<|Rm Y<|R2 Q4 Y<|Rm Y<|bE h fun y3 h_y3 h=>Rq Y (Zo (XW h_y3)<|.cons (ov Y) (.b Y) .nil)<|bE h fun x4 h_x4 h=>Rq Y (Zah (ov Y) (ov Y) Zb7 Y Y h_x4)<|Rx Y (Zj (ov Y) (ov Y) (Zn Zcd) Y Y Y (arB h_x4) (Zd Y)<|arS h_x4)<|Za<|K5 4 6 28 29 30 Y<|ZE<|R2 Q4 Y<|Rm Y<|Za<|⟨_,h,ES [some 0,some 1]⟩
    ·
     refine ZL<|?_
     replace h:=lx h▸ho1
     exact⟨_,h,ES [some 0,some 1]⟩
   ·
    replace h:=elr h
    replace h:=t1i h
    refine Tr<|bE h fun y4 h_y4 h=>Rx Y (ZS [1] (Zdw h_y4) (.cons (ov Y) (.ptr _ _ _ Y) .nil) (.cons Y (ro1 (by exact Eq.trans (b:=64) arL tZ_80.symm)<|rld<|arD fun _=>Y) .nil) Y (.keep Y Y<|.lent 0 (.inl Y) Y (ro1 (by exact Eq.trans (b:=64) arL tZ_80.symm)<|rld<|arD fun _=>Y) .nil) Y Y<|Jw<|rld Y)<|Za<|K2 4 6 Y<|Tr<|Rq Y (ZY (ov Y) Y Y Y Zfz (Zb1<|QB arL) arL (hns:=(nsM fun _=>Y)))<|Rx Y (Zj (ov Y) (ov Y) (Zv Zfz arL) Y Y Y (Zck (QB arL) arL) (Zd<|arC fun _=>Y)<|Zbm<|Eq.trans arL<|Eq.symm arL)<|Ra Y<|Za<|?_
    obtain rfl:=rt h
    exact Zi (Zu Y (.two (.agg Y Y Y Y Zfz (Zb1<|QB arL) arL (pwB<|arD fun _=>Y) (hns:=(nsM fun _=>Y)))<|rb Y))
theorem Zgg{r:Bool}(h:Za3=some r):
 CSpec Tryz.prog gl0 7 [] (.bool r):=by
 unfold Za3 at h
 replace h:=ZM h
 refine So Tryz.func7 Y fun w0 A=>Tr<|Ra Y<|Za<|K0<|Tr<|bE h fun l h_l h=>Rx Y (Zgn [none] (r:=0) (f:=R3) (z0:=0) Y (ov Y) (ov Y) XM Y tZ3 Y Y h_l)<|Ra Y<|Za<|K1 1 Y<|Tr<|Rm Y<|bE h fun x h_x h=>Rq Y (Zbu (ov Y) (ov Y) XM Y Y h_x)<|Rx Y (ZbP (u':=5) (ov Y) (ov Y) (Zn tS3) Y Y h_x Y (Zd Y) Y)<|Za<|K1 1 Y<|Tr<|Rm Y<|bE h fun y h_y h=>Rq Y (ZaZ (Zgj h_y) (.tuple<|by simp only [List.mem_cons,List.not_mem_nil,or_false,forall_eq_or_imp,forall_eq];exact⟨(Zjj (fun _=> .int)),.int⟩)<|.cons (ov Y) (Dat.view<|.b Y)<|.cons (ov Y) (View.ownM Y ((List.length_set ..).trans Y) D3) .nil)<|Rm Y<|Rq Y (Zr (ov Y) Y)<|Rq Y (Zr (ov Y) Y)<|Rx Y (ZO (row:=(List.map C78 (Vector.replicate 64 0).toList)) 1 Y Zih Y tZ_80)<|Rx Y (Zj (ov Y) (ov Y) (Zv Zfz arL) Y Y Y (Zck (QB arL) arL) (Zd<|arC fun _=>Y)<|Zbm<|Eq.trans arL<|Eq.symm arL)<|Ra Y<|Za<|K2 2 3 Y<|Tr<|Rm Y<|R2 Qq Y<|Rm Y<|bE h fun x2 h_x2 h=>Rq Y (.guarded ((decide (y.2=0))==true) Y Y Y Y fun h=>Zah (ov Y) (ov Y) Zb7 Y Y<|gdT h_x2 h)<|Rq Y (.guarded ((decide (y.2=0))==true) Y Y Y Y fun h=>Zm (ow Y h) Y Y Y Zcd<|Zbz<|ZcX (o:=0) (o':=((Int.toNat 0)*1)) (QB arL)<|ZcW<|gdT h_x2 h)<|Rq Y (.guarded ((decide (y.2=0))==true) Y Y Y Y fun h=>Qq (ow Y h)<|ov Y)<|Rq Y (Qh (ov Y) fun hp=>ow Y<|gT hp)<|Rm Y<|bE h fun x3 h_x3 h=>Rq Y (.guarded (((decide (y.2=0))&&(decide (x2=2631)))==true) Y Y Y Y fun h=>Zah (ov Y) (ov Y) Zb7 Y Y<|gdT h_x3 h)<|Rq Y (.guarded (((decide (y.2=0))&&(decide (x2=2631)))==true) Y Y Y Y fun h=>Zm (ow Y h) Y Y Y Zcd<|Zbz<|ZcX (o:=0) (o':=((Int.toNat 1)*1)) (QB arL)<|ZcW<|gdT h_x3 h)<|Rq Y (.guarded (((decide (y.2=0))&&(decide (x2=2631)))==true) Y Y Y Y fun h=>Qq (ow Y h)<|ov Y)<|Rq Y (Qh (ov Y) fun hp=>ow Y<|gT hp)<|Rm Y<|bE h fun x4 h_x4 h=>Rq Y (.guarded ((((decide (y.2=0))&&(decide (x2=2631)))&&(decide (x3=2)))==true) Y Y Y Y fun h=>Zah (ov Y) (ov Y) Zb7 Y Y<|gdT h_x4 h)<|Rq Y (.guarded ((((decide (y.2=0))&&(decide (x2=2631)))&&(decide (x3=2)))==true) Y Y Y Y fun h=>Zm (ow Y h) Y Y Y Zcd<|Zbz<|ZcX (o:=0) (o':=((Int.toNat 2)*1)) (QB arL)<|ZcW<|gdT h_x4 h)<|Rq Y (.guarded ((((decide (y.2=0))&&(decide (x2=2631)))&&(decide (x3=2)))==true) Y Y Y Y fun h=>Qq (ow Y h)<|ov Y)<|Rq Y (Qh (ov Y) fun hp=>ow Y<|gT hp)<|Rm Y<|bE h fun x5 h_x5 h=>Rq Y (.guarded (((((decide (y.2=0))&&(decide (x2=2631)))&&(decide (x3=2)))&&(decide (x4=1)))==true) Y Y Y Y fun h=>Zah (ov Y) (ov Y) Zb7 Y Y<|gdT h_x5 h)<|Rq Y (.guarded (((((decide (y.2=0))&&(decide (x2=2631)))&&(decide (x3=2)))&&(decide (x4=1)))==true) Y Y Y Y fun h=>Zm (ow Y h) Y Y Y Zcd<|Zbz<|ZcX (o:=0) (o':=((Int.toNat 3)*1)) (QB arL)<|ZcW<|gdT h_x5 h)<|Rq Y (.guarded (((((decide (y.2=0))&&(decide (x2=2631)))&&(decide (x3=2)))&&(decide (x4=1)))==true) Y Y Y Y fun h=>Qq (ow Y h)<|ov Y)<|Rq Y (Qh (ov Y) fun hp=>ow Y<|gT hp)<|Ra Y<|Za<|?_
 obtain rfl:=rt h
 exact Zi (Zu Y (.one<|rb Y))
theorem Z3{n:Int}{low:Int}{high:Int}{r:Bool}(h:ZC n low high=some r):
 CSpec Tryz.prog gl0 37 [.int .i64 n,.int .i64 low,.int .i64 high] (.bool r):=by
 unfold ZC at h
 replace h:=ZM h
 refine So Tryz.func37 Y fun w0 A=>Tr<|Ra Y<|Za<|Tr<|Rm Y<|Rm Y<|R2 Zag Y<|Rm Y<|Rq Y (.guarded ((decide (low≤n))==true) Y Y Y Y fun h=>Ze<|ov Y)<|Rq Y (.guarded ((decide (low≤n))==true) Y Y Y Y fun h=>Ze<|ov Y)<|Rq Y (.guarded ((decide (low≤n))==true) Y Y Y Y fun h=>Zbl (ow Y h)<|ow Y h)<|Rq Y (Qh (ov Y) fun hp=>ow Y<|gT hp)<|Ra Y<|Za<|?_
 obtain rfl:=rt h
 exact Zi (Zu Y (.one<|rb Y))
theorem ZbA{s:Str}{c_:Int}{r:Str}(h:XZ s c_=some r):
 CSpec Tryz.prog gl0 177 [.str s,.int .u8 c_] (.str r):=by
 unfold XZ at h
 replace h:=ZM h
 refine So Tryz.func177 Y fun w0 A=>Tr<|Ra Y<|Za<|I1 (fun s2=>⟨[(0,.str s2)],[]⟩) h (fun h=>?_) fun s2 h=>?_
 ·
  refine Zk<|?_
  obtain⟨r1,hl1,ho1⟩:=XB h
  refine L1 (fun s3=>⟨[(0,.str s3),(1,.int .u8 c_)],[]⟩) hl1 (ES []) fun n1 s3 h=>?_
  unfold Ju at h
  refine Zl<|Tr<|Rm Y<|Rq Y (Qn (ov Y) Qb Y)<|R2 QN Y<|Rm Y<|Rq Y (.guarded ((decide (0<(s3.length:Int)))==true) Y Y Y Y fun h=>Ze<|ov Y)<|Rq Y (.guarded ((decide (0<(s3.length:Int)))==true) Y Y Y Y fun h=>Ze<|ov Y)<|Rq Y (.guarded ((decide (0<(s3.length:Int)))==true) Y Y Y Y fun h=>Qn (ow Y h) Qb Y)<|Rq Y (.guarded ((decide (0<(s3.length:Int)))==true) Y Y Y Y fun h=>ZfN (ow Y h) (ov Y) Y)<|bE h fun b h_b h=>Rq Y (.guarded ((decide (0<(s3.length:Int)))==true) Y Y Y Y fun h=>Qu (ow Y h) (ow Y h) Qb<|gdT h_b h)<|Rq Y (.guarded ((decide (0<(s3.length:Int)))==true) Y Y Y Y fun h=>Ze<|ov Y)<|Rq Y (.guarded ((decide (0<(s3.length:Int)))==true) Y Y Y Y fun h=>Qq (ow Y h)<|ow Y h)<|Rq Y (Qh (ov Y) fun hp=>ow Y<|gT hp)<|Za<|K3 0 1 16 Y<|If h Y (fun h=>?_) fun h=>?_
  ·
   exact Zf<|Zk<|K2 0 1 Y<|ZE<|Rm Y<|Rm Y<|Rq Y (Qn (ov Y) Qb Y)<|R2 Zbk Y<|bE h fun s4 h_s4 h=>Rq Y (XJ (ov Y) Qb on (oi<|ov Y) h_s4)<|Ra Y<|Za<|⟨_,h,ES []⟩
  ·
   refine ZL<|?_
   replace h:=lx h▸ho1
   exact⟨_,h,ES []⟩
 ·
  refine Tr<|Rm Y<|Ra Y<|Za<|?_
  obtain rfl:=rt h
  exact Zi (Zu Y (.one<|rb Y))
theorem ZbO{s:Str}{c_:Int}{r:Str}(h:Jg s c_=some r):
 CSpec Tryz.prog gl0 176 [.str s,.int .u8 c_] (.str r):=by
 unfold Jg at h
 replace h:=ZM h
 refine So Tryz.func176 Y fun w0 A=>Tr<|Ra Y<|Za<|I1 (fun s2=>⟨[(0,.str s2)],[]⟩) h (fun h=>?_) fun s2 h=>?_
 ·
  refine Zk<|?_
  obtain⟨r1,hl1,ho1⟩:=XB h
  refine L1 (fun s3=>⟨[(0,.str s3),(1,.int .u8 c_)],[]⟩) hl1 (ES []) fun n1 s3 h=>?_
  unfold JQ at h
  refine Zl<|Tr<|Rm Y<|Rq Y (Qn (ov Y) Qb Y)<|R2 QN Y<|Rm Y<|Rq Y (.guarded ((decide (0<(s3.length:Int)))==true) Y Y Y Y fun h=>Ze<|ov Y)<|bE h fun b h_b h=>Rq Y (.guarded ((decide (0<(s3.length:Int)))==true) Y Y Y Y fun h=>Qu (ow Y h) (ov Y) Qb<|gdT h_b h)<|Rq Y (.guarded ((decide (0<(s3.length:Int)))==true) Y Y Y Y fun h=>Ze<|ov Y)<|Rq Y (.guarded ((decide (0<(s3.length:Int)))==true) Y Y Y Y fun h=>Qq (ow Y h)<|ow Y h)<|Rq Y (Qh (ov Y) fun hp=>ow Y<|gT hp)<|Za<|K3 0 1 13 Y<|If h Y (fun h=>?_) fun h=>?_
  ·
   exact Zf<|Zk<|K2 0 1 Y<|ZE<|Rm Y<|bE h fun s4 h_s4 h=>Rq Y (XJ (ov Y) Qb (oi<|ov Y) on h_s4)<|Ra Y<|Za<|⟨_,h,ES []⟩
  ·
   refine ZL<|?_
   replace h:=lx h▸ho1
   exact⟨_,h,ES []⟩
 ·
  refine Tr<|Rm Y<|Ra Y<|Za<|?_
  obtain rfl:=rt h
  exact Zi (Zu Y (.one<|rb Y))
theorem ZbK{chars:Str}{r:(Vector Bool 256)×Bool}(h:Qm chars=some r):
 CSpec Tryz.prog gl0 178 [.str chars] (.tuple [.agg (List.map C4 r.1.toList),.bool r.2]):=by
 unfold Qm at h
 replace h:=ZM h
 refine So Tryz.func178 Y fun w0 A=>Tr<|Rx Y (ZO (row:=(List.map C4 (Vector.replicate 256 false).toList)) 0 Y Zj8 Y tZ_203)<|Ra Y<|Za<|J1 (fun j=>(.inr j)) (fun as_=>⟨[(2,.ptr 0 1 0 0)],[some ⟨203,[(List.map C4 as_.toList)]⟩]⟩) h (fun h=>?_) fun as_ h=>?_
 ·
  refine K2 0 2 Y<|Tr<|Ra Y<|Za<|Zk<|?_
  obtain⟨r1,hl1,ho1⟩:=XB h
  refine L2 (fun as_2 i=>⟨[(0,.str chars),(2,.ptr 0 1 0 0),(4,.int .i64 i)],[some ⟨203,[(List.map C4 as_2.toList)]⟩]⟩) hl1 (ES [some 0]) fun n1 as_2 i h=>?_
  unfold QI at h
  refine Zl<|Tr<|Rm Y<|Rm Y<|Rq Y (Qn (ov Y) Qb Y)<|R2 ZU Y<|Za<|K4 0 2 4 9 Y<|If h Y (fun h=>?_) fun h=>?_
  ·
   refine Zf<|Zl<|Zk<|K3 0 2 4 Y<|Tr<|Rm Y<|Rm Y<|bE h fun b h_b h=>Rq Y (Qu (ov Y) (ov Y) Qb h_b)<|Ra Y<|Za<|Zl<|K4 0 2 4 5 Y<|Tr<|Rm Y<|R2 Zag Y<|Za<|K5 0 2 4 5 16 Y<|If h Y (fun h=>?_) fun h=>?_
   ·
    refine K1 2 Y<|Tr<|Rq Y (ZY (ov Y) Y Y Y Zfk (Zb1<|QB arL) arL (hns:=(nsM fun _=>Y)))<|Rx Y (Zj (ov Y) (ov Y) (Zv Zfk arL) Y Y Y (Zck (QB arL) arL) (Zd<|arC fun _=>Y)<|Zbm<|Eq.trans arL<|Eq.symm arL)<|Ra Y<|Za<|?_
    replace h:=lx h▸ho1
    obtain rfl:=rt h
    exact Zi (Zu Y (.two (.agg Y Y Y Y Zfk (Zb1<|QB arL) arL (pwB<|arD fun _=>Y) (hns:=(nsM fun _=>Y)))<|rb Y))
   ·
    exact Zf<|K4 0 2 4 5 Y<|ZE<|Rm Y<|bE h fun x h_x h=>Rq Y (Zah (ov Y) (ov Y) Zka Y Y h_x)<|Rx Y (Zj (ov Y) (ov Y) (Zn tS4) Y Y Y (arB h_x) (Zd Y)<|arS h_x)<|Za<|K3 0 2 4 Y<|ZE<|Rm Y<|R2 Q4 Y<|Ra Y<|Za<|⟨_,h,ES [some 0]⟩
  ·
   refine ZL<|?_
   replace h:=lx h▸ho1
   exact⟨_,h,ES [some 0]⟩
 ·
  replace h:=elr h
  replace h:=t1i h
  refine Tr<|Rq Y (ZY (ov Y) Y Y Y Zfk (Zb1<|QB arL) arL (hns:=(nsM fun _=>Y)))<|Rx Y (Zj (ov Y) (ov Y) (Zv Zfk arL) Y Y Y (Zck (QB arL) arL) (Zd<|arC fun _=>Y)<|Zbm<|Eq.trans arL<|Eq.symm arL)<|Ra Y<|Za<|?_
  obtain rfl:=rt h
  exact Zi (Zu Y (.two (.agg Y Y Y Y Zfk (Zb1<|QB arL) arL (pwB<|arD fun _=>Y) (hns:=(nsM fun _=>Y)))<|rb Y))
theorem XQ{as_:Vector Bool 256}{c_:Int}{r:Bool}(h:ZW as_ c_=some r):
 CSpec Tryz.prog gl0 193 [.rp (List.map C4 as_.toList) 0,.int .u8 c_] (.bool r):=by
 unfold ZW at h
 replace h:=ZM h
 refine So Tryz.func193 Y fun w0 A=>Tr<|Ra Y<|Za<|Tr<|Rm Y<|Rm Y<|R1 ZaM Y<|bE h fun x h_x h=>Rq Y (ZdQ (ov Y) (ov Y) Zka h_x)<|Rq Y (Zb (ov Y) tS4<|Zbz<|ZcX (o:=0) (o':=(c_.toNat*1)) (QB arL)<|ZcW h_x)<|Ra Y<|Za<|?_
 obtain rfl:=rt h
 exact Zi (Zu Y (.one<|rb Y))
theorem Zbj{s:Str}{as_:Vector Bool 256}{r:Str}(h:Qt s as_=some r):
 CSpec Tryz.prog gl0 180 [.str s,.rp (List.map C4 as_.toList) 0] (.str r):=by
 unfold Qt at h
 replace h:=ZM h
 refine So Tryz.func180 Y fun w0 A=>Tr<|Ra Y<|Za<|I1 (fun s2=>⟨[(0,.str s2)],[]⟩) h (fun h=>?_) fun s2 h=>?_
 ·
  refine Zk<|?_
  obtain⟨r1,hl1,ho1⟩:=XB h
  refine L1 (fun s3=>⟨[(0,.str s3),(1,.rp (List.map C4 as_.toList) 0)],[]⟩) hl1 (ES []) fun n1 s3 h=>?_
  unfold ZX at h
  refine Zl<|Tr<|Rm Y<|Rq Y (Qn (ov Y) Qb Y)<|R2 QN Y<|Za<|K3 0 1 7 Y<|If h Y (fun h=>?_) fun h=>?_
  ·
   refine Zf<|Zk<|Zl<|K2 0 1 Y<|Tr<|Rm Y<|Rm Y<|Rm Y<|Rq Y (Qn (ov Y) Qb Y)<|R2 Zbk Y<|bE h fun b h_b h=>Rq Y (Qu (ov Y) (ov Y) Qb h_b)<|bE h fun y h_y h=>Rq Y (Zo (XQ h_y)<|.cons (ov Y) (.b Y)<|.cons (ov Y) (.b Y) .nil)<|R1 Qz Y<|Za<|K3 0 1 15 Y<|If h Y (fun h=>?_) fun h=>?_
   ·
    refine ZL<|?_
    replace h:=lx h▸ho1
    exact⟨_,h,ES []⟩
   ·
    exact Zf<|K2 0 1 Y<|ZE<|Rm Y<|Rm Y<|Rq Y (Qn (ov Y) Qb Y)<|R2 Zbk Y<|bE h fun s4 h_s4 h=>Rq Y (XJ (ov Y) Qb on (oi<|ov Y) h_s4)<|Ra Y<|Za<|⟨_,h,ES []⟩
  ·
   refine ZL<|?_
   replace h:=lx h▸ho1
   exact⟨_,h,ES []⟩
 ·
  refine Tr<|Rm Y<|Ra Y<|Za<|?_
  obtain rfl:=rt h
  exact Zi (Zu Y (.one<|rb Y))
theorem ZbC{s:Str}{as_:Vector Bool 256}{r:Str}(h:Qx s as_=some r):
 CSpec Tryz.prog gl0 179 [.str s,.rp (List.map C4 as_.toList) 0] (.str r):=by
 unfold Qx at h
 replace h:=ZM h
 refine So Tryz.func179 Y fun w0 A=>Tr<|Ra Y<|Za<|I1 (fun s2=>⟨[(0,.str s2)],[]⟩) h (fun h=>?_) fun s2 h=>?_
 ·
  refine Zk<|?_
  obtain⟨r1,hl1,ho1⟩:=XB h
  refine L1 (fun s3=>⟨[(0,.str s3),(1,.rp (List.map C4 as_.toList) 0)],[]⟩) hl1 (ES []) fun n1 s3 h=>?_
  unfold Z4 at h
  refine Zl<|Tr<|Rm Y<|Rq Y (Qn (ov Y) Qb Y)<|R2 QN Y<|Za<|K3 0 1 7 Y<|If h Y (fun h=>?_) fun h=>?_
  ·
   refine Zf<|Zk<|Zl<|K2 0 1 Y<|Tr<|Rm Y<|Rm Y<|bE h fun b h_b h=>Rq Y (Qu (ov Y) (ov Y) Qb h_b)<|bE h fun y h_y h=>Rq Y (Zo (XQ h_y)<|.cons (ov Y) (.b Y)<|.cons (ov Y) (.b Y) .nil)<|R1 Qz Y<|Za<|K3 0 1 12 Y<|If h Y (fun h=>?_) fun h=>?_
   ·
    refine ZL<|?_
    replace h:=lx h▸ho1
    exact⟨_,h,ES []⟩
   ·
    exact Zf<|K2 0 1 Y<|ZE<|Rm Y<|bE h fun s4 h_s4 h=>Rq Y (XJ (ov Y) Qb (oi<|ov Y) on h_s4)<|Ra Y<|Za<|⟨_,h,ES []⟩
  ·
   refine ZL<|?_
   replace h:=lx h▸ho1
   exact⟨_,h,ES []⟩
 ·
  refine Tr<|Rm Y<|Ra Y<|Za<|?_
  obtain rfl:=rt h
  exact Zi (Zu Y (.one<|rb Y))
theorem ZdC{b:Int}{r:Bool}(h:Za9 b=some r):
 CSpec Tryz.prog gl0 201 [.int .u8 b] (.bool r):=by
 unfold Za9 at h
 replace h:=ZM h
 refine So Tryz.func201 Y fun w0 A=>Tr<|Ra Y<|Za<|Tr<|Rm Y<|R2 Zci Y<|R2 Qw Y<|Ra Y<|Za<|?_
 obtain rfl:=rt h
 exact Zi (Zu Y (.one<|rb Y))
theorem Zan{s:Str}{r:Int×Int}(h:QS s=some r):
 CSpec Tryz.prog gl0 199 [.str s] (.tuple [.int .i32 r.1,.int .i64 r.2]):=by
 unfold QS at h
 replace h:=ZM h
 refine So Tryz.func199 Y fun w0 A=>Tr<|Ra Y<|Ra Y<|Za<|K1 0 Y<|Tr<|Rm Y<|Rq Y (Qn (ov Y) Qb Y)<|Ra Y<|Za<|Zl<|K2 0 4 Y<|Tr<|Rm Y<|R2 ZU Y<|Za<|K3 0 4 16 Y<|If h Y (fun h=>?_) fun h=>?_
 ·
  refine K0<|Tr<|Ra Y<|Ra Y<|Za<|?_
  obtain rfl:=rt h
  exact Zi (Zu Y (.two (rb Y)<|rb Y))
 ·
  exact Zf<|K2 0 4 Y<|Tr<|Rm Y<|bE h fun b h_b h=>Rq Y (Qu (ov Y) (ov Y) Qb h_b)<|Ra Y<|Za<|(Zfv h).elim
theorem Jh{s:Str}{r:Int×Int}(h:QL s=some r):
 CSpec Tryz.prog gl0 194 [.str s] (.tuple [.int .i32 r.1,.int .i64 r.2]):=by
 unfold QL at h
 replace h:=ZM h
 refine So Tryz.func194 Y fun w0 A=>Tr<|Ra Y<|Ra Y<|Za<|Zl<|K1 0 Y<|Tr<|Rm Y<|R2 Zi1 Y<|Rm Y<|Rq Y (.guarded ((!decide (s= []))==true) Y Y Y Y fun h=>Ze<|ov Y)<|bE h fun b h_b h=>Rq Y (.guarded ((!decide (s= []))==true) Y Y Y Y fun h=>Qu (ow Y h) (ov Y) Qb<|gdT h_b h)<|Rq Y (.guarded ((!decide (s= []))==true) Y Y Y Y fun h=>ZU (ow Y h)<|ov Y)<|Rq Y (Qh (ov Y) fun hp=>ow Y<|gT hp)<|Za<|K2 0 10 Y<|If h Y (fun h=>?_) fun h=>?_
 ·
  refine K1 0 Y<|Tr<|Rm Y<|bE h fun b2 h_b2 h=>Rq Y (Qu (ov Y) (ov Y) Qb h_b2)<|Rq Y (Zby (ov Y) tI5 Zkn Y)<|Ra Y<|Ra Y<|Za<|?_
  obtain rfl:=rt h
  exact Zi (Zu Y (.two (rb Y)<|rb Y))
 ·
  refine K1 0 Y<|ZE<|Rm Y<|bE h fun y h_y h=>Rq Y (Zo (Zan h_y)<|.cons (ov Y) (.b Y) .nil)<|Rm Y<|Rq Y (Zr (ov Y) Y)<|Rq Y (Zr (ov Y) Y)<|Ra Y<|Ra Y<|Za<|?_
  obtain rfl:=rt h
  exact Zi (Zu Y (.two (rb Y)<|rb Y))
theorem Zai{s:Str}{r:Int×Int}(h:QP s=some r):
 CSpec Tryz.prog gl0 196 [.str s] (.tuple [.int .i32 r.1,.int .i64 r.2]):=by
 unfold QP at h
 replace h:=ZM h
 refine So Tryz.func196 Y fun w0 A=>Tr<|Ra Y<|Ra Y<|Za<|K1 0 Y<|Tr<|Rm Y<|Rq Y (Qn (ov Y) Qb Y)<|Ra Y<|Za<|Zl<|K2 0 4 Y<|Tr<|Rm Y<|R2 Qq Y<|Za<|K3 0 4 10 Y<|If h Y (fun h=>?_) fun h=>?_
 ·
  refine K0<|Tr<|Ra Y<|Ra Y<|Za<|?_
  obtain rfl:=rt h
  exact Zi (Zu Y (.two (rb Y)<|rb Y))
 ·
  refine Zf<|K2 0 4 Y<|Tr<|Rm Y<|R2 Zbk Y<|Ra Y<|Za<|K3 0 4 5 Y<|Tr<|Rm Y<|Rm Y<|bE h fun b h_b h=>Rq Y (Qu (ov Y) (ov Y) Qb h_b)<|Rq Y (Zby (ov Y) tI5 Zkn Y)<|Ra Y<|Za<|Zl<|K4 0 2 4 5 Y<|Tr<|Rm Y<|R2 ZU Y<|Za<|K5 0 2 4 5 18 Y<|If h Y (fun h=>?_) fun h=>?_
  ·
   refine K1 2 Y<|Tr<|Rm Y<|Ra Y<|Ra Y<|Za<|?_
   obtain rfl:=rt h
   exact Zi (Zu Y (.two (rb Y)<|rb Y))
  ·
   refine Zf<|K3 0 4 5 Y<|Tr<|Rm Y<|R2 Zbk Y<|Rq Y (ZiD (ov Y) (ov Y) Y)<|Ra Y<|Za<|I1 (fun start=>⟨[(0,.str s),(4,.int .i64 (s.length:Int)),(5,.int .i64 start)],[]⟩) h (fun h=>?_) fun start h=>?_
   ·
    refine K4 0 4 5 6 Y<|Tr<|Rm Y<|R2 Zbk Y<|Ra Y<|Za<|Zk<|?_
    obtain⟨r1,hl1,ho1⟩:=XB h
    refine L1 (fun start2=>⟨[(0,.str s),(4,.int .i64 (s.length:Int)),(5,.int .i64 start2),(6,.int .i64 (max (i64 ((s.length:Int)-4)) 0))],[]⟩) hl1 (ES []) fun n1 start2 h=>?_
    unfold XD at h
    refine Zl<|Tr<|Rm Y<|Rm Y<|R2 Zag Y<|Za<|K5 0 4 5 6 27 Y<|If h Y (fun h=>?_) fun h=>?_
    ·
     refine Zf<|Zl<|Zk<|K4 0 4 5 6 Y<|Tr<|Rm Y<|Rm Y<|bE h fun b2 h_b2 h=>Rq Y (Qu (ov Y) (ov Y) Qb h_b2)<|bE h fun y h_y h=>Rq Y (Zo (ZdC h_y)<|.cons (ov Y) (.b Y) .nil)<|Za<|K5 0 4 5 6 33 Y<|If h Y (fun h=>?_) fun h=>?_
     ·
      refine ZL<|?_
      replace h:=lx h▸ho1
      exact⟨_,h,ES []⟩
     ·
      exact Zf<|K4 0 4 5 6 Y<|ZE<|Rm Y<|R2 Zbk Y<|Ra Y<|Za<|⟨_,h,ES []⟩
    ·
     refine ZL<|?_
     replace h:=lx h▸ho1
     exact⟨_,h,ES []⟩
   ·
    refine I1 (fun start3=>⟨[(0,.str s),(4,.int .i64 (s.length:Int)),(5,.int .i64 start3)],[]⟩) h (fun h=>?_) fun start3 h=>?_
    ·
     refine Tr<|Rm Y<|R2 ZU Y<|Za<|K4 0 4 5 35 Y<|If h Y (fun h=>?_) fun h=>?_
     ·
      exact K3 0 4 5 Y<|ZE<|Ra Y<|Za<|⟨_,h,ES []⟩
     ·
      exact Zf<|⟨_,h,ES []⟩
    ·
     refine Tr<|Rm Y<|Rm Y<|Rm Y<|bE h fun s2 h_s2 h=>Rq Y (XJ (ov Y) Qb (oi<|ov Y) (oi<|ov Y) h_s2)<|bE h fun y2 h_y2 h=>Rq Y (Zo (Jh h_y2)<|.cons (ov Y) (.b Y) .nil)<|Rm Y<|Rq Y (Zr (ov Y) Y)<|Rq Y (Zr (ov Y) Y)<|Ra Y<|Ra Y<|Za<|Zl<|K4 2 3 4 5 Y<|Tr<|Rm Y<|Rm Y<|R2 Q4 Y<|Rm Y<|R2 Qw Y<|Za<|K3 2 3 48 Y<|If h Y (fun h=>?_) fun h=>?_
     ·
      refine K2 2 3 Y<|Tr<|Ra Y<|Ra Y<|Za<|?_
      obtain rfl:=rt h
      exact Zi (Zu Y (.two (rb Y)<|rb Y))
     ·
      refine Zf<|K2 2 3 Y<|Tr<|Rm Y<|Rm Y<|Ra Y<|Ra Y<|Za<|?_
      obtain rfl:=rt h
      exact Zi (Zu Y (.two (rb Y)<|rb Y))
theorem JR{s:Str}{r_:Int}{r:Bool}(h:Xk s r_=some r):
 CSpec Tryz.prog gl0 195 [.str s,.int .i32 r_] (.bool r):=by
 unfold Xk at h
 replace h:=ZM h
 exact So Tryz.func195 Y fun w0 A=>Tr<|Ra Y<|Za<|(Zfv h).elim
theorem ZaV{s:Str}{cutset:Str}{r:Str}(h:Xu s cutset=some r):
 CSpec Tryz.prog gl0 182 [.str s,.str cutset] (.str r):=by
 unfold Xu at h
 replace h:=ZM h
 refine So Tryz.func182 Y fun w0 A=>Tr<|Ra Y<|Za<|I1 (fun s2=>⟨[(0,.str s2)],[]⟩) h (fun h=>?_) fun s2 h=>?_
 ·
  refine Zk<|?_
  obtain⟨r1,hl1,ho1⟩:=XB h
  refine L1 (fun s3=>⟨[(0,.str s3),(1,.str cutset)],[]⟩) hl1 (ES []) fun n1 s3 h=>?_
  unfold X3 at h
  refine Zl<|Tr<|Rm Y<|Rq Y (Qn (ov Y) Qb Y)<|R2 QN Y<|Za<|K3 0 1 9 Y<|If h Y (fun h=>?_) fun h=>?_
  ·
   refine Zf<|Zk<|K2 0 1 Y<|Tr<|Rm Y<|Rm Y<|Rq Y (Qn (ov Y) Qb Y)<|R2 Zbk Y<|bE h fun b h_b h=>Rq Y (Qu (ov Y) (ov Y) Qb h_b)<|Rq Y (Zby (ov Y) tI5 Zkn Y)<|Ra Y<|Ra Y<|Za<|I2 (fun r_ n=>⟨[(0,.str s3),(1,.str cutset),(5,.int .i32 r_),(6,.int .i64 n)],[]⟩) h (fun h=>?_) fun r_ n h=>?_
   ·
    refine K4 0 1 5 6 Y<|Tr<|Rm Y<|R2 Zag Y<|Za<|K5 0 1 5 6 17 Y<|If h Y (fun h=>?_) fun h=>?_
    ·
     exact K4 0 1 5 6 Y<|ZE<|Rm Y<|bE h fun y h_y h=>Rq Y (Zo (Zai h_y)<|.cons (ov Y) (.b Y) .nil)<|Rm Y<|Rq Y (Zr (ov Y) Y)<|Rq Y (Zr (ov Y) Y)<|Ra Y<|Ra Y<|Za<|⟨_,h,ES []⟩
    ·
     exact Zf<|⟨((i32 b),1),h,ES []⟩
   ·
    refine Zl<|Tr<|Rm Y<|Rm Y<|bE h fun y2 h_y2 h=>Rq Y (Zo (JR h_y2)<|.cons (ov Y) (.b Y)<|.cons (ov Y) (.b Y) .nil)<|R1 Qz Y<|Za<|K4 0 1 6 26 Y<|If h Y (fun h=>?_) fun h=>?_
    ·
     refine ZL<|?_
     replace h:=lx h▸ho1
     exact⟨_,h,ES []⟩
    ·
     exact Zf<|K3 0 1 6 Y<|ZE<|Rm Y<|Rm Y<|Rq Y (Qn (ov Y) Qb Y)<|Rm Y<|R2 Zbk Y<|bE h fun s4 h_s4 h=>Rq Y (XJ (ov Y) Qb on (oi<|ov Y) h_s4)<|Ra Y<|Za<|⟨_,h,ES []⟩
  ·
   refine ZL<|?_
   replace h:=lx h▸ho1
   exact⟨_,h,ES []⟩
 ·
  refine Tr<|Rm Y<|Ra Y<|Za<|?_
  obtain rfl:=rt h
  exact Zi (Zu Y (.one<|rb Y))
theorem Za7{s:Str}{cutset:Str}{r:Str}(h:Xz s cutset=some r):
 CSpec Tryz.prog gl0 181 [.str s,.str cutset] (.str r):=by
 unfold Xz at h
 replace h:=ZM h
 refine So Tryz.func181 Y fun w0 A=>Tr<|Ra Y<|Za<|I1 (fun s2=>⟨[(0,.str s2)],[]⟩) h (fun h=>?_) fun s2 h=>?_
 ·
  refine Zk<|?_
  obtain⟨r1,hl1,ho1⟩:=XB h
  refine L1 (fun s3=>⟨[(0,.str s3),(1,.str cutset)],[]⟩) hl1 (ES []) fun n1 s3 h=>?_
  unfold X7 at h
  refine Zl<|Tr<|Rm Y<|Rq Y (Qn (ov Y) Qb Y)<|R2 QN Y<|Za<|K3 0 1 9 Y<|If h Y (fun h=>?_) fun h=>?_
  ·
   refine Zf<|Zk<|K2 0 1 Y<|Tr<|Rm Y<|bE h fun y h_y h=>Rq Y (Zo (Jh h_y)<|.cons (ov Y) (.b Y) .nil)<|Rm Y<|Rq Y (Zr (ov Y) Y)<|Rq Y (Zr (ov Y) Y)<|Ra Y<|Ra Y<|Za<|Zl<|K4 0 1 5 6 Y<|Tr<|Rm Y<|Rm Y<|bE h fun y2 h_y2 h=>Rq Y (Zo (JR h_y2)<|.cons (ov Y) (.b Y)<|.cons (ov Y) (.b Y) .nil)<|R1 Qz Y<|Za<|K4 0 1 6 18 Y<|If h Y (fun h=>?_) fun h=>?_
   ·
    refine ZL<|?_
    replace h:=lx h▸ho1
    exact⟨_,h,ES []⟩
   ·
    exact Zf<|K3 0 1 6 Y<|ZE<|Rm Y<|Rm Y<|bE h fun s4 h_s4 h=>Rq Y (XJ (ov Y) Qb (oi<|ov Y) on h_s4)<|Ra Y<|Za<|⟨_,h,ES []⟩
  ·
   refine ZL<|?_
   replace h:=lx h▸ho1
   exact⟨_,h,ES []⟩
 ·
  refine Tr<|Rm Y<|Ra Y<|Za<|?_
  obtain rfl:=rt h
  exact Zi (Zu Y (.one<|rb Y))
theorem Zer{s:Str}{cutset:Str}{r:Str}(h:Jm s cutset=some r):
 CSpec Tryz.prog gl0 160 [.str s,.str cutset] (.str r):=by
 unfold Jm at h
 replace h:=ZM h
 refine So Tryz.func160 Y fun w0 A=>Tr<|Ra Y<|Za<|Zl<|K2 0 1 Y<|Tr<|Rm Y<|R2 Qe Y<|Rm Y<|Rq Y (.guarded ((decide (s= []))==false) Y Y Y Y fun h=>Ze<|ov Y)<|Rq Y (.guarded ((decide (s= []))==false) Y Y Y Y fun h=>Qe (ow Y h)<|ov Y)<|Rq Y (Xa (ov Y) fun hp=>ow Y<|gF hp)<|Za<|K3 0 1 12 Y<|If h Y (fun h=>?_) fun h=>?_
 ·
  refine K1 0 Y<|Tr<|Rm Y<|Ra Y<|Za<|?_
  obtain rfl:=rt h
  exact Zi (Zu Y (.one<|rb Y))
 ·
  refine Zf<|Zl<|K2 0 1 Y<|Tr<|Rm Y<|Rq Y (Qn (ov Y) Qb Y)<|R2 Qq Y<|Rm Y<|Rq Y (.guarded ((decide ((cutset.length:Int)=1))==true) Y Y Y Y fun h=>Ze<|ov Y)<|bE h fun b h_b h=>Rq Y (.guarded ((decide ((cutset.length:Int)=1))==true) Y Y Y Y fun h=>Qu (ow Y h) (ov Y) Qb<|gdT h_b h)<|Rq Y (.guarded ((decide ((cutset.length:Int)=1))==true) Y Y Y Y fun h=>ZU (ow Y h)<|ov Y)<|Rq Y (Qh (ov Y) fun hp=>ow Y<|gT hp)<|Za<|K3 0 1 21 Y<|If h Y (fun h=>?_) fun h=>?_
  ·
   refine K2 0 1 Y<|Td md0<|D1 0 Ze Y<|D1 1 Ze Y<|bE h fun b2 h_b2 h=>Dq 2 Y (Qu (ov Y) (ov Y) Qb h_b2)<|bE h fun y h_y h=>Dq 3 Y (Zo (ZbA h_y)<|.cons (ov Y) (.b Y)<|.cons (ov Y) (.b Y) .nil)<|D1 4 Ze Y<|bE h fun b3 h_b3 h=>Dq 5 Y (Qu (ov Y) (ov Y) Qb h_b3)<|bE h fun y2 h_y2 h=>Dq 6 Y (Zo (ZbO h_y2)<|.cons (ov Y) (.b Y)<|.cons (ov Y) (.b Y) .nil)<|D1 7 Ji Y<|Dd<|?_
   obtain rfl:=rt h
   exact Zi (Zu Y (.one<|rb Y))
  ·
   refine Zf<|Zl<|K2 0 1 Y<|Tr<|Rm Y<|bE h fun y3 h_y3 h=>Rq Y (Zo (ZbK h_y3)<|.cons (ov Y) (.b Y) .nil)<|Rm Y<|Rq Y (Zr (ov Y) Y)<|Rq Y (Zr (ov Y) Y)<|Rx Y (ZO (row:=(List.map C4 (Vector.replicate 256 false).toList)) 0 Y Zj8 Y tZ_203)<|Rx Y (Zj (ov Y) (ov Y) (Zv Zfk arL) Y Y Y (Zck (QB arL) arL) (Zd<|arC fun _=>Y)<|Zbm<|Eq.trans arL<|Eq.symm arL)<|Ra Y<|Za<|K4 0 1 5 6 Y<|Tr<|Rm Y<|Za<|K4 0 1 5 34 Y<|If h Y (fun h=>?_) fun h=>?_
   ·
    refine K2 0 5 Y<|Tr<|Rm Y<|bE h fun y4 h_y4 h=>Rq Y (ZaZ (Zbj h_y4) .str<|.cons (ov Y) (Dat.view<|.b Y)<|.cons (ov Y) (View.ptr Y Y Y (pwB<|arD fun _=>Y) (hns:=(nsM fun _=>Y))) .nil)<|bE h fun y5 h_y5 h=>Rq Y (ZaZ (ZbC h_y5) .str<|.cons (ov Y) (Dat.view<|.b Y)<|.cons (ov Y) (View.ptr Y Y Y (pwB<|arD fun _=>Y) (hns:=(nsM fun _=>Y))) .nil)<|Ra Y<|Za<|?_
    obtain rfl:=rt h
    exact Zi (Zu Y (.one<|rb Y))
   ·
    refine Zf<|K2 0 1 Y<|Tr<|Rm Y<|Rm Y<|bE h fun y6 h_y6 h=>Rq Y (Zo (ZaV h_y6)<|.cons (ov Y) (.b Y)<|.cons (ov Y) (.b Y) .nil)<|Rm Y<|bE h fun y7 h_y7 h=>Rq Y (Zo (Za7 h_y7)<|.cons (ov Y) (.b Y)<|.cons (ov Y) (.b Y) .nil)<|Ra Y<|Za<|?_
    obtain rfl:=rt h
    exact Zi (Zu Y (.one<|rb Y))
theorem Zb9{s:Str}{r:Bool}(h:Jl s=some r):
 CSpec Tryz.prog gl0 136 [.str s] (.bool r):=by
 unfold Jl at h
 replace h:=ZM h
 refine So Tryz.func136 Y fun w0 A=>Tr<|Ra Y<|Za<|Tr<|Rm Y<|Rq Y (Qn (ov Y) Qb Y)<|bE h fun y h_y h=>Rq Y (Zo (Z3 h_y)<|.cons (ov Y) (.b Y)<|.cons (ov Y) (.b Y)<|.cons (ov Y) (.b Y) .nil)<|Rm Y<|Rq Y (.guarded (y==true) Y Y Y Y fun h=>Ze<|ov Y)<|bE h fun y2 h_y2 h=>Rq Y (.guarded (y==true) Y Y Y Y fun h=>Zo (Zer<|gdT h_y2 h)<|.cons (ow Y h) (.b Y)<|.cons (ov Y) (.b Y) .nil)<|Rq Y (.guarded (y==true) Y Y Y Y fun h=>Qe (ow Y h)<|ov Y)<|Rq Y (Qh (ov Y) fun hp=>ow Y<|gT hp)<|Ra Y<|Za<|?_
 obtain rfl:=rt h
 exact Zi (Zu Y (.one<|rb Y))
theorem ZbV{s:List Int}{v:Int}{r:Int}(h:Xf s v=some r):
 CSpec Tryz.prog gl0 183 [.sl 3 (List.map R3 s),.int .i64 v] (.int .i64 r):=by
 unfold Xf at h
 replace h:=ZM h
 refine So Tryz.func183 Y fun w0 A=>Tr<|Ra Y<|Za<|J0 (fun j=>(.inr j)) ⟨[],[]⟩ h (fun h=>?_) fun h=>?_
 ·
  refine K2 0 1 Y<|Tr<|Rm Y<|Rl tZ_3 XM Y<|Rm Y<|Za<|Zk<|?_
  obtain⟨r1,hl1,ho1⟩:=XB h
  refine L1 (fun i=>⟨[(0,.sl 3 (List.map R3 s)),(1,.int .i64 v),(7,.int .i64 (s.length:Int)),(8,.int .i64 i)],[]⟩) hl1 (ES []) fun n1 i h=>?_
  unfold Z8 at h
  refine Tr<|R2 ZU Y<|Za<|Zl<|If h Y (fun h=>?_) fun h=>?_
  ·
   refine Zf<|Zl<|Zk<|K4 0 1 7 8 Y<|Tr<|Rm Y<|Ra Y<|Za<|K5 0 1 5 7 8 Y<|Tr<|Rm Y<|Rm Y<|Rm Y<|bE h fun x h_x h=>Rq Y (Qa (ov Y) (ov Y) XM h_x)<|Rq Y (Zb (ov Y) tS3 Y)<|R2 Qq Y<|Za<|K6 0 1 5 7 8 16 Y<|If h Y (fun h=>?_) fun h=>?_
   ·
    refine K1 5 Y<|Tr<|Rm Y<|Ra Y<|Za<|?_
    replace h:=lx h▸ho1
    obtain rfl:=rt h
    exact Zi (Zu Y (.one<|rb Y))
   ·
    exact Zf<|K4 0 1 7 8 Y<|ZE<|R2 Q4 Y<|Rm Y<|Za<|⟨_,h,ES []⟩
  ·
   refine ZL<|?_
   replace h:=lx h▸ho1
   exact⟨(),h,ES []⟩
 ·
  replace h:=elr h
  replace h:=t0i h
  refine Tr<|Ra Y<|Za<|?_
  obtain rfl:=rt h
  exact Zi (Zu Y (.one<|rb Y))
theorem Za6{s:List Int}{v:Int}{r:Bool}(h:Qk s v=some r):
 CSpec Tryz.prog gl0 162 [.sl 3 (List.map R3 s),.int .i64 v] (.bool r):=by
 unfold Qk at h
 replace h:=ZM h
 refine So Tryz.func162 Y fun w0 A=>Tr<|Ra Y<|Za<|Tr<|Rm Y<|Rm Y<|bE h fun y h_y h=>Rq Y (Zo (ZbV h_y)<|.cons (ov Y) (.b Y)<|.cons (ov Y) (.b Y) .nil)<|R2 Zag Y<|Ra Y<|Za<|?_
 obtain rfl:=rt h
 exact Zi (Zu Y (.one<|rb Y))
theorem Xp{l:List Int}{c0:api_Instrument}{r:Bool}(h:ZJ l c0=some r):
 CSpec Tryz.prog gl0 161 [.sl 3 (List.map R3 l),.rp [.int .i64 c0.Kind,.str c0.Name,.str c0.Track,.int .i64 c0.Places,.int .i64 c0.Low,.int .i64 c0.High,.int .i64 c0.Steps,.sl 136 (List.map R136 c0.Zones),.int .i64 c0.Op,.int .i64 c0.N,.bool c0.Latch,.int .i64 c0.Size] 0] (.bool r):=by
 unfold ZJ at h
 replace h:=ZM h
 refine So Tryz.func161 Y fun w0 A=>Tr<|Ra Y<|Za<|Tr<|Rm Y<|Rq Y (Zg (ov Y) ZbB)<|Rq Y (Zb (ov Y) tS3 Y)<|bE h fun y h_y h=>Rq Y (Zo (Za6 h_y)<|.cons (ov Y) (.b Y)<|.cons (ov Y) (.b Y) .nil)<|Ra Y<|Za<|?_
 obtain rfl:=rt h
 exact Zi (Zu Y (.one<|rb Y))
theorem Zex{i:api_Instrument}{r:Bool}(h:Zaf i=some r):
 CSpec Tryz.prog gl0 137 [.agg [.int .i64 i.Kind,.str i.Name,.str i.Track,.int .i64 i.Places,.int .i64 i.Low,.int .i64 i.High,.int .i64 i.Steps,.sl 136 (List.map R136 i.Zones),.int .i64 i.Op,.int .i64 i.N,.bool i.Latch,.int .i64 i.Size]] (.bool r):=by
 unfold Zaf at h
 replace h:=ZM h
 refine So Tryz.func137 Y fun w0 A=>Tr<|Rq Y (Z0 (cva<|ov Y) Y tZ_49 Y)<|Ra Y<|Za<|K1 1 Y<|Tr<|Rq Y (Zaq<|.cons (ov Y) .nil)<|Ra Y<|Za<|K2 1 3 Y<|Tr<|Rq Y (Zg (ov Y) ZeW)<|Rq Y (Zb (ov Y) tS3 Y)<|R2 Qw Y<|Rm Y<|Rq Y (.guarded ((!decide (i.Places=0))==true) Y Y Y Y fun h=>Ze<|ov Y)<|R_q (.when ((!decide (i.Places=0))==true)<|.sl 3<|List.map R3 ([1,4,6]:List Int)) Y (.guarded ((!decide (i.Places=0))==true) Y Y Y Y fun h=>Zds XM (.cons (cvs (ov Y)<|Qp Y) Y (.cons (.b Y) .nil)<|.cons (cvs (ov Y)<|Qp Y) Y (.cons (.b Y) .nil)<|.cons (cvs (ov Y)<|Qp Y) Y (.cons (.b Y) .nil) .nil) Y Y)<|bE h fun y h_y h=>Rq Y (.guarded ((!decide (i.Places=0))==true) Y Y Y Y fun h=>Zad (ow Y h) Y (Xp<|gdT h_y h)<|.cons (ow Y h) (.b Y) .nil)<|Rq Y (.guarded ((!decide (i.Places=0))==true) Y Y Y Y fun h=>Qz<|ow Y h)<|Rq Y (Qh (ov Y) fun hp=>ow Y<|gT hp)<|Rm Y<|Rq Y (.guarded (((!decide (i.Places=0))&&(!y))==false) Y Y Y Y fun h=>Zg (ov Y) Zd8)<|Rq Y (.guarded (((!decide (i.Places=0))&&(!y))==false) Y Y Y Y fun h=>Zb (ow Y h) tS3 Y)<|Rq Y (.guarded (((!decide (i.Places=0))&&(!y))==false) Y Y Y Y fun h=>Qw (ow Y h)<|ov Y)<|Rq Y (.guarded (((!decide (i.Places=0))&&(!y))==false) Y Y Y Y fun h=>Ze<|ow Y h)<|Rq Y (.guarded2 ((((!decide (i.Places=0))&&(!y))==false)&&((!decide (i.Low=0))==false)) Y Y Y Y fun h=>Zg (ov Y) Ze7)<|Rq Y (.guarded2 ((((!decide (i.Places=0))&&(!y))==false)&&((!decide (i.Low=0))==false)) Y Y Y Y fun h=>Zb (ow Y h) tS3 Y)<|Rq Y (.guarded2 ((((!decide (i.Places=0))&&(!y))==false)&&((!decide (i.Low=0))==false)) Y Y Y Y fun h=>Qw (ow Y h)<|ov Y)<|Rq Y (.guarded (((!decide (i.Places=0))&&(!y))==false) Y Y Y Y fun h=>Xa (ow Y h) fun hp=>ow Y<|gA h<|gF hp)<|Rq Y (.guarded (((!decide (i.Places=0))&&(!y))==false) Y Y Y Y fun h=>Ze<|ow Y h)<|Rq Y (.guarded2 ((((!decide (i.Places=0))&&(!y))==false)&&(((!decide (i.Low=0)) || (!decide (i.High=0)))==false)) Y Y Y Y fun h=>Zg (ov Y) Zgm)<|Rq Y (.guarded2 ((((!decide (i.Places=0))&&(!y))==false)&&(((!decide (i.Low=0)) || (!decide (i.High=0)))==false)) Y Y Y Y fun h=>Zb (ow Y h) tS3 Y)<|Rq Y (.guarded2 ((((!decide (i.Places=0))&&(!y))==false)&&(((!decide (i.Low=0)) || (!decide (i.High=0)))==false)) Y Y Y Y fun h=>Qw (ow Y h)<|ov Y)<|Rq Y (.guarded (((!decide (i.Places=0))&&(!y))==false) Y Y Y Y fun h=>Xa (ow Y h) fun hp=>ow Y<|gA h<|gF hp)<|Rq Y (.guarded (((!decide (i.Places=0))&&(!y))==false) Y Y Y Y fun h=>Ze<|ow Y h)<|Rq Y (.guarded2 ((((!decide (i.Places=0))&&(!y))==false)&&((((!decide (i.Low=0)) || (!decide (i.High=0))) || (!decide (i.Steps=0)))==false)) Y Y Y Y fun h=>Zg (ov Y) Zdk)<|Rq Y (.guarded2 ((((!decide (i.Places=0))&&(!y))==false)&&((((!decide (i.Low=0)) || (!decide (i.High=0))) || (!decide (i.Steps=0)))==false)) Y Y Y Y fun h=>Zb (ow Y h) Zhe Y)<|Rq Y (.guarded2 ((((!decide (i.Places=0))&&(!y))==false)&&((((!decide (i.Low=0)) || (!decide (i.High=0))) || (!decide (i.Steps=0)))==false)) Y Y Y Y fun h=>ZhR (JF (ow Y h) tZ_136) Zgd<|ZeE _ _)<|Rq Y (.guarded2 ((((!decide (i.Places=0))&&(!y))==false)&&((((!decide (i.Low=0)) || (!decide (i.High=0))) || (!decide (i.Steps=0)))==false)) Y Y Y Y fun h=>QN (ow Y h)<|ov Y)<|Rq Y (.guarded (((!decide (i.Places=0))&&(!y))==false) Y Y Y Y fun h=>Xa (ow Y h) fun hp=>ow Y<|gA h<|gF hp)<|Rq Y (.guarded (((!decide (i.Places=0))&&(!y))==false) Y Y Y Y fun h=>Ze<|ow Y h)<|Rq Y (.guarded2 ((((!decide (i.Places=0))&&(!y))==false)&&(((((!decide (i.Low=0)) || (!decide (i.High=0))) || (!decide (i.Steps=0))) || (decide (0<(i.Zones.length:Int))))==true)) Y Y Y Y fun h=>Ze<|ov Y)<|R_q (.when ((((!decide (i.Places=0))&&(!y))==false)&&(((((!decide (i.Low=0)) || (!decide (i.High=0))) || (!decide (i.Steps=0))) || (decide (0<(i.Zones.length:Int))))==true))<|.sl 3<|List.map R3 ([2]:List Int)) Y (.guarded2 ((((!decide (i.Places=0))&&(!y))==false)&&(((((!decide (i.Low=0)) || (!decide (i.High=0))) || (!decide (i.Steps=0))) || (decide (0<(i.Zones.length:Int))))==true)) Y Y Y Y fun h=>Zds XM (.cons (cvs (ov Y)<|Qp Y) Y (.cons (.b Y) .nil) .nil) Y Y)<|bE h fun y2 h_y2 h=>Rq Y (.guarded2 ((((!decide (i.Places=0))&&(!y))==false)&&(((((!decide (i.Low=0)) || (!decide (i.High=0))) || (!decide (i.Steps=0))) || (decide (0<(i.Zones.length:Int))))==true)) Y Y Y Y fun h=>Zad (ow Y h) Y (Xp<|gdT h_y2 h)<|.cons (ow Y h) (.b Y) .nil)<|Rq Y (.guarded2 ((((!decide (i.Places=0))&&(!y))==false)&&(((((!decide (i.Low=0)) || (!decide (i.High=0))) || (!decide (i.Steps=0))) || (decide (0<(i.Zones.length:Int))))==true)) Y Y Y Y fun h=>Qz<|ow Y h)<|Rq Y (.guarded (((!decide (i.Places=0))&&(!y))==false) Y Y Y Y fun h=>Qh (ow Y h) fun hp=>ow Y<|gA h<|gT hp)<|Rq Y (Xa (ov Y) fun hp=>ow Y<|gF hp)<|Rm Y<|Rq Y (.guarded ((((!decide (i.Places=0))&&(!y)) || (((((!decide (i.Low=0)) || (!decide (i.High=0))) || (!decide (i.Steps=0))) || (decide (0<(i.Zones.length:Int))))&&(!y2)))==false) Y Y Y Y fun h=>Zg (ov Y) Zhg)<|Rq Y (.guarded ((((!decide (i.Places=0))&&(!y)) || (((((!decide (i.Low=0)) || (!decide (i.High=0))) || (!decide (i.Steps=0))) || (decide (0<(i.Zones.length:Int))))&&(!y2)))==false) Y Y Y Y fun h=>Zb (ow Y h) tS3 Y)<|Rq Y (.guarded ((((!decide (i.Places=0))&&(!y)) || (((((!decide (i.Low=0)) || (!decide (i.High=0))) || (!decide (i.Steps=0))) || (decide (0<(i.Zones.length:Int))))&&(!y2)))==false) Y Y Y Y fun h=>Qw (ow Y h)<|ov Y)<|Rq Y (.guarded ((((!decide (i.Places=0))&&(!y)) || (((((!decide (i.Low=0)) || (!decide (i.High=0))) || (!decide (i.Steps=0))) || (decide (0<(i.Zones.length:Int))))&&(!y2)))==false) Y Y Y Y fun h=>Ze<|ow Y h)<|Rq Y (.guarded2 (((((!decide (i.Places=0))&&(!y)) || (((((!decide (i.Low=0)) || (!decide (i.High=0))) || (!decide (i.Steps=0))) || (decide (0<(i.Zones.length:Int))))&&(!y2)))==false)&&((!decide (i.Op=0))==false)) Y Y Y Y fun h=>Zg (ov Y) Zhi)<|Rq Y (.guarded2 (((((!decide (i.Places=0))&&(!y)) || (((((!decide (i.Low=0)) || (!decide (i.High=0))) || (!decide (i.Steps=0))) || (decide (0<(i.Zones.length:Int))))&&(!y2)))==false)&&((!decide (i.Op=0))==false)) Y Y Y Y fun h=>Zb (ow Y h) tS3 Y)<|Rq Y (.guarded2 (((((!decide (i.Places=0))&&(!y)) || (((((!decide (i.Low=0)) || (!decide (i.High=0))) || (!decide (i.Steps=0))) || (decide (0<(i.Zones.length:Int))))&&(!y2)))==false)&&((!decide (i.Op=0))==false)) Y Y Y Y fun h=>Qw (ow Y h)<|ov Y)<|Rq Y (.guarded ((((!decide (i.Places=0))&&(!y)) || (((((!decide (i.Low=0)) || (!decide (i.High=0))) || (!decide (i.Steps=0))) || (decide (0<(i.Zones.length:Int))))&&(!y2)))==false) Y Y Y Y fun h=>Xa (ow Y h) fun hp=>ow Y<|gA h<|gF hp)<|Rq Y (.guarded ((((!decide (i.Places=0))&&(!y)) || (((((!decide (i.Low=0)) || (!decide (i.High=0))) || (!decide (i.Steps=0))) || (decide (0<(i.Zones.length:Int))))&&(!y2)))==false) Y Y Y Y fun h=>Ze<|ow Y h)<|Rq Y (.guarded2 (((((!decide (i.Places=0))&&(!y)) || (((((!decide (i.Low=0)) || (!decide (i.High=0))) || (!decide (i.Steps=0))) || (decide (0<(i.Zones.length:Int))))&&(!y2)))==false)&&(((!decide (i.Op=0)) || (!decide (i.N=0)))==true)) Y Y Y Y fun h=>Ze<|ov Y)<|R_q (.when (((((!decide (i.Places=0))&&(!y)) || (((((!decide (i.Low=0)) || (!decide (i.High=0))) || (!decide (i.Steps=0))) || (decide (0<(i.Zones.length:Int))))&&(!y2)))==false)&&(((!decide (i.Op=0)) || (!decide (i.N=0)))==true))<|.sl 3<|List.map R3 ([3,5]:List Int)) Y (.guarded2 (((((!decide (i.Places=0))&&(!y)) || (((((!decide (i.Low=0)) || (!decide (i.High=0))) || (!decide (i.Steps=0))) || (decide (0<(i.Zones.length:Int))))&&(!y2)))==false)&&(((!decide (i.Op=0)) || (!decide (i.N=0)))==true)) Y Y Y Y fun h=>Zds XM (.cons (cvs (ov Y)<|Qp Y) Y (.cons (.b Y) .nil)<|.cons (cvs (ov Y)<|Qp Y) Y (.cons (.b Y) .nil) .nil) Y Y)<|bE h fun y3 h_y3 h=>Rq Y (.guarded2 (((((!decide (i.Places=0))&&(!y)) || (((((!decide (i.Low=0)) || (!decide (i.High=0))) || (!decide (i.Steps=0))) || (decide (0<(i.Zones.length:Int))))&&(!y2)))==false)&&(((!decide (i.Op=0)) || (!decide (i.N=0)))==true)) Y Y Y Y fun h=>Zad (ow Y h) Y (Xp<|gdT h_y3 h)<|.cons (ow Y h) (.b Y) .nil)<|Rq Y (.guarded2 (((((!decide (i.Places=0))&&(!y)) || (((((!decide (i.Low=0)) || (!decide (i.High=0))) || (!decide (i.Steps=0))) || (decide (0<(i.Zones.length:Int))))&&(!y2)))==false)&&(((!decide (i.Op=0)) || (!decide (i.N=0)))==true)) Y Y Y Y fun h=>Qz<|ow Y h)<|Rq Y (.guarded ((((!decide (i.Places=0))&&(!y)) || (((((!decide (i.Low=0)) || (!decide (i.High=0))) || (!decide (i.Steps=0))) || (decide (0<(i.Zones.length:Int))))&&(!y2)))==false) Y Y Y Y fun h=>Qh (ow Y h) fun hp=>ow Y<|gA h<|gT hp)<|Rq Y (Xa (ov Y) fun hp=>ow Y<|gF hp)<|Rm Y<|Rq Y (.guarded (((((!decide (i.Places=0))&&(!y)) || (((((!decide (i.Low=0)) || (!decide (i.High=0))) || (!decide (i.Steps=0))) || (decide (0<(i.Zones.length:Int))))&&(!y2))) || (((!decide (i.Op=0)) || (!decide (i.N=0)))&&(!y3)))==false) Y Y Y Y fun h=>Zg (ov Y) ZhL)<|Rq Y (.guarded (((((!decide (i.Places=0))&&(!y)) || (((((!decide (i.Low=0)) || (!decide (i.High=0))) || (!decide (i.Steps=0))) || (decide (0<(i.Zones.length:Int))))&&(!y2))) || (((!decide (i.Op=0)) || (!decide (i.N=0)))&&(!y3)))==false) Y Y Y Y fun h=>Zb (ow Y h) tS4 Y)<|Rq Y (.guarded (((((!decide (i.Places=0))&&(!y)) || (((((!decide (i.Low=0)) || (!decide (i.High=0))) || (!decide (i.Steps=0))) || (decide (0<(i.Zones.length:Int))))&&(!y2))) || (((!decide (i.Op=0)) || (!decide (i.N=0)))&&(!y3)))==false) Y Y Y Y fun h=>Ze<|ow Y h)<|Rq Y (.guarded2 ((((((!decide (i.Places=0))&&(!y)) || (((((!decide (i.Low=0)) || (!decide (i.High=0))) || (!decide (i.Steps=0))) || (decide (0<(i.Zones.length:Int))))&&(!y2))) || (((!decide (i.Op=0)) || (!decide (i.N=0)))&&(!y3)))==false)&&(i.Latch==true)) Y Y Y Y fun h=>Ze<|ov Y)<|R_q (.when ((((((!decide (i.Places=0))&&(!y)) || (((((!decide (i.Low=0)) || (!decide (i.High=0))) || (!decide (i.Steps=0))) || (decide (0<(i.Zones.length:Int))))&&(!y2))) || (((!decide (i.Op=0)) || (!decide (i.N=0)))&&(!y3)))==false)&&(i.Latch==true))<|.sl 3<|List.map R3 ([3]:List Int)) Y (.guarded2 ((((((!decide (i.Places=0))&&(!y)) || (((((!decide (i.Low=0)) || (!decide (i.High=0))) || (!decide (i.Steps=0))) || (decide (0<(i.Zones.length:Int))))&&(!y2))) || (((!decide (i.Op=0)) || (!decide (i.N=0)))&&(!y3)))==false)&&(i.Latch==true)) Y Y Y Y fun h=>Zds XM (.cons (cvs (ov Y)<|Qp Y) Y (.cons (.b Y) .nil) .nil) Y Y)<|bE h fun y4 h_y4 h=>Rq Y (.guarded2 ((((((!decide (i.Places=0))&&(!y)) || (((((!decide (i.Low=0)) || (!decide (i.High=0))) || (!decide (i.Steps=0))) || (decide (0<(i.Zones.length:Int))))&&(!y2))) || (((!decide (i.Op=0)) || (!decide (i.N=0)))&&(!y3)))==false)&&(i.Latch==true)) Y Y Y Y fun h=>Zad (ow Y h) Y (Xp<|gdT h_y4 h)<|.cons (ow Y h) (.b Y) .nil)<|Rq Y (.guarded2 ((((((!decide (i.Places=0))&&(!y)) || (((((!decide (i.Low=0)) || (!decide (i.High=0))) || (!decide (i.Steps=0))) || (decide (0<(i.Zones.length:Int))))&&(!y2))) || (((!decide (i.Op=0)) || (!decide (i.N=0)))&&(!y3)))==false)&&(i.Latch==true)) Y Y Y Y fun h=>Qz<|ow Y h)<|Rq Y (.guarded (((((!decide (i.Places=0))&&(!y)) || (((((!decide (i.Low=0)) || (!decide (i.High=0))) || (!decide (i.Steps=0))) || (decide (0<(i.Zones.length:Int))))&&(!y2))) || (((!decide (i.Op=0)) || (!decide (i.N=0)))&&(!y3)))==false) Y Y Y Y fun h=>Qh (ow Y h) fun hp=>ow Y<|gA h<|gT hp)<|Rq Y (Xa (ov Y) fun hp=>ow Y<|gF hp)<|Rm Y<|Rq Y (.guarded ((((((!decide (i.Places=0))&&(!y)) || (((((!decide (i.Low=0)) || (!decide (i.High=0))) || (!decide (i.Steps=0))) || (decide (0<(i.Zones.length:Int))))&&(!y2))) || (((!decide (i.Op=0)) || (!decide (i.N=0)))&&(!y3))) || (i.Latch&&(!y4)))==false) Y Y Y Y fun h=>Zg (ov Y) Zgx)<|Rq Y (.guarded ((((((!decide (i.Places=0))&&(!y)) || (((((!decide (i.Low=0)) || (!decide (i.High=0))) || (!decide (i.Steps=0))) || (decide (0<(i.Zones.length:Int))))&&(!y2))) || (((!decide (i.Op=0)) || (!decide (i.N=0)))&&(!y3))) || (i.Latch&&(!y4)))==false) Y Y Y Y fun h=>Zb (ow Y h) tS3 Y)<|Rq Y (.guarded ((((((!decide (i.Places=0))&&(!y)) || (((((!decide (i.Low=0)) || (!decide (i.High=0))) || (!decide (i.Steps=0))) || (decide (0<(i.Zones.length:Int))))&&(!y2))) || (((!decide (i.Op=0)) || (!decide (i.N=0)))&&(!y3))) || (i.Latch&&(!y4)))==false) Y Y Y Y fun h=>Qw (ow Y h)<|ov Y)<|Rq Y (.guarded ((((((!decide (i.Places=0))&&(!y)) || (((((!decide (i.Low=0)) || (!decide (i.High=0))) || (!decide (i.Steps=0))) || (decide (0<(i.Zones.length:Int))))&&(!y2))) || (((!decide (i.Op=0)) || (!decide (i.N=0)))&&(!y3))) || (i.Latch&&(!y4)))==false) Y Y Y Y fun h=>Ze<|ow Y h)<|Rq Y (.guarded2 (((((((!decide (i.Places=0))&&(!y)) || (((((!decide (i.Low=0)) || (!decide (i.High=0))) || (!decide (i.Steps=0))) || (decide (0<(i.Zones.length:Int))))&&(!y2))) || (((!decide (i.Op=0)) || (!decide (i.N=0)))&&(!y3))) || (i.Latch&&(!y4)))==false)&&((!decide (i.Size=0))==true)) Y Y Y Y fun h=>Ze<|ov Y)<|R_q (.when (((((((!decide (i.Places=0))&&(!y)) || (((((!decide (i.Low=0)) || (!decide (i.High=0))) || (!decide (i.Steps=0))) || (decide (0<(i.Zones.length:Int))))&&(!y2))) || (((!decide (i.Op=0)) || (!decide (i.N=0)))&&(!y3))) || (i.Latch&&(!y4)))==false)&&((!decide (i.Size=0))==true))<|.sl 3<|List.map R3 ([6]:List Int)) Y (.guarded2 (((((((!decide (i.Places=0))&&(!y)) || (((((!decide (i.Low=0)) || (!decide (i.High=0))) || (!decide (i.Steps=0))) || (decide (0<(i.Zones.length:Int))))&&(!y2))) || (((!decide (i.Op=0)) || (!decide (i.N=0)))&&(!y3))) || (i.Latch&&(!y4)))==false)&&((!decide (i.Size=0))==true)) Y Y Y Y fun h=>Zds XM (.cons (cvs (ov Y)<|Qp Y) Y (.cons (.b Y) .nil) .nil) Y Y)<|bE h fun y5 h_y5 h=>Rq Y (.guarded2 (((((((!decide (i.Places=0))&&(!y)) || (((((!decide (i.Low=0)) || (!decide (i.High=0))) || (!decide (i.Steps=0))) || (decide (0<(i.Zones.length:Int))))&&(!y2))) || (((!decide (i.Op=0)) || (!decide (i.N=0)))&&(!y3))) || (i.Latch&&(!y4)))==false)&&((!decide (i.Size=0))==true)) Y Y Y Y fun h=>Zad (ow Y h) Y (Xp<|gdT h_y5 h)<|.cons (ow Y h) (.b Y) .nil)<|Rq Y (.guarded2 (((((((!decide (i.Places=0))&&(!y)) || (((((!decide (i.Low=0)) || (!decide (i.High=0))) || (!decide (i.Steps=0))) || (decide (0<(i.Zones.length:Int))))&&(!y2))) || (((!decide (i.Op=0)) || (!decide (i.N=0)))&&(!y3))) || (i.Latch&&(!y4)))==false)&&((!decide (i.Size=0))==true)) Y Y Y Y fun h=>Qz<|ow Y h)<|Rq Y (.guarded ((((((!decide (i.Places=0))&&(!y)) || (((((!decide (i.Low=0)) || (!decide (i.High=0))) || (!decide (i.Steps=0))) || (decide (0<(i.Zones.length:Int))))&&(!y2))) || (((!decide (i.Op=0)) || (!decide (i.N=0)))&&(!y3))) || (i.Latch&&(!y4)))==false) Y Y Y Y fun h=>Qh (ow Y h) fun hp=>ow Y<|gA h<|gT hp)<|Rq Y (Xa (ov Y) fun hp=>ow Y<|gF hp)<|Ra Y<|Za<|?_
 obtain rfl:=rt h
 exact Zi (Zu Y (.one<|rb Y))
end Go.Proofs.YtailpehcgelmdaaGreatDoor
