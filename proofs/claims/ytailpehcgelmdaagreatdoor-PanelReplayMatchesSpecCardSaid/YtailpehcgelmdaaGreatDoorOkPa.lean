/- A text of the proof: a verified executor of the program form, or the contracts of the functions that the law reaches. -/
import Derived.Test.YtailpehcgelmdaaGreatDoorVR
import Derived.Test.YtailpehcgelmdaaGreatDoorVT
import Derived.Test.YtailpehcgelmdaaGreatDoorShT
import Derived.Test.YtailpehcgelmdaaGreatDoorProg
import Derived.Test.YtailpehcgelmdaaGreatDoorLayA
set_option linter.all false
namespace Go.Proofs.YtailpehcgelmdaaGreatDoor
open Go Go.Vx
set_option maxRecDepth 10000
set_option maxHeartbeats 1000000
set_option linter.unusedVariables false
theorem tZ_136:Tryz.prog.cellsOf 136=3:=by kernel_rfl
instance:SzD Tryz.prog 136 3:=⟨tZ_136⟩
theorem tZ_49:Tryz.prog.cellsOf 49=12:=by kernel_rfl
instance:SzD Tryz.prog 49 12:=⟨tZ_49⟩
theorem tZ_56:Tryz.prog.cellsOf 56=3:=by kernel_rfl
instance:SzD Tryz.prog 56 3:=⟨tZ_56⟩
theorem tZ_54:Tryz.prog.cellsOf 54=4:=by kernel_rfl
instance:SzD Tryz.prog 54 4:=⟨tZ_54⟩
theorem tZ_72:Tryz.prog.cellsOf 72=3:=by kernel_rfl
instance:SzD Tryz.prog 72 3:=⟨tZ_72⟩
theorem tZ_24:Tryz.prog.cellsOf 24=1:=by kernel_rfl
instance:SzD Tryz.prog 24 1:=⟨tZ_24⟩
theorem Zd7:tAgg Tryz.prog 24 1=true:=by kernel_rfl
theorem tZ_25:Tryz.prog.cellsOf 25=1:=by kernel_rfl
instance:SzD Tryz.prog 25 1:=⟨tZ_25⟩
theorem Zbj:tFld Tryz.prog 24 0 0=true:=by kernel_rfl
theorem Zf0:tScal Tryz.prog 22=true:=by kernel_rfl
theorem ZcI:tSl Tryz.prog 22 49 12 128=true:=by kernel_rfl
theorem Zcj:tAgg Tryz.prog 49 12=true:=by kernel_rfl
theorem Zlw:ZaT Tryz.prog 49=some [.int .i64 0,.string ⟨#[]⟩,.string ⟨#[]⟩,.int .i64 0,.int .i64 0,.int .i64 0,.int .i64 0,.slice none 0 0,.int .i64 0,.int .i64 0,.bool false,.int .i64 0]:=by kernel_rfl
theorem JK:tFld Tryz.prog 49 0 0=true:=by kernel_rfl
theorem tS3:tScal Tryz.prog 3=true:=by kernel_rfl
theorem ZiQ:tFld Tryz.prog 49 1 1=true:=by kernel_rfl
theorem tS9:tScal Tryz.prog 9=true:=by kernel_rfl
theorem Qr:tStr Tryz.prog 9=true:=by kernel_rfl
theorem ZpA:ZaT Tryz.prog 203=some [.bool false,.bool false,.bool false,.bool false,.bool false,.bool false,.bool false,.bool false,.bool false,.bool false,.bool false,.bool false,.bool false,.bool false,.bool false,.bool false,.bool false,.bool false,.bool false,.bool false,.bool false,.bool false,.bool false,.bool false,.bool false,.bool false,.bool false,.bool false,.bool false,.bool false,.bool false,.bool false,.bool false,.bool false,.bool false,.bool false,.bool false,.bool false,.bool false,.bool false,.bool false,.bool false,.bool false,.bool false,.bool false,.bool false,.bool false,.bool false,.bool false,.bool false,.bool false,.bool false,.bool false,.bool false,.bool false,.bool false,.bool false,.bool false,.bool false,.bool false,.bool false,.bool false,.bool false,.bool false,.bool false,.bool false,.bool false,.bool false,.bool false,.bool false,.bool false,.bool false,.bool false,.bool false,.bool false,.bool false,.bool false,.bool false,.bool false,.bool false,.bool false,.bool false,.bool false,.bool false,.bool false,.bool false,.bool false,.bool false,.bool false,.bool false,.bool false,.bool false,.bool false,.bool false,.bool false,.bool false,.bool false,.bool false,.bool false,.bool false,.bool false,.bool false,.bool false,.bool false,.bool false,.bool false,.bool false,.bool false,.bool false,.bool false,.bool false,.bool false,.bool false,.bool false,.bool false,.bool false,.bool false,.bool false,.bool false,.bool false,.bool false,.bool false,.bool false,.bool false,.bool false,.bool false,.bool false,.bool false,.bool false,.bool false,.bool false,.bool false,.bool false,.bool false,.bool false,.bool false,.bool false,.bool false,.bool false,.bool false,.bool false,.bool false,.bool false,.bool false,.bool false,.bool false,.bool false,.bool false,.bool false,.bool false,.bool false,.bool false,.bool false,.bool false,.bool false,.bool false,.bool false,.bool false,.bool false,.bool false,.bool false,.bool false,.bool false,.bool false,.bool false,.bool false,.bool false,.bool false,.bool false,.bool false,.bool false,.bool false,.bool false,.bool false,.bool false,.bool false,.bool false,.bool false,.bool false,.bool false,.bool false,.bool false,.bool false,.bool false,.bool false,.bool false,.bool false,.bool false,.bool false,.bool false,.bool false,.bool false,.bool false,.bool false,.bool false,.bool false,.bool false,.bool false,.bool false,.bool false,.bool false,.bool false,.bool false,.bool false,.bool false,.bool false,.bool false,.bool false,.bool false,.bool false,.bool false,.bool false,.bool false,.bool false,.bool false,.bool false,.bool false,.bool false,.bool false,.bool false,.bool false,.bool false,.bool false,.bool false,.bool false,.bool false,.bool false,.bool false,.bool false,.bool false,.bool false,.bool false,.bool false,.bool false,.bool false,.bool false,.bool false,.bool false,.bool false,.bool false,.bool false,.bool false,.bool false,.bool false,.bool false,.bool false,.bool false,.bool false,.bool false,.bool false,.bool false,.bool false,.bool false,.bool false,.bool false,.bool false]:=by kernel_rfl
theorem tZ_203:Tryz.prog.cellsOf 203=256:=by kernel_rfl
instance:SzD Tryz.prog 203 256:=⟨tZ_203⟩
theorem ZjP:tAgg Tryz.prog 203 256=true:=by kernel_rfl
theorem Zpv:tArr Tryz.prog 203 256 4 1=true:=by kernel_rfl
theorem tS4:tScal Tryz.prog 4=true:=by kernel_rfl
theorem tI5:tInt Tryz.prog 5 .u8=true:=by kernel_rfl
theorem Zqb:tInt Tryz.prog 21 .i32=true:=by kernel_rfl
theorem ZhO:tFld Tryz.prog 49 2 2=true:=by kernel_rfl
theorem ZeK:tFld Tryz.prog 49 3 3=true:=by kernel_rfl
theorem J3:tSl Tryz.prog 26 3 1 8=true:=by kernel_rfl
theorem tZ_3:Tryz.prog.cellsOf 3=1:=by kernel_rfl
instance:SzD Tryz.prog 3 1:=⟨tZ_3⟩
theorem ZdX:tFld Tryz.prog 49 4 4=true:=by kernel_rfl
theorem Zfl:tFld Tryz.prog 49 5 5=true:=by kernel_rfl
theorem ZgO:tFld Tryz.prog 49 6 6=true:=by kernel_rfl
theorem Zd6:tFld Tryz.prog 49 7 7=true:=by kernel_rfl
theorem ZjB:tScal Tryz.prog 47=true:=by kernel_rfl
theorem Zhc:tSl Tryz.prog 47 136 3 32=true:=by kernel_rfl
theorem Zhy:tFld Tryz.prog 49 8 8=true:=by kernel_rfl
theorem ZhI:tFld Tryz.prog 49 9 9=true:=by kernel_rfl
theorem Zh1:tFld Tryz.prog 49 10 10=true:=by kernel_rfl
theorem Zg9:tFld Tryz.prog 49 11 11=true:=by kernel_rfl
theorem Zja:tAgg Tryz.prog 136 3=true:=by kernel_rfl
theorem Znf:ZaT Tryz.prog 136=some [.int .i64 0,.int .i64 0,.string ⟨#[]⟩]:=by kernel_rfl
theorem ZjG:tFld Tryz.prog 136 2 2=true:=by kernel_rfl
theorem Zg1:tFld Tryz.prog 136 0 0=true:=by kernel_rfl
theorem Zg7:tFld Tryz.prog 136 1 1=true:=by kernel_rfl
theorem ZmM:tScal Tryz.prog 25=true:=by kernel_rfl
theorem ZeI:tSl Tryz.prog 25 54 4 56=true:=by kernel_rfl
theorem Zf7:tAgg Tryz.prog 54 4=true:=by kernel_rfl
theorem Zlo:ZaT Tryz.prog 54=some [.string ⟨#[]⟩,.int .i64 0,.slice none 0 0,.int .i64 0]:=by kernel_rfl
theorem ZgB:tFld Tryz.prog 54 0 0=true:=by kernel_rfl
theorem ZgJ:tFld Tryz.prog 54 1 1=true:=by kernel_rfl
theorem ZkM:tAgg Tryz.prog 52 2=true:=by kernel_rfl
theorem tZ_52:Tryz.prog.cellsOf 52=2:=by kernel_rfl
instance:SzD Tryz.prog 52 2:=⟨tZ_52⟩
theorem Zlp:tFld Tryz.prog 52 0 0=true:=by kernel_rfl
theorem Zb1:tFld Tryz.prog 52 1 1=true:=by kernel_rfl
theorem Zgw:tScal Tryz.prog 50=true:=by kernel_rfl
theorem Zfh:tSl Tryz.prog 50 56 3 24=true:=by kernel_rfl
theorem Zai:tAgg Tryz.prog 56 3=true:=by kernel_rfl
theorem Zft:ZaT Tryz.prog 56=some [.int .i64 0,.int .i64 0,.int .i64 0]:=by kernel_rfl
theorem Zfk:tFld Tryz.prog 56 0 0=true:=by kernel_rfl
theorem Zcq:tFld Tryz.prog 56 1 1=true:=by kernel_rfl
theorem ZgV:tFld Tryz.prog 56 2 2=true:=by kernel_rfl
theorem Zlz:tFld Tryz.prog 54 2 3=true:=by kernel_rfl
theorem Zob:ZaT Tryz.prog 24=some [.slice none 0 0]:=by kernel_rfl
theorem ZpW:(match Tryz.prog.underlying 22 with |some (.slice _)=>true |_=>false)=true:=by kernel_rfl
theorem ZpI:Zbv Tryz.prog 24=some [(0,1)]:=by kernel_rfl
theorem ZpH:Zd0 Tryz.prog 24=true:=by kernel_rfl
theorem Zp6:(match Tryz.prog.underlying 47 with |some (.slice _)=>true |_=>false)=true:=by kernel_rfl
theorem ZpR:(match Tryz.prog.underlying 25 with |some (.slice _)=>true |_=>false)=true:=by kernel_rfl
theorem Zqu:(match Tryz.prog.underlying 50 with |some (.slice _)=>true |_=>false)=true:=by kernel_rfl
theorem ZcT:ZaT Tryz.prog 44=some [.int .i64 0,.slice none 0 0]:=by kernel_rfl
theorem tZ_44:Tryz.prog.cellsOf 44=2:=by kernel_rfl
instance:SzD Tryz.prog 44 2:=⟨tZ_44⟩
theorem tZ_99:Tryz.prog.cellsOf 99=5:=by kernel_rfl
instance:SzD Tryz.prog 99 5:=⟨tZ_99⟩
theorem ZcA:tSl Tryz.prog 42 99 5 48=true:=by kernel_rfl
theorem ZkQ:ZaT Tryz.prog 99=some [.bool false,.bool false,.int .i64 0,.int .i64 0,.slice none 0 0]:=by kernel_rfl
theorem Zid:Zbv Tryz.prog 44=some [(0,1),(1,1)]:=by kernel_rfl
theorem Zil:Zd0 Tryz.prog 44=true:=by kernel_rfl
theorem QR:tAgg Tryz.prog 44 2=true:=by kernel_rfl
theorem ZqX:Zbv Tryz.prog 91=some [(0,1),(1,1),(2,1),(3,2),(5,1),(6,1)]:=by kernel_rfl
theorem ZqJ:Zd0 Tryz.prog 91=true:=by kernel_rfl
theorem Zrc:ZaT Tryz.prog 91=some [.slice none 0 0,.slice none 0 0,.int .i64 0,.int .i64 0,.slice none 0 0,.slice none 0 0,.slice none 0 0]:=by kernel_rfl
theorem Zra:tAgg Tryz.prog 91 7=true:=by kernel_rfl
theorem tZ_91:Tryz.prog.cellsOf 91=7:=by kernel_rfl
instance:SzD Tryz.prog 91 7:=⟨tZ_91⟩
theorem tZ_120:Tryz.prog.cellsOf 120=2:=by kernel_rfl
instance:SzD Tryz.prog 120 2:=⟨tZ_120⟩
theorem ZkZ:tSl Tryz.prog 171 9 1 16=true:=by kernel_rfl
theorem tZ_9:Tryz.prog.cellsOf 9=1:=by kernel_rfl
instance:SzD Tryz.prog 9 1:=⟨tZ_9⟩
theorem ZpL:Zbv Tryz.prog 54=some [(0,1),(1,2),(3,1)]:=by kernel_rfl
theorem Zpz:Zd0 Tryz.prog 54=true:=by kernel_rfl
theorem Zqr:Zbv Tryz.prog 118=some [(0,1),(1,1),(2,1),(3,2),(5,1),(6,1)]:=by kernel_rfl
theorem ZpO:Zd0 Tryz.prog 118=true:=by kernel_rfl
theorem ZqZ:ZaT Tryz.prog 118=some [.slice none 0 0,.slice none 0 0,.int .i64 0,.int .i64 0,.slice none 0 0,.slice none 0 0,.slice none 0 0]:=by kernel_rfl
theorem ZqU:tAgg Tryz.prog 118 7=true:=by kernel_rfl
theorem tZ_118:Tryz.prog.cellsOf 118=7:=by kernel_rfl
instance:SzD Tryz.prog 118 7:=⟨tZ_118⟩
theorem Zqw:Zbv Tryz.prog 49=some [(0,1),(1,1),(2,1),(3,1),(4,1),(5,1),(6,1),(7,1),(8,1),(9,1),(10,1),(11,1)]:=by kernel_rfl
theorem ZqK:Zd0 Tryz.prog 49=true:=by kernel_rfl
theorem ZjY:Zbv Tryz.prog 56=some [(0,1),(1,1),(2,1)]:=by kernel_rfl
theorem ZjL:Zd0 Tryz.prog 56=true:=by kernel_rfl
theorem Zqy:Zbv Tryz.prog 52=some [(0,1),(1,1)]:=by kernel_rfl
theorem Zq1:Zd0 Tryz.prog 52=true:=by kernel_rfl
theorem Zq9:ZaT Tryz.prog 52=some [.int .i64 0,.slice none 0 0]:=by kernel_rfl
theorem Zax:tFld Tryz.prog 91 3 3=true:=by kernel_rfl
theorem Qi:tFld Tryz.prog 44 0 0=true:=by kernel_rfl
theorem Zlt:tFld Tryz.prog 91 0 0=true:=by kernel_rfl
theorem ZmL:tFld Tryz.prog 91 1 1=true:=by kernel_rfl
theorem tI3:tInt Tryz.prog 3 .i64=true:=by kernel_rfl
theorem Zm6:tInt Tryz.prog 126 .u64=true:=by kernel_rfl
theorem Jn:tFld Tryz.prog 44 1 1=true:=by kernel_rfl
theorem ZdM:tScal Tryz.prog 42=true:=by kernel_rfl
theorem ZdS:tAgg Tryz.prog 99 5=true:=by kernel_rfl
theorem JW:tFld Tryz.prog 99 4 4=true:=by kernel_rfl
theorem ZeC:tScal Tryz.prog 26=true:=by kernel_rfl
theorem ZoD:(match Tryz.prog.underlying 26 with |some (.slice _)=>true |_=>false)=true:=by kernel_rfl
theorem ZaF:tFld Tryz.prog 99 0 0=true:=by kernel_rfl
theorem ZgP:tFld Tryz.prog 99 3 3=true:=by kernel_rfl
theorem Zf1:tFld Tryz.prog 99 1 1=true:=by kernel_rfl
theorem ZgI:tFld Tryz.prog 99 2 2=true:=by kernel_rfl
theorem Zoc:tArr Tryz.prog 244 2 3 1=true:=by kernel_rfl
theorem ZmJ:ZaT Tryz.prog 39=some [.string ⟨#[]⟩,.int .i64 0,.bool false,.int .i64 0]:=by kernel_rfl
theorem tZ_39:Tryz.prog.cellsOf 39=4:=by kernel_rfl
instance:SzD Tryz.prog 39 4:=⟨tZ_39⟩
theorem ZnS:Zbv Tryz.prog 39=some [(0,1),(1,1),(2,1),(3,1)]:=by kernel_rfl
theorem Zoq:Zd0 Tryz.prog 39=true:=by kernel_rfl
theorem ZkA:tAgg Tryz.prog 39 4=true:=by kernel_rfl
theorem Zcm:tFld Tryz.prog 39 0 0=true:=by kernel_rfl
theorem Zos:tFld Tryz.prog 39 1 1=true:=by kernel_rfl
theorem Zkh:tSl Tryz.prog 37 39 4 40=true:=by kernel_rfl
theorem ZlK:tFld Tryz.prog 91 2 2=true:=by kernel_rfl
theorem QX:tFld Tryz.prog 91 4 5=true:=by kernel_rfl
theorem Jd:tScal Tryz.prog 88=true:=by kernel_rfl
theorem XE:tSl Tryz.prog 88 44 2 32=true:=by kernel_rfl
theorem ZpU:(match Tryz.prog.underlying 42 with |some (.slice _)=>true |_=>false)=true:=by kernel_rfl
theorem ZpB:ZiH Tryz.prog 39 [.s,.i .i64,.b,.i .i64]=true:=by kernel_rfl
theorem ZlW:tSl Tryz.prog 67 72 3 32=true:=by kernel_rfl
theorem Zmg:tAgg Tryz.prog 72 3=true:=by kernel_rfl
theorem Zpr:ZaT Tryz.prog 72=some [.int .i64 0,.int .i64 0,.string ⟨#[]⟩]:=by kernel_rfl
theorem ZhA:tFld Tryz.prog 72 0 0=true:=by kernel_rfl
theorem Zi0:tFld Tryz.prog 72 1 1=true:=by kernel_rfl
theorem Zmz:tFld Tryz.prog 72 2 2=true:=by kernel_rfl
theorem Zd3:tFld Tryz.prog 91 5 6=true:=by kernel_rfl
theorem ZeM:tScal Tryz.prog 89=true:=by kernel_rfl
theorem Zcp:tSl Tryz.prog 89 120 2 24=true:=by kernel_rfl
theorem ZdG:tFld Tryz.prog 120 0 0=true:=by kernel_rfl
theorem Zn4:Zbv Tryz.prog 120=some [(0,1),(1,1)]:=by kernel_rfl
theorem ZnZ:Zd0 Tryz.prog 120=true:=by kernel_rfl
theorem Zmk:ZaT Tryz.prog 120=some [.int .i64 0,.string ⟨#[]⟩]:=by kernel_rfl
theorem Zht:tAgg Tryz.prog 120 2=true:=by kernel_rfl
theorem ZaE:tFld Tryz.prog 118 3 3=true:=by kernel_rfl
theorem Zli:tFld Tryz.prog 118 0 0=true:=by kernel_rfl
theorem Zng:tFld Tryz.prog 118 1 1=true:=by kernel_rfl
theorem ZdE:tFld Tryz.prog 118 4 5=true:=by kernel_rfl
theorem ZdH:tFld Tryz.prog 118 5 6=true:=by kernel_rfl
theorem ZmW:tFld Tryz.prog 118 2 2=true:=by kernel_rfl
theorem tB4:(match Tryz.prog.underlying 4 with |some .bool=>true |_=>false)=true:=by kernel_rfl
theorem Zqh:tFld Tryz.prog 39 3 3=true:=by kernel_rfl
theorem Zn5:tFld Tryz.prog 39 2 2=true:=by kernel_rfl
theorem Zp4:(match Tryz.prog.underlying 89 with |some (.slice _)=>true |_=>false)=true:=by kernel_rfl
theorem ZpS:ZiH Tryz.prog 120 [.i .i64,.s]=true:=by kernel_rfl
def gl0:Gl:=⟨2,[(1,(Go.Lib.pow10Tab.map fun z=>Value.int .u64 z).toArray)]⟩
def R136(x:api_Zone):List AV:= [.int .i64 x.From,.int .i64 x.To,.str x.Name]
def R49(x:api_Instrument):List AV:= [.int .i64 x.Kind,.str x.Name,.str x.Track,.int .i64 x.Places,.int .i64 x.Low,.int .i64 x.High,.int .i64 x.Steps,.sl 136 (List.map R136 x.Zones),.int .i64 x.Op,.int .i64 x.N,.bool x.Latch,.int .i64 x.Size]
def R56(x:api_Sample):List AV:= [.int .i64 x.At,.int .i64 x.N,.int .i64 x.Mark]
def R54(x:api_Track):List AV:= [.str x.Name,.int .i64 x.Series.Den,.sl 56 (List.map R56 x.Series.Samples),.int .i64 x.Long]
def R72(x:law8_Deed):List AV:= [.int .i64 x.Op,.int .i64 x.N,.str x.Text]
def C4(x:Bool):AV:= .bool x
def R3(x:Int):List AV:= [.int .i64 x]
theorem D49(x:api_Instrument):(R49 x).length=Tryz.prog.cellsOf 49∧(R49 x).all datB=true:=⟨tZ_49.symm,rfl⟩
instance:RowD Tryz.prog 49 R49:=⟨D49⟩
theorem D136(x:api_Zone):(R136 x).length=Tryz.prog.cellsOf 136∧(R136 x).all datB=true:=⟨tZ_136.symm,rfl⟩
instance:RowD Tryz.prog 136 R136:=⟨D136⟩
theorem D54(x:api_Track):(R54 x).length=Tryz.prog.cellsOf 54∧(R54 x).all datB=true:=⟨tZ_54.symm,rfl⟩
instance:RowD Tryz.prog 54 R54:=⟨D54⟩
theorem D56(x:api_Sample):(R56 x).length=Tryz.prog.cellsOf 56∧(R56 x).all datB=true:=⟨tZ_56.symm,rfl⟩
instance:RowD Tryz.prog 56 R56:=⟨D56⟩
def R99(x:api_Memo):List AV:= [.bool x.Lit,.bool x.Some,.int .i64 x.N,.int .i64 x.Count,.sl 3 (List.map R3 x.Tape)]
theorem D99(x:api_Memo):(R99 x).length=Tryz.prog.cellsOf 99∧(R99 x).all datB=true:=⟨tZ_99.symm,rfl⟩
instance:RowD Tryz.prog 99 R99:=⟨D99⟩
def R44(x:api_PanelState):List AV:= [.int .i64 x.Frame,.sl 99 (List.map R99 x.Memos)]
def R120(x:api_Bookmark):List AV:= [.int .i64 x.Frame,.str x.Text]
theorem D44(x:api_PanelState):(R44 x).length=Tryz.prog.cellsOf 44∧(R44 x).all datB=true:=⟨tZ_44.symm,rfl⟩
instance:RowD Tryz.prog 44 R44:=⟨D44⟩
theorem D120(x:api_Bookmark):(R120 x).length=Tryz.prog.cellsOf 120∧(R120 x).all datB=true:=⟨tZ_120.symm,rfl⟩
instance:RowD Tryz.prog 120 R120:=⟨D120⟩
def R9(x:Str):List AV:= [.str x]
theorem D3(x:Int):(R3 x).length=Tryz.prog.cellsOf 3∧(R3 x).all datB=true:=⟨tZ_3.symm,rfl⟩
instance:RowD Tryz.prog 3 R3:=⟨D3⟩
theorem D9(x:Str):(R9 x).length=Tryz.prog.cellsOf 9∧(R9 x).all datB=true:=⟨tZ_9.symm,rfl⟩
instance:RowD Tryz.prog 9 R9:=⟨D9⟩
def R39(x:api_Face):List AV:= [.str x.Text,.int .i64 x.Needle,.bool x.Lit,.int .i64 x.Mark]
theorem D39(x:api_Face):(R39 x).length=Tryz.prog.cellsOf 39∧(R39 x).all datB=true:=⟨tZ_39.symm,rfl⟩
instance:RowD Tryz.prog 39 R39:=⟨D39⟩
theorem ZqG(x:api_Bookmark):(R120 x).length=Tryz.prog.cellsOf 120∧Zol Tryz.prog (R120 x):=⟨(D120 x).1,dlF rfl⟩
theorem QK{n:Int}{low:Int}{high:Int}{r:Bool}(h:ZM n low high=some r):
 CSpec Tryz.prog gl0 37 [.int .i64 n,.int .i64 low,.int .i64 high] (.bool r):=by
 unfold ZM at h
 replace h:=ZO h
 refine So Tryz.func37 Y fun w0 A=>Tr<|Ra Y<|Za<|Tr<|Rm Y<|Rm Y<|R2 Zaj Y<|Rm Y<|Rq Y (.guarded ((decide (low≤n))==true) Y Y Y Y fun h=>Zf<|ov Y)<|Rq Y (.guarded ((decide (low≤n))==true) Y Y Y Y fun h=>Zf<|ov Y)<|Rq Y (.guarded ((decide (low≤n))==true) Y Y Y Y fun h=>ZaD (ow Y h)<|ow Y h)<|Rq Y (ZQ (ov Y) fun hp=>ow Y<|gT hp)<|Ra Y<|Za<|?_
 obtain rfl:=rt h
 exact Zj (Zu Y (.one<|rb Y))
theorem Zfc{s:Str}{c_:Int}{r:Str}(h:X3 s c_=some r):
 CSpec Tryz.prog gl0 177 [.str s,.int .u8 c_] (.str r):=by
 unfold X3 at h
 replace h:=ZO h
 refine So Tryz.func177 Y fun w0 A=>Tr<|Ra Y<|Za<|I1 (fun s2=>⟨[(0,.str s2)],[]⟩) h (fun h=>?_) fun s2 h=>?_
 ·
  refine Zl<|?_
  obtain⟨r1,hl1,ho1⟩:=Xa h
  refine L1 (fun s3=>⟨[(0,.str s3),(1,.int .u8 c_)],[]⟩) hl1 (ES []) fun n1 s3 h=>?_
  unfold Ja at h
  refine Zm<|Tr<|Rm Y<|Rq Y (Qm (ov Y) Qr Y)<|R2 Qq Y<|Rm Y<|Rq Y (.guarded ((decide (0<(s3.length:Int)))==true) Y Y Y Y fun h=>Zf<|ov Y)<|Rq Y (.guarded ((decide (0<(s3.length:Int)))==true) Y Y Y Y fun h=>Zf<|ov Y)<|Rq Y (.guarded ((decide (0<(s3.length:Int)))==true) Y Y Y Y fun h=>Qm (ow Y h) Qr Y)<|Rq Y (.guarded ((decide (0<(s3.length:Int)))==true) Y Y Y Y fun h=>Ze9 (ow Y h) (ov Y) Y)<|bE h fun b h_b h=>Rq Y (.guarded ((decide (0<(s3.length:Int)))==true) Y Y Y Y fun h=>XF (ow Y h) (ow Y h) Qr<|gdT h_b h)<|Rq Y (.guarded ((decide (0<(s3.length:Int)))==true) Y Y Y Y fun h=>Zf<|ov Y)<|Rq Y (.guarded ((decide (0<(s3.length:Int)))==true) Y Y Y Y fun h=>ZT (ow Y h)<|ow Y h)<|Rq Y (ZQ (ov Y) fun hp=>ow Y<|gT hp)<|Za<|K3 0 1 16 Y<|If h Y (fun h=>?_) fun h=>?_
  ·
   exact Zh<|Zl<|K2 0 1 Y<|Zw<|Rm Y<|Rm Y<|Rq Y (Qm (ov Y) Qr Y)<|R2 Zdi Y<|bE h fun s4 h_s4 h=>Rq Y (Zan (ov Y) Qr on (oi<|ov Y) h_s4)<|Ra Y<|Za<|⟨_,h,ES []⟩
  ·
   refine ZL<|?_
   replace h:=lx h▸ho1
   exact⟨_,h,ES []⟩
 ·
  refine Tr<|Rm Y<|Ra Y<|Za<|?_
  obtain rfl:=rt h
  exact Zj (Zu Y (.one<|rb Y))
theorem Zfz{s:Str}{c_:Int}{r:Str}(h:Jm s c_=some r):
 CSpec Tryz.prog gl0 176 [.str s,.int .u8 c_] (.str r):=by
 unfold Jm at h
 replace h:=ZO h
 refine So Tryz.func176 Y fun w0 A=>Tr<|Ra Y<|Za<|I1 (fun s2=>⟨[(0,.str s2)],[]⟩) h (fun h=>?_) fun s2 h=>?_
 ·
  refine Zl<|?_
  obtain⟨r1,hl1,ho1⟩:=Xa h
  refine L1 (fun s3=>⟨[(0,.str s3),(1,.int .u8 c_)],[]⟩) hl1 (ES []) fun n1 s3 h=>?_
  unfold Jx at h
  refine Zm<|Tr<|Rm Y<|Rq Y (Qm (ov Y) Qr Y)<|R2 Qq Y<|Rm Y<|Rq Y (.guarded ((decide (0<(s3.length:Int)))==true) Y Y Y Y fun h=>Zf<|ov Y)<|bE h fun b h_b h=>Rq Y (.guarded ((decide (0<(s3.length:Int)))==true) Y Y Y Y fun h=>XF (ow Y h) (ov Y) Qr<|gdT h_b h)<|Rq Y (.guarded ((decide (0<(s3.length:Int)))==true) Y Y Y Y fun h=>Zf<|ov Y)<|Rq Y (.guarded ((decide (0<(s3.length:Int)))==true) Y Y Y Y fun h=>ZT (ow Y h)<|ow Y h)<|Rq Y (ZQ (ov Y) fun hp=>ow Y<|gT hp)<|Za<|K3 0 1 13 Y<|If h Y (fun h=>?_) fun h=>?_
  ·
   exact Zh<|Zl<|K2 0 1 Y<|Zw<|Rm Y<|bE h fun s4 h_s4 h=>Rq Y (Zan (ov Y) Qr (oi<|ov Y) on h_s4)<|Ra Y<|Za<|⟨_,h,ES []⟩
  ·
   refine ZL<|?_
   replace h:=lx h▸ho1
   exact⟨_,h,ES []⟩
 ·
  refine Tr<|Rm Y<|Ra Y<|Za<|?_
  obtain rfl:=rt h
  exact Zj (Zu Y (.one<|rb Y))
theorem ZfA{chars:Str}{r:(Vector Bool 256)×Bool}(h:Xp chars=some r):
 CSpec Tryz.prog gl0 178 [.str chars] (.tuple [.agg (List.map C4 r.1.toList),.bool r.2]):=by
 unfold Xp at h
 replace h:=ZO h
 refine So Tryz.func178 Y fun w0 A=>Tr<|Rx Y (Zz (row:=(List.map C4 (Vector.replicate 256 false).toList)) 0 Y ZpA Y tZ_203)<|Ra Y<|Za<|J1 (fun j=>(.inr j)) (fun as_=>⟨[(2,.ptr 0 1 0 0)],[some ⟨203,[(List.map C4 as_.toList)]⟩]⟩) h (fun h=>?_) fun as_ h=>?_
 ·
  refine K2 0 2 Y<|Tr<|Ra Y<|Za<|Zl<|?_
  obtain⟨r1,hl1,ho1⟩:=Xa h
  refine L2 (fun as_2 i=>⟨[(0,.str chars),(2,.ptr 0 1 0 0),(4,.int .i64 i)],[some ⟨203,[(List.map C4 as_2.toList)]⟩]⟩) hl1 (ES [some 0]) fun n1 as_2 i h=>?_
  unfold Ju at h
  refine Zm<|Tr<|Rm Y<|Rm Y<|Rq Y (Qm (ov Y) Qr Y)<|R2 ZV Y<|Za<|K4 0 2 4 9 Y<|If h Y (fun h=>?_) fun h=>?_
  ·
   refine Zh<|Zm<|Zl<|K3 0 2 4 Y<|Tr<|Rm Y<|Rm Y<|bE h fun b h_b h=>Rq Y (XF (ov Y) (ov Y) Qr h_b)<|Ra Y<|Za<|Zm<|K4 0 2 4 5 Y<|Tr<|Rm Y<|R2 Zaj Y<|Za<|K5 0 2 4 5 16 Y<|If h Y (fun h=>?_) fun h=>?_
   ·
    refine K1 2 Y<|Tr<|Rq Y (ZG (ov Y) Y Y Y ZjP (Zlx<|ZgK arL) arL (hns:=(nsM fun _=>Y)))<|Rx Y (Zk (ov Y) (ov Y) (Zo ZjP arL) Y Y Y (ZmI (ZgK arL) arL) (Zd<|arC fun _=>Y)<|ZlD<|Eq.trans arL<|Eq.symm arL)<|Ra Y<|Za<|?_
    replace h:=lx h▸ho1
    obtain rfl:=rt h
    exact Zj (Zu Y (.two (.agg Y Y Y Y ZjP (Zlx<|ZgK arL) arL (pwB<|arD fun _=>Y) (hns:=(nsM fun _=>Y)))<|rb Y))
   ·
    exact Zh<|K4 0 2 4 5 Y<|Zw<|Rm Y<|bE h fun x h_x h=>Rq Y (Zp0 (ov Y) (ov Y) Zpv Y Y h_x)<|Rx Y (Zk (ov Y) (ov Y) (Zp tS4) Y Y Y (arB h_x) (Zd Y)<|arS h_x)<|Za<|K3 0 2 4 Y<|Zw<|Rm Y<|R2 QB Y<|Ra Y<|Za<|⟨_,h,ES [some 0]⟩
  ·
   refine ZL<|?_
   replace h:=lx h▸ho1
   exact⟨_,h,ES [some 0]⟩
 ·
  replace h:=elr h
  replace h:=t1i h
  refine Tr<|Rq Y (ZG (ov Y) Y Y Y ZjP (Zlx<|ZgK arL) arL (hns:=(nsM fun _=>Y)))<|Rx Y (Zk (ov Y) (ov Y) (Zo ZjP arL) Y Y Y (ZmI (ZgK arL) arL) (Zd<|arC fun _=>Y)<|ZlD<|Eq.trans arL<|Eq.symm arL)<|Ra Y<|Za<|?_
  obtain rfl:=rt h
  exact Zj (Zu Y (.two (.agg Y Y Y Y ZjP (Zlx<|ZgK arL) arL (pwB<|arD fun _=>Y) (hns:=(nsM fun _=>Y)))<|rb Y))
theorem ZbD{as_:Vector Bool 256}{c_:Int}{r:Bool}(h:Z8 as_ c_=some r):
 CSpec Tryz.prog gl0 193 [.rp (List.map C4 as_.toList) 0,.int .u8 c_] (.bool r):=by
 unfold Z8 at h
 replace h:=ZO h
 refine So Tryz.func193 Y fun w0 A=>Tr<|Ra Y<|Za<|Tr<|Rm Y<|Rm Y<|R1 Zml Y<|bE h fun x h_x h=>Rq Y (ZpZ (ov Y) (ov Y) Zpv h_x)<|Rq Y (Zc (ov Y) tS4<|Zqm<|ZqE (o:=0) (o':=(c_.toNat*1)) (ZgK arL)<|ZqF h_x)<|Ra Y<|Za<|?_
 obtain rfl:=rt h
 exact Zj (Zu Y (.one<|rb Y))
theorem ZeW{s:Str}{as_:Vector Bool 256}{r:Str}(h:QE s as_=some r):
 CSpec Tryz.prog gl0 180 [.str s,.rp (List.map C4 as_.toList) 0] (.str r):=by
 unfold QE at h
 replace h:=ZO h
 refine So Tryz.func180 Y fun w0 A=>Tr<|Ra Y<|Za<|I1 (fun s2=>⟨[(0,.str s2)],[]⟩) h (fun h=>?_) fun s2 h=>?_
 ·
  refine Zl<|?_
  obtain⟨r1,hl1,ho1⟩:=Xa h
  refine L1 (fun s3=>⟨[(0,.str s3),(1,.rp (List.map C4 as_.toList) 0)],[]⟩) hl1 (ES []) fun n1 s3 h=>?_
  unfold Z9 at h
  refine Zm<|Tr<|Rm Y<|Rq Y (Qm (ov Y) Qr Y)<|R2 Qq Y<|Za<|K3 0 1 7 Y<|If h Y (fun h=>?_) fun h=>?_
  ·
   refine Zh<|Zl<|Zm<|K2 0 1 Y<|Tr<|Rm Y<|Rm Y<|Rm Y<|Rq Y (Qm (ov Y) Qr Y)<|R2 Zdi Y<|bE h fun b h_b h=>Rq Y (XF (ov Y) (ov Y) Qr h_b)<|bE h fun y h_y h=>Rq Y (Zn (ZbD h_y)<|.cons (ov Y) (.b Y)<|.cons (ov Y) (.b Y) .nil)<|R1 QA Y<|Za<|K3 0 1 15 Y<|If h Y (fun h=>?_) fun h=>?_
   ·
    refine ZL<|?_
    replace h:=lx h▸ho1
    exact⟨_,h,ES []⟩
   ·
    exact Zh<|K2 0 1 Y<|Zw<|Rm Y<|Rm Y<|Rq Y (Qm (ov Y) Qr Y)<|R2 Zdi Y<|bE h fun s4 h_s4 h=>Rq Y (Zan (ov Y) Qr on (oi<|ov Y) h_s4)<|Ra Y<|Za<|⟨_,h,ES []⟩
  ·
   refine ZL<|?_
   replace h:=lx h▸ho1
   exact⟨_,h,ES []⟩
 ·
  refine Tr<|Rm Y<|Ra Y<|Za<|?_
  obtain rfl:=rt h
  exact Zj (Zu Y (.one<|rb Y))
theorem Zfu{s:Str}{as_:Vector Bool 256}{r:Str}(h:QP s as_=some r):
 CSpec Tryz.prog gl0 179 [.str s,.rp (List.map C4 as_.toList) 0] (.str r):=by
 unfold QP at h
 replace h:=ZO h
 refine So Tryz.func179 Y fun w0 A=>Tr<|Ra Y<|Za<|I1 (fun s2=>⟨[(0,.str s2)],[]⟩) h (fun h=>?_) fun s2 h=>?_
 ·
  refine Zl<|?_
  obtain⟨r1,hl1,ho1⟩:=Xa h
  refine L1 (fun s3=>⟨[(0,.str s3),(1,.rp (List.map C4 as_.toList) 0)],[]⟩) hl1 (ES []) fun n1 s3 h=>?_
  unfold Qe at h
  refine Zm<|Tr<|Rm Y<|Rq Y (Qm (ov Y) Qr Y)<|R2 Qq Y<|Za<|K3 0 1 7 Y<|If h Y (fun h=>?_) fun h=>?_
  ·
   refine Zh<|Zl<|Zm<|K2 0 1 Y<|Tr<|Rm Y<|Rm Y<|bE h fun b h_b h=>Rq Y (XF (ov Y) (ov Y) Qr h_b)<|bE h fun y h_y h=>Rq Y (Zn (ZbD h_y)<|.cons (ov Y) (.b Y)<|.cons (ov Y) (.b Y) .nil)<|R1 QA Y<|Za<|K3 0 1 12 Y<|If h Y (fun h=>?_) fun h=>?_
   ·
    refine ZL<|?_
    replace h:=lx h▸ho1
    exact⟨_,h,ES []⟩
   ·
    exact Zh<|K2 0 1 Y<|Zw<|Rm Y<|bE h fun s4 h_s4 h=>Rq Y (Zan (ov Y) Qr (oi<|ov Y) on h_s4)<|Ra Y<|Za<|⟨_,h,ES []⟩
  ·
   refine ZL<|?_
   replace h:=lx h▸ho1
   exact⟨_,h,ES []⟩
 ·
  refine Tr<|Rm Y<|Ra Y<|Za<|?_
  obtain rfl:=rt h
  exact Zj (Zu Y (.one<|rb Y))
theorem Zh8{b:Int}{r:Bool}(h:Zce b=some r):
 CSpec Tryz.prog gl0 201 [.int .u8 b] (.bool r):=by
 unfold Zce at h
 replace h:=ZO h
 refine So Tryz.func201 Y fun w0 A=>Tr<|Ra Y<|Za<|Tr<|Rm Y<|R2 Zqv Y<|R2 Qo Y<|Ra Y<|Za<|?_
 obtain rfl:=rt h
 exact Zj (Zu Y (.one<|rb Y))
theorem ZdC{s:Str}{r:Int×Int}(h:QT s=some r):
 CSpec Tryz.prog gl0 199 [.str s] (.tuple [.int .i32 r.1,.int .i64 r.2]):=by
 unfold QT at h
 replace h:=ZO h
 refine So Tryz.func199 Y fun w0 A=>Tr<|Ra Y<|Ra Y<|Za<|K1 0 Y<|Tr<|Rm Y<|Rq Y (Qm (ov Y) Qr Y)<|Ra Y<|Za<|Zm<|K2 0 4 Y<|Tr<|Rm Y<|R2 ZV Y<|Za<|K3 0 4 16 Y<|If h Y (fun h=>?_) fun h=>?_
 ·
  refine K0<|Tr<|Ra Y<|Ra Y<|Za<|?_
  obtain rfl:=rt h
  exact Zj (Zu Y (.two (rb Y)<|rb Y))
 ·
  exact Zh<|K2 0 4 Y<|Tr<|Rm Y<|bE h fun b h_b h=>Rq Y (XF (ov Y) (ov Y) Qr h_b)<|Ra Y<|Za<|(Zeo h).elim
theorem Zcf{s:Str}{r:Int×Int}(h:Q0 s=some r):
 CSpec Tryz.prog gl0 194 [.str s] (.tuple [.int .i32 r.1,.int .i64 r.2]):=by
 unfold Q0 at h
 replace h:=ZO h
 refine So Tryz.func194 Y fun w0 A=>Tr<|Ra Y<|Ra Y<|Za<|Zm<|K1 0 Y<|Tr<|Rm Y<|R2 ZlV Y<|Rm Y<|Rq Y (.guarded ((!decide (s= []))==true) Y Y Y Y fun h=>Zf<|ov Y)<|bE h fun b h_b h=>Rq Y (.guarded ((!decide (s= []))==true) Y Y Y Y fun h=>XF (ow Y h) (ov Y) Qr<|gdT h_b h)<|Rq Y (.guarded ((!decide (s= []))==true) Y Y Y Y fun h=>ZV (ow Y h)<|ov Y)<|Rq Y (ZQ (ov Y) fun hp=>ow Y<|gT hp)<|Za<|K2 0 10 Y<|If h Y (fun h=>?_) fun h=>?_
 ·
  refine K1 0 Y<|Tr<|Rm Y<|bE h fun b2 h_b2 h=>Rq Y (XF (ov Y) (ov Y) Qr h_b2)<|Rq Y (ZhR (ov Y) tI5 Zqb Y)<|Ra Y<|Ra Y<|Za<|?_
  obtain rfl:=rt h
  exact Zj (Zu Y (.two (rb Y)<|rb Y))
 ·
  refine K1 0 Y<|Zw<|Rm Y<|bE h fun y h_y h=>Rq Y (Zn (ZdC h_y)<|.cons (ov Y) (.b Y) .nil)<|Rm Y<|Rq Y (Zq (ov Y) Y)<|Rq Y (Zq (ov Y) Y)<|Ra Y<|Ra Y<|Za<|?_
  obtain rfl:=rt h
  exact Zj (Zu Y (.two (rb Y)<|rb Y))
theorem Zdo{s:Str}{r:Int×Int}(h:QQ s=some r):
 CSpec Tryz.prog gl0 196 [.str s] (.tuple [.int .i32 r.1,.int .i64 r.2]):=by
 unfold QQ at h
 replace h:=ZO h
 refine So Tryz.func196 Y fun w0 A=>Tr<|Ra Y<|Ra Y<|Za<|K1 0 Y<|Tr<|Rm Y<|Rq Y (Qm (ov Y) Qr Y)<|Ra Y<|Za<|Zm<|K2 0 4 Y<|Tr<|Rm Y<|R2 ZT Y<|Za<|K3 0 4 10 Y<|If h Y (fun h=>?_) fun h=>?_
 ·
  refine K0<|Tr<|Ra Y<|Ra Y<|Za<|?_
  obtain rfl:=rt h
  exact Zj (Zu Y (.two (rb Y)<|rb Y))
 ·
  refine Zh<|K2 0 4 Y<|Tr<|Rm Y<|R2 Zdi Y<|Ra Y<|Za<|K3 0 4 5 Y<|Tr<|Rm Y<|Rm Y<|bE h fun b h_b h=>Rq Y (XF (ov Y) (ov Y) Qr h_b)<|Rq Y (ZhR (ov Y) tI5 Zqb Y)<|Ra Y<|Za<|Zm<|K4 0 2 4 5 Y<|Tr<|Rm Y<|R2 ZV Y<|Za<|K5 0 2 4 5 18 Y<|If h Y (fun h=>?_) fun h=>?_
  ·
   refine K1 2 Y<|Tr<|Rm Y<|Ra Y<|Ra Y<|Za<|?_
   obtain rfl:=rt h
   exact Zj (Zu Y (.two (rb Y)<|rb Y))
  ·
   refine Zh<|K3 0 4 5 Y<|Tr<|Rm Y<|R2 Zdi Y<|Rq Y (ZoE (ov Y) (ov Y) Y)<|Ra Y<|Za<|I1 (fun start=>⟨[(0,.str s),(4,.int .i64 (s.length:Int)),(5,.int .i64 start)],[]⟩) h (fun h=>?_) fun start h=>?_
   ·
    refine K4 0 4 5 6 Y<|Tr<|Rm Y<|R2 Zdi Y<|Ra Y<|Za<|Zl<|?_
    obtain⟨r1,hl1,ho1⟩:=Xa h
    refine L1 (fun start2=>⟨[(0,.str s),(4,.int .i64 (s.length:Int)),(5,.int .i64 start2),(6,.int .i64 (max (i64 ((s.length:Int)-4)) 0))],[]⟩) hl1 (ES []) fun n1 start2 h=>?_
    unfold Q7 at h
    refine Zm<|Tr<|Rm Y<|Rm Y<|R2 Zaj Y<|Za<|K5 0 4 5 6 27 Y<|If h Y (fun h=>?_) fun h=>?_
    ·
     refine Zh<|Zm<|Zl<|K4 0 4 5 6 Y<|Tr<|Rm Y<|Rm Y<|bE h fun b2 h_b2 h=>Rq Y (XF (ov Y) (ov Y) Qr h_b2)<|bE h fun y h_y h=>Rq Y (Zn (Zh8 h_y)<|.cons (ov Y) (.b Y) .nil)<|Za<|K5 0 4 5 6 33 Y<|If h Y (fun h=>?_) fun h=>?_
     ·
      refine ZL<|?_
      replace h:=lx h▸ho1
      exact⟨_,h,ES []⟩
     ·
      exact Zh<|K4 0 4 5 6 Y<|Zw<|Rm Y<|R2 Zdi Y<|Ra Y<|Za<|⟨_,h,ES []⟩
    ·
     refine ZL<|?_
     replace h:=lx h▸ho1
     exact⟨_,h,ES []⟩
   ·
    refine I1 (fun start3=>⟨[(0,.str s),(4,.int .i64 (s.length:Int)),(5,.int .i64 start3)],[]⟩) h (fun h=>?_) fun start3 h=>?_
    ·
     refine Tr<|Rm Y<|R2 ZV Y<|Za<|K4 0 4 5 35 Y<|If h Y (fun h=>?_) fun h=>?_
     ·
      exact K3 0 4 5 Y<|Zw<|Ra Y<|Za<|⟨_,h,ES []⟩
     ·
      exact Zh<|⟨_,h,ES []⟩
    ·
     refine Tr<|Rm Y<|Rm Y<|Rm Y<|bE h fun s2 h_s2 h=>Rq Y (Zan (ov Y) Qr (oi<|ov Y) (oi<|ov Y) h_s2)<|bE h fun y2 h_y2 h=>Rq Y (Zn (Zcf h_y2)<|.cons (ov Y) (.b Y) .nil)<|Rm Y<|Rq Y (Zq (ov Y) Y)<|Rq Y (Zq (ov Y) Y)<|Ra Y<|Ra Y<|Za<|Zm<|K4 2 3 4 5 Y<|Tr<|Rm Y<|Rm Y<|R2 QB Y<|Rm Y<|R2 Qo Y<|Za<|K3 2 3 48 Y<|If h Y (fun h=>?_) fun h=>?_
     ·
      refine K2 2 3 Y<|Tr<|Ra Y<|Ra Y<|Za<|?_
      obtain rfl:=rt h
      exact Zj (Zu Y (.two (rb Y)<|rb Y))
     ·
      refine Zh<|K2 2 3 Y<|Tr<|Rm Y<|Rm Y<|Ra Y<|Ra Y<|Za<|?_
      obtain rfl:=rt h
      exact Zj (Zu Y (.two (rb Y)<|rb Y))
theorem ZcO{s:Str}{r_:Int}{r:Bool}(h:Xq s r_=some r):
 CSpec Tryz.prog gl0 195 [.str s,.int .i32 r_] (.bool r):=by
 unfold Xq at h
 replace h:=ZO h
 exact So Tryz.func195 Y fun w0 A=>Tr<|Ra Y<|Za<|(Zeo h).elim
theorem Zee{s:Str}{cutset:Str}{r:Str}(h:Xe s cutset=some r):
 CSpec Tryz.prog gl0 182 [.str s,.str cutset] (.str r):=by
 unfold Xe at h
 replace h:=ZO h
 refine So Tryz.func182 Y fun w0 A=>Tr<|Ra Y<|Za<|I1 (fun s2=>⟨[(0,.str s2)],[]⟩) h (fun h=>?_) fun s2 h=>?_
 ·
  refine Zl<|?_
  obtain⟨r1,hl1,ho1⟩:=Xa h
  refine L1 (fun s3=>⟨[(0,.str s3),(1,.str cutset)],[]⟩) hl1 (ES []) fun n1 s3 h=>?_
  unfold Xz at h
  refine Zm<|Tr<|Rm Y<|Rq Y (Qm (ov Y) Qr Y)<|R2 Qq Y<|Za<|K3 0 1 9 Y<|If h Y (fun h=>?_) fun h=>?_
  ·
   refine Zh<|Zl<|K2 0 1 Y<|Tr<|Rm Y<|Rm Y<|Rq Y (Qm (ov Y) Qr Y)<|R2 Zdi Y<|bE h fun b h_b h=>Rq Y (XF (ov Y) (ov Y) Qr h_b)<|Rq Y (ZhR (ov Y) tI5 Zqb Y)<|Ra Y<|Ra Y<|Za<|I2 (fun r_ n=>⟨[(0,.str s3),(1,.str cutset),(5,.int .i32 r_),(6,.int .i64 n)],[]⟩) h (fun h=>?_) fun r_ n h=>?_
   ·
    refine K4 0 1 5 6 Y<|Tr<|Rm Y<|R2 Zaj Y<|Za<|K5 0 1 5 6 17 Y<|If h Y (fun h=>?_) fun h=>?_
    ·
     exact K4 0 1 5 6 Y<|Zw<|Rm Y<|bE h fun y h_y h=>Rq Y (Zn (Zdo h_y)<|.cons (ov Y) (.b Y) .nil)<|Rm Y<|Rq Y (Zq (ov Y) Y)<|Rq Y (Zq (ov Y) Y)<|Ra Y<|Ra Y<|Za<|⟨_,h,ES []⟩
    ·
     exact Zh<|⟨((i32 b),1),h,ES []⟩
   ·
    refine Zm<|Tr<|Rm Y<|Rm Y<|bE h fun y2 h_y2 h=>Rq Y (Zn (ZcO h_y2)<|.cons (ov Y) (.b Y)<|.cons (ov Y) (.b Y) .nil)<|R1 QA Y<|Za<|K4 0 1 6 26 Y<|If h Y (fun h=>?_) fun h=>?_
    ·
     refine ZL<|?_
     replace h:=lx h▸ho1
     exact⟨_,h,ES []⟩
    ·
     exact Zh<|K3 0 1 6 Y<|Zw<|Rm Y<|Rm Y<|Rq Y (Qm (ov Y) Qr Y)<|Rm Y<|R2 Zdi Y<|bE h fun s4 h_s4 h=>Rq Y (Zan (ov Y) Qr on (oi<|ov Y) h_s4)<|Ra Y<|Za<|⟨_,h,ES []⟩
  ·
   refine ZL<|?_
   replace h:=lx h▸ho1
   exact⟨_,h,ES []⟩
 ·
  refine Tr<|Rm Y<|Ra Y<|Za<|?_
  obtain rfl:=rt h
  exact Zj (Zu Y (.one<|rb Y))
theorem Zew{s:Str}{cutset:Str}{r:Str}(h:Xw s cutset=some r):
 CSpec Tryz.prog gl0 181 [.str s,.str cutset] (.str r):=by
 unfold Xw at h
 replace h:=ZO h
 refine So Tryz.func181 Y fun w0 A=>Tr<|Ra Y<|Za<|I1 (fun s2=>⟨[(0,.str s2)],[]⟩) h (fun h=>?_) fun s2 h=>?_
 ·
  refine Zl<|?_
  obtain⟨r1,hl1,ho1⟩:=Xa h
  refine L1 (fun s3=>⟨[(0,.str s3),(1,.str cutset)],[]⟩) hl1 (ES []) fun n1 s3 h=>?_
  unfold XI at h
  refine Zm<|Tr<|Rm Y<|Rq Y (Qm (ov Y) Qr Y)<|R2 Qq Y<|Za<|K3 0 1 9 Y<|If h Y (fun h=>?_) fun h=>?_
  ·
   refine Zh<|Zl<|K2 0 1 Y<|Tr<|Rm Y<|bE h fun y h_y h=>Rq Y (Zn (Zcf h_y)<|.cons (ov Y) (.b Y) .nil)<|Rm Y<|Rq Y (Zq (ov Y) Y)<|Rq Y (Zq (ov Y) Y)<|Ra Y<|Ra Y<|Za<|Zm<|K4 0 1 5 6 Y<|Tr<|Rm Y<|Rm Y<|bE h fun y2 h_y2 h=>Rq Y (Zn (ZcO h_y2)<|.cons (ov Y) (.b Y)<|.cons (ov Y) (.b Y) .nil)<|R1 QA Y<|Za<|K4 0 1 6 18 Y<|If h Y (fun h=>?_) fun h=>?_
   ·
    refine ZL<|?_
    replace h:=lx h▸ho1
    exact⟨_,h,ES []⟩
   ·
    exact Zh<|K3 0 1 6 Y<|Zw<|Rm Y<|Rm Y<|bE h fun s4 h_s4 h=>Rq Y (Zan (ov Y) Qr (oi<|ov Y) on h_s4)<|Ra Y<|Za<|⟨_,h,ES []⟩
  ·
   refine ZL<|?_
   replace h:=lx h▸ho1
   exact⟨_,h,ES []⟩
 ·
  refine Tr<|Rm Y<|Ra Y<|Za<|?_
  obtain rfl:=rt h
  exact Zj (Zu Y (.one<|rb Y))
theorem Zjt{s:Str}{cutset:Str}{r:Str}(h:Zau s cutset=some r):
 CSpec Tryz.prog gl0 160 [.str s,.str cutset] (.str r):=by
 unfold Zau at h
 replace h:=ZO h
 refine So Tryz.func160 Y fun w0 A=>Tr<|Ra Y<|Za<|Zm<|K2 0 1 Y<|Tr<|Rm Y<|R2 Qv Y<|Rm Y<|Rq Y (.guarded ((decide (s= []))==false) Y Y Y Y fun h=>Zf<|ov Y)<|Rq Y (.guarded ((decide (s= []))==false) Y Y Y Y fun h=>Qv (ow Y h)<|ov Y)<|Rq Y (Xi (ov Y) fun hp=>ow Y<|gF hp)<|Za<|K3 0 1 12 Y<|If h Y (fun h=>?_) fun h=>?_
 ·
  refine K1 0 Y<|Tr<|Rm Y<|Ra Y<|Za<|?_
  obtain rfl:=rt h
  exact Zj (Zu Y (.one<|rb Y))
 ·
  refine Zh<|Zm<|K2 0 1 Y<|Tr<|Rm Y<|Rq Y (Qm (ov Y) Qr Y)<|R2 ZT Y<|Rm Y<|Rq Y (.guarded ((decide ((cutset.length:Int)=1))==true) Y Y Y Y fun h=>Zf<|ov Y)<|bE h fun b h_b h=>Rq Y (.guarded ((decide ((cutset.length:Int)=1))==true) Y Y Y Y fun h=>XF (ow Y h) (ov Y) Qr<|gdT h_b h)<|Rq Y (.guarded ((decide ((cutset.length:Int)=1))==true) Y Y Y Y fun h=>ZV (ow Y h)<|ov Y)<|Rq Y (ZQ (ov Y) fun hp=>ow Y<|gT hp)<|Za<|K3 0 1 21 Y<|If h Y (fun h=>?_) fun h=>?_
  ·
   refine K2 0 1 Y<|Td md0<|D1 0 Zf Y<|D1 1 Zf Y<|bE h fun b2 h_b2 h=>Dq 2 Y (XF (ov Y) (ov Y) Qr h_b2)<|bE h fun y h_y h=>Dq 3 Y (Zn (Zfc h_y)<|.cons (ov Y) (.b Y)<|.cons (ov Y) (.b Y) .nil)<|D1 4 Zf Y<|bE h fun b3 h_b3 h=>Dq 5 Y (XF (ov Y) (ov Y) Qr h_b3)<|bE h fun y2 h_y2 h=>Dq 6 Y (Zn (Zfz h_y2)<|.cons (ov Y) (.b Y)<|.cons (ov Y) (.b Y) .nil)<|D1 7 Qp Y<|Dd<|?_
   obtain rfl:=rt h
   exact Zj (Zu Y (.one<|rb Y))
  ·
   refine Zh<|Zm<|K2 0 1 Y<|Tr<|Rm Y<|bE h fun y3 h_y3 h=>Rq Y (Zn (ZfA h_y3)<|.cons (ov Y) (.b Y) .nil)<|Rm Y<|Rq Y (Zq (ov Y) Y)<|Rq Y (Zq (ov Y) Y)<|Rx Y (Zz (row:=(List.map C4 (Vector.replicate 256 false).toList)) 0 Y ZpA Y tZ_203)<|Rx Y (Zk (ov Y) (ov Y) (Zo ZjP arL) Y Y Y (ZmI (ZgK arL) arL) (Zd<|arC fun _=>Y)<|ZlD<|Eq.trans arL<|Eq.symm arL)<|Ra Y<|Za<|K4 0 1 5 6 Y<|Tr<|Rm Y<|Za<|K4 0 1 5 34 Y<|If h Y (fun h=>?_) fun h=>?_
   ·
    refine K2 0 5 Y<|Tr<|Rm Y<|bE h fun y4 h_y4 h=>Rq Y (Zh2 (ZeW h_y4) .str<|.cons (ov Y) (Dat.view<|.b Y)<|.cons (ov Y) (View.ptr Y Y Y (pwB<|arD fun _=>Y) (hns:=(nsM fun _=>Y))) .nil)<|bE h fun y5 h_y5 h=>Rq Y (Zh2 (Zfu h_y5) .str<|.cons (ov Y) (Dat.view<|.b Y)<|.cons (ov Y) (View.ptr Y Y Y (pwB<|arD fun _=>Y) (hns:=(nsM fun _=>Y))) .nil)<|Ra Y<|Za<|?_
    obtain rfl:=rt h
    exact Zj (Zu Y (.one<|rb Y))
   ·
    refine Zh<|K2 0 1 Y<|Tr<|Rm Y<|Rm Y<|bE h fun y6 h_y6 h=>Rq Y (Zn (Zee h_y6)<|.cons (ov Y) (.b Y)<|.cons (ov Y) (.b Y) .nil)<|Rm Y<|bE h fun y7 h_y7 h=>Rq Y (Zn (Zew h_y7)<|.cons (ov Y) (.b Y)<|.cons (ov Y) (.b Y) .nil)<|Ra Y<|Za<|?_
    obtain rfl:=rt h
    exact Zj (Zu Y (.one<|rb Y))
theorem Zgg{s:Str}{r:Bool}(h:Zah s=some r):
 CSpec Tryz.prog gl0 136 [.str s] (.bool r):=by
 unfold Zah at h
 replace h:=ZO h
 refine So Tryz.func136 Y fun w0 A=>Tr<|Ra Y<|Za<|Tr<|Rm Y<|Rq Y (Qm (ov Y) Qr Y)<|bE h fun y h_y h=>Rq Y (Zn (QK h_y)<|.cons (ov Y) (.b Y)<|.cons (ov Y) (.b Y)<|.cons (ov Y) (.b Y) .nil)<|Rm Y<|Rq Y (.guarded (y==true) Y Y Y Y fun h=>Zf<|ov Y)<|bE h fun y2 h_y2 h=>Rq Y (.guarded (y==true) Y Y Y Y fun h=>Zn (Zjt<|gdT h_y2 h)<|.cons (ow Y h) (.b Y)<|.cons (ov Y) (.b Y) .nil)<|Rq Y (.guarded (y==true) Y Y Y Y fun h=>Qv (ow Y h)<|ov Y)<|Rq Y (ZQ (ov Y) fun hp=>ow Y<|gT hp)<|Ra Y<|Za<|?_
 obtain rfl:=rt h
 exact Zj (Zu Y (.one<|rb Y))
theorem Zfy{s:List Int}{v:Int}{r:Int}(h:Xs s v=some r):
 CSpec Tryz.prog gl0 183 [.sl 3 (List.map R3 s),.int .i64 v] (.int .i64 r):=by
 unfold Xs at h
 replace h:=ZO h
 refine So Tryz.func183 Y fun w0 A=>Tr<|Ra Y<|Za<|J0 (fun j=>(.inr j)) ⟨[],[]⟩ h (fun h=>?_) fun h=>?_
 ·
  refine K2 0 1 Y<|Tr<|Rm Y<|Rl tZ_3 J3 Y<|Rm Y<|Za<|Zl<|?_
  obtain⟨r1,hl1,ho1⟩:=Xa h
  refine L1 (fun i=>⟨[(0,.sl 3 (List.map R3 s)),(1,.int .i64 v),(7,.int .i64 (s.length:Int)),(8,.int .i64 i)],[]⟩) hl1 (ES []) fun n1 i h=>?_
  unfold Qh at h
  refine Tr<|R2 ZV Y<|Za<|Zm<|If h Y (fun h=>?_) fun h=>?_
  ·
   refine Zh<|Zm<|Zl<|K4 0 1 7 8 Y<|Tr<|Rm Y<|Ra Y<|Za<|K5 0 1 5 7 8 Y<|Tr<|Rm Y<|Rm Y<|Rm Y<|bE h fun x h_x h=>Rq Y (ZU (ov Y) (ov Y) J3 h_x)<|Rq Y (Zc (ov Y) tS3 Y)<|R2 ZT Y<|Za<|K6 0 1 5 7 8 16 Y<|If h Y (fun h=>?_) fun h=>?_
   ·
    refine K1 5 Y<|Tr<|Rm Y<|Ra Y<|Za<|?_
    replace h:=lx h▸ho1
    obtain rfl:=rt h
    exact Zj (Zu Y (.one<|rb Y))
   ·
    exact Zh<|K4 0 1 7 8 Y<|Zw<|R2 QB Y<|Rm Y<|Za<|⟨_,h,ES []⟩
  ·
   refine ZL<|?_
   replace h:=lx h▸ho1
   exact⟨(),h,ES []⟩
 ·
  replace h:=elr h
  replace h:=t0i h
  refine Tr<|Ra Y<|Za<|?_
  obtain rfl:=rt h
  exact Zj (Zu Y (.one<|rb Y))
theorem ZeF{s:List Int}{v:Int}{r:Bool}(h:Qw s v=some r):
 CSpec Tryz.prog gl0 162 [.sl 3 (List.map R3 s),.int .i64 v] (.bool r):=by
 unfold Qw at h
 replace h:=ZO h
 refine So Tryz.func162 Y fun w0 A=>Tr<|Ra Y<|Za<|Tr<|Rm Y<|Rm Y<|bE h fun y h_y h=>Rq Y (Zn (Zfy h_y)<|.cons (ov Y) (.b Y)<|.cons (ov Y) (.b Y) .nil)<|R2 Zaj Y<|Ra Y<|Za<|?_
 obtain rfl:=rt h
 exact Zj (Zu Y (.one<|rb Y))
theorem Zaq{l:List Int}{c0:api_Instrument}{r:Bool}(h:ZY l c0=some r):
 CSpec Tryz.prog gl0 161 [.sl 3 (List.map R3 l),.rp [.int .i64 c0.Kind,.str c0.Name,.str c0.Track,.int .i64 c0.Places,.int .i64 c0.Low,.int .i64 c0.High,.int .i64 c0.Steps,.sl 136 (List.map R136 c0.Zones),.int .i64 c0.Op,.int .i64 c0.N,.bool c0.Latch,.int .i64 c0.Size] 0] (.bool r):=by
 unfold ZY at h
 replace h:=ZO h
 refine So Tryz.func161 Y fun w0 A=>Tr<|Ra Y<|Za<|Tr<|Rm Y<|Rq Y (Ze (ov Y) JK)<|Rq Y (Zc (ov Y) tS3 Y)<|bE h fun y h_y h=>Rq Y (Zn (ZeF h_y)<|.cons (ov Y) (.b Y)<|.cons (ov Y) (.b Y) .nil)<|Ra Y<|Za<|?_
 obtain rfl:=rt h
 exact Zj (Zu Y (.one<|rb Y))
theorem Zjv{i:api_Instrument}{r:Bool}(h:Za8 i=some r):
 CSpec Tryz.prog gl0 137 [.agg [.int .i64 i.Kind,.str i.Name,.str i.Track,.int .i64 i.Places,.int .i64 i.Low,.int .i64 i.High,.int .i64 i.Steps,.sl 136 (List.map R136 i.Zones),.int .i64 i.Op,.int .i64 i.N,.bool i.Latch,.int .i64 i.Size]] (.bool r):=by
 unfold Za8 at h
 replace h:=ZO h
 refine So Tryz.func137 Y fun w0 A=>Tr<|Rq Y (ZP (cva<|ov Y) Y tZ_49 Y)<|Ra Y<|Za<|K1 1 Y<|Tr<|Rq Y (Zdm<|.cons (ov Y) .nil)<|Ra Y<|Za<|K2 1 3 Y<|Tr<|Rq Y (Ze (ov Y) ZeK)<|Rq Y (Zc (ov Y) tS3 Y)<|R2 Qo Y<|Rm Y<|Rq Y (.guarded ((!decide (i.Places=0))==true) Y Y Y Y fun h=>Zf<|ov Y)<|R_q (.when ((!decide (i.Places=0))==true)<|.sl 3<|List.map R3 ([1,4,6]:List Int)) Y (.guarded ((!decide (i.Places=0))==true) Y Y Y Y fun h=>ZbU J3 (.cons (cvs (ov Y)<|ZB Y) Y (.cons (.b Y) .nil)<|.cons (cvs (ov Y)<|ZB Y) Y (.cons (.b Y) .nil)<|.cons (cvs (ov Y)<|ZB Y) Y (.cons (.b Y) .nil) .nil) Y Y)<|bE h fun y h_y h=>Rq Y (.guarded ((!decide (i.Places=0))==true) Y Y Y Y fun h=>ZcD (ow Y h) Y (Zaq<|gdT h_y h)<|.cons (ow Y h) (.b Y) .nil)<|Rq Y (.guarded ((!decide (i.Places=0))==true) Y Y Y Y fun h=>QA<|ow Y h)<|Rq Y (ZQ (ov Y) fun hp=>ow Y<|gT hp)<|Rm Y<|Rq Y (.guarded (((!decide (i.Places=0))&&(!y))==false) Y Y Y Y fun h=>Ze (ov Y) ZdX)<|Rq Y (.guarded (((!decide (i.Places=0))&&(!y))==false) Y Y Y Y fun h=>Zc (ow Y h) tS3 Y)<|Rq Y (.guarded (((!decide (i.Places=0))&&(!y))==false) Y Y Y Y fun h=>Qo (ow Y h)<|ov Y)<|Rq Y (.guarded (((!decide (i.Places=0))&&(!y))==false) Y Y Y Y fun h=>Zf<|ow Y h)<|Rq Y (.guarded2 ((((!decide (i.Places=0))&&(!y))==false)&&((!decide (i.Low=0))==false)) Y Y Y Y fun h=>Ze (ov Y) Zfl)<|Rq Y (.guarded2 ((((!decide (i.Places=0))&&(!y))==false)&&((!decide (i.Low=0))==false)) Y Y Y Y fun h=>Zc (ow Y h) tS3 Y)<|Rq Y (.guarded2 ((((!decide (i.Places=0))&&(!y))==false)&&((!decide (i.Low=0))==false)) Y Y Y Y fun h=>Qo (ow Y h)<|ov Y)<|Rq Y (.guarded (((!decide (i.Places=0))&&(!y))==false) Y Y Y Y fun h=>Xi (ow Y h) fun hp=>ow Y<|gA h<|gF hp)<|Rq Y (.guarded (((!decide (i.Places=0))&&(!y))==false) Y Y Y Y fun h=>Zf<|ow Y h)<|Rq Y (.guarded2 ((((!decide (i.Places=0))&&(!y))==false)&&(((!decide (i.Low=0)) || (!decide (i.High=0)))==false)) Y Y Y Y fun h=>Ze (ov Y) ZgO)<|Rq Y (.guarded2 ((((!decide (i.Places=0))&&(!y))==false)&&(((!decide (i.Low=0)) || (!decide (i.High=0)))==false)) Y Y Y Y fun h=>Zc (ow Y h) tS3 Y)<|Rq Y (.guarded2 ((((!decide (i.Places=0))&&(!y))==false)&&(((!decide (i.Low=0)) || (!decide (i.High=0)))==false)) Y Y Y Y fun h=>Qo (ow Y h)<|ov Y)<|Rq Y (.guarded (((!decide (i.Places=0))&&(!y))==false) Y Y Y Y fun h=>Xi (ow Y h) fun hp=>ow Y<|gA h<|gF hp)<|Rq Y (.guarded (((!decide (i.Places=0))&&(!y))==false) Y Y Y Y fun h=>Zf<|ow Y h)<|Rq Y (.guarded2 ((((!decide (i.Places=0))&&(!y))==false)&&((((!decide (i.Low=0)) || (!decide (i.High=0))) || (!decide (i.Steps=0)))==false)) Y Y Y Y fun h=>Ze (ov Y) Zd6)<|Rq Y (.guarded2 ((((!decide (i.Places=0))&&(!y))==false)&&((((!decide (i.Low=0)) || (!decide (i.High=0))) || (!decide (i.Steps=0)))==false)) Y Y Y Y fun h=>Zc (ow Y h) ZjB Y)<|Rq Y (.guarded2 ((((!decide (i.Places=0))&&(!y))==false)&&((((!decide (i.Low=0)) || (!decide (i.High=0))) || (!decide (i.Steps=0)))==false)) Y Y Y Y fun h=>Zni (XW (ow Y h) tZ_136) Zhc<|ZjH _ _)<|Rq Y (.guarded2 ((((!decide (i.Places=0))&&(!y))==false)&&((((!decide (i.Low=0)) || (!decide (i.High=0))) || (!decide (i.Steps=0)))==false)) Y Y Y Y fun h=>Qq (ow Y h)<|ov Y)<|Rq Y (.guarded (((!decide (i.Places=0))&&(!y))==false) Y Y Y Y fun h=>Xi (ow Y h) fun hp=>ow Y<|gA h<|gF hp)<|Rq Y (.guarded (((!decide (i.Places=0))&&(!y))==false) Y Y Y Y fun h=>Zf<|ow Y h)<|Rq Y (.guarded2 ((((!decide (i.Places=0))&&(!y))==false)&&(((((!decide (i.Low=0)) || (!decide (i.High=0))) || (!decide (i.Steps=0))) || (decide (0<(i.Zones.length:Int))))==true)) Y Y Y Y fun h=>Zf<|ov Y)<|R_q (.when ((((!decide (i.Places=0))&&(!y))==false)&&(((((!decide (i.Low=0)) || (!decide (i.High=0))) || (!decide (i.Steps=0))) || (decide (0<(i.Zones.length:Int))))==true))<|.sl 3<|List.map R3 ([2]:List Int)) Y (.guarded2 ((((!decide (i.Places=0))&&(!y))==false)&&(((((!decide (i.Low=0)) || (!decide (i.High=0))) || (!decide (i.Steps=0))) || (decide (0<(i.Zones.length:Int))))==true)) Y Y Y Y fun h=>ZbU J3 (.cons (cvs (ov Y)<|ZB Y) Y (.cons (.b Y) .nil) .nil) Y Y)<|bE h fun y2 h_y2 h=>Rq Y (.guarded2 ((((!decide (i.Places=0))&&(!y))==false)&&(((((!decide (i.Low=0)) || (!decide (i.High=0))) || (!decide (i.Steps=0))) || (decide (0<(i.Zones.length:Int))))==true)) Y Y Y Y fun h=>ZcD (ow Y h) Y (Zaq<|gdT h_y2 h)<|.cons (ow Y h) (.b Y) .nil)<|Rq Y (.guarded2 ((((!decide (i.Places=0))&&(!y))==false)&&(((((!decide (i.Low=0)) || (!decide (i.High=0))) || (!decide (i.Steps=0))) || (decide (0<(i.Zones.length:Int))))==true)) Y Y Y Y fun h=>QA<|ow Y h)<|Rq Y (.guarded (((!decide (i.Places=0))&&(!y))==false) Y Y Y Y fun h=>ZQ (ow Y h) fun hp=>ow Y<|gA h<|gT hp)<|Rq Y (Xi (ov Y) fun hp=>ow Y<|gF hp)<|Rm Y<|Rq Y (.guarded ((((!decide (i.Places=0))&&(!y)) || (((((!decide (i.Low=0)) || (!decide (i.High=0))) || (!decide (i.Steps=0))) || (decide (0<(i.Zones.length:Int))))&&(!y2)))==false) Y Y Y Y fun h=>Ze (ov Y) Zhy)<|Rq Y (.guarded ((((!decide (i.Places=0))&&(!y)) || (((((!decide (i.Low=0)) || (!decide (i.High=0))) || (!decide (i.Steps=0))) || (decide (0<(i.Zones.length:Int))))&&(!y2)))==false) Y Y Y Y fun h=>Zc (ow Y h) tS3 Y)<|Rq Y (.guarded ((((!decide (i.Places=0))&&(!y)) || (((((!decide (i.Low=0)) || (!decide (i.High=0))) || (!decide (i.Steps=0))) || (decide (0<(i.Zones.length:Int))))&&(!y2)))==false) Y Y Y Y fun h=>Qo (ow Y h)<|ov Y)<|Rq Y (.guarded ((((!decide (i.Places=0))&&(!y)) || (((((!decide (i.Low=0)) || (!decide (i.High=0))) || (!decide (i.Steps=0))) || (decide (0<(i.Zones.length:Int))))&&(!y2)))==false) Y Y Y Y fun h=>Zf<|ow Y h)<|Rq Y (.guarded2 (((((!decide (i.Places=0))&&(!y)) || (((((!decide (i.Low=0)) || (!decide (i.High=0))) || (!decide (i.Steps=0))) || (decide (0<(i.Zones.length:Int))))&&(!y2)))==false)&&((!decide (i.Op=0))==false)) Y Y Y Y fun h=>Ze (ov Y) ZhI)<|Rq Y (.guarded2 (((((!decide (i.Places=0))&&(!y)) || (((((!decide (i.Low=0)) || (!decide (i.High=0))) || (!decide (i.Steps=0))) || (decide (0<(i.Zones.length:Int))))&&(!y2)))==false)&&((!decide (i.Op=0))==false)) Y Y Y Y fun h=>Zc (ow Y h) tS3 Y)<|Rq Y (.guarded2 (((((!decide (i.Places=0))&&(!y)) || (((((!decide (i.Low=0)) || (!decide (i.High=0))) || (!decide (i.Steps=0))) || (decide (0<(i.Zones.length:Int))))&&(!y2)))==false)&&((!decide (i.Op=0))==false)) Y Y Y Y fun h=>Qo (ow Y h)<|ov Y)<|Rq Y (.guarded ((((!decide (i.Places=0))&&(!y)) || (((((!decide (i.Low=0)) || (!decide (i.High=0))) || (!decide (i.Steps=0))) || (decide (0<(i.Zones.length:Int))))&&(!y2)))==false) Y Y Y Y fun h=>Xi (ow Y h) fun hp=>ow Y<|gA h<|gF hp)<|Rq Y (.guarded ((((!decide (i.Places=0))&&(!y)) || (((((!decide (i.Low=0)) || (!decide (i.High=0))) || (!decide (i.Steps=0))) || (decide (0<(i.Zones.length:Int))))&&(!y2)))==false) Y Y Y Y fun h=>Zf<|ow Y h)<|Rq Y (.guarded2 (((((!decide (i.Places=0))&&(!y)) || (((((!decide (i.Low=0)) || (!decide (i.High=0))) || (!decide (i.Steps=0))) || (decide (0<(i.Zones.length:Int))))&&(!y2)))==false)&&(((!decide (i.Op=0)) || (!decide (i.N=0)))==true)) Y Y Y Y fun h=>Zf<|ov Y)<|R_q (.when (((((!decide (i.Places=0))&&(!y)) || (((((!decide (i.Low=0)) || (!decide (i.High=0))) || (!decide (i.Steps=0))) || (decide (0<(i.Zones.length:Int))))&&(!y2)))==false)&&(((!decide (i.Op=0)) || (!decide (i.N=0)))==true))<|.sl 3<|List.map R3 ([3,5]:List Int)) Y (.guarded2 (((((!decide (i.Places=0))&&(!y)) || (((((!decide (i.Low=0)) || (!decide (i.High=0))) || (!decide (i.Steps=0))) || (decide (0<(i.Zones.length:Int))))&&(!y2)))==false)&&(((!decide (i.Op=0)) || (!decide (i.N=0)))==true)) Y Y Y Y fun h=>ZbU J3 (.cons (cvs (ov Y)<|ZB Y) Y (.cons (.b Y) .nil)<|.cons (cvs (ov Y)<|ZB Y) Y (.cons (.b Y) .nil) .nil) Y Y)<|bE h fun y3 h_y3 h=>Rq Y (.guarded2 (((((!decide (i.Places=0))&&(!y)) || (((((!decide (i.Low=0)) || (!decide (i.High=0))) || (!decide (i.Steps=0))) || (decide (0<(i.Zones.length:Int))))&&(!y2)))==false)&&(((!decide (i.Op=0)) || (!decide (i.N=0)))==true)) Y Y Y Y fun h=>ZcD (ow Y h) Y (Zaq<|gdT h_y3 h)<|.cons (ow Y h) (.b Y) .nil)<|Rq Y (.guarded2 (((((!decide (i.Places=0))&&(!y)) || (((((!decide (i.Low=0)) || (!decide (i.High=0))) || (!decide (i.Steps=0))) || (decide (0<(i.Zones.length:Int))))&&(!y2)))==false)&&(((!decide (i.Op=0)) || (!decide (i.N=0)))==true)) Y Y Y Y fun h=>QA<|ow Y h)<|Rq Y (.guarded ((((!decide (i.Places=0))&&(!y)) || (((((!decide (i.Low=0)) || (!decide (i.High=0))) || (!decide (i.Steps=0))) || (decide (0<(i.Zones.length:Int))))&&(!y2)))==false) Y Y Y Y fun h=>ZQ (ow Y h) fun hp=>ow Y<|gA h<|gT hp)<|Rq Y (Xi (ov Y) fun hp=>ow Y<|gF hp)<|Rm Y<|Rq Y (.guarded (((((!decide (i.Places=0))&&(!y)) || (((((!decide (i.Low=0)) || (!decide (i.High=0))) || (!decide (i.Steps=0))) || (decide (0<(i.Zones.length:Int))))&&(!y2))) || (((!decide (i.Op=0)) || (!decide (i.N=0)))&&(!y3)))==false) Y Y Y Y fun h=>Ze (ov Y) Zh1)<|Rq Y (.guarded (((((!decide (i.Places=0))&&(!y)) || (((((!decide (i.Low=0)) || (!decide (i.High=0))) || (!decide (i.Steps=0))) || (decide (0<(i.Zones.length:Int))))&&(!y2))) || (((!decide (i.Op=0)) || (!decide (i.N=0)))&&(!y3)))==false) Y Y Y Y fun h=>Zc (ow Y h) tS4 Y)<|Rq Y (.guarded (((((!decide (i.Places=0))&&(!y)) || (((((!decide (i.Low=0)) || (!decide (i.High=0))) || (!decide (i.Steps=0))) || (decide (0<(i.Zones.length:Int))))&&(!y2))) || (((!decide (i.Op=0)) || (!decide (i.N=0)))&&(!y3)))==false) Y Y Y Y fun h=>Zf<|ow Y h)<|Rq Y (.guarded2 ((((((!decide (i.Places=0))&&(!y)) || (((((!decide (i.Low=0)) || (!decide (i.High=0))) || (!decide (i.Steps=0))) || (decide (0<(i.Zones.length:Int))))&&(!y2))) || (((!decide (i.Op=0)) || (!decide (i.N=0)))&&(!y3)))==false)&&(i.Latch==true)) Y Y Y Y fun h=>Zf<|ov Y)<|R_q (.when ((((((!decide (i.Places=0))&&(!y)) || (((((!decide (i.Low=0)) || (!decide (i.High=0))) || (!decide (i.Steps=0))) || (decide (0<(i.Zones.length:Int))))&&(!y2))) || (((!decide (i.Op=0)) || (!decide (i.N=0)))&&(!y3)))==false)&&(i.Latch==true))<|.sl 3<|List.map R3 ([3]:List Int)) Y (.guarded2 ((((((!decide (i.Places=0))&&(!y)) || (((((!decide (i.Low=0)) || (!decide (i.High=0))) || (!decide (i.Steps=0))) || (decide (0<(i.Zones.length:Int))))&&(!y2))) || (((!decide (i.Op=0)) || (!decide (i.N=0)))&&(!y3)))==false)&&(i.Latch==true)) Y Y Y Y fun h=>ZbU J3 (.cons (cvs (ov Y)<|ZB Y) Y (.cons (.b Y) .nil) .nil) Y Y)<|bE h fun y4 h_y4 h=>Rq Y (.guarded2 ((((((!decide (i.Places=0))&&(!y)) || (((((!decide (i.Low=0)) || (!decide (i.High=0))) || (!decide (i.Steps=0))) || (decide (0<(i.Zones.length:Int))))&&(!y2))) || (((!decide (i.Op=0)) || (!decide (i.N=0)))&&(!y3)))==false)&&(i.Latch==true)) Y Y Y Y fun h=>ZcD (ow Y h) Y (Zaq<|gdT h_y4 h)<|.cons (ow Y h) (.b Y) .nil)<|Rq Y (.guarded2 ((((((!decide (i.Places=0))&&(!y)) || (((((!decide (i.Low=0)) || (!decide (i.High=0))) || (!decide (i.Steps=0))) || (decide (0<(i.Zones.length:Int))))&&(!y2))) || (((!decide (i.Op=0)) || (!decide (i.N=0)))&&(!y3)))==false)&&(i.Latch==true)) Y Y Y Y fun h=>QA<|ow Y h)<|Rq Y (.guarded (((((!decide (i.Places=0))&&(!y)) || (((((!decide (i.Low=0)) || (!decide (i.High=0))) || (!decide (i.Steps=0))) || (decide (0<(i.Zones.length:Int))))&&(!y2))) || (((!decide (i.Op=0)) || (!decide (i.N=0)))&&(!y3)))==false) Y Y Y Y fun h=>ZQ (ow Y h) fun hp=>ow Y<|gA h<|gT hp)<|Rq Y (Xi (ov Y) fun hp=>ow Y<|gF hp)<|Rm Y<|Rq Y (.guarded ((((((!decide (i.Places=0))&&(!y)) || (((((!decide (i.Low=0)) || (!decide (i.High=0))) || (!decide (i.Steps=0))) || (decide (0<(i.Zones.length:Int))))&&(!y2))) || (((!decide (i.Op=0)) || (!decide (i.N=0)))&&(!y3))) || (i.Latch&&(!y4)))==false) Y Y Y Y fun h=>Ze (ov Y) Zg9)<|Rq Y (.guarded ((((((!decide (i.Places=0))&&(!y)) || (((((!decide (i.Low=0)) || (!decide (i.High=0))) || (!decide (i.Steps=0))) || (decide (0<(i.Zones.length:Int))))&&(!y2))) || (((!decide (i.Op=0)) || (!decide (i.N=0)))&&(!y3))) || (i.Latch&&(!y4)))==false) Y Y Y Y fun h=>Zc (ow Y h) tS3 Y)<|Rq Y (.guarded ((((((!decide (i.Places=0))&&(!y)) || (((((!decide (i.Low=0)) || (!decide (i.High=0))) || (!decide (i.Steps=0))) || (decide (0<(i.Zones.length:Int))))&&(!y2))) || (((!decide (i.Op=0)) || (!decide (i.N=0)))&&(!y3))) || (i.Latch&&(!y4)))==false) Y Y Y Y fun h=>Qo (ow Y h)<|ov Y)<|Rq Y (.guarded ((((((!decide (i.Places=0))&&(!y)) || (((((!decide (i.Low=0)) || (!decide (i.High=0))) || (!decide (i.Steps=0))) || (decide (0<(i.Zones.length:Int))))&&(!y2))) || (((!decide (i.Op=0)) || (!decide (i.N=0)))&&(!y3))) || (i.Latch&&(!y4)))==false) Y Y Y Y fun h=>Zf<|ow Y h)<|Rq Y (.guarded2 (((((((!decide (i.Places=0))&&(!y)) || (((((!decide (i.Low=0)) || (!decide (i.High=0))) || (!decide (i.Steps=0))) || (decide (0<(i.Zones.length:Int))))&&(!y2))) || (((!decide (i.Op=0)) || (!decide (i.N=0)))&&(!y3))) || (i.Latch&&(!y4)))==false)&&((!decide (i.Size=0))==true)) Y Y Y Y fun h=>Zf<|ov Y)<|R_q (.when (((((((!decide (i.Places=0))&&(!y)) || (((((!decide (i.Low=0)) || (!decide (i.High=0))) || (!decide (i.Steps=0))) || (decide (0<(i.Zones.length:Int))))&&(!y2))) || (((!decide (i.Op=0)) || (!decide (i.N=0)))&&(!y3))) || (i.Latch&&(!y4)))==false)&&((!decide (i.Size=0))==true))<|.sl 3<|List.map R3 ([6]:List Int)) Y (.guarded2 (((((((!decide (i.Places=0))&&(!y)) || (((((!decide (i.Low=0)) || (!decide (i.High=0))) || (!decide (i.Steps=0))) || (decide (0<(i.Zones.length:Int))))&&(!y2))) || (((!decide (i.Op=0)) || (!decide (i.N=0)))&&(!y3))) || (i.Latch&&(!y4)))==false)&&((!decide (i.Size=0))==true)) Y Y Y Y fun h=>ZbU J3 (.cons (cvs (ov Y)<|ZB Y) Y (.cons (.b Y) .nil) .nil) Y Y)<|bE h fun y5 h_y5 h=>Rq Y (.guarded2 (((((((!decide (i.Places=0))&&(!y)) || (((((!decide (i.Low=0)) || (!decide (i.High=0))) || (!decide (i.Steps=0))) || (decide (0<(i.Zones.length:Int))))&&(!y2))) || (((!decide (i.Op=0)) || (!decide (i.N=0)))&&(!y3))) || (i.Latch&&(!y4)))==false)&&((!decide (i.Size=0))==true)) Y Y Y Y fun h=>ZcD (ow Y h) Y (Zaq<|gdT h_y5 h)<|.cons (ow Y h) (.b Y) .nil)<|Rq Y (.guarded2 (((((((!decide (i.Places=0))&&(!y)) || (((((!decide (i.Low=0)) || (!decide (i.High=0))) || (!decide (i.Steps=0))) || (decide (0<(i.Zones.length:Int))))&&(!y2))) || (((!decide (i.Op=0)) || (!decide (i.N=0)))&&(!y3))) || (i.Latch&&(!y4)))==false)&&((!decide (i.Size=0))==true)) Y Y Y Y fun h=>QA<|ow Y h)<|Rq Y (.guarded ((((((!decide (i.Places=0))&&(!y)) || (((((!decide (i.Low=0)) || (!decide (i.High=0))) || (!decide (i.Steps=0))) || (decide (0<(i.Zones.length:Int))))&&(!y2))) || (((!decide (i.Op=0)) || (!decide (i.N=0)))&&(!y3))) || (i.Latch&&(!y4)))==false) Y Y Y Y fun h=>ZQ (ow Y h) fun hp=>ow Y<|gA h<|gT hp)<|Rq Y (Xi (ov Y) fun hp=>ow Y<|gF hp)<|Ra Y<|Za<|?_
 obtain rfl:=rt h
 exact Zj (Zu Y (.one<|rb Y))
theorem Zd8{n:Int}{r:Bool}(h:Je n=some r):
 CSpec Tryz.prog gl0 126 [.int .i64 n] (.bool r):=by
 unfold Je at h
 replace h:=ZO h
 refine So Tryz.func126 Y fun w0 A=>Tr<|Ra Y<|Za<|Tr<|Rm Y<|bE h fun y h_y h=>Rq Y (Zn (QK h_y)<|.cons (ov Y) (.b Y)<|.cons (ov Y) (.b Y)<|.cons (ov Y) (.b Y) .nil)<|Ra Y<|Za<|?_
 obtain rfl:=rt h
 exact Zj (Zu Y (.one<|rb Y))
theorem Zhw{i:api_Instrument}{r:Int}(h:JB i=some r):
 CSpec Tryz.prog gl0 138 [.agg [.int .i64 i.Kind,.str i.Name,.str i.Track,.int .i64 i.Places,.int .i64 i.Low,.int .i64 i.High,.int .i64 i.Steps,.sl 136 (List.map R136 i.Zones),.int .i64 i.Op,.int .i64 i.N,.bool i.Latch,.int .i64 i.Size]] (.int .i64 r):=by
 unfold JB at h
 replace h:=ZO h
 refine So Tryz.func138 Y fun w0 A=>Tr<|Rq Y (ZP (cva<|ov Y) Y tZ_49 Y)<|Ra Y<|Za<|Zm<|Zl<|K1 1 Y<|Tr<|Rq Y (Ze (ov Y) ZdX)<|Rq Y (Zc (ov Y) tS3 Y)<|Rq Y (Ze (ov Y) Zfl)<|Rq Y (Zc (ov Y) tS3 Y)<|R2 Zaj Y<|Rm Y<|Rq Y (.guarded ((decide (i.High≤i.Low))==false) Y Y Y Y fun h=>Ze (ov Y) ZdX)<|Rq Y (.guarded ((decide (i.High≤i.Low))==false) Y Y Y Y fun h=>Zc (ow Y h) tS3 Y)<|bE h fun y h_y h=>Rq Y (.guarded ((decide (i.High≤i.Low))==false) Y Y Y Y fun h=>Zn (Zd8<|gdT h_y h)<|.cons (ow Y h) (.b Y) .nil)<|Rq Y (.guarded ((decide (i.High≤i.Low))==false) Y Y Y Y fun h=>QA<|ow Y h)<|Rq Y (Xi (ov Y) fun hp=>ow Y<|gF hp)<|Rm Y<|Rq Y (.guarded (((decide (i.High≤i.Low)) || (!y))==false) Y Y Y Y fun h=>Ze (ov Y) Zfl)<|Rq Y (.guarded (((decide (i.High≤i.Low)) || (!y))==false) Y Y Y Y fun h=>Zc (ow Y h) tS3 Y)<|bE h fun y2 h_y2 h=>Rq Y (.guarded (((decide (i.High≤i.Low)) || (!y))==false) Y Y Y Y fun h=>Zn (Zd8<|gdT h_y2 h)<|.cons (ow Y h) (.b Y) .nil)<|Rq Y (.guarded (((decide (i.High≤i.Low)) || (!y))==false) Y Y Y Y fun h=>QA<|ow Y h)<|Rq Y (Xi (ov Y) fun hp=>ow Y<|gF hp)<|Rm Y<|Rq Y (.guarded ((((decide (i.High≤i.Low)) || (!y)) || (!y2))==false) Y Y Y Y fun h=>Ze (ov Y) ZgO)<|Rq Y (.guarded ((((decide (i.High≤i.Low)) || (!y)) || (!y2))==false) Y Y Y Y fun h=>Zc (ow Y h) tS3 Y)<|bE h fun y3 h_y3 h=>Rq Y (.guarded ((((decide (i.High≤i.Low)) || (!y)) || (!y2))==false) Y Y Y Y fun h=>Zn (QK<|gdT h_y3 h)<|.cons (ow Y h) (.b Y)<|.cons (ov Y) (.b Y)<|.cons (ov Y) (.b Y) .nil)<|Rq Y (.guarded ((((decide (i.High≤i.Low)) || (!y)) || (!y2))==false) Y Y Y Y fun h=>QA<|ow Y h)<|Rq Y (Xi (ov Y) fun hp=>ow Y<|gF hp)<|Ra Y<|Za<|K2 1 5 Y<|If h Y (fun h=>?_) fun h=>?_
 ·
  refine K0<|Tr<|Ra Y<|Za<|?_
  obtain rfl:=rt h
  exact Zj (Zu Y (.one<|rb Y))
 ·
  refine K1 1 Y<|Tr<|Rq Y (Ze (ov Y) Zd6)<|Rq Y (Zc (ov Y) ZjB Y)<|Rl tZ_136 Zhc Y<|R2 Qq Y<|Ra Y<|Za<|K2 1 29 Y<|If h Y (fun h=>?_) fun h=>?_
  ·
   refine K0<|Tr<|Ra Y<|Za<|?_
   obtain rfl:=rt h
   exact Zj (Zu Y (.one<|rb Y))
  ·
   refine Zh<|J0 (fun j=>(.inr j)) ⟨[],[]⟩ h (fun h=>?_) fun h=>?_
   ·
    refine K1 1 Y<|Tr<|Rq Y (Ze (ov Y) Zd6)<|Rq Y (Zc (ov Y) ZjB Y)<|Rl tZ_136 Zhc Y<|Rm Y<|Za<|Zl<|?_
    obtain⟨r1,hl1,ho1⟩:=Xa h
    refine L1 (fun i2=>⟨[(1,.rp [.int .i64 i.Kind,.str i.Name,.str i.Track,.int .i64 i.Places,.int .i64 i.Low,.int .i64 i.High,.int .i64 i.Steps,.sl 136 (List.map R136 i.Zones),.int .i64 i.Op,.int .i64 i.N,.bool i.Latch,.int .i64 i.Size] 0),(35,.sl 136 (List.map R136 i.Zones)),(36,.int .i64 (i.Zones.length:Int)),(37,.int .i64 i2)],[]⟩) hl1 (ES []) fun n1 i2 h=>?_
    unfold Q1 at h
    refine Tr<|R2 ZV Y<|Za<|Zm<|If h Y (fun h=>?_) fun h=>?_
    ·
     refine Zh<|Zm<|Zl<|K4 1 35 36 37 Y<|Tr<|Rm Y<|bE h fun x h_x h=>Rq Y (ZU (ov Y) (ov Y) Zhc h_x)<|Rq Y (Zr (ov Y) Zja Y Y)<|Rx Y (Zz (row:= [_,_,_]) 0 Y Znf Y tZ_136)<|Ra Y<|Rx Y (Zk (ov Y) (ov Y) (Zo Zja Y) Y Y Y (Nat.le_of_ble_eq_true Y) (Zd Y) Y)<|Za<|Zl<|K6 1 3 4 35 36 37 Y<|Tr<|Rq Y (Zb (ov Y) Y Y ZjG)<|Rq Y (Zi (ov Y) Y Y Y tS9 Y)<|bE h fun y4 h_y4 h=>Rq Y (Zn (Zgg h_y4)<|.cons (ov Y) (.b Y) .nil)<|R1 QA Y<|Ra Y<|Za<|K7 1 3 4 35 36 37 42 Y<|If h Y (fun h=>?_) fun h=>?_
     ·
      refine K0<|Tr<|Ra Y<|Za<|?_
      replace h:=lx h▸ho1
      obtain rfl:=rt h
      exact Zj (Zu Y (.one<|rb Y))
     ·
      refine K6 1 3 4 35 36 37 Y<|Tr<|Rq Y (Zb (ov Y) Y Y Zg1)<|Rq Y (Zi (ov Y) Y Y Y tS3 Y)<|Rq Y (Zb (ov Y) Y Y Zg7)<|Rq Y (Zi (ov Y) Y Y Y tS3 Y)<|R2 Qq Y<|Ra Y<|Za<|K7 1 3 4 35 36 37 47 Y<|If h Y (fun h=>?_) fun h=>?_
      ·
       refine K0<|Tr<|Ra Y<|Za<|?_
       replace h:=lx h▸ho1
       obtain rfl:=rt h
       exact Zj (Zu Y (.one<|rb Y))
      ·
       refine K6 1 3 4 35 36 37 Y<|Td md0<|D1 0 Zf Y<|D2 1 Qq Y<|D1 2 Zf Y<|Dq 3 Y (.guarded ((decide (0<i2))==true) Y Y Y Y fun h=>Zb (ov Y) Y Y Zg1)<|Dq 4 Y (.guarded ((decide (0<i2))==true) Y Y Y Y fun h=>Zi (ow Y h) Y Y Y tS3 Y)<|Dq 5 Y (.guarded ((decide (0<i2))==true) Y Y Y Y fun h=>Ze (ov Y) Zd6)<|Dq 6 Y (.guarded ((decide (0<i2))==true) Y Y Y Y fun h=>Zc (ow Y h) ZjB Y)<|Dq 7 Y (.guarded ((decide (0<i2))==true) Y Y Y Y fun h=>Zf<|ov Y)<|Dq 8 Y (.guarded ((decide (0<i2))==true) Y Y Y Y fun h=>Ze9 (ow Y h) (ov Y) Y)<|bE h fun x2 h_x2 h=>Dq 9 Y (.guarded ((decide (0<i2))==true) Y Y Y Y fun h=>ZU (ow Y h) (ow Y h) Zhc<|gdT h_x2 h)<|Dq 10 Y (.guarded ((decide (0<i2))==true) Y Y Y Y fun h=>Ze (ow Y h) Zg7)<|Dq 11 Y (.guarded ((decide (0<i2))==true) Y Y Y Y fun h=>Zc (ow Y h) tS3 Y)<|Dq 12 Y (.guarded ((decide (0<i2))==true) Y Y Y Y fun h=>ZaD (ow Y h)<|ow Y h)<|Dq 13 Y (ZQ (ov Y) fun hp=>ow Y<|gT hp)<|D1 14 Qp Y<|Dd<|K5 1 35 36 37 53 Y<|If h Y (fun h=>?_) fun h=>?_
       ·
        refine K0<|Tr<|Ra Y<|Za<|?_
        replace h:=lx h▸ho1
        obtain rfl:=rt h
        exact Zj (Zu Y (.one<|rb Y))
       ·
        exact Zh<|K4 1 35 36 37 Y<|Zw<|R2 QB Y<|Rm Y<|Za<|⟨_,h,ES []⟩
    ·
     refine ZL<|?_
     replace h:=lx h▸ho1
     exact⟨(),h,ES []⟩
   ·
    replace h:=elr h
    replace h:=t0i h
    refine Tr<|Ra Y<|Za<|?_
    obtain rfl:=rt h
    exact Zj (Zu Y (.one<|rb Y))
theorem Zfj{i:api_Instrument}{r:Int}(h:QO i=some r):
 CSpec Tryz.prog gl0 97 [.agg [.int .i64 i.Kind,.str i.Name,.str i.Track,.int .i64 i.Places,.int .i64 i.Low,.int .i64 i.High,.int .i64 i.Steps,.sl 136 (List.map R136 i.Zones),.int .i64 i.Op,.int .i64 i.N,.bool i.Latch,.int .i64 i.Size]] (.int .i64 r):=by
 unfold QO at h
 replace h:=ZO h
 refine So Tryz.func97 Y fun w0 A=>Tr<|Rq Y (ZP (cva<|ov Y) Y tZ_49 Y)<|Ra Y<|Za<|Zm<|Zl<|K1 1 Y<|Tr<|Rq Y (Ze (ov Y) JK)<|Rq Y (Zc (ov Y) tS3 Y)<|bE h fun y h_y h=>Rq Y (Zn (QK h_y)<|.cons (ov Y) (.b Y)<|.cons (ov Y) (.b Y)<|.cons (ov Y) (.b Y) .nil)<|R1 QA Y<|Ra Y<|Za<|K2 1 3 Y<|If h Y (fun h=>?_) fun h=>?_
 ·
  refine K0<|Tr<|Ra Y<|Za<|?_
  obtain rfl:=rt h
  exact Zj (Zu Y (.one<|rb Y))
 ·
  refine K1 1 Y<|Tr<|Rq Y (Ze (ov Y) ZiQ)<|Rq Y (Zc (ov Y) tS9 Y)<|bE h fun y2 h_y2 h=>Rq Y (Zn (Zgg h_y2)<|.cons (ov Y) (.b Y) .nil)<|R1 QA Y<|Rm Y<|Rq Y (.guarded ((!y2)==false) Y Y Y Y fun h=>Ze (ov Y) ZhO)<|Rq Y (.guarded ((!y2)==false) Y Y Y Y fun h=>Zc (ow Y h) tS9 Y)<|Rq Y (.guarded ((!y2)==false) Y Y Y Y fun h=>Qm (ow Y h) Qr Y)<|bE h fun y3 h_y3 h=>Rq Y (.guarded ((!y2)==false) Y Y Y Y fun h=>Zn (QK<|gdT h_y3 h)<|.cons (ow Y h) (.b Y)<|.cons (ov Y) (.b Y)<|.cons (ov Y) (.b Y) .nil)<|Rq Y (.guarded ((!y2)==false) Y Y Y Y fun h=>QA<|ow Y h)<|Rq Y (Xi (ov Y) fun hp=>ow Y<|gF hp)<|Ra Y<|Za<|K2 1 8 Y<|If h Y (fun h=>?_) fun h=>?_
  ·
   refine K0<|Tr<|Ra Y<|Za<|?_
   obtain rfl:=rt h
   exact Zj (Zu Y (.one<|rb Y))
  ·
   refine K1 1 Y<|Tr<|Rq Y (Zr (ov Y) Zcj Y Y)<|bE h fun y4 h_y4 h=>Rq Y (Zn (Zjv h_y4)<|.cons (ov Y) (.aggB Y) .nil)<|Ra Y<|Za<|K2 1 20 Y<|If h Y (fun h=>?_) fun h=>?_
   ·
    refine K0<|Tr<|Ra Y<|Za<|?_
    obtain rfl:=rt h
    exact Zj (Zu Y (.one<|rb Y))
   ·
    refine K1 1 Y<|Tr<|Rq Y (Ze (ov Y) ZeK)<|Rq Y (Zc (ov Y) tS3 Y)<|bE h fun y5 h_y5 h=>Rq Y (Zn (QK h_y5)<|.cons (ov Y) (.b Y)<|.cons (ov Y) (.b Y)<|.cons (ov Y) (.b Y) .nil)<|R1 QA Y<|Ra Y<|Za<|K2 1 23 Y<|If h Y (fun h=>?_) fun h=>?_
    ·
     refine K0<|Tr<|Ra Y<|Za<|?_
     obtain rfl:=rt h
     exact Zj (Zu Y (.one<|rb Y))
    ·
     refine Zh<|Zm<|K1 1 Y<|Tr<|Rq Y (Ze (ov Y) JK)<|Rq Y (Zc (ov Y) tS3 Y)<|Za<|Zl<|K2 1 29 Y<|Tr<|R2 ZT Y<|Ra Y<|Za<|K3 1 29 30 Y<|If h Y (fun h=>?_) fun h=>?_
     ·
      refine K1 1 Y<|Tr<|Rq Y (Zr (ov Y) Zcj Y Y)<|bE h fun y6 h_y6 h=>Rq Y (Zn (Zhw h_y6)<|.cons (ov Y) (.aggB Y) .nil)<|Ra Y<|Za<|?_
      obtain rfl:=rt h
      exact Zj (Zu Y (.one<|rb Y))
     ·
      refine I1 (fun v=>⟨[(1,.rp [.int .i64 i.Kind,.str i.Name,.str i.Track,.int .i64 i.Places,.int .i64 i.Low,.int .i64 i.High,.int .i64 i.Steps,.sl 136 (List.map R136 i.Zones),.int .i64 i.Op,.int .i64 i.N,.bool i.Latch,.int .i64 i.Size] 0),(29,.int .i64 i.Kind),(34,.bool v)],[]⟩) h (fun h=>?_) fun v h=>?_
      ·
       refine K2 1 29 Y<|Tr<|R2 ZT Y<|Ra Y<|Za<|K3 1 29 34 Y<|If h Y (fun h=>?_) fun h=>?_
       ·
        exact Zh<|⟨_,h,ES []⟩
       ·
        exact Zw<|R2 ZT Y<|Ra Y<|Za<|⟨_,h,ES []⟩
      ·
       refine If h Y (fun h=>?_) fun h=>?_
       ·
        refine Zm<|K1 1 Y<|Tr<|Rq Y (Ze (ov Y) Zhy)<|Rq Y (Zc (ov Y) tS3 Y)<|bE h fun y7 h_y7 h=>Rq Y (Zn (QK h_y7)<|.cons (ov Y) (.b Y)<|.cons (ov Y) (.b Y)<|.cons (ov Y) (.b Y) .nil)<|R1 QA Y<|Za<|K2 1 40 Y<|If h Y (fun h=>?_) fun h=>?_
        ·
         refine K0<|Tr<|Ra Y<|Za<|?_
         obtain rfl:=rt h
         exact Zj (Zu Y (.one<|rb Y))
        ·
         refine Zh<|K1 1 Y<|Tr<|Rq Y (Ze (ov Y) ZhI)<|Rq Y (Zc (ov Y) tS3 Y)<|bE h fun y8 h_y8 h=>Rq Y (Zn (Zd8 h_y8)<|.cons (ov Y) (.b Y) .nil)<|R1 QA Y<|Za<|K1 44 Y<|If h Y (fun h=>?_) fun h=>?_
         ·
          refine K0<|Tr<|Ra Y<|Za<|?_
          obtain rfl:=rt h
          exact Zj (Zu Y (.one<|rb Y))
         ·
          refine Zh<|K0<|Tr<|Ra Y<|Za<|?_
          obtain rfl:=rt h
          exact Zj (Zu Y (.one<|rb Y))
       ·
        refine K2 1 29 Y<|Tr<|R2 ZT Y<|Ra Y<|Za<|K2 1 45 Y<|If h Y (fun h=>?_) fun h=>?_
        ·
         refine K1 1 Y<|Tr<|Rq Y (Ze (ov Y) Zg9)<|Rq Y (Zc (ov Y) tS3 Y)<|bE h fun y9 h_y9 h=>Rq Y (Zn (QK h_y9)<|.cons (ov Y) (.b Y)<|.cons (ov Y) (.b Y)<|.cons (ov Y) (.b Y) .nil)<|R1 QA Y<|Za<|K1 50 Y<|If h Y (fun h=>?_) fun h=>?_
         ·
          refine K0<|Tr<|Ra Y<|Za<|?_
          obtain rfl:=rt h
          exact Zj (Zu Y (.one<|rb Y))
         ·
          refine Zh<|K0<|Tr<|Ra Y<|Za<|?_
          obtain rfl:=rt h
          exact Zj (Zu Y (.one<|rb Y))
        ·
         refine Zh<|K0<|Tr<|Ra Y<|Za<|?_
         obtain rfl:=rt h
         exact Zj (Zu Y (.one<|rb Y))
theorem JZ{s:List api_Instrument}{f:api_Instrument→Option Bool}{r:Int}{f_f:FuncId}{f_c:List AV}(f_d:f_c.all datB=true)(f_h: ∀ (z0:api_Instrument) z,f z0=some z→CSpec Tryz.prog gl0 f_f ([.agg [.int .i64 z0.Kind,.str z0.Name,.str z0.Track,.int .i64 z0.Places,.int .i64 z0.Low,.int .i64 z0.High,.int .i64 z0.Steps,.sl 136 (List.map R136 z0.Zones),.int .i64 z0.Op,.int .i64 z0.N,.bool z0.Latch,.int .i64 z0.Size]]++f_c) (.bool z))(h:ZH s f=some r):
 CSpec Tryz.prog gl0 115 [.sl 49 (List.map R49 s),.fn f_f f_c] (.int .i64 r):=by
 unfold ZH at h
 replace h:=ZO h
 refine So Tryz.func115 Y fun w0 A=>Tr<|Ra Y<|Za<|J0 (fun j=>(.inr j)) ⟨[],[]⟩ h (fun h=>?_) fun h=>?_
 ·
  refine K2 0 1 Y<|Tr<|Rm Y<|Rl tZ_49 ZcI Y<|Rm Y<|Za<|Zl<|?_
  obtain⟨r1,hl1,ho1⟩:=Xa h
  refine L1 (fun i=>⟨[(0,.sl 49 (List.map R49 s)),(1,.fn f_f f_c),(7,.int .i64 (s.length:Int)),(8,.int .i64 i)],[]⟩) hl1 (ES []<|sd 0 Y Y<|sr 1 Y (rFn<|rld f_d)<|sd 7 Y Y<|sd 8 Y Y sn) fun n1 i h=>?_
  unfold Zx at h
  refine Tr<|R2 ZV Y<|Za<|Zm<|If h Y (fun h=>?_) fun h=>?_
  ·
   refine Zh<|Zm<|Zl<|K4 0 1 7 8 Y<|Tr<|Rm Y<|Ra Y<|Za<|K5 0 1 5 7 8 Y<|Tr<|Rm Y<|Rm Y<|Rm Y<|bE h fun x h_x h=>Rq Y (ZU (ov Y) (ov Y) ZcI h_x)<|Rq Y (Zr (ov Y) Zcj Y Y)<|bE h fun y h_y h=>Rq Y (ZcD (ov Y) f_d (f_h _ _ h_y)<|.cons (ov Y) (.aggB Y) .nil)<|Za<|K6 0 1 5 7 8 16 Y<|If h Y (fun h=>?_) fun h=>?_
   ·
    refine K1 5 Y<|Tr<|Rm Y<|Ra Y<|Za<|?_
    replace h:=lx h▸ho1
    obtain rfl:=rt h
    exact Zj (Zu Y (.one<|rb Y))
   ·
    exact Zh<|K4 0 1 7 8 Y<|Zw<|R2 QB Y<|Rm Y<|Za<|⟨_,h,ES []<|sd 0 Y Y<|sr 1 Y (rFn<|rld f_d)<|sd 7 Y Y<|sd 8 Y Y sn⟩
  ·
   refine ZL<|?_
   replace h:=lx h▸ho1
   exact⟨(),h,ES []⟩
 ·
  replace h:=elr h
  replace h:=t0i h
  refine Tr<|Ra Y<|Za<|?_
  obtain rfl:=rt h
  exact Zj (Zu Y (.one<|rb Y))
theorem QV{s:List api_Instrument}{f:api_Instrument→Option Bool}{r:Bool}{f_f:FuncId}{f_c:List AV}(f_d:f_c.all datB=true)(f_h: ∀ (z0:api_Instrument) z,f z0=some z→CSpec Tryz.prog gl0 f_f ([.agg [.int .i64 z0.Kind,.str z0.Name,.str z0.Track,.int .i64 z0.Places,.int .i64 z0.Low,.int .i64 z0.High,.int .i64 z0.Steps,.sl 136 (List.map R136 z0.Zones),.int .i64 z0.Op,.int .i64 z0.N,.bool z0.Latch,.int .i64 z0.Size]]++f_c) (.bool z))(h:Zs s f=some r):
 CSpec Tryz.prog gl0 76 [.sl 49 (List.map R49 s),.fn f_f f_c] (.bool r):=by
 unfold Zs at h
 replace h:=ZO h
 refine So Tryz.func76 Y fun w0 A=>Tr<|Ra Y<|Za<|Tr<|Rm Y<|Rm Y<|bE h fun y h_y h=>Rq Y (Zn (JZ f_d f_h h_y)<|.cons (ov Y) (.b Y)<|.cons (ov Y) (Dat.fnC<|.refl fun x hx=> .b<|List.all_eq_true.1 f_d x hx) .nil)<|R2 Zaj Y<|Ra Y<|Za<|?_
 obtain rfl:=rt h
 exact Zj (Zu Y (.one<|rb Y))
theorem Ziz{x:api_Instrument}{c0:api_Instrument}{r:Bool}(h:ZbH x c0=some r):
 CSpec Tryz.prog gl0 98 [.agg [.int .i64 x.Kind,.str x.Name,.str x.Track,.int .i64 x.Places,.int .i64 x.Low,.int .i64 x.High,.int .i64 x.Steps,.sl 136 (List.map R136 x.Zones),.int .i64 x.Op,.int .i64 x.N,.bool x.Latch,.int .i64 x.Size],.rp [.int .i64 c0.Kind,.str c0.Name,.str c0.Track,.int .i64 c0.Places,.int .i64 c0.Low,.int .i64 c0.High,.int .i64 c0.Steps,.sl 136 (List.map R136 c0.Zones),.int .i64 c0.Op,.int .i64 c0.N,.bool c0.Latch,.int .i64 c0.Size] 0] (.bool r):=by
 unfold ZbH at h
 replace h:=ZO h
 refine So Tryz.func98 Y fun w0 A=>Tr<|Rq Y (ZP (cva<|ov Y) Y tZ_49 Y)<|Ra Y<|Za<|K3 1 2 3 Y<|Tr<|Rq Y (Ze (ov Y) ZiQ)<|Rq Y (Zc (ov Y) tS9 Y)<|Rq Y (Ze (ov Y) ZiQ)<|Rq Y (Zc (ov Y) tS9 Y)<|R2 Qv Y<|Ra Y<|Za<|?_
 obtain rfl:=rt h
 exact Zj (Zu Y (.one<|rb Y))
theorem ZjN{p:api_Panel}{r:Int}(h:Zb3 p=some r):
 CSpec Tryz.prog gl0 53 [.agg [.sl 49 (List.map R49 p.Instruments)]] (.int .i64 r):=by
 unfold Zb3 at h
 replace h:=ZO h
 refine So Tryz.func53 Y fun w0 A=>Tr<|Rq Y (ZP (cva<|ov Y) Y tZ_24 Y)<|Ra Y<|Za<|Zm<|K1 1 Y<|Tr<|Rq Y (Ze (ov Y) Zbj)<|Rq Y (Zc (ov Y) Zf0 Y)<|Rl tZ_49 ZcI Y<|R2 Qq Y<|Za<|K2 1 9 Y<|If h Y (fun h=>?_) fun h=>?_
 ·
  refine K0<|Tr<|Ra Y<|Za<|?_
  obtain rfl:=rt h
  exact Zj (Zu Y (.one<|rb Y))
 ·
  refine Zh<|J0 (fun j=>(.inr j)) ⟨[],[]⟩ h (fun h=>?_) fun h=>?_
  ·
   refine K1 1 Y<|Tr<|Rq Y (Ze (ov Y) Zbj)<|Rq Y (Zc (ov Y) Zf0 Y)<|Rl tZ_49 ZcI Y<|Rm Y<|Za<|Zl<|?_
   obtain⟨r1,hl1,ho1⟩:=Xa h
   refine L1 (fun i=>⟨[(1,.rp [.sl 49 (List.map R49 p.Instruments)] 0),(11,.sl 49 (List.map R49 p.Instruments)),(12,.int .i64 (p.Instruments.length:Int)),(13,.int .i64 i)],[]⟩) hl1 (ES []) fun n1 i h=>?_
   unfold Jq at h
   refine Tr<|R2 ZV Y<|Za<|Zm<|If h Y (fun h=>?_) fun h=>?_
   ·
    refine Zh<|Zm<|Zl<|K4 1 11 12 13 Y<|Tr<|Rm Y<|bE h fun x h_x h=>Rq Y (ZU (ov Y) (ov Y) ZcI h_x)<|Rq Y (Zr (ov Y) Zcj Y Y)<|Rx Y (Zz (row:= [_,_,_,_,_,_,_,_,_,_,_,_]) 0 Y Zlw Y tZ_49)<|Ra Y<|Rx Y (Zk (ov Y) (ov Y) (Zo Zcj Y) Y Y Y (Nat.le_of_ble_eq_true Y) (Zd Y) Y)<|Za<|Zm<|K6 1 3 4 11 12 13 Y<|Tr<|Rq Y (ZG (ov Y) Y Y Y Zcj Y Y)<|bE h fun y h_y h=>Rq Y (Zn (Zfj h_y)<|.cons (ov Y) (.aggB Y) .nil)<|Ra Y<|Za<|K7 1 3 4 5 11 12 13 Y<|Tr<|Rm Y<|R2 Qo Y<|Za<|K8 1 3 4 5 11 12 13 21 Y<|If h Y (fun h=>?_) fun h=>?_
    ·
     refine K1 5 Y<|Tr<|Rm Y<|Ra Y<|Za<|?_
     replace h:=lx h▸ho1
     obtain rfl:=rt h
     exact Zj (Zu Y (.one<|rb Y))
    ·
     refine Zh<|K6 1 3 4 11 12 13 Y<|Tr<|Rq Y (Ze (ov Y) Zbj)<|Rq Y (Zc (ov Y) Zf0 Y)<|Rm Y<|bE h fun l h_l h=>Rq Y (ZgG (ov Y) ZcI on (oi<|ov Y) h_l)<|Zk3 (Ent.sel [none] (sd 1 Y Y<|sd 3 Y Y<|sr 4 Y (.frp ⟨Y,⟨_,Y⟩,Y,Y⟩)<|sd 11 Y Y<|sd 12 Y Y<|sd 13 Y Y<|sd 23 Y Y<|sd 24 Y Y<|sd 25 Y Y<|sd 26 Y Y sn) (.row 49 .nil) Y Y)<|Rq Y (Zdm<|.cons (ov Y) .nil)<|bE h fun y2 h_y2 h=>Rq Y (Zn (QV Y (fun z0 _ hz=>Ziz hz) h_y2)<|.cons (ov Y) (.b Y)<|.cons (ov Y) (.fnC<|.cons (.b Y) .nil) .nil)<|Za<|K5 1 11 12 13 28 Y<|If h Y (fun h=>?_) fun h=>?_
     ·
      refine K0<|Tr<|Ra Y<|Za<|?_
      replace h:=lx h▸ho1
      obtain rfl:=rt h
      exact Zj (Zu Y (.one<|rb Y))
     ·
      exact Zh<|K4 1 11 12 13 Y<|Zw<|R2 QB Y<|Rm Y<|Za<|⟨_,h,ES []⟩
   ·
    refine ZL<|?_
    replace h:=lx h▸ho1
    exact⟨(),h,ES []⟩
  ·
   replace h:=elr h
   replace h:=t0i h
   refine Tr<|Ra Y<|Za<|?_
   obtain rfl:=rt h
   exact Zj (Zu Y (.one<|rb Y))
theorem Zgh{n:Int}{low:Int}{high:Int}{r:Bool}(h:Zao n low high=some r):
 CSpec Tryz.prog gl0 114 [.int .i64 n,.int .i64 low,.int .i64 high] (.bool r):=by
 unfold Zao at h
 replace h:=ZO h
 refine So Tryz.func114 Y fun w0 A=>Tr<|Ra Y<|Za<|Tr<|Rm Y<|Rm Y<|R2 Zaj Y<|Rm Y<|Rq Y (.guarded ((decide (low≤n))==true) Y Y Y Y fun h=>Zf<|ov Y)<|Rq Y (.guarded ((decide (low≤n))==true) Y Y Y Y fun h=>Zf<|ov Y)<|Rq Y (.guarded ((decide (low≤n))==true) Y Y Y Y fun h=>ZaD (ow Y h)<|ow Y h)<|Rq Y (ZQ (ov Y) fun hp=>ow Y<|gT hp)<|Ra Y<|Za<|?_
 obtain rfl:=rt h
 exact Zj (Zu Y (.one<|rb Y))
theorem Zjw{s:Str}{r:Bool}(h:Zbr s=some r):
 CSpec Tryz.prog gl0 148 [.str s] (.bool r):=by
 unfold Zbr at h
 replace h:=ZO h
 refine So Tryz.func148 Y fun w0 A=>Tr<|Ra Y<|Za<|Zm<|K1 0 Y<|Tr<|Rm Y<|Za<|Zl<|I1 (fun v=>⟨[(4,.bool v)],[]⟩) h (fun h=>?_) fun v h=>?_
 ·
  refine K1 3 Y<|Tr<|R2 Qv Y<|Ra Y<|Za<|K2 3 4 Y<|ZhL h Y (fun b4 h=>?_) fun b4 h=>?_
  ·
   exact Zh<|⟨_,h,ES []⟩
  ·
   refine Tr<|R2 Qv Y<|Ra Y<|Za<|K2 3 4 Y<|ZhL h Y (fun b4 h=>?_) fun b4 h=>?_
   ·
    exact Zh<|⟨_,h,ES []⟩
   ·
    refine Tr<|R2 Qv Y<|Ra Y<|Za<|K2 3 4 Y<|ZhL h Y (fun b4 h=>?_) fun b4 h=>?_
    ·
     exact Zh<|⟨_,h,ES []⟩
    ·
     refine Tr<|R2 Qv Y<|Ra Y<|Za<|K2 3 4 Y<|ZhL h Y (fun b4 h=>?_) fun b4 h=>?_
     ·
      exact Zh<|⟨_,h,ES []⟩
     ·
      refine Tr<|R2 Qv Y<|Ra Y<|Za<|K2 3 4 Y<|ZhL h Y (fun b4 h=>?_) fun b4 h=>?_
      ·
       exact Zh<|⟨_,h,ES []⟩
      ·
       refine Tr<|R2 Qv Y<|Ra Y<|Za<|K2 3 4 Y<|ZhL h Y (fun b4 h=>?_) fun b4 h=>?_
       ·
        exact Zh<|⟨_,h,ES []⟩
       ·
        refine Tr<|R2 Qv Y<|Ra Y<|Za<|K2 3 4 Y<|ZhL h Y (fun b4 h=>?_) fun b4 h=>?_
        ·
         exact Zh<|⟨_,h,ES []⟩
        ·
         refine Tr<|R2 Qv Y<|Ra Y<|Za<|K2 3 4 Y<|ZhL h Y (fun b4 h=>?_) fun b4 h=>?_
         ·
          exact Zh<|⟨_,h,ES []⟩
         ·
          refine Tr<|R2 Qv Y<|Ra Y<|Za<|K2 3 4 Y<|ZhL h Y (fun b4 h=>?_) fun b4 h=>?_
          ·
           exact Zh<|⟨_,h,ES []⟩
          ·
           refine Tr<|R2 Qv Y<|Ra Y<|Za<|K2 3 4 Y<|ZhL h Y (fun b4 h=>?_) fun b4 h=>?_
           ·
            exact Zh<|⟨_,h,ES []⟩
           ·
            refine Tr<|R2 Qv Y<|Ra Y<|Za<|K2 3 4 Y<|ZhL h Y (fun b4 h=>?_) fun b4 h=>?_
            ·
             exact Zh<|⟨_,h,ES []⟩
            ·
             refine Tr<|R2 Qv Y<|Ra Y<|Za<|K2 3 4 Y<|ZhL h Y (fun b4 h=>?_) fun b4 h=>?_
             ·
              exact Zh<|⟨_,h,ES []⟩
             ·
              refine Tr<|R2 Qv Y<|Ra Y<|Za<|K2 3 4 Y<|ZhL h Y (fun b4 h=>?_) fun b4 h=>?_
              ·
               exact Zh<|⟨_,h,ES []⟩
              ·
               refine Tr<|R2 Qv Y<|Ra Y<|Za<|K2 3 4 Y<|ZhL h Y (fun b4 h=>?_) fun b4 h=>?_
               ·
                exact Zh<|⟨_,h,ES []⟩
               ·
                refine Tr<|R2 Qv Y<|Ra Y<|Za<|K2 3 4 Y<|If h Y (fun h=>?_) fun h=>?_
                ·
                 exact Zh<|⟨_,h,ES []⟩
                ·
                 exact Zw<|R2 Qv Y<|Ra Y<|Za<|⟨_,h,ES []⟩
 ·
  refine If h Y (fun h=>?_) fun h=>?_
  ·
   refine K0<|Tr<|Ra Y<|Za<|?_
   obtain rfl:=rt h
   exact Zj (Zu Y (.one<|rb Y))
  ·
   refine Zh<|K0<|Tr<|Ra Y<|Za<|?_
   obtain rfl:=rt h
   exact Zj (Zu Y (.one<|rb Y))
theorem Zik{c_:Int}{r:Bool}(h:Za0 c_=some r):
 CSpec Tryz.prog gl0 149 [.int .u8 c_] (.bool r):=by
 unfold Za0 at h
 replace h:=ZO h
 refine So Tryz.func149 Y fun w0 A=>Tr<|Ra Y<|Za<|Tr<|Rm Y<|R2 Zaj Y<|Rm Y<|Rq Y (.guarded ((decide (97≤c_))==true) Y Y Y Y fun h=>Zf<|ov Y)<|Rq Y (.guarded ((decide (97≤c_))==true) Y Y Y Y fun h=>ZaD (ow Y h)<|ov Y)<|Rq Y (ZQ (ov Y) fun hp=>ow Y<|gT hp)<|Rm Y<|Rq Y (.guarded (((decide (97≤c_))&&(decide (c_≤122)))==false) Y Y Y Y fun h=>Zf<|ov Y)<|Rq Y (.guarded (((decide (97≤c_))&&(decide (c_≤122)))==false) Y Y Y Y fun h=>Zaj (ow Y h)<|ov Y)<|Rq Y (.guarded (((decide (97≤c_))&&(decide (c_≤122)))==false) Y Y Y Y fun h=>Zf<|ow Y h)<|Rq Y (.guarded2 ((((decide (97≤c_))&&(decide (c_≤122)))==false)&&((decide (48≤c_))==true)) Y Y Y Y fun h=>Zf<|ov Y)<|Rq Y (.guarded2 ((((decide (97≤c_))&&(decide (c_≤122)))==false)&&((decide (48≤c_))==true)) Y Y Y Y fun h=>ZaD (ow Y h)<|ov Y)<|Rq Y (.guarded (((decide (97≤c_))&&(decide (c_≤122)))==false) Y Y Y Y fun h=>ZQ (ow Y h) fun hp=>ow Y<|gA h<|gT hp)<|Rq Y (Xi (ov Y) fun hp=>ow Y<|gF hp)<|Rm Y<|Rq Y (.guarded ((((decide (97≤c_))&&(decide (c_≤122))) || ((decide (48≤c_))&&(decide (c_≤57))))==false) Y Y Y Y fun h=>Zf<|ov Y)<|Rq Y (.guarded ((((decide (97≤c_))&&(decide (c_≤122))) || ((decide (48≤c_))&&(decide (c_≤57))))==false) Y Y Y Y fun h=>ZT (ow Y h)<|ov Y)<|Rq Y (Xi (ov Y) fun hp=>ow Y<|gF hp)<|Ra Y<|Za<|?_
 obtain rfl:=rt h
 exact Zj (Zu Y (.one<|rb Y))
theorem Zjj{s:Str}{r:Bool}(h:Zbh s=some r):
 CSpec Tryz.prog gl0 110 [.str s] (.bool r):=by
 unfold Zbh at h
 replace h:=ZO h
 refine So Tryz.func110 Y fun w0 A=>Tr<|Ra Y<|Za<|Zm<|K1 0 Y<|Tr<|Rm Y<|Rq Y (Qm (ov Y) Qr Y)<|bE h fun y h_y h=>Rq Y (Zn (Zgh h_y)<|.cons (ov Y) (.b Y)<|.cons (ov Y) (.b Y)<|.cons (ov Y) (.b Y) .nil)<|R1 QA Y<|Rm Y<|Rq Y (.guarded ((!y)==false) Y Y Y Y fun h=>Zf<|ov Y)<|bE h fun b h_b h=>Rq Y (.guarded ((!y)==false) Y Y Y Y fun h=>XF (ow Y h) (ov Y) Qr<|gdT h_b h)<|Rq Y (.guarded ((!y)==false) Y Y Y Y fun h=>ZV (ow Y h)<|ov Y)<|Rq Y (Xi (ov Y) fun hp=>ow Y<|gF hp)<|Rm Y<|Rq Y (.guarded (((!y) || (decide (b<97)))==false) Y Y Y Y fun h=>Zf<|ov Y)<|bE h fun b2 h_b2 h=>Rq Y (.guarded (((!y) || (decide (b<97)))==false) Y Y Y Y fun h=>XF (ow Y h) (ov Y) Qr<|gdT h_b2 h)<|Rq Y (.guarded (((!y) || (decide (b<97)))==false) Y Y Y Y fun h=>Qq (ow Y h)<|ov Y)<|Rq Y (Xi (ov Y) fun hp=>ow Y<|gF hp)<|Rm Y<|Rq Y (.guarded ((((!y) || (decide (b<97))) || (decide (122<b2)))==false) Y Y Y Y fun h=>Zf<|ov Y)<|bE h fun y2 h_y2 h=>Rq Y (.guarded ((((!y) || (decide (b<97))) || (decide (122<b2)))==false) Y Y Y Y fun h=>Zn (Zjw<|gdT h_y2 h)<|.cons (ow Y h) (.b Y) .nil)<|Rq Y (Xi (ov Y) fun hp=>ow Y<|gF hp)<|Za<|K2 0 21 Y<|If h Y (fun h=>?_) fun h=>?_
 ·
  refine K0<|Tr<|Ra Y<|Za<|?_
  obtain rfl:=rt h
  exact Zj (Zu Y (.one<|rb Y))
 ·
  refine Zh<|J0 (fun j=>(.inr j)) ⟨[],[]⟩ h (fun h=>?_) fun h=>?_
  ·
   refine K1 0 Y<|Tr<|Rm Y<|Rq Y (Qm (ov Y) Qr Y)<|Rm Y<|Za<|Zl<|?_
   obtain⟨r1,hl1,ho1⟩:=Xa h
   refine L1 (fun i=>⟨[(0,.str s),(23,.int .i64 (s.length:Int)),(24,.int .i64 i)],[]⟩) hl1 (ES []) fun n1 i h=>?_
   unfold XU at h
   refine Tr<|R2 ZV Y<|Za<|Zm<|If h Y (fun h=>?_) fun h=>?_
   ·
    refine Zh<|Zm<|Zl<|K3 0 23 24 Y<|Tr<|Rm Y<|Ra Y<|Za<|K4 0 3 23 24 Y<|Tr<|Rm Y<|Rm Y<|bE h fun b3 h_b3 h=>Rq Y (XF (ov Y) (ov Y) Qr h_b3)<|bE h fun y3 h_y3 h=>Rq Y (Zn (Zik h_y3)<|.cons (ov Y) (.b Y) .nil)<|R1 QA Y<|Za<|K4 0 23 24 31 Y<|If h Y (fun h=>?_) fun h=>?_
    ·
     refine K0<|Tr<|Ra Y<|Za<|?_
     replace h:=lx h▸ho1
     obtain rfl:=rt h
     exact Zj (Zu Y (.one<|rb Y))
    ·
     exact Zh<|K3 0 23 24 Y<|Zw<|R2 QB Y<|Rm Y<|Za<|⟨_,h,ES []⟩
   ·
    refine ZL<|?_
    replace h:=lx h▸ho1
    exact⟨(),h,ES []⟩
  ·
   replace h:=elr h
   replace h:=t0i h
   refine Tr<|Ra Y<|Za<|?_
   obtain rfl:=rt h
   exact Zj (Zu Y (.one<|rb Y))
theorem X9{s:List api_Track}{f:api_Track→Option Bool}{r:Int}{f_f:FuncId}{f_c:List AV}(f_d:f_c.all datB=true)(f_h: ∀ (z0:api_Track) z,f z0=some z→CSpec Tryz.prog gl0 f_f ([.agg [.str z0.Name,.int .i64 z0.Series.Den,.sl 56 (List.map R56 z0.Series.Samples),.int .i64 z0.Long]]++f_c) (.bool z))(h:ZJ s f=some r):
 CSpec Tryz.prog gl0 116 [.sl 54 (List.map R54 s),.fn f_f f_c] (.int .i64 r):=by
 unfold ZJ at h
 replace h:=ZO h
 refine So Tryz.func116 Y fun w0 A=>Tr<|Ra Y<|Za<|J0 (fun j=>(.inr j)) ⟨[],[]⟩ h (fun h=>?_) fun h=>?_
 ·
  refine K2 0 1 Y<|Tr<|Rm Y<|Rl tZ_54 ZeI Y<|Rm Y<|Za<|Zl<|?_
  obtain⟨r1,hl1,ho1⟩:=Xa h
  refine L1 (fun i=>⟨[(0,.sl 54 (List.map R54 s)),(1,.fn f_f f_c),(7,.int .i64 (s.length:Int)),(8,.int .i64 i)],[]⟩) hl1 (ES []<|sd 0 Y Y<|sr 1 Y (rFn<|rld f_d)<|sd 7 Y Y<|sd 8 Y Y sn) fun n1 i h=>?_
  unfold Zt at h
  refine Tr<|R2 ZV Y<|Za<|Zm<|If h Y (fun h=>?_) fun h=>?_
  ·
   refine Zh<|Zm<|Zl<|K4 0 1 7 8 Y<|Tr<|Rm Y<|Ra Y<|Za<|K5 0 1 5 7 8 Y<|Tr<|Rm Y<|Rm Y<|Rm Y<|bE h fun x h_x h=>Rq Y (ZU (ov Y) (ov Y) ZeI h_x)<|Rq Y (Zr (ov Y) Zf7 Y Y)<|bE h fun y h_y h=>Rq Y (ZcD (ov Y) f_d (f_h _ _ h_y)<|.cons (ov Y) (.aggB Y) .nil)<|Za<|K6 0 1 5 7 8 16 Y<|If h Y (fun h=>?_) fun h=>?_
   ·
    refine K1 5 Y<|Tr<|Rm Y<|Ra Y<|Za<|?_
    replace h:=lx h▸ho1
    obtain rfl:=rt h
    exact Zj (Zu Y (.one<|rb Y))
   ·
    exact Zh<|K4 0 1 7 8 Y<|Zw<|R2 QB Y<|Rm Y<|Za<|⟨_,h,ES []<|sd 0 Y Y<|sr 1 Y (rFn<|rld f_d)<|sd 7 Y Y<|sd 8 Y Y sn⟩
  ·
   refine ZL<|?_
   replace h:=lx h▸ho1
   exact⟨(),h,ES []⟩
 ·
  replace h:=elr h
  replace h:=t0i h
  refine Tr<|Ra Y<|Za<|?_
  obtain rfl:=rt h
  exact Zj (Zu Y (.one<|rb Y))
theorem Zbe{s:List api_Track}{f:api_Track→Option Bool}{r:Bool}{f_f:FuncId}{f_c:List AV}(f_d:f_c.all datB=true)(f_h: ∀ (z0:api_Track) z,f z0=some z→CSpec Tryz.prog gl0 f_f ([.agg [.str z0.Name,.int .i64 z0.Series.Den,.sl 56 (List.map R56 z0.Series.Samples),.int .i64 z0.Long]]++f_c) (.bool z))(h:ZF s f=some r):
 CSpec Tryz.prog gl0 111 [.sl 54 (List.map R54 s),.fn f_f f_c] (.bool r):=by
 unfold ZF at h
 replace h:=ZO h
 refine So Tryz.func111 Y fun w0 A=>Tr<|Ra Y<|Za<|Tr<|Rm Y<|Rm Y<|bE h fun y h_y h=>Rq Y (Zn (X9 f_d f_h h_y)<|.cons (ov Y) (.b Y)<|.cons (ov Y) (Dat.fnC<|.refl fun x hx=> .b<|List.all_eq_true.1 f_d x hx) .nil)<|R2 Zaj Y<|Ra Y<|Za<|?_
 obtain rfl:=rt h
 exact Zj (Zu Y (.one<|rb Y))
theorem Zf5{x:api_Track}{c0:api_Track}{r:Bool}(h:XQ x c0=some r):
 CSpec Tryz.prog gl0 112 [.agg [.str x.Name,.int .i64 x.Series.Den,.sl 56 (List.map R56 x.Series.Samples),.int .i64 x.Long],.rp [.str c0.Name,.int .i64 c0.Series.Den,.sl 56 (List.map R56 c0.Series.Samples),.int .i64 c0.Long] 0] (.bool r):=by
 unfold XQ at h
 replace h:=ZO h
 refine So Tryz.func112 Y fun w0 A=>Tr<|Rq Y (ZP (cva<|ov Y) Y tZ_54 Y)<|Ra Y<|Za<|K3 1 2 3 Y<|Tr<|Rq Y (Ze (ov Y) ZgB)<|Rq Y (Zc (ov Y) tS9 Y)<|Rq Y (Ze (ov Y) ZgB)<|Rq Y (Zc (ov Y) tS9 Y)<|R2 Qv Y<|Ra Y<|Za<|?_
 obtain rfl:=rt h
 exact Zj (Zu Y (.one<|rb Y))
theorem Zch{n:Int}{low:Int}{high:Int}{r:Bool}(h:Jf n low high=some r):
 CSpec Tryz.prog gl0 164 [.int .i64 n,.int .i64 low,.int .i64 high] (.bool r):=by
 unfold Jf at h
 replace h:=ZO h
 refine So Tryz.func164 Y fun w0 A=>Tr<|Ra Y<|Za<|Tr<|Rm Y<|Rm Y<|R2 Zaj Y<|Rm Y<|Rq Y (.guarded ((decide (low≤n))==true) Y Y Y Y fun h=>Zf<|ov Y)<|Rq Y (.guarded ((decide (low≤n))==true) Y Y Y Y fun h=>Zf<|ov Y)<|Rq Y (.guarded ((decide (low≤n))==true) Y Y Y Y fun h=>ZaD (ow Y h)<|ow Y h)<|Rq Y (ZQ (ov Y) fun hp=>ow Y<|gT hp)<|Ra Y<|Za<|?_
 obtain rfl:=rt h
 exact Zj (Zu Y (.one<|rb Y))
theorem Zjl{s:api_Series}{r:Int×Int}(h:Zba s=some r):
 CSpec Tryz.prog gl0 150 [.agg [.int .i64 s.Den,.sl 56 (List.map R56 s.Samples)]] (.tuple [.int .i64 r.1,.int .i64 r.2]):=by
 unfold Zba at h
 replace h:=ZO h
 refine So Tryz.func150 Y fun w0 A=>Tr<|Rq Y (ZP (cva<|ov Y) Y tZ_52 Y)<|Ra Y<|Ra Y<|Za<|Zm<|K1 1 Y<|Tr<|Rq Y (Ze (ov Y) Zlp)<|Rq Y (Zc (ov Y) tS3 Y)<|bE h fun y h_y h=>Rq Y (Zn (Zch h_y)<|.cons (ov Y) (.b Y)<|.cons (ov Y) (.b Y)<|.cons (ov Y) (.b Y) .nil)<|R1 QA Y<|Za<|K2 1 9 Y<|If h Y (fun h=>?_) fun h=>?_
 ·
  refine K0<|Tr<|Ra Y<|Ra Y<|Za<|?_
  obtain rfl:=rt h
  exact Zj (Zu Y (.two (rb Y)<|rb Y))
 ·
  refine Zh<|Zm<|K1 1 Y<|Tr<|Rq Y (Ze (ov Y) Zb1)<|Rq Y (Zc (ov Y) Zgw Y)<|Rl tZ_56 Zfh Y<|R2 Qq Y<|Za<|K2 1 13 Y<|If h Y (fun h=>?_) fun h=>?_
  ·
   refine K0<|Tr<|Ra Y<|Ra Y<|Za<|?_
   obtain rfl:=rt h
   exact Zj (Zu Y (.two (rb Y)<|rb Y))
  ·
   refine Zh<|J0 (fun j=>(.inr j)) ⟨[],[]⟩ h (fun h=>?_) fun h=>?_
   ·
    refine K1 1 Y<|Tr<|Rq Y (Ze (ov Y) Zb1)<|Rq Y (Zc (ov Y) Zgw Y)<|Rl tZ_56 Zfh Y<|Rm Y<|Za<|Zl<|?_
    obtain⟨r1,hl1,ho1⟩:=Xa h
    refine L1 (fun i=>⟨[(1,.rp [.int .i64 s.Den,.sl 56 (List.map R56 s.Samples)] 0),(15,.sl 56 (List.map R56 s.Samples)),(16,.int .i64 (s.Samples.length:Int)),(17,.int .i64 i)],[]⟩) hl1 (ES []) fun n1 i h=>?_
    unfold JA at h
    refine Tr<|R2 ZV Y<|Za<|Zm<|If h Y (fun h=>?_) fun h=>?_
    ·
     refine Zh<|Zm<|Zl<|K4 1 15 16 17 Y<|Tr<|Rm Y<|bE h fun x h_x h=>Rq Y (ZU (ov Y) (ov Y) Zfh h_x)<|Rq Y (Zr (ov Y) Zai Y Y)<|Rx Y (Zz (row:= [_,_,_]) 0 Y Zft Y tZ_56)<|Ra Y<|Rx Y (Zk (ov Y) (ov Y) (Zo Zai Y) Y Y Y (Nat.le_of_ble_eq_true Y) (Zd Y) Y)<|Za<|Zl<|K6 1 4 5 15 16 17 Y<|Tr<|Rq Y (Zb (ov Y) Y Y Zfk)<|Rq Y (Zi (ov Y) Y Y Y tS3 Y)<|bE h fun y2 h_y2 h=>Rq Y (Zn (Zch h_y2)<|.cons (ov Y) (.b Y)<|.cons (ov Y) (.b Y)<|.cons (ov Y) (.b Y) .nil)<|R1 QA Y<|Rm Y<|Rq Y (.guarded ((!y2)==false) Y Y Y Y fun h=>Zb (ov Y) Y Y Zcq)<|Rq Y (.guarded ((!y2)==false) Y Y Y Y fun h=>Zi (ow Y h) Y Y Y tS3 Y)<|bE h fun y3 h_y3 h=>Rq Y (.guarded ((!y2)==false) Y Y Y Y fun h=>Zn (Zch<|gdT h_y3 h)<|.cons (ow Y h) (.b Y)<|.cons (ov Y) (.b Y)<|.cons (ov Y) (.b Y) .nil)<|Rq Y (.guarded ((!y2)==false) Y Y Y Y fun h=>QA<|ow Y h)<|Rq Y (Xi (ov Y) fun hp=>ow Y<|gF hp)<|Rm Y<|Rq Y (.guarded (((!y2) || (!y3))==false) Y Y Y Y fun h=>Zb (ov Y) Y Y ZgV)<|Rq Y (.guarded (((!y2) || (!y3))==false) Y Y Y Y fun h=>Zi (ow Y h) Y Y Y tS3 Y)<|bE h fun y4 h_y4 h=>Rq Y (.guarded (((!y2) || (!y3))==false) Y Y Y Y fun h=>Zn (Zch<|gdT h_y4 h)<|.cons (ow Y h) (.b Y)<|.cons (ov Y) (.b Y)<|.cons (ov Y) (.b Y) .nil)<|Rq Y (.guarded (((!y2) || (!y3))==false) Y Y Y Y fun h=>QA<|ow Y h)<|Rq Y (Xi (ov Y) fun hp=>ow Y<|gF hp)<|Ra Y<|Za<|K7 1 4 5 15 16 17 22 Y<|If h Y (fun h=>?_) fun h=>?_
     ·
      refine K1 4 Y<|Tr<|Rm Y<|Ra Y<|Ra Y<|Za<|?_
      replace h:=lx h▸ho1
      obtain rfl:=rt h
      exact Zj (Zu Y (.two (rb Y)<|rb Y))
     ·
      refine K6 1 4 5 15 16 17 Y<|Tr<|Rq Y (Zb (ov Y) Y Y Zcq)<|Rq Y (Zi (ov Y) Y Y Y tS3 Y)<|R2 Qo Y<|Rm Y<|Rq Y (.guarded ((!decide (x.N=0))==true) Y Y Y Y fun h=>Zb (ov Y) Y Y ZgV)<|Rq Y (.guarded ((!decide (x.N=0))==true) Y Y Y Y fun h=>Zi (ow Y h) Y Y Y tS3 Y)<|Rq Y (.guarded ((!decide (x.N=0))==true) Y Y Y Y fun h=>ZaD (ow Y h)<|ov Y)<|Rq Y (ZQ (ov Y) fun hp=>ow Y<|gT hp)<|Ra Y<|Za<|K7 1 4 5 15 16 17 40 Y<|If h Y (fun h=>?_) fun h=>?_
      ·
       refine K1 4 Y<|Tr<|Rm Y<|Ra Y<|Ra Y<|Za<|?_
       replace h:=lx h▸ho1
       obtain rfl:=rt h
       exact Zj (Zu Y (.two (rb Y)<|rb Y))
      ·
       refine K6 1 4 5 15 16 17 Y<|Td md0<|D1 0 Zf Y<|D2 1 Qq Y<|D1 2 Zf Y<|Dq 3 Y (.guarded ((decide (0<i))==true) Y Y Y Y fun h=>Zb (ov Y) Y Y Zfk)<|Dq 4 Y (.guarded ((decide (0<i))==true) Y Y Y Y fun h=>Zi (ow Y h) Y Y Y tS3 Y)<|Dq 5 Y (.guarded ((decide (0<i))==true) Y Y Y Y fun h=>Ze (ov Y) Zb1)<|Dq 6 Y (.guarded ((decide (0<i))==true) Y Y Y Y fun h=>Zc (ow Y h) Zgw Y)<|Dq 7 Y (.guarded ((decide (0<i))==true) Y Y Y Y fun h=>Zf<|ov Y)<|Dq 8 Y (.guarded ((decide (0<i))==true) Y Y Y Y fun h=>Ze9 (ow Y h) (ov Y) Y)<|bE h fun x2 h_x2 h=>Dq 9 Y (.guarded ((decide (0<i))==true) Y Y Y Y fun h=>ZU (ow Y h) (ow Y h) Zfh<|gdT h_x2 h)<|Dq 10 Y (.guarded ((decide (0<i))==true) Y Y Y Y fun h=>Ze (ow Y h) Zfk)<|Dq 11 Y (.guarded ((decide (0<i))==true) Y Y Y Y fun h=>Zc (ow Y h) tS3 Y)<|Dq 12 Y (.guarded ((decide (0<i))==true) Y Y Y Y fun h=>ZaD (ow Y h)<|ow Y h)<|Dq 13 Y (ZQ (ov Y) fun hp=>ow Y<|gT hp)<|D1 14 Qp Y<|Dd<|K6 1 4 15 16 17 50 Y<|If h Y (fun h=>?_) fun h=>?_
       ·
        refine K1 4 Y<|Tr<|Rm Y<|Ra Y<|Ra Y<|Za<|?_
        replace h:=lx h▸ho1
        obtain rfl:=rt h
        exact Zj (Zu Y (.two (rb Y)<|rb Y))
       ·
        exact Zh<|K4 1 15 16 17 Y<|Zw<|R2 QB Y<|Rm Y<|Za<|⟨_,h,ES []⟩
    ·
     refine ZL<|?_
     replace h:=lx h▸ho1
     exact⟨(),h,ES []⟩
   ·
    replace h:=elr h
    replace h:=t0i h
    refine Tr<|Ra Y<|Ra Y<|Za<|?_
    obtain rfl:=rt h
    exact Zj (Zu Y (.two (rb Y)<|rb Y))
theorem Zjs{s:api_Series}{r:Int}(h:Zbf s=some r):
 CSpec Tryz.prog gl0 113 [.agg [.int .i64 s.Den,.sl 56 (List.map R56 s.Samples)]] (.int .i64 r):=by
 unfold Zbf at h
 replace h:=ZO h
 refine So Tryz.func113 Y fun w0 A=>Tr<|Rq Y (ZP (cva<|ov Y) Y tZ_52 Y)<|Ra Y<|Za<|K1 1 Y<|Tr<|Rq Y (Zr (ov Y) ZkM Y Y)<|bE h fun y h_y h=>Rq Y (Zn (Zjl h_y)<|.cons (ov Y) (.aggB Y) .nil)<|Rm Y<|Rq Y (Zq (ov Y) Y)<|Rq Y (Zq (ov Y) Y)<|Ra Y<|Ra Y<|Za<|K1 4 Y<|Tr<|Rm Y<|Ra Y<|Za<|?_
 obtain rfl:=rt h
 exact Zj (Zu Y (.one<|rb Y))
theorem ZgF{l:List api_Track}{r:Int}(h:XK l=some r):
 CSpec Tryz.prog gl0 75 [.sl 54 (List.map R54 l)] (.int .i64 r):=by
 unfold XK at h
 replace h:=ZO h
 refine So Tryz.func75 Y fun w0 A=>Tr<|Ra Y<|Za<|Zm<|K1 0 Y<|Tr<|Rm Y<|Rl tZ_54 ZeI Y<|R2 Qq Y<|Za<|K2 0 8 Y<|If h Y (fun h=>?_) fun h=>?_
 ·
  refine K0<|Tr<|Ra Y<|Za<|?_
  obtain rfl:=rt h
  exact Zj (Zu Y (.one<|rb Y))
 ·
  refine Zh<|J0 (fun j=>(.inr j)) ⟨[],[]⟩ h (fun h=>?_) fun h=>?_
  ·
   refine K1 0 Y<|Tr<|Rm Y<|Rl tZ_54 ZeI Y<|Rm Y<|Za<|Zl<|?_
   obtain⟨r1,hl1,ho1⟩:=Xa h
   refine L1 (fun i=>⟨[(0,.sl 54 (List.map R54 l)),(9,.sl 54 (List.map R54 l)),(10,.int .i64 (l.length:Int)),(11,.int .i64 i)],[]⟩) hl1 (ES []) fun n1 i h=>?_
   unfold QD at h
   refine Tr<|R2 ZV Y<|Za<|Zm<|If h Y (fun h=>?_) fun h=>?_
   ·
    refine Zh<|Zm<|Zl<|K4 0 9 10 11 Y<|Tr<|Rm Y<|bE h fun x h_x h=>Rq Y (ZU (ov Y) (ov Y) ZeI h_x)<|Rq Y (Zr (ov Y) Zf7 Y Y)<|Rx Y (Zz (row:= [_,_,_,_]) 0 Y Zlo Y tZ_54)<|Ra Y<|Rx Y (Zk (ov Y) (ov Y) (Zo Zf7 Y) Y Y Y (Nat.le_of_ble_eq_true Y) (Zd Y) Y)<|Za<|Zm<|K6 0 3 4 9 10 11 Y<|Tr<|Rq Y (Zb (ov Y) Y Y ZgB)<|Rq Y (Zi (ov Y) Y Y Y tS9 Y)<|bE h fun y h_y h=>Rq Y (Zn (Zjj h_y)<|.cons (ov Y) (.b Y) .nil)<|R1 QA Y<|Za<|K7 0 3 4 9 10 11 19 Y<|If h Y (fun h=>?_) fun h=>?_
    ·
     refine K0<|Tr<|Ra Y<|Za<|?_
     replace h:=lx h▸ho1
     obtain rfl:=rt h
     exact Zj (Zu Y (.one<|rb Y))
    ·
     refine Zh<|Zm<|K6 0 3 4 9 10 11 Y<|Tr<|Rm Y<|Rm Y<|bE h fun l2 h_l2 h=>Rq Y (ZgG (ov Y) ZeI on (oi<|ov Y) h_l2)<|Zk3 (Ent.sel [none] (sd 0 Y Y<|sd 3 Y Y<|sr 4 Y (.frp ⟨Y,⟨_,Y⟩,Y,Y⟩)<|sd 9 Y Y<|sd 10 Y Y<|sd 11 Y Y<|sd 20 Y Y<|sd 21 Y Y<|sd 22 Y Y sn) (.row 54 .nil) Y Y)<|Rq Y (Zdm<|.cons (ov Y) .nil)<|bE h fun y2 h_y2 h=>Rq Y (Zn (Zbe Y (fun z0 _ hz=>Zf5 hz) h_y2)<|.cons (ov Y) (.b Y)<|.cons (ov Y) (.fnC<|.cons (.b Y) .nil) .nil)<|Za<|K6 0 4 9 10 11 24 Y<|If h Y (fun h=>?_) fun h=>?_
     ·
      refine K0<|Tr<|Ra Y<|Za<|?_
      replace h:=lx h▸ho1
      obtain rfl:=rt h
      exact Zj (Zu Y (.one<|rb Y))
     ·
      refine Zh<|Zm<|K5 0 4 9 10 11 Y<|Tr<|Rq Y (Ze (ov Y) ZgJ)<|Rq Y (Zr (ov Y) ZkM Y Y)<|bE h fun y3 h_y3 h=>Rq Y (Zn (Zjs h_y3)<|.cons (ov Y) (.aggB Y) .nil)<|Ra Y<|Za<|K6 0 4 5 9 10 11 Y<|Tr<|Rm Y<|R2 Qo Y<|Za<|K7 0 4 5 9 10 11 29 Y<|If h Y (fun h=>?_) fun h=>?_
      ·
       refine K1 5 Y<|Tr<|Rm Y<|Ra Y<|Za<|?_
       replace h:=lx h▸ho1
       obtain rfl:=rt h
       exact Zj (Zu Y (.one<|rb Y))
      ·
       refine Zh<|K5 0 4 9 10 11 Y<|Tr<|Rq Y (Ze (ov Y) Zlz)<|Rq Y (Zc (ov Y) tS3 Y)<|bE h fun y4 h_y4 h=>Rq Y (Zn (Zgh h_y4)<|.cons (ov Y) (.b Y)<|.cons (ov Y) (.b Y)<|.cons (ov Y) (.b Y) .nil)<|R1 QA Y<|Za<|K5 0 9 10 11 34 Y<|If h Y (fun h=>?_) fun h=>?_
       ·
        refine K0<|Tr<|Ra Y<|Za<|?_
        replace h:=lx h▸ho1
        obtain rfl:=rt h
        exact Zj (Zu Y (.one<|rb Y))
       ·
        exact Zh<|K4 0 9 10 11 Y<|Zw<|R2 QB Y<|Rm Y<|Za<|⟨_,h,ES []⟩
   ·
    refine ZL<|?_
    replace h:=lx h▸ho1
    exact⟨(),h,ES []⟩
  ·
   replace h:=elr h
   replace h:=t0i h
   refine Tr<|Ra Y<|Za<|?_
   obtain rfl:=rt h
   exact Zj (Zu Y (.one<|rb Y))
theorem ZhW{t:api_Track}{c0:api_Instrument}{r:Bool}(h:JC t c0=some r):
 CSpec Tryz.prog gl0 117 [.agg [.str t.Name,.int .i64 t.Series.Den,.sl 56 (List.map R56 t.Series.Samples),.int .i64 t.Long],.rp [.int .i64 c0.Kind,.str c0.Name,.str c0.Track,.int .i64 c0.Places,.int .i64 c0.Low,.int .i64 c0.High,.int .i64 c0.Steps,.sl 136 (List.map R136 c0.Zones),.int .i64 c0.Op,.int .i64 c0.N,.bool c0.Latch,.int .i64 c0.Size] 0] (.bool r):=by
 unfold JC at h
 replace h:=ZO h
 refine So Tryz.func117 Y fun w0 A=>Tr<|Rq Y (ZP (cva<|ov Y) Y tZ_54 Y)<|Ra Y<|Za<|K3 1 2 3 Y<|Tr<|Rq Y (Ze (ov Y) ZgB)<|Rq Y (Zc (ov Y) tS9 Y)<|Rq Y (Ze (ov Y) ZhO)<|Rq Y (Zc (ov Y) tS9 Y)<|R2 Qv Y<|Ra Y<|Za<|?_
 obtain rfl:=rt h
 exact Zj (Zu Y (.one<|rb Y))
theorem Zdn{l:List api_Track}{i:api_Instrument}{r:Int}(h:Q4 l i=some r):
 CSpec Tryz.prog gl0 78 [.sl 54 (List.map R54 l),.agg [.int .i64 i.Kind,.str i.Name,.str i.Track,.int .i64 i.Places,.int .i64 i.Low,.int .i64 i.High,.int .i64 i.Steps,.sl 136 (List.map R136 i.Zones),.int .i64 i.Op,.int .i64 i.N,.bool i.Latch,.int .i64 i.Size]] (.int .i64 r):=by
 unfold Q4 at h
 replace h:=ZO h
 refine So Tryz.func78 Y fun w0 A=>Tr<|Rq Y (ZP (cva<|ov Y) Y tZ_49 Y)<|Ra Y<|Za<|K3 0 3 4 Y<|Tr<|Rm Y<|Rq Y (Zdm<|.cons (ov Y) .nil)<|bE h fun y h_y h=>Rq Y (Zn (X9 Y (fun z0 _ hz=>ZhW hz) h_y)<|.cons (ov Y) (.b Y)<|.cons (ov Y) (.fnC<|.cons (.b Y) .nil) .nil)<|Ra Y<|Za<|?_
 obtain rfl:=rt h
 exact Zj (Zu Y (.one<|rb Y))
theorem ZgC{i:api_Instrument}{c0:List api_Track}{r:Bool}(h:XL i c0=some r):
 CSpec Tryz.prog gl0 77 [.agg [.int .i64 i.Kind,.str i.Name,.str i.Track,.int .i64 i.Places,.int .i64 i.Low,.int .i64 i.High,.int .i64 i.Steps,.sl 136 (List.map R136 i.Zones),.int .i64 i.Op,.int .i64 i.N,.bool i.Latch,.int .i64 i.Size],.rp [.sl 54 (List.map R54 c0)] 0] (.bool r):=by
 unfold XL at h
 replace h:=ZO h
 refine So Tryz.func77 Y fun w0 A=>Tr<|Rq Y (ZP (cva<|ov Y) Y tZ_49 Y)<|Ra Y<|Za<|K3 1 2 3 Y<|Tr<|Rq Y (Zc (ov Y) ZmM Y)<|Rq Y (Zr (ov Y) Zcj Y Y)<|bE h fun y h_y h=>Rq Y (Zn (Zdn h_y)<|.cons (ov Y) (.b Y)<|.cons (ov Y) (.aggB Y) .nil)<|R2 ZV Y<|Ra Y<|Za<|?_
 obtain rfl:=rt h
 exact Zj (Zu Y (.one<|rb Y))
theorem ZhY{p:api_Panel}{l:List api_Track}{r:Int}(h:Jy p l=some r):
 CSpec Tryz.prog gl0 36 [.agg [.sl 49 (List.map R49 p.Instruments)],.sl 54 (List.map R54 l)] (.int .i64 r):=by
 unfold Jy at h
 replace h:=ZO h
 refine So Tryz.func36 Y fun w0 A=>Tr<|Rq Y (ZP (cva<|ov Y) Y tZ_24 Y)<|Rq Y (ZP (cvs (ov Y)<|ZB Y) Y tZ_25 Y)<|Ra Y<|Za<|Zm<|K2 2 3 Y<|Tr<|Rq Y (Zr (ov Y) Zd7 Y Y)<|bE h fun y h_y h=>Rq Y (Zn (ZjN h_y)<|.cons (ov Y) (.aggB Y) .nil)<|Ra Y<|Za<|K3 2 3 5 Y<|Tr<|Rm Y<|R2 Qo Y<|Za<|K4 2 3 5 10 Y<|If h Y (fun h=>?_) fun h=>?_
 ·
  refine K1 5 Y<|Tr<|Rm Y<|Ra Y<|Za<|?_
  obtain rfl:=rt h
  exact Zj (Zu Y (.one<|rb Y))
 ·
  refine Zh<|Zm<|K2 2 3 Y<|Tr<|Rq Y (Zc (ov Y) ZmM Y)<|bE h fun y2 h_y2 h=>Rq Y (Zn (ZgF h_y2)<|.cons (ov Y) (.b Y) .nil)<|Ra Y<|Za<|K3 2 3 6 Y<|Tr<|Rm Y<|R2 Qo Y<|Za<|K4 2 3 6 15 Y<|If h Y (fun h=>?_) fun h=>?_
  ·
   refine K1 6 Y<|Tr<|Rm Y<|Ra Y<|Za<|?_
   obtain rfl:=rt h
   exact Zj (Zu Y (.one<|rb Y))
  ·
   refine Zh<|Zm<|K2 2 3 Y<|Tr<|Rq Y (Ze (ov Y) Zbj)<|Rq Y (Zc (ov Y) Zf0 Y)<|Rq Y (Zdm<|.cons (ov Y) .nil)<|bE h fun y3 h_y3 h=>Rq Y (Zn (QV Y (fun z0 _ hz=>ZgC hz) h_y3)<|.cons (ov Y) (.b Y)<|.cons (ov Y) (.fnC<|.cons (.b Y) .nil) .nil)<|Za<|K1 20 Y<|If h Y (fun h=>?_) fun h=>?_
   ·
    refine K0<|Tr<|Ra Y<|Za<|?_
    obtain rfl:=rt h
    exact Zj (Zu Y (.one<|rb Y))
   ·
    refine Zh<|K0<|Tr<|Ra Y<|Za<|?_
    obtain rfl:=rt h
    exact Zj (Zu Y (.one<|rb Y))
theorem Zlf{xs r:List api_Instrument}(h:ZaX xs=some r):
 GSpec Tryz.prog gl0 79 [.sl 49 (List.map R49 xs)] [] (.own 0 r.length) [some ⟨49,List.map R49 r⟩]:=by
 have h2:app [] xs=some r:=h
 refine Z1 (by kernel_rfl) Tryz.func79 Y Y<|?_
 intro w0 A W φ0
 refine Tr<|Ra Y<|Za<|Zm<|Zm<|Zw<|Rm Y<|Ze4 (ov Y) ZpW Y fun b hb=>?_
 refine Za<|Zf2 Y (fun hb2=>?_) fun hb2=>?_
 ·
  obtain rfl:xs= []:=by simpa using hb hb2
  obtain rfl:r= []:=by simpa [app,apz] using h2.symm
  exact Tr<|Ra Y<|Za<|Zj<|XB [none] Y (.cons (.tmp Y) .nil) (.row 49 .nil) Y Y<|.row Y
 ·
  exact Zh<|Tr<|Rx Y (QW (r:=0) (xs:= []) (f:=R49) Y ZcI .nil Y Y Y)<|Rm Y<|Rx Y (JR (ov Y) (XW (ov Y) tZ_49) ZcI Y Y (fun _=>Zd Y) Y h2)<|Ra Y<|Za<|Zj<|XB [some 0] Y (.cons (.tmp Y) .nil) (.cons Y (roM D49) .nil) Y Y<|.own _ Y
theorem Zl2{xs r:List api_Zone}(h:ZaX xs=some r):
 CSpec Tryz.prog gl0 80 [.sl 136 (List.map R136 xs)] (.sl 136 (List.map R136 r)):=by
 have h2:app [] xs=some r:=h
 refine So Tryz.func80 Y fun w0 A=>Tr<|Ra Y<|Za<|Zm<|Zm<|Zw<|Rm Y<|Ze4 (ov Y) Zp6 Y fun b hb=>?_
 refine Za<|Zf2 Y (fun hb2=>?_) fun hb2=>?_
 ·
  obtain rfl:xs= []:=by simpa using hb hb2
  obtain rfl:r= []:=by simpa [app,apz] using h2.symm
  refine Tr<|Ra Y<|Za<|Zj<|Zu Y<|.one<|.tmp Y<|View.nils _
 ·
  refine Zh<|Tr<|Rx Y (QW (r:=0) (xs:= []) (f:=R136) Y Zhc .nil Y Y Y)<|Rm Y<|Rx Y (JR (ov Y) (XW (ov Y) tZ_136) Zhc Y Y (fun _=>Zd Y) Y h2)<|Ra Y<|Za<|Zj<|Zu Y<|.one<|.tmp Y<|View.ownM Y Y D136
theorem ZhK{p:api_Panel}{r:api_Panel}(h:XT p=some r):
 CSpec Tryz.prog gl0 38 [.agg [.sl 49 (List.map R49 p.Instruments)]] (.agg [.sl 49 (List.map R49 r.Instruments)]):=by
 unfold XT at h
 replace h:=ZO h
 refine So Tryz.func38 Y fun w0 A=>Tr<|Rq Y (ZP (cva<|ov Y) Y tZ_24 Y)<|Rx Y (Zz (row:= [_]) 0 Y Zob Y tZ_24)<|Za<|K2 1 2 Y<|Tr<|Rq Y (Ze (ov Y) Zbj)<|Rq Y (Zc (ov Y) Zf0 Y)<|bE h fun y h_y h=>Rx Y (ZK [] (Zlf h_y) (.cons (ov Y) (.dat Y) .nil) .nil Y (.keep Y Y<|.lent 0 (.inr ⟨Nat.le_of_ble_eq_true Y,Y⟩) Y (roM D49) .nil) Y Y<|.own _<|.inr ⟨Nat.le_of_ble_eq_true Y,Y⟩)<|Rq Y (QU (ys:= [_]) ZpI ZpH Zob (.cons (cvs (ov Y)<|ZB Y) .nil) Y)<|Rx Y (Zz (row:= [_]) 2 Y Zob Y tZ_24)<|Rx Y (Zk (ov Y) (ov Y) (Zo Zd7 Y) Y Y Y (Nat.le_of_ble_eq_true Y) (Zd Y) Y)<|Za<|I1 (fun Instruments=>⟨[(2,.ptr 0 1 0 0),(3,.ptr 1 1 0 0)],[some ⟨24,[[.nils]]⟩,some ⟨24,[[.own 2 Instruments.length]]⟩,some ⟨49,List.map R49 Instruments⟩]⟩) h (fun h=>?_) fun Instruments h=>?_
 ·
  refine K2 2 3 Y<|Tr<|Rq Y (Zb (ov Y) Y Y Zbj)<|Rq Y (Zi (ov Y) Y Y Y Zf0 Y)<|Rq Y (Zbs (ov Y) Y Y ZcI)<|Rm Y<|Za<|Zl<|?_
  obtain⟨r1,hl1,ho1⟩:=Xa h
  refine L2 (fun Instruments2 i=>⟨[(2,.ptr 0 1 0 0),(3,.ptr 1 1 0 0),(11,.int .i64 (y.length:Int)),(12,.int .i64 i)],[some ⟨24,[[.nils]]⟩,some ⟨24,[[.own 2 Instruments2.length]]⟩,some ⟨49,List.map R49 Instruments2⟩]⟩) hl1 (ES [some 0,some 2,some 1]) fun n1 Instruments2 i h=>?_
  unfold Q3 at h
  refine Tr<|R2 ZV Y<|Za<|Zm<|If h Y (fun h=>?_) fun h=>?_
  ·
   exact Zh<|Zm<|Zl<|K4 2 3 11 12 Y<|Tr<|Rm Y<|Ra Y<|Za<|K5 2 3 4 11 12 Y<|ZbM (cw:=md0) (by kernel_rfl)<|Dq 0 Y (Zb (ov Y) Y Y Zbj)<|Dq 1 Y (Zi (ov Y) Y Y Y Zf0 Y)<|D1 2 Zf Y<|Dq 3 Y (Zb (ov Y) Y Y Zbj)<|Dq 4 Y (Zi (ov Y) Y Y Y Zf0 Y)<|D1 5 Zf Y<|bE h fun x h_x h=>Dq 6 Y (ZaY (ov Y) (ov Y) ZcI Y Y h_x)<|Dq 7 Y (Jt (ov Y) Y Y Zd6)<|Dq 8 Y (Zc0 (ov Y) Y Y h_x ZjB Y)<|bE h fun y2 h_y2 h=>Dq 9 Y (Zn (Zl2 h_y2)<|.cons (ov Y) (.b Y) .nil)<|bE h fun x2 h_x2 h=>Dq 10 Y (ZaY (ov Y) (ov Y) ZcI Y Y h_x2)<|Dq 11 Y (Jt (ov Y) Y Y Zd6)<|Do 12 Y (ZeB (u':=(api_Instrument.mk x2.Kind x2.Name x2.Track x2.Places x2.Low x2.High x2.Steps y2 x2.Op x2.N x2.Latch x2.Size)) (ov Y) (ov Y) (Zp ZjB) Y Y h_x2 Y (Zd Y) Y)<|Dd<|K4 2 3 11 12 Y<|Zw<|R2 QB Y<|Rm Y<|Za<|⟨_,h,ES [some 0,some 1,some 2] (hhp:= .cons Y (ro1 (by exact tZ_24.symm)<|rld Y)<|.cons Y (ro1 (by exact tZ_24.symm)<|rlc (ZmD (Eq.symm<|(List.length_set ..).trans Y) Y) rln)<|.cons Y (roM D49) .nil)⟩
  ·
   refine ZL<|?_
   replace h:=lx h▸ho1
   exact⟨_,h,ES [some 0,some 1,some 2]⟩
 ·
  refine Tr<|Rq Y (ZG (ov Y) Y Y Y Zd7 Y Y)<|Rx Y (Zk (ov Y) (ov Y) (Zo Zd7 Y) Y Y Y (Nat.le_of_ble_eq_true Y) (Zd Y) Y)<|Za<|?_
  obtain rfl:=rt h
  exact Zj (Zu Y (.one<|.agg Y Y Y Y Zd7 Y Y<|.cons (View.ownM Y Y D49) .nil))
theorem Zls{xs r:List api_Track}(h:ZaX xs=some r):
 GSpec Tryz.prog gl0 81 [.sl 54 (List.map R54 xs)] [] (.own 0 r.length) [some ⟨54,List.map R54 r⟩]:=by
 have h2:app [] xs=some r:=h
 refine Z1 (by kernel_rfl) Tryz.func81 Y Y<|?_
 intro w0 A W φ0
 refine Tr<|Ra Y<|Za<|Zm<|Zm<|Zw<|Rm Y<|Ze4 (ov Y) ZpR Y fun b hb=>?_
 refine Za<|Zf2 Y (fun hb2=>?_) fun hb2=>?_
 ·
  obtain rfl:xs= []:=by simpa using hb hb2
  obtain rfl:r= []:=by simpa [app,apz] using h2.symm
  exact Tr<|Ra Y<|Za<|Zj<|XB [none] Y (.cons (.tmp Y) .nil) (.row 54 .nil) Y Y<|.row Y
 ·
  exact Zh<|Tr<|Rx Y (QW (r:=0) (xs:= []) (f:=R54) Y ZeI .nil Y Y Y)<|Rm Y<|Rx Y (JR (ov Y) (XW (ov Y) tZ_54) ZeI Y Y (fun _=>Zd Y) Y h2)<|Ra Y<|Za<|Zj<|XB [some 0] Y (.cons (.tmp Y) .nil) (.cons Y (roM D54) .nil) Y Y<|.own _ Y
theorem Zms{xs r:List api_Sample}(h:ZaX xs=some r):
 CSpec Tryz.prog gl0 82 [.sl 56 (List.map R56 xs)] (.sl 56 (List.map R56 r)):=by
 have h2:app [] xs=some r:=h
 refine So Tryz.func82 Y fun w0 A=>Tr<|Ra Y<|Za<|Zm<|Zm<|Zw<|Rm Y<|Ze4 (ov Y) Zqu Y fun b hb=>?_
 refine Za<|Zf2 Y (fun hb2=>?_) fun hb2=>?_
 ·
  obtain rfl:xs= []:=by simpa using hb hb2
  obtain rfl:r= []:=by simpa [app,apz] using h2.symm
  refine Tr<|Ra Y<|Za<|Zj<|Zu Y<|.one<|.tmp Y<|View.nils _
 ·
  refine Zh<|Tr<|Rx Y (QW (r:=0) (xs:= []) (f:=R56) Y Zfh .nil Y Y Y)<|Rm Y<|Rx Y (JR (ov Y) (XW (ov Y) tZ_56) Zfh Y Y (fun _=>Zd Y) Y h2)<|Ra Y<|Za<|Zj<|Zu Y<|.one<|.tmp Y<|View.ownM Y Y D56
theorem Zhg{l:List api_Track}{r:(List api_Track)}(h:Xn l=some r):
 CSpec Tryz.prog gl0 39 [.sl 54 (List.map R54 l)] (.sl 54 (List.map R54 r)):=by
 unfold Xn at h
 replace h:=ZO h
 refine So Tryz.func39 Y fun w0 A=>Tr<|Ra Y<|Za<|K1 0 Y<|Tr<|Rm Y<|bE h fun y h_y h=>Rx Y (ZK [] (Zls h_y) (.cons (ov Y) (.dat Y) .nil) .nil Y (.lent 0 (.inr ⟨Nat.le_of_ble_eq_true Y,Y⟩) Y (roM D54) .nil) Y Y<|.own _<|.inr ⟨Nat.le_of_ble_eq_true Y,Y⟩)<|Ra Y<|Za<|I1 (fun out=>⟨[(3,.own 0 out.length)],[some ⟨54,List.map R54 out⟩]⟩) h (fun h=>?_) fun out h=>?_
 ·
  refine K1 3 Y<|Tr<|Rm Y<|Rq Y (Zbs (ov Y) Y Y ZeI)<|Rm Y<|Za<|Zl<|?_
  obtain⟨r1,hl1,ho1⟩:=Xa h
  refine L2 (fun out2 i=>⟨[(3,.own 0 out2.length),(8,.int .i64 (y.length:Int)),(9,.int .i64 i)],[some ⟨54,List.map R54 out2⟩]⟩) hl1 (ES [some 0]) fun n1 out2 i h=>?_
  unfold QN at h
  refine Tr<|R2 ZV Y<|Za<|Zm<|If h Y (fun h=>?_) fun h=>?_
  ·
   exact Zh<|Zm<|Zl<|K3 3 8 9 Y<|Tr<|Rm Y<|Ra Y<|Za<|K4 3 4 8 9 Y<|Zw<|Rm Y<|Rm Y<|Rm Y<|Rm Y<|bE h fun x h_x h=>Rq Y (ZaY (ov Y) (ov Y) ZeI Y Y h_x)<|Rq Y (Jt (ov Y) Y Y ZgJ)<|Rq Y (Jt (ov Y) Y Y Zb1)<|Rq Y (Zc0 (ov Y) Y Y h_x Zgw Y)<|bE h fun y2 h_y2 h=>Rq Y (Zn (Zms h_y2)<|.cons (ov Y) (.b Y) .nil)<|bE h fun x2 h_x2 h=>Rq Y (ZaY (ov Y) (ov Y) ZeI Y Y h_x2)<|Rq Y (Jt (ov Y) Y Y ZgJ)<|Rq Y (Jt (ov Y) Y Y Zb1)<|Rx Y (ZeB (u':=(api_Track.mk x2.Name (api_Series.mk x2.Series.Den y2) x2.Long)) (ov Y) (ov Y) (Zp Zgw) Y Y h_x2 Y (Zd Y) Y)<|Za<|K3 3 8 9 Y<|Zw<|R2 QB Y<|Rm Y<|Za<|⟨_,h,ES [some 0]<|sr 3 Y (ZmD (Eq.symm<|(List.length_set ..).trans Y) Y)<|sd 8 Y Y<|sd 9 Y Y sn⟩
  ·
   refine ZL<|?_
   replace h:=lx h▸ho1
   exact⟨_,h,ES [some 0]⟩
 ·
  refine Tr<|Rm Y<|Ra Y<|Za<|?_
  obtain rfl:=rt h
  exact Zj (Zu Y (.one<|.tmp Y<|View.ownM Y Y D54))
end Go.Proofs.YtailpehcgelmdaaGreatDoor
