/- A text of the proof: a verified executor of the program form, or the contracts of the functions that the law reaches. -/
import Derived.Test.YtjjknklgafdeiaaGreatDoorVS
import Derived.Test.YtjjknklgafdeiaaGreatDoorPA
import Derived.Test.YtjjknklgafdeiaaGreatDoorShT
import Derived.Test.YtjjknklgafdeiaaGreatDoorProg
import Derived.Test.YtjjknklgafdeiaaGreatDoorLayW
set_option linter.all false
namespace Go.Proofs.YtjjknklgafdeiaaGreatDoor
open Go Go.Vx
set_option maxRecDepth 10000
set_option maxHeartbeats 1000000
set_option linter.unusedVariables false
theorem tZ_5:Tryz.prog.cellsOf 5=1:=by kernel_rfl
instance:SzD Tryz.prog 5 1:=⟨tZ_5⟩
theorem tZ_40:Tryz.prog.cellsOf 40=1:=by kernel_rfl
instance:SzD Tryz.prog 40 1:=⟨tZ_40⟩
theorem tZ_3:Tryz.prog.cellsOf 3=1:=by kernel_rfl
instance:SzD Tryz.prog 3 1:=⟨tZ_3⟩
theorem tZ_4:Tryz.prog.cellsOf 4=1:=by kernel_rfl
instance:SzD Tryz.prog 4 1:=⟨tZ_4⟩
theorem tZ_60:Tryz.prog.cellsOf 60=5:=by kernel_rfl
instance:SzD Tryz.prog 60 5:=⟨tZ_60⟩
theorem Qp:tSl Tryz.prog 23 3 1 8=true:=by kernel_rfl
theorem tZ3:Jf Tryz.prog 3=some [.int .i64 0]:=by kernel_rfl
theorem tS3:tScal Tryz.prog 3=true:=by kernel_rfl
theorem ZcI:Jf Tryz.prog 37=some [.int .u16 0,.int .u16 0,.int .u16 0,.int .u16 0,.int .u16 0,.int .u16 0,.int .u16 0,.int .u16 0,.int .u16 0,.int .u16 0,.int .u16 0,.int .u16 0,.int .u16 0,.int .u16 0,.int .u16 0,.int .u16 0,.int .u16 0,.int .u16 0,.int .u16 0,.int .u16 0,.int .u16 0,.int .u16 0,.int .u16 0,.int .u16 0,.int .u16 0,.int .u16 0,.int .u16 0,.int .u16 0,.int .u16 0,.int .u16 0,.int .u16 0,.int .u16 0,.int .u16 0,.int .u16 0,.int .u16 0,.int .u16 0,.int .u16 0,.int .u16 0,.int .u16 0,.int .u16 0,.int .u16 0,.int .u16 0,.int .u16 0,.int .u16 0,.int .u16 0,.int .u16 0,.int .u16 0,.int .u16 0,.int .u16 0,.int .u16 0,.int .u16 0,.int .u16 0,.int .u16 0,.int .u16 0,.int .u16 0,.int .u16 0,.int .u16 0,.int .u16 0,.int .u16 0,.int .u16 0,.int .u16 0,.int .u16 0,.int .u16 0,.int .u16 0]:=by kernel_rfl
theorem tZ_37:Tryz.prog.cellsOf 37=64:=by kernel_rfl
instance:SzD Tryz.prog 37 64:=⟨tZ_37⟩
theorem Xc:tArr Tryz.prog 37 64 35 1=true:=by kernel_rfl
theorem Qz:tAgg Tryz.prog 37 64=true:=by kernel_rfl
theorem tI3:tInt Tryz.prog 3 .i64=true:=by kernel_rfl
theorem ZcN:tInt Tryz.prog 35 .u16=true:=by kernel_rfl
theorem Zq3:tStr Tryz.prog 9=true:=by kernel_rfl
theorem tI5:tInt Tryz.prog 5 .u8=true:=by kernel_rfl
theorem Xn:tScal Tryz.prog 35=true:=by kernel_rfl
theorem Znh:tArr Tryz.prog 113 4 35 1=true:=by kernel_rfl
theorem tB4:(match Tryz.prog.underlying 4 with |some .bool=>true |_=>false)=true:=by kernel_rfl
theorem ZmI:tSl Tryz.prog 22 60 5 88=true:=by kernel_rfl
theorem ZlT:tAgg Tryz.prog 60 5=true:=by kernel_rfl
theorem Zr1:Jf Tryz.prog 60=some [.int .i64 0,.int .i64 0,.slice none 0 0,.slice none 0 0,.slice none 0 0]:=by kernel_rfl
theorem ZgC:tFld Tryz.prog 60 2 2=true:=by kernel_rfl
theorem Zmx:tScal Tryz.prog 57=true:=by kernel_rfl
theorem ZjN:tSl Tryz.prog 57 40 1 24=true:=by kernel_rfl
theorem Zmv:tFld Tryz.prog 60 0 0=true:=by kernel_rfl
theorem ZoS:tFld Tryz.prog 60 1 1=true:=by kernel_rfl
theorem Zpw:tFld Tryz.prog 60 3 3=true:=by kernel_rfl
theorem XA:tScal Tryz.prog 23=true:=by kernel_rfl
theorem ZoK:tFld Tryz.prog 60 4 4=true:=by kernel_rfl
theorem Zts:tScal Tryz.prog 58=true:=by kernel_rfl
theorem Ztb:tSl Tryz.prog 58 4 1 1=true:=by kernel_rfl
theorem Zdz:tScal Tryz.prog 40=true:=by kernel_rfl
theorem Q6:tSl Tryz.prog 40 5 1 1=true:=by kernel_rfl
theorem Zt3:Jf Tryz.prog 83=some [.nilFunc]:=by kernel_rfl
theorem tZ_83:Tryz.prog.cellsOf 83=1:=by kernel_rfl
instance:SzD Tryz.prog 83 1:=⟨tZ_83⟩
theorem Zsg:tScal Tryz.prog 83=true:=by kernel_rfl
theorem ZiT:tArr Tryz.prog 195 16 5 1=true:=by kernel_rfl
theorem tS5:tScal Tryz.prog 5=true:=by kernel_rfl
theorem tS4:tScal Tryz.prog 4=true:=by kernel_rfl
theorem ZjO:tInt Tryz.prog 78 .u64=true:=by kernel_rfl
theorem ZmP:tArr Tryz.prog 194 97 5 1=true:=by kernel_rfl
theorem Zoz:tArr Tryz.prog 91 96 5 1=true:=by kernel_rfl
theorem Zty:tAgg Tryz.prog 91 96=true:=by kernel_rfl
theorem Zt0:Jf Tryz.prog 91=some [.int .u8 0,.int .u8 0,.int .u8 0,.int .u8 0,.int .u8 0,.int .u8 0,.int .u8 0,.int .u8 0,.int .u8 0,.int .u8 0,.int .u8 0,.int .u8 0,.int .u8 0,.int .u8 0,.int .u8 0,.int .u8 0,.int .u8 0,.int .u8 0,.int .u8 0,.int .u8 0,.int .u8 0,.int .u8 0,.int .u8 0,.int .u8 0,.int .u8 0,.int .u8 0,.int .u8 0,.int .u8 0,.int .u8 0,.int .u8 0,.int .u8 0,.int .u8 0,.int .u8 0,.int .u8 0,.int .u8 0,.int .u8 0,.int .u8 0,.int .u8 0,.int .u8 0,.int .u8 0,.int .u8 0,.int .u8 0,.int .u8 0,.int .u8 0,.int .u8 0,.int .u8 0,.int .u8 0,.int .u8 0,.int .u8 0,.int .u8 0,.int .u8 0,.int .u8 0,.int .u8 0,.int .u8 0,.int .u8 0,.int .u8 0,.int .u8 0,.int .u8 0,.int .u8 0,.int .u8 0,.int .u8 0,.int .u8 0,.int .u8 0,.int .u8 0,.int .u8 0,.int .u8 0,.int .u8 0,.int .u8 0,.int .u8 0,.int .u8 0,.int .u8 0,.int .u8 0,.int .u8 0,.int .u8 0,.int .u8 0,.int .u8 0,.int .u8 0,.int .u8 0,.int .u8 0,.int .u8 0,.int .u8 0,.int .u8 0,.int .u8 0,.int .u8 0,.int .u8 0,.int .u8 0,.int .u8 0,.int .u8 0,.int .u8 0,.int .u8 0,.int .u8 0,.int .u8 0,.int .u8 0,.int .u8 0,.int .u8 0,.int .u8 0]:=by kernel_rfl
theorem tZ_91:Tryz.prog.cellsOf 91=96:=by kernel_rfl
instance:SzD Tryz.prog 91 96:=⟨tZ_91⟩
theorem Ztt:Zcl Tryz.prog 39=some [(0,1),(1,1),(2,1),(3,1),(4,64)]:=by kernel_rfl
theorem ZsP:ZeW Tryz.prog 39=true:=by kernel_rfl
theorem ZsB:Jf Tryz.prog 39=some ([.int .i64 0,.int .i64 0,.int .i64 0,.int .i64 0]++(List.flatten (List.replicate 64 [.int .u16 0]))):=by kernel_rfl
theorem Zqw:tSl Tryz.prog 25 39 68 160=true:=by kernel_rfl
theorem tZ_39:Tryz.prog.cellsOf 39=68:=by kernel_rfl
instance:SzD Tryz.prog 39 68:=⟨tZ_39⟩
theorem Zli:Jf Tryz.prog 42=some [.slice none 0 0,.bool false]:=by kernel_rfl
theorem tZ_42:Tryz.prog.cellsOf 42=2:=by kernel_rfl
instance:SzD Tryz.prog 42 2:=⟨tZ_42⟩
theorem Zq9:Zcl Tryz.prog 42=some [(0,1),(1,1)]:=by kernel_rfl
theorem Zrl:ZeW Tryz.prog 42=true:=by kernel_rfl
theorem Zc2:tAgg Tryz.prog 42 2=true:=by kernel_rfl
theorem ZiG:tFld Tryz.prog 42 1 1=true:=by kernel_rfl
theorem ZcR:tFld Tryz.prog 42 0 0=true:=by kernel_rfl
theorem Zk2:tSl Tryz.prog 29 42 2 32=true:=by kernel_rfl
theorem tZ5:Jf Tryz.prog 5=some [.int .u8 0]:=by kernel_rfl
theorem tZ_47:Tryz.prog.cellsOf 47=65:=by kernel_rfl
instance:SzD Tryz.prog 47 65:=⟨tZ_47⟩
theorem tZ_43:Tryz.prog.cellsOf 43=1:=by kernel_rfl
instance:SzD Tryz.prog 43 1:=⟨tZ_43⟩
theorem Zq0:tArr Tryz.prog 174 192 5 1=true:=by kernel_rfl
theorem ZsY:tAgg Tryz.prog 174 192=true:=by kernel_rfl
theorem tZ_174:Tryz.prog.cellsOf 174=192:=by kernel_rfl
instance:SzD Tryz.prog 174 192:=⟨tZ_174⟩
theorem ZtS:Jf Tryz.prog 43=some [.slice none 0 0]:=by kernel_rfl
theorem Zge:tScal Tryz.prog 43=true:=by kernel_rfl
theorem ZqX:Zcl Tryz.prog 47=some [(0,1),(1,64)]:=by kernel_rfl
theorem Zrg:ZeW Tryz.prog 47=true:=by kernel_rfl
theorem ZlH:Jf Tryz.prog 47=some ([.int .i64 0]++(List.flatten (List.replicate 64 [.int .u16 0]))):=by kernel_rfl
theorem Zaw:tSl Tryz.prog 43 47 65 136=true:=by kernel_rfl
theorem Zf9:tAgg Tryz.prog 47 65=true:=by kernel_rfl
theorem Xm:tFld Tryz.prog 47 0 0=true:=by kernel_rfl
theorem ZN:tMap Tryz.prog 96 3 3=true:=by kernel_rfl
theorem Ztk:Zcl Tryz.prog 98=some [(0,1),(1,1),(2,1),(3,1)]:=by kernel_rfl
theorem Zth:ZeW Tryz.prog 98=true:=by kernel_rfl
theorem ZtJ:Jf Tryz.prog 98=some [.slice none 0 0,.slice none 0 0,.slice none 0 0,.map none]:=by kernel_rfl
theorem ZtM:tAgg Tryz.prog 98 4=true:=by kernel_rfl
theorem ZcT:tFld Tryz.prog 98 1 1=true:=by kernel_rfl
theorem X9:ZlI Tryz.prog 3=some (.int .i64 0):=by kernel_rfl
theorem ZmJ:tFld Tryz.prog 47 1 1=true:=by kernel_rfl
theorem ZbU:tFld Tryz.prog 98 3 3=true:=by kernel_rfl
theorem Zcd:tScal Tryz.prog 96=true:=by kernel_rfl
theorem QQ:tFld Tryz.prog 98 2 2=true:=by kernel_rfl
theorem tZ_98:Tryz.prog.cellsOf 98=4:=by kernel_rfl
instance:SzD Tryz.prog 98 4:=⟨tZ_98⟩
theorem tZ_96:Tryz.prog.cellsOf 96=1:=by kernel_rfl
instance:SzD Tryz.prog 96 1:=⟨tZ_96⟩
theorem Zs0:Jf Tryz.prog 50=some [.int .i64 0,.int .i64 0,.int .i64 0,.int .i64 0,.int .i64 0,.int .i64 0,.int .i64 0,.int .i64 0,.int .i64 0,.int .i64 0,.int .i64 0,.int .i64 0,.int .i64 0,.int .i64 0,.int .i64 0,.int .i64 0,.int .i64 0,.int .i64 0,.int .i64 0,.int .i64 0,.int .i64 0,.int .i64 0,.int .i64 0,.int .i64 0,.int .i64 0,.int .i64 0,.int .i64 0,.int .i64 0,.int .i64 0,.int .i64 0,.int .i64 0,.int .i64 0,.int .i64 0,.int .i64 0,.int .i64 0,.int .i64 0,.int .i64 0,.int .i64 0,.int .i64 0,.int .i64 0,.int .i64 0,.int .i64 0,.int .i64 0,.int .i64 0,.int .i64 0,.int .i64 0,.int .i64 0,.int .i64 0,.int .i64 0,.int .i64 0,.int .i64 0,.int .i64 0,.int .i64 0,.int .i64 0,.int .i64 0,.int .i64 0,.int .i64 0,.int .i64 0,.int .i64 0,.int .i64 0,.int .i64 0,.int .i64 0,.int .i64 0,.int .i64 0]:=by kernel_rfl
theorem tZ_50:Tryz.prog.cellsOf 50=64:=by kernel_rfl
instance:SzD Tryz.prog 50 64:=⟨tZ_50⟩
theorem ZhK:tArr Tryz.prog 50 64 3 1=true:=by kernel_rfl
theorem ZmC:tAgg Tryz.prog 50 64=true:=by kernel_rfl
theorem ZlG:Zcl Tryz.prog 52=some [(0,1),(1,64),(65,64),(129,1),(130,1),(131,1)]:=by kernel_rfl
theorem ZlS:ZeW Tryz.prog 52=true:=by kernel_rfl
theorem ZfL:Jf Tryz.prog 52=some ([.int .i64 0]++(List.flatten (List.replicate 64 [.int .u16 0]))++(List.flatten (List.replicate 64 [.int .i64 0]))++ [.bool false,.int .i64 0,.bool false]):=by kernel_rfl
theorem Jg:tSl Tryz.prog 32 52 132 672=true:=by kernel_rfl
theorem tZ_52:Tryz.prog.cellsOf 52=132:=by kernel_rfl
instance:SzD Tryz.prog 52 132:=⟨tZ_52⟩
theorem Zo3:tFld Tryz.prog 98 0 0=true:=by kernel_rfl
theorem Zkl:Jf Tryz.prog 118=some [.bool false,.bool false,.bool false,.bool false,.bool false,.bool false,.bool false,.bool false,.bool false,.bool false,.bool false,.bool false,.bool false,.bool false,.bool false,.bool false,.bool false,.bool false,.bool false,.bool false,.bool false,.bool false,.bool false,.bool false,.bool false,.bool false,.bool false,.bool false,.bool false,.bool false,.bool false,.bool false,.bool false,.bool false,.bool false,.bool false,.bool false,.bool false,.bool false,.bool false,.bool false,.bool false,.bool false,.bool false,.bool false,.bool false,.bool false,.bool false,.bool false,.bool false,.bool false,.bool false,.bool false,.bool false,.bool false,.bool false,.bool false,.bool false,.bool false,.bool false,.bool false,.bool false,.bool false,.bool false]:=by kernel_rfl
theorem tZ_118:Tryz.prog.cellsOf 118=64:=by kernel_rfl
instance:SzD Tryz.prog 118 64:=⟨tZ_118⟩
theorem ZiK:tArr Tryz.prog 118 64 4 1=true:=by kernel_rfl
theorem Zc8:tAgg Tryz.prog 118 64=true:=by kernel_rfl
theorem X8:tAgg Tryz.prog 52 132=true:=by kernel_rfl
theorem Zao:tFld Tryz.prog 52 1 1=true:=by kernel_rfl
theorem Zce:tFld Tryz.prog 52 2 65=true:=by kernel_rfl
theorem X4:tMap Tryz.prog 105 3 32=true:=by kernel_rfl
theorem Zfb:ZlI Tryz.prog 32=some (.slice none 0 0):=by kernel_rfl
theorem JC:tFld Tryz.prog 52 0 0=true:=by kernel_rfl
theorem tZ_105:Tryz.prog.cellsOf 105=1:=by kernel_rfl
instance:SzD Tryz.prog 105 1:=⟨tZ_105⟩
theorem ZkT:(match Tryz.prog.underlying 32 with |some (.slice _)=>true |_=>false)=true:=by kernel_rfl
theorem Zfp:tFld Tryz.prog 52 4 130=true:=by kernel_rfl
theorem Zl2:tFld Tryz.prog 52 5 131=true:=by kernel_rfl
theorem ZeQ:tFld Tryz.prog 52 3 129=true:=by kernel_rfl
theorem Ztr:tAgg Tryz.prog 39 68=true:=by kernel_rfl
theorem Zje:Zcl Tryz.prog 171=some [(0,1),(1,1)]:=by kernel_rfl
theorem Zjb:ZeW Tryz.prog 171=true:=by kernel_rfl
theorem Zlu:Jf Tryz.prog 171=some [.int .i64 0,.int .i64 0]:=by kernel_rfl
theorem Zff:tSl Tryz.prog 158 171 2 16=true:=by kernel_rfl
theorem tZ_171:Tryz.prog.cellsOf 171=2:=by kernel_rfl
instance:SzD Tryz.prog 171 2:=⟨tZ_171⟩
theorem Zq5:tArr Tryz.prog 178 4 3 1=true:=by kernel_rfl
theorem Zs7:Jf Tryz.prog 178=some [.int .i64 0,.int .i64 0,.int .i64 0,.int .i64 0]:=by kernel_rfl
theorem Zl4:tFld Tryz.prog 39 4 4=true:=by kernel_rfl
def gl0:Gl:=⟨1,[(0,(gv_frame_syncs.toList.map fun z=>Value.int .u16 z).toArray)]⟩
def R5(x:Int):List AV:= [.int .u8 x]
def R40(x:List Int):List AV:= [.sl 5 (List.map R5 x)]
def R3(x:Int):List AV:= [.int .i64 x]
def R4(x:Bool):List AV:= [.bool x]
def R60(x:api_Memory):List AV:= [.int .i64 x.Slots,.int .i64 x.Limit,.sl 40 (List.map R40 x.Sectors),.sl 3 (List.map R3 x.Wear),.sl 4 (List.map R4 x.Bad)]
def C35(x:Int):AV:= .int .u16 x
theorem D3(x:Int):(R3 x).length=Tryz.prog.cellsOf 3∧(R3 x).all datB=true:=⟨tZ_3.symm,rfl⟩
instance:RowD Tryz.prog 3 R3:=⟨D3⟩
def C5(x:Int):AV:= .int .u8 x
theorem D5(x:Int):(R5 x).length=Tryz.prog.cellsOf 5∧(R5 x).all datB=true:=⟨tZ_5.symm,rfl⟩
instance:RowD Tryz.prog 5 R5:=⟨D5⟩
theorem at1{a0:AV}{a1:AV}{a2:AV}{a3:AV}{v4:Vector Int 64}:At ((a0)::(a1)::(a2)::(a3)::((List.map C35 v4.toList)++([]))) 0 1 ([a0]):=at0 (hdc (n:=0) hd0)
theorem pt2{a0:AV}{a1:AV}{a2:AV}{a3:AV}{v4:Vector Int 64}{b0:AV}:Put ((a0)::(a1)::(a2)::(a3)::((List.map C35 v4.toList)++([]))) 0 ([b0]) ((b0)::(a1)::(a2)::(a3)::((List.map C35 v4.toList)++([]))):=ZkC
theorem at3{a0:AV}{a1:AV}{a2:AV}{a3:AV}{v4:Vector Int 64}:At ((a0)::(a1)::(a2)::(a3)::((List.map C35 v4.toList)++([]))) 1 1 ([a1]):=atc (o:=0) (at0 (hdc (n:=0) hd0))
theorem pt4{a0:AV}{a1:AV}{a2:AV}{a3:AV}{v4:Vector Int 64}{b1:AV}:Put ((a0)::(a1)::(a2)::(a3)::((List.map C35 v4.toList)++([]))) 1 ([b1]) ((a0)::(b1)::(a2)::(a3)::((List.map C35 v4.toList)++([]))):=Ze2 (o:=0) (ZkC)
theorem at5{a0:AV}{a1:AV}{a2:AV}{a3:AV}{v4:Vector Int 64}:At ((a0)::(a1)::(a2)::(a3)::((List.map C35 v4.toList)++([]))) 2 1 ([a2]):=atc (o:=1) (atc (o:=0) (at0 (hdc (n:=0) hd0)))
theorem pt6{a0:AV}{a1:AV}{a2:AV}{a3:AV}{v4:Vector Int 64}{b2:AV}:Put ((a0)::(a1)::(a2)::(a3)::((List.map C35 v4.toList)++([]))) 2 ([b2]) ((a0)::(a1)::(b2)::(a3)::((List.map C35 v4.toList)++([]))):=Ze2 (o:=1) (Ze2 (o:=0) (ZkC))
theorem at7{a0:AV}{a1:AV}{a2:AV}{a3:AV}{v4:Vector Int 64}:At ((a0)::(a1)::(a2)::(a3)::((List.map C35 v4.toList)++([]))) 3 1 ([a3]):=atc (o:=2) (atc (o:=1) (atc (o:=0) (at0 (hdc (n:=0) hd0))))
theorem pt8{a0:AV}{a1:AV}{a2:AV}{a3:AV}{v4:Vector Int 64}{b3:AV}:Put ((a0)::(a1)::(a2)::(a3)::((List.map C35 v4.toList)++([]))) 3 ([b3]) ((a0)::(a1)::(a2)::(b3)::((List.map C35 v4.toList)++([]))):=Ze2 (o:=2) (Ze2 (o:=1) (Ze2 (o:=0) (ZkC)))
theorem at9{a0:AV}{a1:AV}{a2:AV}{a3:AV}{v4:Vector Int 64}:At ((a0)::(a1)::(a2)::(a3)::((List.map C35 v4.toList)++([]))) 4 64 ((List.map C35 v4.toList)):=atc (o:=3) (atc (o:=2) (atc (o:=1) (atc (o:=0) (at0 (hdw arL)))))
theorem ZtE{a0:AV}{a1:AV}{a2:AV}{a3:AV}{v4:Vector Int 64}{w4:Vector Int 64}:Put ((a0)::(a1)::(a2)::(a3)::((List.map C35 v4.toList)++([]))) 4 ((List.map C35 w4.toList)) ((a0)::(a1)::(a2)::(a3)::((List.map C35 w4.toList)++([]))):=Ze2 (o:=3) (Ze2 (o:=2) (Ze2 (o:=1) (Ze2 (o:=0) (ZpW (Eq.trans arL (Eq.symm arL))))))
theorem ZjE{a0:AV}{a1:AV}{a2:AV}{a3:AV}{v4:Vector Int 64}:((a0)::(a1)::(a2)::(a3)::((List.map C35 v4.toList)++([]))).length=68:=lnC (n:=67) (lnC (n:=66) (lnC (n:=65) (lnC (n:=64) (lnA (m:=64) (n:=0) arL (lnN)))))
theorem Ztn{x0:Int}{x1:Int}{x2:Int}{x3:Int}{v4:Vector Int 64}:((.int .i64 x0)::(.int .i64 x1)::(.int .i64 x2)::(.int .i64 x3)::((List.map C35 v4.toList)++([]))).all datB=true:=alC rfl (alC rfl (alC rfl (alC rfl (alA (arD fun _=>rfl) (alN)))))
def R39(x:api_Kept):List AV:=(.int .i64 x.Memory)::(.int .i64 x.Sector)::(.int .i64 x.Sequence)::(.int .i64 x.Slot)::((List.map C35 x.Frame.toList)++([]))
theorem ZsZ{x0:Int}{x1:Int}{x2:Int}{x3:Int}{v4:Vector Int 64}:((.int .i64 x0)::(.int .i64 x1)::(.int .i64 x2)::(.int .i64 x3)::((List.map C35 v4.toList)++([]))).all c1B=true:=alC rfl (alC rfl (alC rfl (alC rfl (alA (arC fun _=>rfl) (alN)))))
theorem E39(x:api_Kept):(R39 x).all c1B=true:=ZsZ
theorem D39(x:api_Kept):(R39 x).length=Tryz.prog.cellsOf 39∧(R39 x).all datB=true:=⟨Eq.trans (b:=68) ZjE tZ_39.symm,Ztn⟩
instance:RowD Tryz.prog 39 R39:=⟨D39⟩
def R42(x:api_Piece):List AV:= [.sl 5 (List.map R5 x.Bytes),.bool x.Half]
theorem D42(x:api_Piece):(R42 x).length=Tryz.prog.cellsOf 42∧(R42 x).all datB=true:=⟨tZ_42.symm,rfl⟩
instance:RowD Tryz.prog 42 R42:=⟨D42⟩
def R47(x:api_Found):List AV:=(.int .i64 x.At)::((List.map C35 x.Frame.toList)++([]))
theorem Xq{a0:AV}{v1:Vector Int 64}:((a0)::((List.map C35 v1.toList)++([]))).length=65:=lnC (n:=64) (lnA (m:=64) (n:=0) arL (lnN))
theorem Zlm{x0:Int}{v1:Vector Int 64}:((.int .i64 x0)::((List.map C35 v1.toList)++([]))).all datB=true:=alC rfl (alA (arD fun _=>rfl) (alN))
theorem D47(x:api_Found):(R47 x).length=Tryz.prog.cellsOf 47∧(R47 x).all datB=true:=⟨Eq.trans (b:=65) Xq tZ_47.symm,Zlm⟩
instance:RowD Tryz.prog 47 R47:=⟨D47⟩
theorem Xo{a0:AV}{v1:Vector Int 64}:At ((a0)::((List.map C35 v1.toList)++([]))) 0 1 ([a0]):=at0 (hdc (n:=0) hd0)
theorem ZtA{a0:AV}{v1:Vector Int 64}{b0:AV}:Put ((a0)::((List.map C35 v1.toList)++([]))) 0 ([b0]) ((b0)::((List.map C35 v1.toList)++([]))):=ZkC
theorem ZpS{a0:AV}{v1:Vector Int 64}:At ((a0)::((List.map C35 v1.toList)++([]))) 1 64 ((List.map C35 v1.toList)):=atc (o:=0) (at0 (hdw arL))
theorem Zs6{a0:AV}{v1:Vector Int 64}{w1:Vector Int 64}:Put ((a0)::((List.map C35 v1.toList)++([]))) 1 ((List.map C35 w1.toList)) ((a0)::((List.map C35 w1.toList)++([]))):=Ze2 (o:=0) (ZpW (Eq.trans arL (Eq.symm arL)))
theorem Zmh{x0:Int}{v1:Vector Int 64}:((.int .i64 x0)::((List.map C35 v1.toList)++([]))).all c1B=true:=alC rfl (alA (arC fun _=>rfl) (alN))
theorem E47(x:api_Found):(R47 x).all c1B=true:=Zmh
theorem Zr3{x0:Int}{v1:Vector Int 64}:NS ((.int .i64 x0)::((List.map C35 v1.toList)++([]))):=nsC rfl (nsA (nsM fun _=>rfl) (nsR rfl))
def FK3(x:Int):AV:= .int .i64 x
theorem QV:KeyOK Tryz.prog 3 FK3 kqI:=Zqa (fun _=>rfl) tI3
def FV3(x:Int):AV:= .int .i64 x
def C3(x:Int):AV:= .int .i64 x
theorem ZbW{a0:AV}{v1:Vector Int 64}{v2:Vector Int 64}{a3:AV}{a4:AV}{a5:AV}:At ((a0)::((List.map C35 v1.toList)++(((List.map C3 v2.toList)++((a3)::(a4)::(a5):: []))))) 0 1 ([a0]):=at0 (hdc (n:=0) hd0)
theorem Zqo{a0:AV}{v1:Vector Int 64}{v2:Vector Int 64}{a3:AV}{a4:AV}{a5:AV}{b0:AV}:Put ((a0)::((List.map C35 v1.toList)++(((List.map C3 v2.toList)++((a3)::(a4)::(a5):: []))))) 0 ([b0]) ((b0)::((List.map C35 v1.toList)++(((List.map C3 v2.toList)++((a3)::(a4)::(a5):: []))))):=ZkC
theorem Zdd{a0:AV}{v1:Vector Int 64}{v2:Vector Int 64}{a3:AV}{a4:AV}{a5:AV}:At ((a0)::((List.map C35 v1.toList)++(((List.map C3 v2.toList)++((a3)::(a4)::(a5):: []))))) 1 64 ((List.map C35 v1.toList)):=atc (o:=0) (at0 (hdw arL))
theorem ZjJ{a0:AV}{v1:Vector Int 64}{v2:Vector Int 64}{a3:AV}{a4:AV}{a5:AV}{w1:Vector Int 64}:Put ((a0)::((List.map C35 v1.toList)++(((List.map C3 v2.toList)++((a3)::(a4)::(a5):: []))))) 1 ((List.map C35 w1.toList)) ((a0)::((List.map C35 w1.toList)++(((List.map C3 v2.toList)++((a3)::(a4)::(a5):: []))))):=Ze2 (o:=0) (ZpW (Eq.trans arL (Eq.symm arL)))
theorem Zdy{a0:AV}{v1:Vector Int 64}{v2:Vector Int 64}{a3:AV}{a4:AV}{a5:AV}:At ((a0)::((List.map C35 v1.toList)++(((List.map C3 v2.toList)++((a3)::(a4)::(a5):: []))))) 65 64 ((List.map C3 v2.toList)):=atc (o:=64) (ata (m:=64) (o:=0) arL (at0 (hdw arL)))
theorem ZjM{a0:AV}{v1:Vector Int 64}{v2:Vector Int 64}{a3:AV}{a4:AV}{a5:AV}{w2:Vector Int 64}:Put ((a0)::((List.map C35 v1.toList)++(((List.map C3 v2.toList)++((a3)::(a4)::(a5):: []))))) 65 ((List.map C3 w2.toList)) ((a0)::((List.map C35 v1.toList)++(((List.map C3 w2.toList)++((a3)::(a4)::(a5):: []))))):=Ze2 (o:=64) (ZmB (m:=64) (o:=0) arL (ZpW (Eq.trans arL (Eq.symm arL))))
theorem Zim{a0:AV}{v1:Vector Int 64}{v2:Vector Int 64}{a3:AV}{a4:AV}{a5:AV}:At ((a0)::((List.map C35 v1.toList)++(((List.map C3 v2.toList)++((a3)::(a4)::(a5):: []))))) 129 1 ([a3]):=atc (o:=128) (ata (m:=64) (o:=64) arL (ata (m:=64) (o:=0) arL (at0 (hdc (n:=0) hd0))))
theorem ZnH{a0:AV}{v1:Vector Int 64}{v2:Vector Int 64}{a3:AV}{a4:AV}{a5:AV}{b3:AV}:Put ((a0)::((List.map C35 v1.toList)++(((List.map C3 v2.toList)++((a3)::(a4)::(a5):: []))))) 129 ([b3]) ((a0)::((List.map C35 v1.toList)++(((List.map C3 v2.toList)++((b3)::(a4)::(a5):: []))))):=Ze2 (o:=128) (ZmB (m:=64) (o:=64) arL (ZmB (m:=64) (o:=0) arL (ZkC)))
theorem ZjH{a0:AV}{v1:Vector Int 64}{v2:Vector Int 64}{a3:AV}{a4:AV}{a5:AV}:At ((a0)::((List.map C35 v1.toList)++(((List.map C3 v2.toList)++((a3)::(a4)::(a5):: []))))) 130 1 ([a4]):=atc (o:=129) (ata (m:=64) (o:=65) arL (ata (m:=64) (o:=1) arL (atc (o:=0) (at0 (hdc (n:=0) hd0)))))
theorem ZnI{a0:AV}{v1:Vector Int 64}{v2:Vector Int 64}{a3:AV}{a4:AV}{a5:AV}{b4:AV}:Put ((a0)::((List.map C35 v1.toList)++(((List.map C3 v2.toList)++((a3)::(a4)::(a5):: []))))) 130 ([b4]) ((a0)::((List.map C35 v1.toList)++(((List.map C3 v2.toList)++((a3)::(b4)::(a5):: []))))):=Ze2 (o:=129) (ZmB (m:=64) (o:=65) arL (ZmB (m:=64) (o:=1) arL (Ze2 (o:=0) (ZkC))))
theorem ZC{a0:AV}{v1:Vector Int 64}{v2:Vector Int 64}{a3:AV}{a4:AV}{a5:AV}:((a0)::((List.map C35 v1.toList)++(((List.map C3 v2.toList)++((a3)::(a4)::(a5):: []))))).length=132:=lnC (n:=131) (lnA (m:=64) (n:=67) arL (lnA (m:=64) (n:=3) arL (lnC (n:=2) (lnC (n:=1) (lnC (n:=0) (lnN))))))
theorem Zak{x0:Int}{v1:Vector Int 64}{v2:Vector Int 64}{x3:Bool}{x4:Int}{x5:Bool}:((.int .i64 x0)::((List.map C35 v1.toList)++(((List.map C3 v2.toList)++((.bool x3)::(.int .i64 x4)::(.bool x5):: []))))).all datB=true:=alC rfl (alA (arD fun _=>rfl) (alA (arD fun _=>rfl) (alC rfl (alC rfl (alC rfl (alN))))))
def R52(x:api_Rest):List AV:=(.int .i64 x.Number)::((List.map C35 x.Frame.toList)++(((List.map C3 x.States.toList)++((.bool x.Sound)::(.int .i64 x.Copies)::(.bool x.Conflict):: []))))
def C4(x:Bool):AV:= .bool x
theorem ZeG{x0:Int}{v1:Vector Int 64}{v2:Vector Int 64}{x3:Bool}{x4:Int}{x5:Bool}:((.int .i64 x0)::((List.map C35 v1.toList)++(((List.map C3 v2.toList)++((.bool x3)::(.int .i64 x4)::(.bool x5):: []))))).all c1B=true:=alC rfl (alA (arC fun _=>rfl) (alA (arC fun _=>rfl) (alC rfl (alC rfl (alC rfl (alN))))))
theorem Zdi{x0:Int}{v1:Vector Int 64}{v2:Vector Int 64}{x3:Bool}{x4:Int}{x5:Bool}:NS ((.int .i64 x0)::((List.map C35 v1.toList)++(((List.map C3 v2.toList)++((.bool x3)::(.int .i64 x4)::(.bool x5):: []))))):=nsC rfl (nsA (nsM fun _=>rfl) (nsA (nsM fun _=>rfl) (nsC rfl (nsC rfl (nsC rfl (nsR rfl))))))
theorem E52(x:api_Rest):(R52 x).all c1B=true:=ZeG
theorem D52(x:api_Rest):(R52 x).length=Tryz.prog.cellsOf 52∧(R52 x).all datB=true:=⟨Eq.trans (b:=132) ZC tZ_52.symm,Zak⟩
instance:RowD Tryz.prog 52 R52:=⟨D52⟩
theorem ZqV{a0:AV}{v1:Vector Int 64}{v2:Vector Int 64}{a3:AV}{a4:AV}{a5:AV}:At ((a0)::((List.map C35 v1.toList)++(((List.map C3 v2.toList)++((a3)::(a4)::(a5):: []))))) 131 1 ([a5]):=atc (o:=130) (ata (m:=64) (o:=66) arL (ata (m:=64) (o:=2) arL (atc (o:=1) (atc (o:=0) (at0 (hdc (n:=0) hd0))))))
theorem Zn9:Zqt Tryz.prog 37 ((List.replicate 64 ([.i .u16])).flatten):=⟨by kernel_rfl,by kernel_rfl,by kernel_rfl⟩
theorem ZtV{a0:AV}{v1:Vector Int 64}{v2:Vector Int 64}{a3:AV}{a4:AV}{a5:AV}{b5:AV}:Put ((a0)::((List.map C35 v1.toList)++(((List.map C3 v2.toList)++((a3)::(a4)::(a5):: []))))) 131 ([b5]) ((a0)::((List.map C35 v1.toList)++(((List.map C3 v2.toList)++((a3)::(a4)::(b5):: []))))):=Ze2 (o:=130) (ZmB (m:=64) (o:=66) arL (ZmB (m:=64) (o:=2) arL (Ze2 (o:=1) (Ze2 (o:=0) (ZkC)))))
theorem ZtG{x0:Int}{v1:Vector Int 64}{v2:Vector Int 64}{x3:Bool}{x4:Int}{x5:Bool}:((.int .i64 x0)::((List.map C35 v1.toList)++(((List.map C3 v2.toList)++((.bool x3)::(.int .i64 x4)::(.bool x5):: []))))).all flB=true:=alC rfl (alA (arF fun _=>rfl) (alA (arF fun _=>rfl) (alC rfl (alC rfl (alC rfl (alN))))))
theorem ZtO(x:api_Rest):(R52 x).length=Tryz.prog.cellsOf 52∧ZoI Tryz.prog (R52 x):=⟨(D52 x).1,dlF ZtG⟩
def R171(x:api_Flaw):List AV:= [.int .i64 x.Word,.int .i64 x.Kind]
theorem D171(x:api_Flaw):(R171 x).length=Tryz.prog.cellsOf 171∧(R171 x).all datB=true:=⟨tZ_171.symm,rfl⟩
instance:RowD Tryz.prog 171 R171:=⟨D171⟩
theorem Zgc{x:Int}{r:Int}(h:Zaa x=some r):
 CSpec Tryz.prog gl0 85 [.int .u16 x] (.int .i64 r):=by
 unfold Zaa at h
 replace h:=Qk h
 refine So Tryz.func85 Y fun w0 A=>Tr<|Ra Y<|Za<|Zl<|Qe (cw:=md0) (by kernel_rfl)<|D1 0 Zc Y<|bE h fun q h_q h=>Dq 1 Y (Zbo (ov Y) (ov Y) h_q)<|bE h fun b h_b h=>Dq 2 Y (ZlA (ov Y) (ov Y) Zq3 h_b)<|D1 3 Zc Y<|D2 4 ZbX Y<|bE h fun b2 h_b2 h=>Dq 5 Y (ZlA (ov Y) (ov Y) Zq3 h_b2)<|D2 6 ZX Y<|Dq 7 Y (Qy (ov Y) tI5 tI3 Y)<|D1 8 QK Y<|Dd<|?_
 obtain rfl:=rt h
 exact Zs (ZK Y (.one<|rb Y))
theorem Zcf{w:Int}{r:Bool}(h:J5 w=some r):
 CSpec Tryz.prog gl0 56 [.int .u16 w] (.bool r):=by
 unfold J5 at h
 replace h:=Qk h
 refine So Tryz.func56 Y fun w0 A=>Tr<|Ra Y<|Za<|Tr<|Rm Y<|R2 Zfc Y<|Rm Y<|Rq Y (.guarded ((decide (w≤4095))==true) Y Y Y Y fun h=>Zc<|ov Y)<|bE h fun y h_y h=>Rq Y (.guarded ((decide (w≤4095))==true) Y Y Y Y fun h=>Zq (Zgc<|gdT h_y h)<|.cons (ow Y h) (.b Y) .nil)<|bE h fun q h_q h=>Rq Y (.guarded ((decide (w≤4095))==true) Y Y Y Y fun h=>JI (ow Y h) (ov Y)<|gdT h_q h)<|Rq Y (.guarded ((decide (w≤4095))==true) Y Y Y Y fun h=>Q3 (ow Y h)<|ov Y)<|Rq Y (XJ (ov Y) fun hp=>ow Y<|gT hp)<|Ra Y<|Za<|?_
 obtain rfl:=rt h
 exact Zs (ZK Y (.one<|rb Y))
theorem Xv{data:Int}{r:Int}(h:Xa data=some r):
 CSpec Tryz.prog gl0 28 [.int .i64 data] (.int .u16 r):=by
 unfold Xa at h
 replace h:=Qk h
 refine So Tryz.func28 Y fun w0 A=>Tr<|Ra Y<|Za<|K1 0 Y<|Tr<|Rm Y<|Rq Y (Qy (ov Y) tI3 ZcN Y)<|Ra Y<|Za<|Zl<|K1 3 Y<|Tr<|Rm Y<|bE h fun y h_y h=>Rq Y (Zq (Zcf h_y)<|.cons (ov Y) (.b Y) .nil)<|R1 XV Y<|Za<|K2 3 8 Y<|If h Y (fun h=>?_) fun h=>?_
 ·
  refine K1 3 Y<|Zt<|Rm Y<|R2 Zgl Y<|Ra Y<|Za<|K1 3 Y<|Tr<|Rm Y<|Ra Y<|Za<|?_
  obtain rfl:=rt h
  exact Zs (ZK Y (.one<|rb Y))
 ·
  refine Zj<|K1 3 Y<|Tr<|Rm Y<|Ra Y<|Za<|?_
  obtain rfl:=rt h
  exact Zs (ZK Y (.one<|rb Y))
theorem Jo{w:Int}{r:Int}(h:Xl w=some r):
 CSpec Tryz.prog gl0 86 [.int .u16 w] (.int .i64 r):=by
 unfold Xl at h
 replace h:=Qk h
 refine So Tryz.func86 Y fun w0 A=>Tr<|Ra Y<|Za<|Tr<|Rm Y<|R2 ZbX Y<|Rq Y (Qy (ov Y) ZcN tI3 Y)<|Ra Y<|Za<|?_
 obtain rfl:=rt h
 exact Zs (ZK Y (.one<|rb Y))
theorem ZaK{f:Vector Int 64}{r:Int}(h:Xe f=some r):
 CSpec Tryz.prog gl0 57 [.rp (List.map C35 f.toList) 0] (.int .i64 r):=by
 unfold Xe at h
 replace h:=Qk h
 refine So Tryz.func57 Y fun w0 A=>Tr<|Ra Y<|Za<|Zl<|Qe (cw:=md0) (by kernel_rfl)<|D1 0 Zc Y<|D1 1 ZD Y<|bE h fun x h_x h=>Dq 2 Y (QI (ov Y) (ov Y) Xc h_x)<|Dq 3 Y (Zd (ov Y) Xn<|Zn<|Qn (o:=0) (o':=((Int.toNat 1)*1)) (Zh arL)<|Qd h_x)<|bE h fun y h_y h=>Dq 4 Y (Zq (Jo h_y)<|.cons (ov Y) (.b Y) .nil)<|D1 5 Zc Y<|D1 6 ZD Y<|bE h fun x2 h_x2 h=>Dq 7 Y (QI (ov Y) (ov Y) Xc h_x2)<|Dq 8 Y (Zd (ov Y) Xn<|Zn<|Qn (o:=0) (o':=((Int.toNat 2)*1)) (Zh arL)<|Qd h_x2)<|bE h fun y2 h_y2 h=>Dq 9 Y (Zq (Jo h_y2)<|.cons (ov Y) (.b Y) .nil)<|bE h fun q h_q h=>Dq 10 Y (Zel (ov Y) (ov Y) h_q)<|D2 11 Zgl Y<|D1 12 QK Y<|Dd<|?_
 obtain rfl:=rt h
 exact Zs (ZK Y (.one<|rb Y))
theorem Zct{f:Vector Int 64}{r:Int}(h:Jl f=some r):
 CSpec Tryz.prog gl0 58 [.rp (List.map C35 f.toList) 0] (.int .i64 r):=by
 unfold Jl at h
 replace h:=Qk h
 refine So Tryz.func58 Y fun w0 A=>Tr<|Ra Y<|Za<|K1 0 Y<|Tr<|Ra Y<|Za<|I1 (fun n=>⟨[(3,.int .i64 n)],[]⟩) h (fun h=>?_) fun n h=>?_
 ·
  refine Tr<|Rm Y<|Za<|Zi<|?_
  obtain⟨r1,hl1,ho1⟩:=QZ h
  refine L2 (fun n2 i=>⟨[(0,.rp (List.map C35 f.toList) 0),(3,.int .i64 n2),(5,.int .i64 i)],[]⟩) hl1 (ES []) fun n1 n2 i h=>?_
  unfold JE at h
  refine Tr<|R2 ZV Y<|Za<|Zl<|If h Y (fun h=>?_) fun h=>?_
  ·
   exact Zj<|Zl<|Zi<|K3 0 3 5 Y<|Tr<|Rm Y<|Ra Y<|Za<|K4 0 3 4 5 Y<|Zt<|Rm Y<|Rm Y<|Rm Y<|R2 ZX Y<|R1 ZD Y<|bE h fun x h_x h=>Rq Y (QI (ov Y) (ov Y) Xc h_x)<|Rq Y (Zd (ov Y) Xn<|Zn<|Qn (o:=0) (o':=((i64 (i+1)).toNat*1)) (Zh arL)<|Qd h_x)<|bE h fun y h_y h=>Rq Y (Zq (Jo h_y)<|.cons (ov Y) (.b Y) .nil)<|R2 ZhG Y<|Ra Y<|Za<|K3 0 3 5 Y<|Zt<|R2 ZX Y<|Rm Y<|Za<|⟨_,h,ES []⟩
  ·
   refine ZI<|?_
   replace h:=lx h▸ho1
   exact⟨_,h,ES []⟩
 ·
  refine Tr<|Rm Y<|Ra Y<|Za<|?_
  obtain rfl:=rt h
  exact Zs (ZK Y (.one<|rb Y))
theorem Za9{f:Vector Int 64}{r:Int}(h:Xw f=some r):
 CSpec Tryz.prog gl0 59 [.rp (List.map C35 f.toList) 0] (.int .i64 r):=by
 unfold Xw at h
 replace h:=Qk h
 refine So Tryz.func59 Y fun w0 A=>Tr<|Ra Y<|Za<|K1 0 Y<|Tr<|Ra Y<|Za<|I1 (fun n=>⟨[(3,.int .i64 n)],[]⟩) h (fun h=>?_) fun n h=>?_
 ·
  refine Tr<|Rm Y<|Za<|Zi<|?_
  obtain⟨r1,hl1,ho1⟩:=QZ h
  refine L2 (fun n2 i=>⟨[(0,.rp (List.map C35 f.toList) 0),(3,.int .i64 n2),(7,.int .i64 i)],[]⟩) hl1 (ES []) fun n1 n2 i h=>?_
  unfold XR at h
  refine Tr<|R2 ZV Y<|Za<|Zl<|If h Y (fun h=>?_) fun h=>?_
  ·
   refine Zj<|I1 (fun n3=>⟨[(0,.rp (List.map C35 f.toList) 0),(3,.int .i64 n3),(7,.int .i64 i)],[]⟩) h (fun h=>?_) fun n3 h=>?_
   ·
    refine Zi<|K3 0 3 7 Y<|Tr<|Rm Y<|Ra Y<|Za<|K4 0 3 4 7 Y<|Tr<|Ra Y<|Za<|Zi<|?_
    obtain⟨r2,hl2,ho2⟩:=QZ h
    refine L2 (fun n4 k=>⟨[(0,.rp (List.map C35 f.toList) 0),(3,.int .i64 n4),(4,.int .i64 i),(5,.int .i64 k),(7,.int .i64 i)],[]⟩) hl2 (ES []) fun n2 n4 k h=>?_
    unfold Xu at h
    refine Zl<|Tr<|Rm Y<|R2 Zc5 Y<|Za<|K6 0 3 4 5 7 11 Y<|If h Y (fun h=>?_) fun h=>?_
    ·
     refine Zj<|Zl<|Zi<|K5 0 3 4 5 7 Y<|Tr<|Rm Y<|R2 ZbX Y<|R2 XW Y<|Ra Y<|Za<|K6 0 3 4 5 6 7 Y<|Tr<|Rm Y<|bE h fun q h_q h=>Rq Y (Zel (ov Y) (ov Y) h_q)<|R2 ZbX Y<|Ra Y<|Za<|K6 0 3 4 5 6 7 Y<|Tr<|Rm Y<|Rm Y<|Rm Y<|R1 ZD Y<|bE h fun x h_x h=>Rq Y (QI (ov Y) (ov Y) Xc h_x)<|Rq Y (Zd (ov Y) Xn<|Zn<|Qn (o:=0) (o':=(i.toNat*1)) (Zh arL)<|Qd h_x)<|Rm Y<|bE h fun q2 h_q2 h=>Rq Y (Zbo (ov Y) (ov Y) h_q2)<|R2 ZbX Y<|R2 Q3 Y<|Rq Y (ZpF .neq (by simp) (ov Y) (ov Y) tB4)<|Za<|K6 0 3 4 5 7 30 Y<|If h Y (fun h=>?_) fun h=>?_
     ·
      exact K5 0 3 4 5 7 Y<|Zt<|Rm Y<|R2 ZhG Y<|Ra Y<|Za<|K5 0 3 4 5 7 Y<|Zt<|Rm Y<|R2 ZaO Y<|Ra Y<|Za<|⟨_,h,ES []⟩
     ·
      exact Zj<|K5 0 3 4 5 7 Y<|Zt<|Rm Y<|R2 ZaO Y<|Ra Y<|Za<|⟨_,h,ES []⟩
    ·
     refine ZI<|?_
     replace h:=lx h▸ho2
     exact⟨_,h,ES []⟩
   ·
    exact Zt<|R2 ZX Y<|Rm Y<|Za<|⟨_,h,ES []⟩
  ·
   refine ZI<|?_
   replace h:=lx h▸ho1
   exact⟨_,h,ES []⟩
 ·
  refine Tr<|Rm Y<|Ra Y<|Za<|?_
  obtain rfl:=rt h
  exact Zs (ZK Y (.one<|rb Y))
theorem ZgO{f:Vector Int 64}{r:(Vector Int 64)}(h:Zck f=some r):
 GSpec Tryz.prog gl0 29 [.ptr 0 1 0 0] [some ⟨37,[(List.map C35 f.toList)]⟩] (.tuple []) [some ⟨37,[(List.map C35 r.toList)]⟩]:=by
 unfold Zck at h
 replace h:=Qk h
 refine ZaU (by kernel_rfl) Tryz.func29 Y Y<|?_
 intro w0 A W φ0
 refine Zl<|Qe (cw:=md0) (by kernel_rfl)<|D1 0 Zc Y<|D1 1 Zc Y<|bE h fun y h_y h=>Dq 2 Y (ZaN (ZaK h_y) .int<|.cons (ov Y) (View.ptr Y Y Y (pwB<|arD fun _=>Y) (hns:=(nsM fun _=>Y))) .nil)<|bE h fun q h_q h=>Dq 3 Y (JI (ov Y) (ov Y) h_q)<|bE h fun x h_x h=>Dq 4 Y (QI (og (v:=gv_frame_syncs) (k:= .u16) (f:=C35) (by simp [gl0]) fun _=>Y) (ov Y) Znh h_x)<|Dq 5 Y (Zd (ov Y) Xn<|Zn<|Qn (o:=0) (o':=(q.toNat*1)) (Zh arL)<|Qd h_x)<|Dq 6 Y (Zo (ov Y) Y Y)<|bE h fun x2 h_x2 h=>Dq 7 Y (QB (ov Y) (ov Y) Xc Y Y h_x2)<|Do 8 Y (Zf (ov Y) (ov Y) (Zg Xn) Y Y Y (arB h_x2) (Zb Y)<|arS h_x2)<|Dd<|Zl<|K1 0 Y<|Qe (cw:=md0) (by kernel_rfl)<|D1 0 Zc Y<|D1 1 Zc Y<|bE h fun y2 h_y2 h=>Dq 2 Y (ZaN (Zct h_y2) .int<|.cons (ov Y) (View.ptr Y Y Y (pwB<|arD fun _=>Y) (hns:=(nsM fun _=>Y))) .nil)<|bE h fun y3 h_y3 h=>Dq 3 Y (Zq (Xv h_y3)<|.cons (ov Y) (.b Y) .nil)<|Dq 4 Y (Zo (ov Y) Y Y)<|bE h fun x3 h_x3 h=>Dq 5 Y (QB (ov Y) (ov Y) Xc Y Y h_x3)<|Do 6 Y (Zf (ov Y) (ov Y) (Zg Xn) Y Y Y (arB h_x3) (Zb Y)<|arS h_x3)<|Dd<|K1 0 Y<|Tr<|Rm Y<|bE h fun y4 h_y4 h=>Rq Y (ZaN (Za9 h_y4) .int<|.cons (ov Y) (View.ptr Y Y Y (pwB<|arD fun _=>Y) (hns:=(nsM fun _=>Y))) .nil)<|Ra Y<|Za<|K2 0 2 Y<|Qe (cw:=md0) (by kernel_rfl)<|D1 0 Zc Y<|D1 2 Zc Y<|bE h fun q2 h_q2 h=>Dq 3 Y (Zbo (ov Y) (ov Y) h_q2)<|bE h fun y5 h_y5 h=>Dq 4 Y (Zq (Xv h_y5)<|.cons (ov Y) (.b Y) .nil)<|D1 5 Zc Y<|D2 6 ZbX Y<|bE h fun y6 h_y6 h=>Dq 7 Y (Zq (Xv h_y6)<|.cons (ov Y) (.b Y) .nil)<|Dq 8 Y (Zo (ov Y) Y Y)<|bE h fun x4 h_x4 h=>Dq 9 Y (QB (ov Y) (ov Y) Xc Y Y h_x4)<|XG 1 _ Y (by kernel_rfl) Y Y (fun hp'=>Zc<|ov Y)<|Dw 11 10 Y (Zo (ov Y) Y Y) (Zf (ov Y) (ov Y) (Zg Xn) Y Y Y (arB h_x4) (Zb Y)<|arS h_x4) ?_ ?_
 ·
  refine Do 10 Y (Zf (ov Y) (ov Y) (Zg Xn) Y Y Y (arB h_x4) (Zb Y)<|arS h_x4)<|bE h fun x5 h_x5 h=>Dq 12 Y (QB (ov Y) (ov Y) Xc Y Y h_x5)<|Do 13 Y (Zf (ov Y) (ov Y) (Zg Xn) Y Y Y (arB h_x5) (Zb Y)<|arS h_x5)<|Dd<|?_
  obtain rfl:=rt h
  exact Zfz [some 0] Y .nil (.cons Y (ro1 (by exact Eq.trans (b:=64) arL tZ_37.symm)<|rld<|arD fun _=>Y) .nil) Y Y<|ZbA rln
 ·
  refine Dq 11 Y (Zo (ov Y) Y Y)<|bE h fun x5 h_x5 h=>Dq 12 Y (QB (ov Y) (ov Y) Xc Y Y h_x5)<|Do 13 Y (Zf (ov Y) (ov Y) (Zg Xn) Y Y Y (arB h_x5) (Zb Y)<|arS h_x5)<|Dd<|?_
  obtain rfl:=rt h
  exact Zfz [some 0] Y .nil (.cons Y (ro1 (by exact Eq.trans (b:=64) arL tZ_37.symm)<|rld<|arD fun _=>Y) .nil) Y Y<|ZbA rln
theorem ZkV{number:Int}{data:List Int}{r:(Vector Int 64)×Int}(h:Zew number data=some r):
 CSpec Tryz.prog gl0 10 [.int .i64 number,.sl 3 (List.map R3 data)] (.tuple [.agg (List.map C35 r.1.toList),.int .i64 r.2]):=by
 unfold Zew at h
 replace h:=Qk h
 refine So Tryz.func10 Y fun w0 A=>Tr<|Rx Y (ZP (row:=(List.map C35 (Vector.replicate 64 0).toList)) 0 Y ZcI Y tZ_37)<|Ra Y<|Za<|Zl<|K3 0 1 4 Y<|Tr<|Rm Y<|R2 ZV Y<|Rm Y<|Rq Y (.guarded ((decide (number<0))==false) Y Y Y Y fun h=>Zc<|ov Y)<|Rq Y (.guarded ((decide (number<0))==false) Y Y Y Y fun h=>Zc5 (ow Y h)<|ov Y)<|Rq Y (Za2 (ov Y) fun hp=>ow Y<|gF hp)<|Za<|K4 0 1 4 14 Y<|If h Y (fun h=>?_) fun h=>?_
 ·
  refine K1 4 Y<|Tr<|R_q (.agg<|List.map C35 (#v[0,0,0,0,0,0,0,0,0,0,0,0,0,0,0,0,0,0,0,0,0,0,0,0,0,0,0,0,0,0,0,0,0,0,0,0,0,0,0,0,0,0,0,0,0,0,0,0,0,0,0,0,0,0,0,0,0,0,0,0,0,0,0,0]:Vector Int 64).toList) Y (Zbq (ys:= [_,_,_,_,_,_,_,_,_,_,_,_,_,_,_,_,_,_,_,_,_,_,_,_,_,_,_,_,_,_,_,_,_,_,_,_,_,_,_,_,_,_,_,_,_,_,_,_,_,_,_,_,_,_,_,_,_,_,_,_,_,_,_,_]) Xc ZcI .nil Y)<|Rx Y (Zf (ov Y) (ov Y) (Zp Qz arL) Y Y Y (ZG (Zh arL) arL) (Zb<|arC fun _=>Y)<|ZO<|Eq.trans arL<|Eq.symm arL)<|Ra Y<|Za<|?_
  obtain rfl:=rt h
  exact Zs (ZK Y (.two (.agg Y Y Y Y Qz (Zu<|Zh arL) arL (pwB<|arD fun _=>Y) (hns:=(nsM fun _=>Y)))<|rb Y))
 ·
  refine Zj<|Zl<|K3 0 1 4 Y<|Tr<|Rm Y<|Rl tZ_3 Qp Y<|R2 XW Y<|Za<|K4 0 1 4 18 Y<|If h Y (fun h=>?_) fun h=>?_
  ·
   refine K1 4 Y<|Tr<|R_q (.agg<|List.map C35 (#v[0,0,0,0,0,0,0,0,0,0,0,0,0,0,0,0,0,0,0,0,0,0,0,0,0,0,0,0,0,0,0,0,0,0,0,0,0,0,0,0,0,0,0,0,0,0,0,0,0,0,0,0,0,0,0,0,0,0,0,0,0,0,0,0]:Vector Int 64).toList) Y (Zbq (ys:= [_,_,_,_,_,_,_,_,_,_,_,_,_,_,_,_,_,_,_,_,_,_,_,_,_,_,_,_,_,_,_,_,_,_,_,_,_,_,_,_,_,_,_,_,_,_,_,_,_,_,_,_,_,_,_,_,_,_,_,_,_,_,_,_]) Xc ZcI .nil Y)<|Rx Y (Zf (ov Y) (ov Y) (Zp Qz arL) Y Y Y (ZG (Zh arL) arL) (Zb<|arC fun _=>Y)<|ZO<|Eq.trans arL<|Eq.symm arL)<|Ra Y<|Za<|?_
   obtain rfl:=rt h
   exact Zs (ZK Y (.two (.agg Y Y Y Y Qz (Zu<|Zh arL) arL (pwB<|arD fun _=>Y) (hns:=(nsM fun _=>Y)))<|rb Y))
  ·
   refine Zj<|K3 0 1 4 Y<|Tr<|Rx Y (ZP (row:=(List.map C35 (Vector.replicate 64 0).toList)) 1 Y ZcI Y tZ_37)<|Za<|Tr<|Rm Y<|R2 ZbX Y<|bE h fun y h_y h=>Rq Y (Zq (Xv h_y)<|.cons (ov Y) (.b Y) .nil)<|Rm Y<|bE h fun q h_q h=>Rq Y (Zbo (ov Y) (ov Y) h_q)<|bE h fun y2 h_y2 h=>Rq Y (Zq (Xv h_y2)<|.cons (ov Y) (.b Y) .nil)<|bE h fun x h_x h=>Rq Y (QB (ov Y) (ov Y) Xc Y Y h_x)<|Rx Y (Zf (ov Y) (ov Y) (Zg Xn) Y Y Y (arB h_x) (Zb Y)<|arS h_x)<|bE h fun x2 h_x2 h=>Rq Y (QB (ov Y) (ov Y) Xc Y Y h_x2)<|Rx Y (Zf (ov Y) (ov Y) (Zg Xn) Y Y Y (arB h_x2) (Zb Y)<|arS h_x2)<|Za<|J1 (fun j=>(.inr j)) (fun f=>⟨[(4,.ptr 0 1 0 0),(6,.ptr 1 1 0 0)],[some ⟨37,[(List.map C35 (Vector.replicate 64 0).toList)]⟩,some ⟨37,[(List.map C35 f.toList)]⟩]⟩) h (fun h=>?_) fun f h=>?_
   ·
    refine K3 1 4 6 Y<|Tr<|Rm Y<|Rl tZ_3 Qp Y<|Rm Y<|Za<|Zi<|?_
    obtain⟨r1,hl1,ho1⟩:=QZ h
    refine L2 (fun f2 i=>⟨[(4,.ptr 0 1 0 0),(6,.ptr 1 1 0 0),(28,.sl 3 (List.map R3 data)),(29,.int .i64 (data.length:Int)),(30,.int .i64 i)],[some ⟨37,[(List.map C35 (Vector.replicate 64 0).toList)]⟩,some ⟨37,[(List.map C35 f2.toList)]⟩]⟩) hl1 (ES [some 0,some 1]) fun n1 f2 i h=>?_
    unfold Zdr at h
    refine Tr<|R2 ZV Y<|Za<|Zl<|If h Y (fun h=>?_) fun h=>?_
    ·
     refine Zj<|Zl<|Zi<|K5 4 6 28 29 30 Y<|Tr<|Rm Y<|bE h fun x3 h_x3 h=>Rq Y (ZW (ov Y) (ov Y) Qp h_x3)<|Rq Y (Zd (ov Y) tS3 Y)<|Ra Y<|Ra Y<|Za<|Zl<|K7 4 6 7 8 28 29 30 Y<|Tr<|Rm Y<|R2 ZV Y<|Rm Y<|Rq Y (.guarded ((decide (x3<0))==false) Y Y Y Y fun h=>Zc<|ov Y)<|Rq Y (.guarded ((decide (x3<0))==false) Y Y Y Y fun h=>ZaL (ow Y h)<|ov Y)<|Rq Y (Za2 (ov Y) fun hp=>ow Y<|gF hp)<|Za<|K8 4 6 7 8 28 29 30 40 Y<|If h Y (fun h=>?_) fun h=>?_
     ·
      refine K1 4 Y<|Tr<|R_q (.agg<|List.map C35 (#v[0,0,0,0,0,0,0,0,0,0,0,0,0,0,0,0,0,0,0,0,0,0,0,0,0,0,0,0,0,0,0,0,0,0,0,0,0,0,0,0,0,0,0,0,0,0,0,0,0,0,0,0,0,0,0,0,0,0,0,0,0,0,0,0]:Vector Int 64).toList) Y (Zbq (ys:= [_,_,_,_,_,_,_,_,_,_,_,_,_,_,_,_,_,_,_,_,_,_,_,_,_,_,_,_,_,_,_,_,_,_,_,_,_,_,_,_,_,_,_,_,_,_,_,_,_,_,_,_,_,_,_,_,_,_,_,_,_,_,_,_]) Xc ZcI .nil Y)<|Rx Y (Zf (ov Y) (ov Y) (Zp Qz arL) Y Y Y (ZG (Zh arL) arL) (Zb<|arC fun _=>Y)<|ZO<|Eq.trans arL<|Eq.symm arL)<|Ra Y<|Za<|?_
      replace h:=lx h▸ho1
      obtain rfl:=rt h
      exact Zs (ZK Y (.two (.agg Y Y Y Y Qz (Zu<|Zh arL) arL (pwB<|arD fun _=>Y) (hns:=(nsM fun _=>Y)))<|rb Y))
     ·
      exact Zj<|K7 4 6 7 8 28 29 30 Y<|Zt<|Rm Y<|R2 ZX Y<|Rm Y<|bE h fun y3 h_y3 h=>Rq Y (Zq (Xv h_y3)<|.cons (ov Y) (.b Y) .nil)<|bE h fun x4 h_x4 h=>Rq Y (QB (ov Y) (ov Y) Xc Y Y h_x4)<|Rx Y (Zf (ov Y) (ov Y) (Zg Xn) Y Y Y (arB h_x4) (Zb Y)<|arS h_x4)<|Za<|K5 4 6 28 29 30 Y<|Zt<|R2 ZX Y<|Rm Y<|Za<|⟨_,h,ES [some 0,some 1]⟩
    ·
     refine ZI<|?_
     replace h:=lx h▸ho1
     exact⟨_,h,ES [some 0,some 1]⟩
   ·
    replace h:=elr h
    replace h:=t1i h
    refine Tr<|bE h fun y4 h_y4 h=>Rx Y (JH [1] (ZgO h_y4) (.cons (ov Y) (.ptr _ _ _ Y) .nil) (.cons Y (ro1 (by exact Eq.trans (b:=64) arL tZ_37.symm)<|rld<|arD fun _=>Y) .nil) Y (.keep Y Y<|.lent 0 (.inl Y) Y (ro1 (by exact Eq.trans (b:=64) arL tZ_37.symm)<|rld<|arD fun _=>Y) .nil) Y Y<|ZbA<|rld Y)<|Za<|K2 4 6 Y<|Tr<|Rq Y (ZJ (ov Y) Y Y Y Qz (Zu<|Zh arL) arL (hns:=(nsM fun _=>Y)))<|Rx Y (Zf (ov Y) (ov Y) (Zp Qz arL) Y Y Y (ZG (Zh arL) arL) (Zb<|arC fun _=>Y)<|ZO<|Eq.trans arL<|Eq.symm arL)<|Ra Y<|Za<|?_
    obtain rfl:=rt h
    exact Zs (ZK Y (.two (.agg Y Y Y Y Qz (Zu<|Zh arL) arL (pwB<|arD fun _=>Y) (hns:=(nsM fun _=>Y)))<|rb Y))
theorem ZkE{r:Bool}(h:ZdF=some r):
 CSpec Tryz.prog gl0 4 [] (.bool r):=by
 unfold ZdF at h
 replace h:=Qk h
 refine So Tryz.func4 Y fun w0 A=>Tr<|Ra Y<|Za<|K0<|Tr<|bE h fun l h_l h=>Rx Y (Zne [none] (r:=0) (f:=R3) (z0:=0) Y (ov Y) (ov Y) Qp Y tZ3 Y Y h_l)<|Ra Y<|Za<|K1 1 Y<|Tr<|Rm Y<|bE h fun x h_x h=>Rq Y (QW (ov Y) (ov Y) Qp Y Y h_x)<|Rx Y (J4 (u':=5) (ov Y) (ov Y) (Zg tS3) Y Y h_x Y (Zb Y) Y)<|Za<|K1 1 Y<|Tr<|Rm Y<|bE h fun y h_y h=>Rq Y (ZaN (ZkV h_y) (.tuple<|by simp only [List.mem_cons,List.not_mem_nil,or_false,forall_eq_or_imp,forall_eq];exact⟨(Zly (fun _=> .int)),.int⟩)<|.cons (ov Y) (Dat.view<|.b Y)<|.cons (ov Y) (View.ownM Y ((List.length_set ..).trans Y) D3) .nil)<|Rm Y<|Rq Y (Zk (ov Y) Y)<|Rq Y (Zk (ov Y) Y)<|Rx Y (ZP (row:=(List.map C35 (Vector.replicate 64 0).toList)) 1 Y ZcI Y tZ_37)<|Rx Y (Zf (ov Y) (ov Y) (Zp Qz arL) Y Y Y (ZG (Zh arL) arL) (Zb<|arC fun _=>Y)<|ZO<|Eq.trans arL<|Eq.symm arL)<|Ra Y<|Za<|K2 2 3 Y<|Tr<|Rm Y<|R2 Q3 Y<|Rm Y<|bE h fun x2 h_x2 h=>Rq Y (.guarded ((decide (y.2=0))==true) Y Y Y Y fun h=>QB (ov Y) (ov Y) Xc Y Y<|gdT h_x2 h)<|Rq Y (.guarded ((decide (y.2=0))==true) Y Y Y Y fun h=>Zm (ow Y h) Y Y Y Xn<|Zn<|Qn (o:=0) (o':=((Int.toNat 0)*1)) (Zh arL)<|Qd<|gdT h_x2 h)<|Rq Y (.guarded ((decide (y.2=0))==true) Y Y Y Y fun h=>Q3 (ow Y h)<|ov Y)<|Rq Y (XJ (ov Y) fun hp=>ow Y<|gT hp)<|Rm Y<|bE h fun x3 h_x3 h=>Rq Y (.guarded (((decide (y.2=0))&&(decide (x2=2631)))==true) Y Y Y Y fun h=>QB (ov Y) (ov Y) Xc Y Y<|gdT h_x3 h)<|Rq Y (.guarded (((decide (y.2=0))&&(decide (x2=2631)))==true) Y Y Y Y fun h=>Zm (ow Y h) Y Y Y Xn<|Zn<|Qn (o:=0) (o':=((Int.toNat 1)*1)) (Zh arL)<|Qd<|gdT h_x3 h)<|Rq Y (.guarded (((decide (y.2=0))&&(decide (x2=2631)))==true) Y Y Y Y fun h=>Q3 (ow Y h)<|ov Y)<|Rq Y (XJ (ov Y) fun hp=>ow Y<|gT hp)<|Rm Y<|bE h fun x4 h_x4 h=>Rq Y (.guarded ((((decide (y.2=0))&&(decide (x2=2631)))&&(decide (x3=2)))==true) Y Y Y Y fun h=>QB (ov Y) (ov Y) Xc Y Y<|gdT h_x4 h)<|Rq Y (.guarded ((((decide (y.2=0))&&(decide (x2=2631)))&&(decide (x3=2)))==true) Y Y Y Y fun h=>Zm (ow Y h) Y Y Y Xn<|Zn<|Qn (o:=0) (o':=((Int.toNat 2)*1)) (Zh arL)<|Qd<|gdT h_x4 h)<|Rq Y (.guarded ((((decide (y.2=0))&&(decide (x2=2631)))&&(decide (x3=2)))==true) Y Y Y Y fun h=>Q3 (ow Y h)<|ov Y)<|Rq Y (XJ (ov Y) fun hp=>ow Y<|gT hp)<|Rm Y<|bE h fun x5 h_x5 h=>Rq Y (.guarded (((((decide (y.2=0))&&(decide (x2=2631)))&&(decide (x3=2)))&&(decide (x4=1)))==true) Y Y Y Y fun h=>QB (ov Y) (ov Y) Xc Y Y<|gdT h_x5 h)<|Rq Y (.guarded (((((decide (y.2=0))&&(decide (x2=2631)))&&(decide (x3=2)))&&(decide (x4=1)))==true) Y Y Y Y fun h=>Zm (ow Y h) Y Y Y Xn<|Zn<|Qn (o:=0) (o':=((Int.toNat 3)*1)) (Zh arL)<|Qd<|gdT h_x5 h)<|Rq Y (.guarded (((((decide (y.2=0))&&(decide (x2=2631)))&&(decide (x3=2)))&&(decide (x4=1)))==true) Y Y Y Y fun h=>Q3 (ow Y h)<|ov Y)<|Rq Y (XJ (ov Y) fun hp=>ow Y<|gT hp)<|Ra Y<|Za<|?_
 obtain rfl:=rt h
 exact Zs (ZK Y (.one<|rb Y))
theorem J2{n:Int}{low:Int}{high:Int}{r:Bool}(h:Xb n low high=some r):
 CSpec Tryz.prog gl0 30 [.int .i64 n,.int .i64 low,.int .i64 high] (.bool r):=by
 unfold Xb at h
 replace h:=Qk h
 refine So Tryz.func30 Y fun w0 A=>Tr<|Ra Y<|Za<|Tr<|Rm Y<|Rm Y<|R2 Zc5 Y<|Rm Y<|Rq Y (.guarded ((decide (low≤n))==true) Y Y Y Y fun h=>Zc<|ov Y)<|Rq Y (.guarded ((decide (low≤n))==true) Y Y Y Y fun h=>Zc<|ov Y)<|Rq Y (.guarded ((decide (low≤n))==true) Y Y Y Y fun h=>Zfc (ow Y h)<|ow Y h)<|Rq Y (XJ (ov Y) fun hp=>ow Y<|gT hp)<|Ra Y<|Za<|?_
 obtain rfl:=rt h
 exact Zs (ZK Y (.one<|rb Y))
theorem Zf7{slots:Int}{r:Int}(h:Jq slots=some r):
 CSpec Tryz.prog gl0 60 [.int .i64 slots] (.int .i64 r):=by
 unfold Jq at h
 replace h:=Qk h
 refine So Tryz.func60 Y fun w0 A=>Tr<|Ra Y<|Za<|Tr<|Rm Y<|R2 Zd7 Y<|R2 ZX Y<|Ra Y<|Za<|?_
 obtain rfl:=rt h
 exact Zs (ZK Y (.one<|rb Y))
theorem Zf8{m:api_Memory}{r:Int}(h:Q5 m=some r):
 CSpec Tryz.prog gl0 31 [.agg [.int .i64 m.Slots,.int .i64 m.Limit,.sl 40 (List.map R40 m.Sectors),.sl 3 (List.map R3 m.Wear),.sl 4 (List.map R4 m.Bad)]] (.int .i64 r):=by
 unfold Q5 at h
 replace h:=Qk h
 refine So Tryz.func31 Y fun w0 A=>Tr<|Rq Y (Xh (cva<|ov Y) Y tZ_60 Y)<|Ra Y<|Za<|K1 1 Y<|Tr<|Rq Y (ZE (ov Y) ZgC)<|Rq Y (Zd (ov Y) Zmx Y)<|Rl tZ_40 ZjN Y<|Ra Y<|Za<|Zl<|Zi<|K2 1 3 Y<|Tr<|Rq Y (ZE (ov Y) Zmv)<|Rq Y (Zd (ov Y) tS3 Y)<|bE h fun y h_y h=>Rq Y (Zq (J2 h_y)<|.cons (ov Y) (.b Y)<|.cons (ov Y) (.b Y)<|.cons (ov Y) (.b Y) .nil)<|R1 XV Y<|Rm Y<|Rq Y (.guarded ((!y)==false) Y Y Y Y fun h=>ZE (ov Y) ZoS)<|Rq Y (.guarded ((!y)==false) Y Y Y Y fun h=>Zd (ow Y h) tS3 Y)<|bE h fun y2 h_y2 h=>Rq Y (.guarded ((!y)==false) Y Y Y Y fun h=>Zq (J2<|gdT h_y2 h)<|.cons (ow Y h) (.b Y)<|.cons (ov Y) (.b Y)<|.cons (ov Y) (.b Y) .nil)<|Rq Y (.guarded ((!y)==false) Y Y Y Y fun h=>XV<|ow Y h)<|Rq Y (Za2 (ov Y) fun hp=>ow Y<|gF hp)<|Rm Y<|Rq Y (.guarded (((!y) || (!y2))==false) Y Y Y Y fun h=>Zc<|ov Y)<|bE h fun y3 h_y3 h=>Rq Y (.guarded (((!y) || (!y2))==false) Y Y Y Y fun h=>Zq (J2<|gdT h_y3 h)<|.cons (ow Y h) (.b Y)<|.cons (ov Y) (.b Y)<|.cons (ov Y) (.b Y) .nil)<|Rq Y (.guarded (((!y) || (!y2))==false) Y Y Y Y fun h=>XV<|ow Y h)<|Rq Y (Za2 (ov Y) fun hp=>ow Y<|gF hp)<|Ra Y<|Za<|K3 1 3 9 Y<|If h Y (fun h=>?_) fun h=>?_
 ·
  refine K0<|Tr<|Ra Y<|Za<|?_
  obtain rfl:=rt h
  exact Zs (ZK Y (.one<|rb Y))
 ·
  refine K2 1 3 Y<|Tr<|Rq Y (ZE (ov Y) Zpw)<|Rq Y (Zd (ov Y) XA Y)<|Rl tZ_3 Qp Y<|Rm Y<|R2 XW Y<|Rm Y<|Rq Y (.guarded ((!decide ((m.Wear.length:Int)=(m.Sectors.length:Int)))==false) Y Y Y Y fun h=>ZE (ov Y) ZoK)<|Rq Y (.guarded ((!decide ((m.Wear.length:Int)=(m.Sectors.length:Int)))==false) Y Y Y Y fun h=>Zd (ow Y h) Zts Y)<|Rq Y (.guarded ((!decide ((m.Wear.length:Int)=(m.Sectors.length:Int)))==false) Y Y Y Y fun h=>ZfO (ZH (ow Y h) tZ_4) Ztb<|Zcs _ _)<|Rq Y (.guarded ((!decide ((m.Wear.length:Int)=(m.Sectors.length:Int)))==false) Y Y Y Y fun h=>Zc<|ov Y)<|Rq Y (.guarded ((!decide ((m.Wear.length:Int)=(m.Sectors.length:Int)))==false) Y Y Y Y fun h=>XW (ow Y h)<|ow Y h)<|Rq Y (Za2 (ov Y) fun hp=>ow Y<|gF hp)<|Ra Y<|Za<|K2 1 25 Y<|If h Y (fun h=>?_) fun h=>?_
  ·
   refine K0<|Tr<|Ra Y<|Za<|?_
   obtain rfl:=rt h
   exact Zs (ZK Y (.one<|rb Y))
  ·
   refine Zj<|J0 (fun j=>(.inr j)) ⟨[],[]⟩ h (fun h=>?_) fun h=>?_
   ·
    refine K1 1 Y<|Tr<|Rq Y (ZE (ov Y) ZgC)<|Rq Y (Zd (ov Y) Zmx Y)<|Rl tZ_40 ZjN Y<|Rm Y<|Za<|Zi<|?_
    obtain⟨r1,hl1,ho1⟩:=QZ h
    refine L1 (fun i=>⟨[(1,.rp [.int .i64 m.Slots,.int .i64 m.Limit,.sl 40 (List.map R40 m.Sectors),.sl 3 (List.map R3 m.Wear),.sl 4 (List.map R4 m.Bad)] 0),(39,.sl 40 (List.map R40 m.Sectors)),(40,.int .i64 (m.Sectors.length:Int)),(41,.int .i64 i)],[]⟩) hl1 (ES []) fun n1 i h=>?_
    unfold QH at h
    refine Tr<|R2 ZV Y<|Za<|Zl<|If h Y (fun h=>?_) fun h=>?_
    ·
     refine Zj<|Zl<|Zi<|K4 1 39 40 41 Y<|Tr<|Rm Y<|bE h fun x h_x h=>Rq Y (ZW (ov Y) (ov Y) ZjN h_x)<|Rq Y (Zd (ov Y) Zdz Y)<|Ra Y<|Ra Y<|Za<|Zl<|K6 1 4 5 39 40 41 Y<|Tr<|Rm Y<|Rl tZ_5 Q6 Y<|Rq Y (ZE (ov Y) Zmv)<|Rq Y (Zd (ov Y) tS3 Y)<|bE h fun y4 h_y4 h=>Rq Y (Zq (Zf7 h_y4)<|.cons (ov Y) (.b Y) .nil)<|R2 XW Y<|Za<|K6 1 4 39 40 41 51 Y<|If h Y (fun h=>?_) fun h=>?_
     ·
      refine K0<|Tr<|Ra Y<|Za<|?_
      replace h:=lx h▸ho1
      obtain rfl:=rt h
      exact Zs (ZK Y (.one<|rb Y))
     ·
      refine Zj<|Zl<|K5 1 4 39 40 41 Y<|Qe (cw:=md0) (by kernel_rfl)<|Dq 0 Y (ZE (ov Y) Zpw)<|Dq 1 Y (Zd (ov Y) XA Y)<|D1 2 Zc Y<|bE h fun x2 h_x2 h=>Dq 3 Y (ZW (ov Y) (ov Y) Qp h_x2)<|Dq 4 Y (Zd (ov Y) tS3 Y)<|Dq 5 Y (ZE (ov Y) ZoS)<|Dq 6 Y (Zd (ov Y) tS3 Y)<|bE h fun y5 h_y5 h=>Dq 7 Y (Zq (J2 h_y5)<|.cons (ov Y) (.b Y)<|.cons (ov Y) (.b Y)<|.cons (ov Y) (.b Y) .nil)<|D1 8 XV Y<|Dd<|K5 1 39 40 41 60 Y<|If h Y (fun h=>?_) fun h=>?_
      ·
       refine K0<|Tr<|Ra Y<|Za<|?_
       replace h:=lx h▸ho1
       obtain rfl:=rt h
       exact Zs (ZK Y (.one<|rb Y))
      ·
       exact Zj<|K4 1 39 40 41 Y<|Zt<|R2 ZX Y<|Rm Y<|Za<|⟨_,h,ES []⟩
    ·
     refine ZI<|?_
     replace h:=lx h▸ho1
     exact⟨(),h,ES []⟩
   ·
    replace h:=elr h
    replace h:=t0i h
    refine Tr<|Ra Y<|Za<|?_
    obtain rfl:=rt h
    exact Zs (ZK Y (.one<|rb Y))
theorem ZeM{l:List api_Memory}{r:Int}(h:Jn l=some r):
 CSpec Tryz.prog gl0 11 [.sl 60 (List.map R60 l)] (.int .i64 r):=by
 unfold Jn at h
 replace h:=Qk h
 refine So Tryz.func11 Y fun w0 A=>Tr<|Ra Y<|Za<|Zl<|K1 0 Y<|Tr<|Rm Y<|Rl tZ_60 ZmI Y<|bE h fun y h_y h=>Rq Y (Zq (J2 h_y)<|.cons (ov Y) (.b Y)<|.cons (ov Y) (.b Y)<|.cons (ov Y) (.b Y) .nil)<|R1 XV Y<|Za<|K2 0 9 Y<|If h Y (fun h=>?_) fun h=>?_
 ·
  refine K0<|Tr<|Ra Y<|Za<|?_
  obtain rfl:=rt h
  exact Zs (ZK Y (.one<|rb Y))
 ·
  refine Zj<|J0 (fun j=>(.inr j)) ⟨[],[]⟩ h (fun h=>?_) fun h=>?_
  ·
   refine K1 0 Y<|Tr<|Rm Y<|Rl tZ_60 ZmI Y<|Rm Y<|Za<|Zi<|?_
   obtain⟨r1,hl1,ho1⟩:=QZ h
   refine L1 (fun i=>⟨[(10,.sl 60 (List.map R60 l)),(11,.int .i64 (l.length:Int)),(12,.int .i64 i)],[]⟩) hl1 (ES []) fun n1 i h=>?_
   unfold ring_checkAll_L1 at h
   refine Tr<|R2 ZV Y<|Za<|Zl<|If h Y (fun h=>?_) fun h=>?_
   ·
    refine Zj<|Zl<|Zi<|K3 10 11 12 Y<|Tr<|bE h fun x h_x h=>Rq Y (ZW (ov Y) (ov Y) ZmI h_x)<|Rq Y (ZU (ov Y) ZlT Y Y)<|Rx Y (ZP (row:= [_,_,_,_,_]) 0 Y Zr1 Y tZ_60)<|Rx Y (Zf (ov Y) (ov Y) (Zp ZlT Y) Y Y Y (Nat.le_of_ble_eq_true Y) (Zb Y) Y)<|Za<|K4 4 10 11 12 Y<|Tr<|Rq Y (ZJ (ov Y) Y Y Y ZlT Y Y)<|bE h fun y2 h_y2 h=>Rq Y (Zq (Zf8 h_y2)<|.cons (ov Y) (.aggB Y) .nil)<|Ra Y<|Za<|K4 5 10 11 12 Y<|Tr<|Rm Y<|R2 XW Y<|Za<|K5 5 10 11 12 19 Y<|If h Y (fun h=>?_) fun h=>?_
    ·
     refine K1 5 Y<|Tr<|Rm Y<|Ra Y<|Za<|?_
     replace h:=lx h▸ho1
     obtain rfl:=rt h
     exact Zs (ZK Y (.one<|rb Y))
    ·
     exact Zj<|K3 10 11 12 Y<|Zt<|R2 ZX Y<|Rm Y<|Za<|⟨_,h,ES []⟩
   ·
    refine ZI<|?_
    replace h:=lx h▸ho1
    exact⟨(),h,ES []⟩
  ·
   replace h:=elr h
   replace h:=t0i h
   refine Tr<|Ra Y<|Za<|?_
   obtain rfl:=rt h
   exact Zs (ZK Y (.one<|rb Y))
theorem ZiP{sequence:Int}{r:(List Int)}(h:Zc0 sequence=some r):
 CSpec Tryz.prog gl0 36 [.int .i64 sequence] (.sl 5 (List.map R5 r)):=by
 unfold Zc0 at h
 replace h:=Qk h
 refine So Tryz.func36 Y fun w0 A=>Tr<|Ra Y<|Za<|K1 0 Y<|Tr<|Rx Y (Zss (r:=0) (xs:=([79,66]:List Int)) (f:=R5) Y Q6 (.cons (cvs (ov Y)<|Z5 Y) Y (.cons (.b Y) .nil)<|.cons (cvs (ov Y)<|Z5 Y) Y (.cons (.b Y) .nil) .nil) Y Y Y)<|Ra Y<|Za<|I1 (fun out=>⟨[(3,.own 0 out.length)],[some ⟨5,List.map R5 out⟩]⟩) h (fun h=>?_) fun out h=>?_
 ·
  refine K2 0 3 Y<|Tr<|Ra Y<|Za<|Zi<|?_
  obtain⟨r1,hl1,ho1⟩:=QZ h
  refine L2 (fun out2 shift=>⟨[(0,.int .i64 sequence),(3,.own 0 out2.length),(4,.int .i64 shift)],[some ⟨5,List.map R5 out2⟩]⟩) hl1 (ES [some 0]) fun n1 out2 shift h=>?_
  unfold JA at h
  refine Zl<|Tr<|Rm Y<|R2 Zc5 Y<|Za<|K4 0 3 4 9 Y<|If h Y (fun h=>?_) fun h=>?_
  ·
   exact Zj<|Zl<|Zi<|K3 0 3 4 Y<|Zt<|Rm Y<|Rm Y<|Rm Y<|bE h fun q h_q h=>Rq Y (Zbo (ov Y) (ov Y) h_q)<|Rq Y (Qy (ov Y) tI3 tI5 Y)<|R_q (.sl 5<|List.map R5 ([(u8 q)]:List Int)) Y (Jm Q6 (.cons (cvs (ov Y)<|Z5 Y) Y (.cons (.b Y) .nil) .nil) Y Y)<|bE h fun l h_l h=>Rx Y (Zv (ov Y) (ZH (ov Y) tZ_5) Q6 Y Y Y (fun _=>Zb Y) Y h_l)<|Ra Y<|Za<|K3 0 3 4 Y<|Zt<|Rm Y<|R2 ZaO Y<|Ra Y<|Za<|⟨_,h,ES [some 0]⟩
  ·
   refine ZI<|?_
   replace h:=lx h▸ho1
   exact⟨_,h,ES [some 0]⟩
 ·
  refine I1 (fun out3=>⟨[(3,.own 0 out3.length)],[some ⟨5,List.map R5 out3⟩]⟩) h (fun h=>?_) fun out3 h=>?_
  ·
   refine Tr<|Rm Y<|bE h fun u h_u h=>Rq Y (ZsU (ov Y) Y Y Q6 (oi<|ov Y) (oi<|ov Y) h_u)<|Rq Y (ZrL (ov Y) Y (List.length_map ..) Q6)<|Rm Y<|Za<|Zi<|?_
   obtain⟨r2,hl2,ho2⟩:=QZ h
   refine Zqe (τ:=Option (List Int)) _ (fun b s=>Option.elim b (t2 (fun out4 i=>(⟨[(3,.own 0 out4.length),(20,.osl 0 out4.length (Int.toNat 2) (Int.toNat (6-2))),(21,.int .i64 ((Int.toNat (6-2):Nat):Int)),(22,.int .i64 i)],[some ⟨5,List.map R5 out4⟩]⟩:St)) s) fun old2=>t2 (fun out4 i=>(⟨[(3,.own 1 out4.length),(20,.osl 0 old2.length (Int.toNat 2) (Int.toNat (6-2))),(21,.int .i64 ((Int.toNat (6-2):Nat):Int)),(22,.int .i64 i)],[some ⟨5,List.map R5 old2⟩,some ⟨5,List.map R5 out4⟩]⟩:St)) s) (fun b s=> ∃ tl,Option.getD b s.1=out++tl) none _ hl2 Zo7 (Ent.sel [some 0] (sr 3 Y (.own _ Y)<|sr 20 Y (.osl _ _ _ Y)<|sd 21 Y Y<|sd 22 Y Y sn) (.cons Y (roM D5) .nil) Y Y) fun b2 n2 s2 hC h=>?_
   obtain⟨out4,i⟩:=s2
   replace h:=t2i h
   unfold Jt at h
   rcases b2 with _ |old2
   ·
    replace hC: ∃ tl,out4=out++tl:=hC
    show T _ _ ⟨[(3,.own 0 out4.length),(20,.osl 0 out4.length (Int.toNat 2) (Int.toNat (6-2))),(21,.int .i64 ((Int.toNat (6-2):Nat):Int)),(22,.int .i64 i)],[some ⟨5,List.map R5 out4⟩]⟩ _
    refine Tr<|R2 ZV Y<|Za<|Zl<|If h Y (fun h=>?_) fun h=>?_
    ·
     refine Zj<|Zl<|Zi<|K4 3 20 21 22 Y<|Tr<|bE h fun u2 h_u2 h=>bE h fun x2 h_x2 h=>?_
     have h_x2P:=Zm0 hC h_x2
     refine Rq Y (Zq7 (ov Y) (ov Y) Q6 Y Y (ZiQ h_u).1 h_u2 h_x2P)<|Rq Y (Q0 (ov Y) Y Y h_x2P tS5 Y)<|Ra Y<|Za<|K5 3 6 20 21 22 Y<|Zt<|Rm Y<|Rm Y<|R1 Zm2 Y<|R_q (.sl 5<|List.map R5 ([(Zaq .u8 255 x2)]:List Int)) Y (Jm Q6 (.cons (cvs (ov Y)<|Z5 Y) Y (.cons (.b Y) .nil) .nil) Y Y)<|bE h fun l2 h_l2 h=>Zp3 (f:=R5) (tp:=20) (ys:=([(Zaq .u8 255 x2)]:List Int)) Y (ov Y) (ZH (ov Y) tZ_5) Q6 Y Y Y (fun _=>Zb Y) Y (fun _=>nsR Y) h_l2 Y ?_ ?_
     ·
      exact Ra Y<|Za<|K4 3 20 21 22 Y<|Zt<|R2 ZX Y<|Rm Y<|Za<|⟨none,(l2,(i64 (i+1))),Zqc hC h_l2,h,Ent.sel [some 0] (sr 3 Y (.own _ Y)<|sr 20 Y (.osl _ _ _ Y)<|sd 21 Y Y<|sd 22 Y Y<|sn) (.cons Y (roM D5)<| .nil) Y Y⟩
     ·
      exact Ra Y<|Za<|K4 3 20 21 22 Y<|Zt<|R2 ZX Y<|Rm Y<|Za<|⟨some out4,(l2,(i64 (i+1))),hC,h,Ent.sel [some 0,some 1] (sr 3 Y (.own _ Y)<|sr 20 Y (.osl _ _ _ Y)<|sd 21 Y Y<|sd 22 Y Y<|sn) (.cons Y (roM D5)<| .cons Y (roM D5)<| .nil) Y Y⟩
    ·
     refine ZI<|?_
     replace h:=lx h▸ho2
     exact⟨_,h,ES [some 0]⟩
   ·
    replace hC: ∃ tl,old2=out++tl:=hC
    show T _ _ ⟨[(3,.own 1 out4.length),(20,.osl 0 old2.length (Int.toNat 2) (Int.toNat (6-2))),(21,.int .i64 ((Int.toNat (6-2):Nat):Int)),(22,.int .i64 i)],[some ⟨5,List.map R5 old2⟩,some ⟨5,List.map R5 out4⟩]⟩ _
    refine Tr<|R2 ZV Y<|Za<|Zl<|If h Y (fun h=>?_) fun h=>?_
    ·
     refine Zj<|Zl<|Zi<|K4 3 20 21 22 Y<|Tr<|bE h fun u2 h_u2 h=>bE h fun x2 h_x2 h=>?_
     have h_x2P:=Zm0 hC h_x2
     exact Rq Y (Zq7 (ov Y) (ov Y) Q6 Y Y (ZiQ h_u).1 h_u2 h_x2P)<|Rq Y (Q0 (ov Y) Y Y h_x2P tS5 Y)<|Ra Y<|Za<|K5 3 6 20 21 22 Y<|Zt<|Rm Y<|Rm Y<|R1 Zm2 Y<|R_q (.sl 5<|List.map R5 ([(Zaq .u8 255 x2)]:List Int)) Y (Jm Q6 (.cons (cvs (ov Y)<|Z5 Y) Y (.cons (.b Y) .nil) .nil) Y Y)<|bE h fun l2 h_l2 h=>Rx Y (Zv (ov Y) (ZH (ov Y) tZ_5) Q6 Y Y Y (fun _=>Zb Y) Y h_l2)<|Ra Y<|Za<|K4 3 20 21 22 Y<|Zt<|R2 ZX Y<|Rm Y<|Za<|⟨some old2,(l2,(i64 (i+1))),hC,h,Ent.sel [some 0,some 1] (sr 3 Y (.own _ Y)<|sr 20 Y (.osl _ _ _ Y)<|sd 21 Y Y<|sd 22 Y Y<|sn) (.cons Y (roM D5)<| .cons Y (roM D5)<| .nil) Y Y⟩
    ·
     refine ZI<|?_
     replace h:=lx h▸ho2
     exact⟨_,h,ES [some 1]⟩
  ·
   refine Tr<|Rm Y<|Ra Y<|Za<|?_
   obtain rfl:=rt h
   exact Zs (ZK Y (.one<|.tmp Y<|View.ownM Y Y D5))
theorem Zd8{s1:List Int}{s2:List Int}{r:Bool}(h:XC s1 s2=some r):
 CSpec Tryz.prog gl0 35 [.sl 5 (List.map R5 s1),.sl 5 (List.map R5 s2)] (.bool r):=by
 unfold XC at h
 replace h:=Qk h
 refine So Tryz.func35 Y fun w0 A=>Tr<|Ra Y<|Za<|Zl<|K2 0 1 Y<|Tr<|Rm Y<|Rl tZ_5 Q6 Y<|Rm Y<|Rl tZ_5 Q6 Y<|R2 XW Y<|Za<|K3 0 1 10 Y<|If h Y (fun h=>?_) fun h=>?_
 ·
  refine K0<|Tr<|Ra Y<|Za<|?_
  obtain rfl:=rt h
  exact Zs (ZK Y (.one<|rb Y))
 ·
  refine Zj<|J0 (fun j=>(.inr j)) ⟨[],[]⟩ h (fun h=>?_) fun h=>?_
  ·
   refine K2 0 1 Y<|Tr<|Rm Y<|Rl tZ_5 Q6 Y<|Rm Y<|Za<|Zi<|?_
   obtain⟨r1,hl1,ho1⟩:=QZ h
   refine L1 (fun i=>⟨[(0,.sl 5 (List.map R5 s1)),(1,.sl 5 (List.map R5 s2)),(12,.int .i64 (s1.length:Int)),(13,.int .i64 i)],[]⟩) hl1 (ES []) fun n1 i h=>?_
   unfold XH at h
   refine Tr<|R2 ZV Y<|Za<|Zl<|If h Y (fun h=>?_) fun h=>?_
   ·
    refine Zj<|Zl<|Zi<|K4 0 1 12 13 Y<|Tr<|Rm Y<|Ra Y<|Za<|Zl<|K5 0 1 5 12 13 Y<|Qe (cw:=md0) (by kernel_rfl)<|D1 0 Zc Y<|D1 1 Zc Y<|bE h fun x h_x h=>Dq 2 Y (ZW (ov Y) (ov Y) Q6 h_x)<|Dq 3 Y (Zd (ov Y) tS5 Y)<|D1 4 Zc Y<|D1 5 Zc Y<|bE h fun x2 h_x2 h=>Dq 6 Y (ZW (ov Y) (ov Y) Q6 h_x2)<|Dq 7 Y (Zd (ov Y) tS5 Y)<|D2 8 XW Y<|Dd<|K5 0 1 12 13 24 Y<|If h Y (fun h=>?_) fun h=>?_
    ·
     refine K0<|Tr<|Ra Y<|Za<|?_
     replace h:=lx h▸ho1
     obtain rfl:=rt h
     exact Zs (ZK Y (.one<|rb Y))
    ·
     exact Zj<|K4 0 1 12 13 Y<|Zt<|R2 ZX Y<|Rm Y<|Za<|⟨_,h,ES []⟩
   ·
    refine ZI<|?_
    replace h:=lx h▸ho1
    exact⟨(),h,ES []⟩
  ·
   replace h:=elr h
   replace h:=t0i h
   refine Tr<|Ra Y<|Za<|?_
   obtain rfl:=rt h
   exact Zs (ZK Y (.one<|rb Y))
theorem ZeT{s:List Int}{r:Int×Bool×Bool}(h:ZcO s=some r):
 CSpec Tryz.prog gl0 13 [.sl 5 (List.map R5 s)] (.tuple [.int .i64 r.1,.bool r.2.1,.bool r.2.2]):=by
 unfold ZcO at h
 replace h:=Qk h
 refine So Tryz.func13 Y fun w0 A=>Tr<|Ra Y<|Ra Y<|Ra Y<|Za<|Zl<|K1 0 Y<|Tr<|Rm Y<|Rl tZ_5 Q6 Y<|R2 ZV Y<|Za<|K2 0 9 Y<|If h Y (fun h=>?_) fun h=>?_
 ·
  refine K0<|Tr<|Ra Y<|Ra Y<|Ra Y<|Za<|?_
  obtain rfl:=rt h
  exact Zs (ZK Y (.three (rb Y) (rb Y)<|rb Y))
 ·
  refine Zj<|K1 0 Y<|Tr<|Rm Y<|bE h fun l h_l h=>Rq Y (Zd0 (ov Y) Q6 on (oi<|ov Y) h_l)<|bE h fun v h_v h=>Rq Y (ZkY (f:=C5) (ov Y) ZiT tZ_5 Y h_v)<|Ra Y<|Za<|Zl<|K1 5 Y<|Qe (cw:=md0) (by kernel_rfl)<|D1 0 Zc Y<|D1 1 ZD Y<|bE h fun x h_x h=>Dq 2 Y (QI (ov Y) (ov Y) ZiT h_x)<|Dq 3 Y (Zd (ov Y) tS5<|Zn<|Qn (o:=0) (o':=((Int.toNat 2)*1)) (Zh arL)<|Qd h_x)<|Dq 4 Y (Qy (ov Y) tI5 tI3 Y)<|bE h fun q h_q h=>Dq 5 Y (Zel (ov Y) (ov Y) h_q)<|D1 6 Zc Y<|D1 7 ZD Y<|bE h fun x2 h_x2 h=>Dq 8 Y (QI (ov Y) (ov Y) ZiT h_x2)<|Dq 9 Y (Zd (ov Y) tS5<|Zn<|Qn (o:=0) (o':=((Int.toNat 3)*1)) (Zh arL)<|Qd h_x2)<|Dq 10 Y (Qy (ov Y) tI5 tI3 Y)<|bE h fun q2 h_q2 h=>Dq 11 Y (Zel (ov Y) (ov Y) h_q2)<|D2 12 Zgl Y<|D1 13 Zc Y<|D1 14 ZD Y<|bE h fun x3 h_x3 h=>Dq 15 Y (QI (ov Y) (ov Y) ZiT h_x3)<|Dq 16 Y (Zd (ov Y) tS5<|Zn<|Qn (o:=0) (o':=((Int.toNat 4)*1)) (Zh arL)<|Qd h_x3)<|Dq 17 Y (Qy (ov Y) tI5 tI3 Y)<|bE h fun q3 h_q3 h=>Dq 18 Y (Zel (ov Y) (ov Y) h_q3)<|D2 19 Zgl Y<|D1 20 Zc Y<|D1 21 ZD Y<|bE h fun x4 h_x4 h=>Dq 22 Y (QI (ov Y) (ov Y) ZiT h_x4)<|Dq 23 Y (Zd (ov Y) tS5<|Zn<|Qn (o:=0) (o':=((Int.toNat 5)*1)) (Zh arL)<|Qd h_x4)<|Dq 24 Y (Qy (ov Y) tI5 tI3 Y)<|D2 25 Zgl Y<|D1 26 QK Y<|Dd<|Zl<|Zl<|K2 5 6 Y<|Qe (cw:=md0) (by kernel_rfl)<|D1 0 Zc Y<|bE h fun y h_y h=>Dq 1 Y (Zq (J2 h_y)<|.cons (ov Y) (.b Y)<|.cons (ov Y) (.b Y)<|.cons (ov Y) (.b Y) .nil)<|D1 2 XV Y<|D1 3 Zc Y<|Dq 4 Y (.guarded ((!y)==false) Y Y Y Y fun h=>Zc<|ov Y)<|Dq 5 Y (.guarded ((!y)==false) Y Y Y Y fun h=>ZD<|ow Y h)<|bE h fun l2 h_l2 h=>Dq 6 Y (.guarded ((!y)==false) Y Y Y Y fun h=>ZjV (f:=C5) (ow Y h) ZiT tZ_5 (Zh arL) Y on (oi<|ov Y)<|gdT h_l2 h)<|Dq 7 Y (.guarded ((!y)==false) Y Y Y Y fun h=>Zc<|ov Y)<|bE h fun y2 h_y2 h=>Dq 8 Y (.guarded ((!y)==false) Y Y Y Y fun h=>Zq (ZiP<|gdT h_y2 h)<|.cons (ow Y h) (.b Y) .nil)<|bE h fun y3 h_y3 h=>Dq 9 Y (.guarded ((!y)==false) Y Y Y Y fun h=>Zq (Zd8<|gdT h_y3 h)<|.cons (ow Y h) (.b Y)<|.cons (ow Y h) (.b Y) .nil)<|Dq 10 Y (.guarded ((!y)==false) Y Y Y Y fun h=>XV<|ow Y h)<|Dq 11 Y (Za2 (ov Y) fun hp=>ow Y<|gF hp)<|Dd<|K3 5 6 50 Y<|If h Y (fun h=>?_) fun h=>?_
  ·
   refine K0<|Tr<|Ra Y<|Ra Y<|Ra Y<|Za<|?_
   obtain rfl:=rt h
   exact Zs (ZK Y (.three (rb Y) (rb Y)<|rb Y))
  ·
   refine Zj<|Zl<|K2 5 6 Y<|Qe (cw:=md0) (by kernel_rfl)<|D1 0 Zc Y<|D1 1 Zc Y<|D1 2 ZD Y<|bE h fun x5 h_x5 h=>Dq 3 Y (QI (ov Y) (ov Y) ZiT h_x5)<|Dq 4 Y (Zd (ov Y) tS5<|Zn<|Qn (o:=0) (o':=((Int.toNat 10)*1)) (Zh arL)<|Qd h_x5)<|D2 5 XW Y<|D1 6 QK Y<|D1 7 QK Y<|D1 8 QK Y<|Dd<|?_
   obtain rfl:=rt h
   exact Zs (ZK Y (.three (rb Y) (rb Y)<|rb Y))
theorem Jw{data:List Int}{a:Int}{b:Int}{cmp:Int→Int→Option Int}{r:(List Int)}{cmp_f:FuncId}{cmp_c:List AV}(cmp_d:cmp_c.all datB=true)(cmp_h: ∀ (z0:Int) (z1:Int) z,cmp z0 z1=some z→CSpec Tryz.prog gl0 cmp_f ([.int .i64 z0,.int .i64 z1]++cmp_c) (.int .i64 z))(h:ZQ data a b cmp=some r):
 GSpec Tryz.prog gl0 87 [.own 0 data.length,.int .i64 a,.int .i64 b,.fn cmp_f cmp_c] [some ⟨3,List.map R3 data⟩] (.tuple []) [some ⟨3,List.map R3 r⟩]:=by
 unfold ZQ at h
 replace h:=Qk h
 refine ZaU (by kernel_rfl) Tryz.func87 Y Y<|?_
 intro w0 A W φ0
 refine Tr<|Rm Y<|R2 ZX Y<|Ra Y<|Za<|Zi<|?_
 obtain⟨r1,hl1,ho1⟩:=QZ h
 refine L2 (fun o i=>⟨[(0,.own 0 o.length),(1,.int .i64 a),(2,.int .i64 b),(3,.fn cmp_f cmp_c),(8,.int .i64 i)],[some ⟨3,List.map R3 o⟩]⟩) hl1 (ES [some 0]<|sr 0 Y (.own _ Y)<|sd 1 Y Y<|sd 2 Y Y<|sr 3 Y (rFn<|rld cmp_d)<|sd 8 Y Y sn) fun n1 o i h=>?_
 unfold ZM at h
 refine Zl<|Tr<|Rm Y<|Rm Y<|R2 ZV Y<|Za<|K6 0 1 2 3 8 14 Y<|If h Y (fun h=>?_) fun h=>?_
 ·
  refine Zj<|I1 (fun o2=>⟨[(0,.own 0 o2.length),(1,.int .i64 a),(2,.int .i64 b),(3,.fn cmp_f cmp_c),(8,.int .i64 i)],[some ⟨3,List.map R3 o2⟩]⟩) h (fun h=>?_) fun o2 h=>?_
  ·
   refine Zi<|K5 0 1 2 3 8 Y<|Tr<|Rm Y<|Ra Y<|Za<|Zi<|?_
   obtain⟨r2,hl2,ho2⟩:=QZ h
   refine L2 (fun o3 j=>⟨[(0,.own 0 o3.length),(1,.int .i64 a),(2,.int .i64 b),(3,.fn cmp_f cmp_c),(8,.int .i64 i),(9,.int .i64 j)],[some ⟨3,List.map R3 o3⟩]⟩) hl2 (ES [some 0]<|sr 0 Y (.own _ Y)<|sd 1 Y Y<|sd 2 Y Y<|sr 3 Y (rFn<|rld cmp_d)<|sd 8 Y Y<|sd 9 Y Y sn) fun n2 o3 j h=>?_
   unfold ZT at h
   refine Zl<|Zl<|Qe (cw:=md0) (by kernel_rfl)<|D1 0 Zc Y<|D1 1 Zc Y<|D2 2 ZaL Y<|D1 3 Zc Y<|Dq 4 Y (.guarded ((decide (a<j))==true) Y Y Y Y fun h=>Zc<|ov Y)<|Dq 5 Y (.guarded ((decide (a<j))==true) Y Y Y Y fun h=>Zc<|ov Y)<|Dq 6 Y (.guarded ((decide (a<j))==true) Y Y Y Y fun h=>Zc<|ov Y)<|bE h fun x h_x h=>Dq 7 Y (.guarded ((decide (a<j))==true) Y Y Y Y fun h=>QW (ow Y h) (ow Y h) Qp Y Y<|gdT h_x h)<|Dq 8 Y (.guarded ((decide (a<j))==true) Y Y Y Y fun h=>Q0 (ow Y h) Y Y (gdT h_x h) tS3 Y)<|Dq 9 Y (.guarded ((decide (a<j))==true) Y Y Y Y fun h=>Zc<|ov Y)<|Dq 10 Y (.guarded ((decide (a<j))==true) Y Y Y Y fun h=>Zc<|ov Y)<|Dq 11 Y (.guarded ((decide (a<j))==true) Y Y Y Y fun h=>Zdo (ow Y h) (ov Y) Y)<|bE h fun x2 h_x2 h=>Dq 12 Y (.guarded ((decide (a<j))==true) Y Y Y Y fun h=>QW (ow Y h) (ow Y h) Qp Y Y<|gdT h_x2 h)<|Dq 13 Y (.guarded ((decide (a<j))==true) Y Y Y Y fun h=>Q0 (ow Y h) Y Y (gdT h_x2 h) tS3 Y)<|bE h fun y h_y h=>Dq 14 Y (.guarded ((decide (a<j))==true) Y Y Y Y fun h=>Zch (ow Y h) cmp_d (cmp_h _ _ _<|gdT h_y h)<|.cons (ow Y h) (.b Y)<|.cons (ow Y h) (.b Y) .nil)<|Dq 15 Y (.guarded ((decide (a<j))==true) Y Y Y Y fun h=>ZV (ow Y h)<|ov Y)<|Dq 16 Y (XJ (ov Y) fun hp=>ow Y<|gT hp)<|Dd<|K7 0 1 2 3 8 9 34 Y<|If h Y (fun h=>?_) fun h=>?_
   ·
    exact Zj<|Zl<|Zi<|K6 0 1 2 3 8 9 Y<|Qe (cw:=md0) (by kernel_rfl)<|D1 0 Zc Y<|D1 1 Zc Y<|D1 5 Zc Y<|D1 6 Zc Y<|D2 7 ZaO Y<|bE h fun x3 h_x3 h=>Dq 8 Y (QW (ov Y) (ov Y) Qp Y Y h_x3)<|Dq 9 Y (Q0 (ov Y) Y Y h_x3 tS3 Y)<|D1 10 Zc Y<|D1 11 Zc Y<|bE h fun x4 h_x4 h=>Dq 12 Y (QW (ov Y) (ov Y) Qp Y Y h_x4)<|Dq 13 Y (Q0 (ov Y) Y Y h_x4 tS3 Y)<|bE h fun x5 h_x5 h=>Dq 14 Y (QW (ov Y) (ov Y) Qp Y Y h_x5)<|XG 2 _ Y (by kernel_rfl) Y Y (fun hp'=>Zc<|ov Y)<|XG 3 _ Y (by kernel_rfl) Y Y (fun hp'=>Zc<|ov Y)<|XG 4 _ Y (by kernel_rfl) Y Y (fun hp'=>Zdo (ov Y) (ov Y) Y)<|Do 15 Y (J4 (u':=x3) (ov Y) (ov Y) (Zg tS3) Y Y h_x5 Y (Zb Y) Y)<|bE h fun x6 h_x6 h=>Dq 16 Y (QW (ov Y) (ov Y) Qp Y ((List.length_set ..).trans Y) h_x6)<|Do 17 Y (J4 (u':=x4) (ov Y) (ov Y) (Zg tS3) Y ((List.length_set ..).trans Y) h_x6 Y (Zb Y) Y)<|Dd<|K6 0 1 2 3 8 9 Y<|Zt<|Rm Y<|R2 ZaO Y<|Ra Y<|Za<|⟨_,h,ES [some 0]<|sr 0 Y (ZfM (Eq.symm<|(List.length_set ..).trans<|(List.length_set ..).trans Y) Y)<|sd 1 Y Y<|sd 2 Y Y<|sr 3 Y (rFn<|rld cmp_d)<|sd 8 Y Y<|sd 9 Y Y sn⟩
   ·
    refine ZI<|?_
    replace h:=lx h▸ho2
    exact⟨_,h,ES [some 0]<|sr 0 Y (.own _ Y)<|sd 1 Y Y<|sd 2 Y Y<|sr 3 Y (rFn<|rld cmp_d)<|sd 8 Y Y sn⟩
  ·
   exact Zt<|Rm Y<|R2 ZX Y<|Ra Y<|Za<|⟨_,h,ES [some 0]<|sr 0 Y (.own _ Y)<|sd 1 Y Y<|sd 2 Y Y<|sr 3 Y (rFn<|rld cmp_d)<|sd 8 Y Y sn⟩
 ·
  refine ZI<|?_
  replace h:=lx h▸ho1
  obtain rfl:=rt h
  exact Zfz [some 0] Y .nil (.cons Y (roM D3) .nil) Y Y<|ZbA rln
theorem XT{data:List Int}{a:Int}{b:Int}{n:Int}{cmp:Int→Int→Option Int}{r:(List Int)}{cmp_f:FuncId}{cmp_c:List AV}(cmp_d:cmp_c.all datB=true)(cmp_h: ∀ (z0:Int) (z1:Int) z,cmp z0 z1=some z→CSpec Tryz.prog gl0 cmp_f ([.int .i64 z0,.int .i64 z1]++cmp_c) (.int .i64 z))(h:ZZ data a b n cmp=some r):
 GSpec Tryz.prog gl0 126 [.own 0 data.length,.int .i64 a,.int .i64 b,.int .i64 n,.fn cmp_f cmp_c] [some ⟨3,List.map R3 data⟩] (.tuple []) [some ⟨3,List.map R3 r⟩]:=by
 unfold ZZ at h
 replace h:=Qk h
 refine ZaU (by kernel_rfl) Tryz.func126 Y Y<|?_
 intro w0 A W φ0
 refine K4 0 1 2 3 Y<|Tr<|Ra Y<|Za<|Zi<|?_
 obtain⟨r1,hl1,ho1⟩:=QZ h
 refine L2 (fun o i=>⟨[(0,.own 0 o.length),(1,.int .i64 a),(2,.int .i64 b),(3,.int .i64 n),(10,.int .i64 i)],[some ⟨3,List.map R3 o⟩]⟩) hl1 (ES [some 0]) fun n1 o i h=>?_
 unfold Qi at h
 refine Zl<|Tr<|Rm Y<|Rm Y<|R2 ZV Y<|Za<|K6 0 1 2 3 10 13 Y<|If h Y (fun h=>?_) fun h=>?_
 ·
  exact Zj<|Zl<|Zi<|K5 0 1 2 3 10 Y<|Qe (cw:=md0) (by kernel_rfl)<|D1 0 Zc Y<|D1 1 Zc Y<|D1 2 Zc Y<|D2 3 ZX Y<|D1 8 Zc Y<|D1 9 Zc Y<|D1 10 Zc Y<|D2 11 ZX Y<|bE h fun x h_x h=>Dq 12 Y (QW (ov Y) (ov Y) Qp Y Y h_x)<|Dq 13 Y (Q0 (ov Y) Y Y h_x tS3 Y)<|D1 14 Zc Y<|D1 15 Zc Y<|D1 16 Zc Y<|D2 17 ZX Y<|bE h fun x2 h_x2 h=>Dq 18 Y (QW (ov Y) (ov Y) Qp Y Y h_x2)<|Dq 19 Y (Q0 (ov Y) Y Y h_x2 tS3 Y)<|bE h fun x3 h_x3 h=>Dq 20 Y (QW (ov Y) (ov Y) Qp Y Y h_x3)<|XG 4 _ Y (by kernel_rfl) Y Y (fun hp'=>Zc<|ov Y)<|XG 5 _ Y (by kernel_rfl) Y Y (fun hp'=>Zc<|ov Y)<|XG 6 _ Y (by kernel_rfl) Y Y (fun hp'=>Zc<|ov Y)<|XG 7 _ Y (by kernel_rfl) Y Y (fun hp'=>Zh4 (ov Y) (ov Y) Y)<|Do 21 Y (J4 (u':=x) (ov Y) (ov Y) (Zg tS3) Y Y h_x3 Y (Zb Y) Y)<|bE h fun x4 h_x4 h=>Dq 22 Y (QW (ov Y) (ov Y) Qp Y ((List.length_set ..).trans Y) h_x4)<|Do 23 Y (J4 (u':=x2) (ov Y) (ov Y) (Zg tS3) Y ((List.length_set ..).trans Y) h_x4 Y (Zb Y) Y)<|Dd<|K5 0 1 2 3 10 Y<|Zt<|Rm Y<|R2 ZX Y<|Ra Y<|Za<|⟨_,h,ES [some 0]<|sr 0 Y (ZfM (Eq.symm<|(List.length_set ..).trans<|(List.length_set ..).trans Y) Y)<|sd 1 Y Y<|sd 2 Y Y<|sd 3 Y Y<|sd 10 Y Y sn⟩
 ·
  refine ZI<|?_
  replace h:=lx h▸ho1
  obtain rfl:=rt h
  exact Zfz [some 0] Y .nil (.cons Y (roM D3) .nil) Y Y<|ZbA rln
theorem ZdA{data:List Int}{a:Int}{m:Int}{b:Int}{cmp:Int→Int→Option Int}{r:(List Int)}{cmp_f:FuncId}{cmp_c:List AV}(cmp_d:cmp_c.all datB=true)(cmp_h: ∀ (z0:Int) (z1:Int) z,cmp z0 z1=some z→CSpec Tryz.prog gl0 cmp_f ([.int .i64 z0,.int .i64 z1]++cmp_c) (.int .i64 z))(h:Qq data a m b cmp=some r):
 GSpec Tryz.prog gl0 114 [.own 0 data.length,.int .i64 a,.int .i64 m,.int .i64 b,.fn cmp_f cmp_c] [some ⟨3,List.map R3 data⟩] (.tuple []) [some ⟨3,List.map R3 r⟩]:=by
 unfold Qq at h
 replace h:=Qk h
 refine ZaU (by kernel_rfl) Tryz.func114 Y Y<|?_
 intro w0 A W φ0
 refine Tr<|Rm Y<|Rm Y<|R2 ZaO Y<|Ra Y<|Za<|K5 0 2 3 4 10 Y<|Tr<|Rm Y<|Rm Y<|R2 ZaO Y<|Ra Y<|Za<|I2 (fun o i=>⟨[(0,.own 0 o.length),(2,.int .i64 m),(4,.fn cmp_f cmp_c),(10,.int .i64 i)],[some ⟨3,List.map R3 o⟩]⟩) h (fun h=>?_) fun o i h=>?_
 ·
  refine Zi<|?_
  obtain⟨r1,hl1,ho1⟩:=QZ h
  refine L3 (fun o2 i2 j=>⟨[(0,.own 0 o2.length),(2,.int .i64 m),(4,.fn cmp_f cmp_c),(10,.int .i64 i2),(11,.int .i64 j)],[some ⟨3,List.map R3 o2⟩]⟩) hl1 (ES [some 0]<|sr 0 Y (.own _ Y)<|sd 2 Y Y<|sr 4 Y (rFn<|rld cmp_d)<|sd 10 Y Y<|sd 11 Y Y sn) fun n1 o2 i2 j h=>?_
  unfold Qo at h
  refine Zl<|Tr<|Rm Y<|Rm Y<|R2 XW Y<|Za<|K6 0 2 4 10 11 20 Y<|If h Y (fun h=>?_) fun h=>?_
  ·
   refine Zj<|Zi<|K5 0 2 4 10 11 Y<|Tr<|Rm Y<|Rm Y<|R2 ZaL Y<|Za<|K6 0 2 4 10 11 23 Y<|If h Y (fun h=>?_) fun h=>?_
   ·
    exact K5 0 2 4 10 11 Y<|Tr<|Rm Y<|Rm Y<|Rm Y<|R2 ZaO Y<|Rm Y<|Rm Y<|Rm Y<|bE h fun y h_y h=>Rx Y (JH [0] (XT cmp_d cmp_h h_y) (.cons (ov Y) (.own _ Y)<|.cons (ov Y) (.dat Y)<|.cons (ov Y) (.dat Y)<|.cons (ov Y) (.dat Y)<|.cons (ov Y) (rFn<|rld cmp_d) .nil) (.cons Y (roM D3) .nil) Y (.lent 0 (.inl Y) Y (roM D3) .nil) Y Y<|ZbA<|rld Y)<|Za<|K5 0 2 4 10 11 Y<|Zt<|Rm Y<|Rm Y<|R2 ZaO Y<|Ra Y<|Za<|⟨_,h,ES [some 0]<|sr 0 Y (ZfM (Eq.symm<|QJ h_y) Y)<|sd 2 Y Y<|sr 4 Y (rFn<|rld cmp_d)<|sd 10 Y Y<|sd 11 Y Y sn⟩
   ·
    exact K5 0 2 4 10 11 Y<|Tr<|Rm Y<|Rm Y<|Rm Y<|R2 ZaO Y<|Rm Y<|Rm Y<|R2 ZX Y<|Rm Y<|R2 ZaO Y<|Rm Y<|Rm Y<|bE h fun y2 h_y2 h=>Rx Y (JH [0] (XT cmp_d cmp_h h_y2) (.cons (ov Y) (.own _ Y)<|.cons (ov Y) (.dat Y)<|.cons (ov Y) (.dat Y)<|.cons (ov Y) (.dat Y)<|.cons (ov Y) (rFn<|rld cmp_d) .nil) (.cons Y (roM D3) .nil) Y (.lent 0 (.inl Y) Y (roM D3) .nil) Y Y<|ZbA<|rld Y)<|Za<|K5 0 2 4 10 11 Y<|Zt<|Rm Y<|Rm Y<|R2 ZaO Y<|Ra Y<|Za<|⟨_,h,ES [some 0]<|sr 0 Y (ZfM (Eq.symm<|QJ h_y2) Y)<|sd 2 Y Y<|sr 4 Y (rFn<|rld cmp_d)<|sd 10 Y Y<|sd 11 Y Y sn⟩
  ·
   refine ZI<|?_
   replace h:=lx h▸ho1
   exact⟨_,h,ES [some 0]<|sr 0 Y (.own _ Y)<|sd 2 Y Y<|sr 4 Y (rFn<|rld cmp_d)<|sd 10 Y Y sn⟩
 ·
  refine Zt<|Rm Y<|Rm Y<|Rm Y<|R2 ZaO Y<|Rm Y<|Rm Y<|Rm Y<|bE h fun y3 h_y3 h=>Rx Y (JH [0] (XT cmp_d cmp_h h_y3) (.cons (ov Y) (.own _ Y)<|.cons (ov Y) (.dat Y)<|.cons (ov Y) (.dat Y)<|.cons (ov Y) (.dat Y)<|.cons (ov Y) (rFn<|rld cmp_d) .nil) (.cons Y (roM D3) .nil) Y (.lent 0 (.inl Y) Y (roM D3) .nil) Y Y<|ZbA<|rld Y)<|Za<|?_
  obtain rfl:=rt h
  exact Zfz [some 0] Y .nil (.cons Y (roM D3) .nil) Y Y<|ZbA rln
theorem ZcG{rec_:List Int→Int→Int→Int→(Int→Int→Option Int)→Option (List Int)}{data:List Int}{a:Int}{m:Int}{b:Int}{cmp:Int→Int→Option Int}{r:(List Int)}{cmp_f:FuncId}{cmp_c:List AV}(cmp_d:cmp_c.all datB=true)(cmp_h: ∀ (z0:Int) (z1:Int) z,cmp z0 z1=some z→CSpec Tryz.prog gl0 cmp_f ([.int .i64 z0,.int .i64 z1]++cmp_c) (.int .i64 z))(ln_rec_: ∀ {data:List Int} {a:Int} {m:Int} {b:Int} {cmp:Int→Int→Option Int} {r:(List Int)},rec_ data a m b cmp=some r→r.length=data.length)(hrec: ∀ {data:List Int} {a:Int} {m:Int} {b:Int} {cmp:Int→Int→Option Int} {r:(List Int)} {cmp_f:FuncId} {cmp_c:List AV} (cmp_d:cmp_c.all datB=true) (cmp_h: ∀ (z0:Int) (z1:Int) z,cmp z0 z1=some z→CSpec Tryz.prog gl0 cmp_f ([.int .i64 z0,.int .i64 z1]++cmp_c) (.int .i64 z)) (h:rec_ data a m b cmp=some r),GSpec Tryz.prog gl0 88 [.own 0 data.length,.int .i64 a,.int .i64 m,.int .i64 b,.fn cmp_f cmp_c] [some ⟨3,List.map R3 data⟩] (.tuple []) [some ⟨3,List.map R3 r⟩])(h:Qm rec_ data a m b cmp=some r):
 GSpec Tryz.prog gl0 88 [.own 0 data.length,.int .i64 a,.int .i64 m,.int .i64 b,.fn cmp_f cmp_c] [some ⟨3,List.map R3 data⟩] (.tuple []) [some ⟨3,List.map R3 r⟩]:=by
 unfold Qm at h
 replace h:=Qk h
 refine ZaU (by kernel_rfl) Tryz.func88 Y Y<|?_
 intro w0 A W φ0
 refine Zl<|Tr<|Rm Y<|Rm Y<|R2 ZaO Y<|R2 Q3 Y<|Za<|K6 0 1 2 3 4 28 Y<|If h Y (fun h=>?_) fun h=>?_
 ·
  refine K5 0 1 2 3 4 Y<|Tr<|Rm Y<|Ra Y<|Za<|K5 0 1 3 4 10 Y<|Tr<|Rm Y<|Ra Y<|Za<|I1 (fun i=>⟨[(0,.own 0 data.length),(1,.int .i64 a),(10,.int .i64 i)],[some ⟨3,List.map R3 data⟩]⟩) h (fun h=>?_) fun i h=>?_
  ·
   refine Zi<|?_
   obtain⟨r1,hl1,ho1⟩:=QZ h
   refine L2 (fun i2 j=>⟨[(0,.own 0 data.length),(1,.int .i64 a),(4,.fn cmp_f cmp_c),(10,.int .i64 i2),(11,.int .i64 j)],[some ⟨3,List.map R3 data⟩]⟩) hl1 (ES [some 0]<|sr 0 Y (.own _ Y)<|sd 1 Y Y<|sr 4 Y (rFn<|rld cmp_d)<|sd 10 Y Y<|sd 11 Y Y sn) fun n1 i2 j h=>?_
   unfold Qx at h
   refine Zl<|Tr<|Rm Y<|Rm Y<|R2 ZV Y<|Za<|K6 0 1 4 10 11 33 Y<|If h Y (fun h=>?_) fun h=>?_
   ·
    refine Zj<|Zi<|K5 0 1 4 10 11 Y<|Tr<|Rm Y<|Rm Y<|R2 ZX Y<|Rq Y (Qy (ov Y) tI3 ZjO Y)<|bE h fun q h_q h=>Rq Y (Zbo (ov Y) (ov Y) h_q)<|Rq Y (Qy (ov Y) ZjO tI3 Y)<|Ra Y<|Za<|Zl<|K6 0 1 4 10 11 12 Y<|Qe (cw:=md0) (by kernel_rfl)<|D1 0 Zc Y<|D1 1 Zc Y<|D1 2 Zc Y<|bE h fun x h_x h=>Dq 3 Y (QW (ov Y) (ov Y) Qp Y Y h_x)<|Dq 4 Y (Q0 (ov Y) Y Y h_x tS3 Y)<|D1 5 Zc Y<|D1 6 Zc Y<|bE h fun x2 h_x2 h=>Dq 7 Y (QW (ov Y) (ov Y) Qp Y Y h_x2)<|Dq 8 Y (Q0 (ov Y) Y Y h_x2 tS3 Y)<|bE h fun y h_y h=>Dq 9 Y (Zch (ov Y) cmp_d (cmp_h _ _ _ h_y)<|.cons (ov Y) (.b Y)<|.cons (ov Y) (.b Y) .nil)<|D2 10 ZV Y<|Dd<|K7 0 1 4 10 11 12 50 Y<|If h Y (fun h=>?_) fun h=>?_
    ·
     exact K6 0 1 4 10 11 12 Y<|Zt<|Rm Y<|R2 ZX Y<|Ra Y<|Za<|⟨_,h,ES [some 0]<|sr 0 Y (.own _ Y)<|sd 1 Y Y<|sr 4 Y (rFn<|rld cmp_d)<|sd 10 Y Y<|sd 11 Y Y sn⟩
    ·
     exact K6 0 1 4 10 11 12 Y<|Zt<|Rm Y<|Ra Y<|Za<|⟨_,h,ES [some 0]<|sr 0 Y (.own _ Y)<|sd 1 Y Y<|sr 4 Y (rFn<|rld cmp_d)<|sd 10 Y Y<|sd 11 Y Y sn⟩
   ·
    refine ZI<|?_
    replace h:=lx h▸ho1
    exact⟨_,h,ES [some 0]⟩
  ·
   refine I1 (fun o=>⟨[],[some ⟨3,List.map R3 o⟩]⟩) h (fun h=>?_) fun o h=>?_
   ·
    refine Tr<|Rm Y<|Ra Y<|Za<|Zi<|?_
    obtain⟨r2,hl2,ho2⟩:=QZ h
    refine L2 (fun o2 k=>⟨[(0,.own 0 o2.length),(10,.int .i64 i),(13,.int .i64 k)],[some ⟨3,List.map R3 o2⟩]⟩) hl2 (ES [some 0]) fun n2 o2 k h=>?_
    unfold Z0 at h
    refine Zl<|Tr<|Rm Y<|Rm Y<|R2 ZaO Y<|R2 ZV Y<|Za<|K4 0 10 13 58 Y<|If h Y (fun h=>?_) fun h=>?_
    ·
     exact Zj<|Zl<|Zi<|K3 0 10 13 Y<|Qe (cw:=md0) (by kernel_rfl)<|D1 0 Zc Y<|D1 1 Zc Y<|D1 5 Zc Y<|D1 6 Zc Y<|D2 7 ZX Y<|bE h fun x3 h_x3 h=>Dq 8 Y (QW (ov Y) (ov Y) Qp Y Y h_x3)<|Dq 9 Y (Q0 (ov Y) Y Y h_x3 tS3 Y)<|D1 10 Zc Y<|D1 11 Zc Y<|bE h fun x4 h_x4 h=>Dq 12 Y (QW (ov Y) (ov Y) Qp Y Y h_x4)<|Dq 13 Y (Q0 (ov Y) Y Y h_x4 tS3 Y)<|bE h fun x5 h_x5 h=>Dq 14 Y (QW (ov Y) (ov Y) Qp Y Y h_x5)<|XG 2 _ Y (by kernel_rfl) Y Y (fun hp'=>Zc<|ov Y)<|XG 3 _ Y (by kernel_rfl) Y Y (fun hp'=>Zc<|ov Y)<|XG 4 _ Y (by kernel_rfl) Y Y (fun hp'=>Zh4 (ov Y) (ov Y) Y)<|Do 15 Y (J4 (u':=x3) (ov Y) (ov Y) (Zg tS3) Y Y h_x5 Y (Zb Y) Y)<|bE h fun x6 h_x6 h=>Dq 16 Y (QW (ov Y) (ov Y) Qp Y ((List.length_set ..).trans Y) h_x6)<|Do 17 Y (J4 (u':=x4) (ov Y) (ov Y) (Zg tS3) Y ((List.length_set ..).trans Y) h_x6 Y (Zb Y) Y)<|Dd<|K3 0 10 13 Y<|Zt<|Rm Y<|R2 ZX Y<|Ra Y<|Za<|⟨_,h,ES [some 0]<|sr 0 Y (ZfM (Eq.symm<|(List.length_set ..).trans<|(List.length_set ..).trans Y) Y)<|sd 10 Y Y<|sd 13 Y Y sn⟩
    ·
     refine ZI<|?_
     replace h:=lx h▸ho2
     exact⟨_,h,ES [some 0]⟩
   ·
    obtain rfl:=rt h
    exact Zs<|ZlW [some 0] Y .nil (.cons Y (roM D3) .nil) Y Y<|ZbA rln
 ·
  refine Zj<|Zl<|K5 0 1 2 3 4 Y<|Tr<|Rm Y<|Rm Y<|R2 ZaO Y<|R2 Q3 Y<|Za<|K6 0 1 2 3 4 80 Y<|If h Y (fun h=>?_) fun h=>?_
  ·
   refine K4 0 1 2 4 Y<|Tr<|Rm Y<|Ra Y<|Za<|K4 0 2 4 14 Y<|Tr<|Rm Y<|Ra Y<|Za<|I1 (fun i3=>⟨[(0,.own 0 data.length),(2,.int .i64 m),(14,.int .i64 i3)],[some ⟨3,List.map R3 data⟩]⟩) h (fun h=>?_) fun i3 h=>?_
   ·
    refine Zi<|?_
    obtain⟨r3,hl3,ho3⟩:=QZ h
    refine L2 (fun i4 j2=>⟨[(0,.own 0 data.length),(2,.int .i64 m),(4,.fn cmp_f cmp_c),(14,.int .i64 i4),(15,.int .i64 j2)],[some ⟨3,List.map R3 data⟩]⟩) hl3 (ES [some 0]<|sr 0 Y (.own _ Y)<|sd 2 Y Y<|sr 4 Y (rFn<|rld cmp_d)<|sd 14 Y Y<|sd 15 Y Y sn) fun n3 i4 j2 h=>?_
    unfold Qv at h
    refine Zl<|Tr<|Rm Y<|Rm Y<|R2 ZV Y<|Za<|K6 0 2 4 14 15 85 Y<|If h Y (fun h=>?_) fun h=>?_
    ·
     refine Zj<|Zi<|K5 0 2 4 14 15 Y<|Tr<|Rm Y<|Rm Y<|R2 ZX Y<|Rq Y (Qy (ov Y) tI3 ZjO Y)<|bE h fun q2 h_q2 h=>Rq Y (Zbo (ov Y) (ov Y) h_q2)<|Rq Y (Qy (ov Y) ZjO tI3 Y)<|Ra Y<|Za<|Zl<|K6 0 2 4 14 15 16 Y<|Qe (cw:=md0) (by kernel_rfl)<|D1 0 Zc Y<|D1 1 Zc Y<|D1 2 Zc Y<|bE h fun x7 h_x7 h=>Dq 3 Y (QW (ov Y) (ov Y) Qp Y Y h_x7)<|Dq 4 Y (Q0 (ov Y) Y Y h_x7 tS3 Y)<|D1 5 Zc Y<|D1 6 Zc Y<|bE h fun x8 h_x8 h=>Dq 7 Y (QW (ov Y) (ov Y) Qp Y Y h_x8)<|Dq 8 Y (Q0 (ov Y) Y Y h_x8 tS3 Y)<|bE h fun y2 h_y2 h=>Dq 9 Y (Zch (ov Y) cmp_d (cmp_h _ _ _ h_y2)<|.cons (ov Y) (.b Y)<|.cons (ov Y) (.b Y) .nil)<|D2 10 ZV Y<|D1 11 XV Y<|Dd<|K7 0 2 4 14 15 16 103 Y<|If h Y (fun h=>?_) fun h=>?_
     ·
      exact K6 0 2 4 14 15 16 Y<|Zt<|Rm Y<|R2 ZX Y<|Ra Y<|Za<|⟨_,h,ES [some 0]<|sr 0 Y (.own _ Y)<|sd 2 Y Y<|sr 4 Y (rFn<|rld cmp_d)<|sd 14 Y Y<|sd 15 Y Y sn⟩
     ·
      exact K6 0 2 4 14 15 16 Y<|Zt<|Rm Y<|Ra Y<|Za<|⟨_,h,ES [some 0]<|sr 0 Y (.own _ Y)<|sd 2 Y Y<|sr 4 Y (rFn<|rld cmp_d)<|sd 14 Y Y<|sd 15 Y Y sn⟩
    ·
     refine ZI<|?_
     replace h:=lx h▸ho3
     exact⟨_,h,ES [some 0]⟩
   ·
    refine I1 (fun o3=>⟨[],[some ⟨3,List.map R3 o3⟩]⟩) h (fun h=>?_) fun o3 h=>?_
    ·
     refine Tr<|Rm Y<|Ra Y<|Za<|Zi<|?_
     obtain⟨r4,hl4,ho4⟩:=QZ h
     refine L2 (fun o4 k2=>⟨[(0,.own 0 o4.length),(14,.int .i64 i3),(17,.int .i64 k2)],[some ⟨3,List.map R3 o4⟩]⟩) hl4 (ES [some 0]) fun n4 o4 k2 h=>?_
     unfold Z3 at h
     refine Zl<|Tr<|Rm Y<|Rm Y<|R2 ZaL Y<|Za<|K4 0 14 17 110 Y<|If h Y (fun h=>?_) fun h=>?_
     ·
      exact Zj<|Zl<|Zi<|K3 0 14 17 Y<|Qe (cw:=md0) (by kernel_rfl)<|D1 0 Zc Y<|D1 1 Zc Y<|D1 5 Zc Y<|D1 6 Zc Y<|D2 7 ZaO Y<|bE h fun x9 h_x9 h=>Dq 8 Y (QW (ov Y) (ov Y) Qp Y Y h_x9)<|Dq 9 Y (Q0 (ov Y) Y Y h_x9 tS3 Y)<|D1 10 Zc Y<|D1 11 Zc Y<|bE h fun x10 h_x10 h=>Dq 12 Y (QW (ov Y) (ov Y) Qp Y Y h_x10)<|Dq 13 Y (Q0 (ov Y) Y Y h_x10 tS3 Y)<|bE h fun x11 h_x11 h=>Dq 14 Y (QW (ov Y) (ov Y) Qp Y Y h_x11)<|XG 2 _ Y (by kernel_rfl) Y Y (fun hp'=>Zc<|ov Y)<|XG 3 _ Y (by kernel_rfl) Y Y (fun hp'=>Zc<|ov Y)<|XG 4 _ Y (by kernel_rfl) Y Y (fun hp'=>Zdo (ov Y) (ov Y) Y)<|Do 15 Y (J4 (u':=x9) (ov Y) (ov Y) (Zg tS3) Y Y h_x11 Y (Zb Y) Y)<|bE h fun x12 h_x12 h=>Dq 16 Y (QW (ov Y) (ov Y) Qp Y ((List.length_set ..).trans Y) h_x12)<|Do 17 Y (J4 (u':=x10) (ov Y) (ov Y) (Zg tS3) Y ((List.length_set ..).trans Y) h_x12 Y (Zb Y) Y)<|Dd<|K3 0 14 17 Y<|Zt<|Rm Y<|R2 ZaO Y<|Ra Y<|Za<|⟨_,h,ES [some 0]<|sr 0 Y (ZfM (Eq.symm<|(List.length_set ..).trans<|(List.length_set ..).trans Y) Y)<|sd 14 Y Y<|sd 17 Y Y sn⟩
     ·
      refine ZI<|?_
      replace h:=lx h▸ho4
      exact⟨_,h,ES [some 0]⟩
    ·
     obtain rfl:=rt h
     exact Zs<|ZlW [some 0] Y .nil (.cons Y (roM D3) .nil) Y Y<|ZbA rln
  ·
   refine Zj<|K5 0 1 2 3 4 Y<|Tr<|Rm Y<|Rm Y<|R2 ZX Y<|Rq Y (Qy (ov Y) tI3 ZjO Y)<|bE h fun q3 h_q3 h=>Rq Y (Zbo (ov Y) (ov Y) h_q3)<|Rq Y (Qy (ov Y) ZjO tI3 Y)<|Ra Y<|Za<|K6 0 1 2 3 4 18 Y<|Tr<|Rm Y<|Rm Y<|R2 ZX Y<|Ra Y<|Za<|K7 0 1 2 3 4 18 19 Y<|Tr<|Ra Y<|Ra Y<|Za<|I2 (fun start r_=>⟨[(0,.own 0 data.length),(1,.int .i64 a),(2,.int .i64 m),(3,.int .i64 b),(4,.fn cmp_f cmp_c),(18,.int .i64 (i64 q3)),(19,.int .i64 (i64 ((i64 q3)+m))),(20,.int .i64 start),(21,.int .i64 r_)],[some ⟨3,List.map R3 data⟩]⟩) h (fun h=>?_) fun start r_ h=>?_
   ·
    refine K7 0 1 2 3 4 18 19 Y<|Tr<|Rm Y<|Rm Y<|R2 ZaL Y<|Za<|K8 0 1 2 3 4 18 19 140 Y<|If h Y (fun h=>?_) fun h=>?_
    ·
     exact K7 0 1 2 3 4 18 19 Y<|Tr<|Rm Y<|Rm Y<|R2 ZaO Y<|Ra Y<|Za<|K8 0 1 2 3 4 18 19 20 Y<|Zt<|Rm Y<|Ra Y<|Za<|⟨_,h,ES [some 0]<|sr 0 Y (.own _ Y)<|sd 1 Y Y<|sd 2 Y Y<|sd 3 Y Y<|sr 4 Y (rFn<|rld cmp_d)<|sd 18 Y Y<|sd 19 Y Y<|sd 20 Y Y<|sd 21 Y Y sn⟩
    ·
     exact K7 0 1 2 3 4 18 19 Y<|Tr<|Rm Y<|Ra Y<|Za<|K8 0 1 2 3 4 18 19 20 Y<|Zt<|Rm Y<|Ra Y<|Za<|⟨_,h,ES [some 0]<|sr 0 Y (.own _ Y)<|sd 1 Y Y<|sd 2 Y Y<|sd 3 Y Y<|sr 4 Y (rFn<|rld cmp_d)<|sd 18 Y Y<|sd 19 Y Y<|sd 20 Y Y<|sd 21 Y Y sn⟩
   ·
    refine Tr<|Rm Y<|R2 ZaO Y<|Ra Y<|Za<|I1 (fun start2=>⟨[(0,.own 0 data.length),(1,.int .i64 a),(2,.int .i64 m),(3,.int .i64 b),(4,.fn cmp_f cmp_c),(18,.int .i64 (i64 q3)),(19,.int .i64 (i64 ((i64 q3)+m))),(20,.int .i64 start2)],[some ⟨3,List.map R3 data⟩]⟩) h (fun h=>?_) fun start2 h=>?_
    ·
     refine Zi<|?_
     obtain⟨r5,hl5,ho5⟩:=QZ h
     refine L2 (fun start3 r_2=>⟨[(0,.own 0 data.length),(1,.int .i64 a),(2,.int .i64 m),(3,.int .i64 b),(4,.fn cmp_f cmp_c),(18,.int .i64 (i64 q3)),(19,.int .i64 (i64 ((i64 q3)+m))),(20,.int .i64 start3),(21,.int .i64 r_2),(22,.int .i64 (i64 ((i64 ((i64 q3)+m))-1)))],[some ⟨3,List.map R3 data⟩]⟩) hl5 (ES [some 0]<|sr 0 Y (.own _ Y)<|sd 1 Y Y<|sd 2 Y Y<|sd 3 Y Y<|sr 4 Y (rFn<|rld cmp_d)<|sd 18 Y Y<|sd 19 Y Y<|sd 20 Y Y<|sd 21 Y Y<|sd 22 Y Y sn) fun n5 start3 r_2 h=>?_
     unfold QM at h
     refine Zl<|Tr<|Rm Y<|Rm Y<|R2 ZV Y<|Za<|K11 0 1 2 3 4 18 19 20 21 22 151 Y<|If h Y (fun h=>?_) fun h=>?_
     ·
      refine Zj<|Zi<|K10 0 1 2 3 4 18 19 20 21 22 Y<|Tr<|Rm Y<|Rm Y<|R2 ZX Y<|Rq Y (Qy (ov Y) tI3 ZjO Y)<|bE h fun q4 h_q4 h=>Rq Y (Zbo (ov Y) (ov Y) h_q4)<|Rq Y (Qy (ov Y) ZjO tI3 Y)<|Ra Y<|Za<|Zl<|K11 0 1 2 3 4 18 19 20 21 22 23 Y<|Qe (cw:=md0) (by kernel_rfl)<|D1 0 Zc Y<|D1 1 Zc Y<|D1 2 Zc Y<|D1 3 Zc Y<|D2 4 ZaO Y<|bE h fun x13 h_x13 h=>Dq 5 Y (QW (ov Y) (ov Y) Qp Y Y h_x13)<|Dq 6 Y (Q0 (ov Y) Y Y h_x13 tS3 Y)<|D1 7 Zc Y<|D1 8 Zc Y<|bE h fun x14 h_x14 h=>Dq 9 Y (QW (ov Y) (ov Y) Qp Y Y h_x14)<|Dq 10 Y (Q0 (ov Y) Y Y h_x14 tS3 Y)<|bE h fun y3 h_y3 h=>Dq 11 Y (Zch (ov Y) cmp_d (cmp_h _ _ _ h_y3)<|.cons (ov Y) (.b Y)<|.cons (ov Y) (.b Y) .nil)<|D2 12 ZV Y<|D1 13 XV Y<|Dd<|K12 0 1 2 3 4 18 19 20 21 22 23 171 Y<|If h Y (fun h=>?_) fun h=>?_
      ·
       exact K11 0 1 2 3 4 18 19 20 21 22 23 Y<|Zt<|Rm Y<|R2 ZX Y<|Ra Y<|Za<|⟨_,h,ES [some 0]<|sr 0 Y (.own _ Y)<|sd 1 Y Y<|sd 2 Y Y<|sd 3 Y Y<|sr 4 Y (rFn<|rld cmp_d)<|sd 18 Y Y<|sd 19 Y Y<|sd 20 Y Y<|sd 21 Y Y<|sd 22 Y Y sn⟩
      ·
       exact K11 0 1 2 3 4 18 19 20 21 22 23 Y<|Zt<|Rm Y<|Ra Y<|Za<|⟨_,h,ES [some 0]<|sr 0 Y (.own _ Y)<|sd 1 Y Y<|sd 2 Y Y<|sd 3 Y Y<|sr 4 Y (rFn<|rld cmp_d)<|sd 18 Y Y<|sd 19 Y Y<|sd 20 Y Y<|sd 21 Y Y<|sd 22 Y Y sn⟩
     ·
      refine ZI<|?_
      replace h:=lx h▸ho5
      exact⟨_,h,ES [some 0]<|sr 0 Y (.own _ Y)<|sd 1 Y Y<|sd 2 Y Y<|sd 3 Y Y<|sr 4 Y (rFn<|rld cmp_d)<|sd 18 Y Y<|sd 19 Y Y<|sd 20 Y Y sn⟩
    ·
     refine Tr<|Rm Y<|Rm Y<|R2 ZaO Y<|Ra Y<|Za<|I1 (fun o5=>⟨[(0,.own 0 o5.length),(1,.int .i64 a),(3,.int .i64 b),(4,.fn cmp_f cmp_c),(18,.int .i64 (i64 q3)),(20,.int .i64 start2),(24,.int .i64 (i64 ((i64 ((i64 q3)+m))-start2)))],[some ⟨3,List.map R3 o5⟩]⟩) h (fun h=>?_) fun o5 h=>?_
     ·
      refine K8 0 1 2 3 4 18 20 24 Y<|Tr<|Rm Y<|Rm Y<|R2 ZV Y<|Rm Y<|Rq Y (.guarded ((decide (start2<m))==true) Y Y Y Y fun h=>Zc<|ov Y)<|Rq Y (.guarded ((decide (start2<m))==true) Y Y Y Y fun h=>Zc<|ov Y)<|Rq Y (.guarded ((decide (start2<m))==true) Y Y Y Y fun h=>ZV (ow Y h)<|ow Y h)<|Rq Y (XJ (ov Y) fun hp=>ow Y<|gT hp)<|Za<|K9 0 1 2 3 4 18 20 24 185 Y<|If h Y (fun h=>?_) fun h=>?_
      ·
       exact K8 0 1 2 3 4 18 20 24 Y<|Zt<|Rm Y<|Rm Y<|Rm Y<|Rm Y<|Rm Y<|bE h fun y4 h_y4 h=>Rx Y (JH [0] (ZdA cmp_d cmp_h h_y4) (.cons (ov Y) (.own _ Y)<|.cons (ov Y) (.dat Y)<|.cons (ov Y) (.dat Y)<|.cons (ov Y) (.dat Y)<|.cons (ov Y) (rFn<|rld cmp_d) .nil) (.cons Y (roM D3) .nil) Y (.lent 0 (.inl Y) Y (roM D3) .nil) Y Y<|ZbA<|rld Y)<|Za<|⟨_,h,ES [some 0]<|sr 0 Y (ZfM (Eq.symm<|ZaH h_y4) Y)<|sd 1 Y Y<|sd 3 Y Y<|sr 4 Y (rFn<|rld cmp_d)<|sd 18 Y Y<|sd 20 Y Y<|sd 24 Y Y sn⟩
      ·
       exact Zj<|⟨_,h,ES [some 0]<|sr 0 Y (.own _ Y)<|sd 1 Y Y<|sd 3 Y Y<|sr 4 Y (rFn<|rld cmp_d)<|sd 18 Y Y<|sd 20 Y Y<|sd 24 Y Y sn⟩
     ·
      refine I1 (fun o6=>⟨[(0,.own 0 o6.length),(3,.int .i64 b),(4,.fn cmp_f cmp_c),(18,.int .i64 (i64 q3)),(24,.int .i64 (i64 ((i64 ((i64 q3)+m))-start2)))],[some ⟨3,List.map R3 o6⟩]⟩) h (fun h=>?_) fun o6 h=>?_
      ·
       refine Tr<|Rm Y<|Rm Y<|R2 ZV Y<|Rm Y<|Rq Y (.guarded ((decide (a<start2))==true) Y Y Y Y fun h=>Zc<|ov Y)<|Rq Y (.guarded ((decide (a<start2))==true) Y Y Y Y fun h=>Zc<|ov Y)<|Rq Y (.guarded ((decide (a<start2))==true) Y Y Y Y fun h=>ZV (ow Y h)<|ow Y h)<|Rq Y (XJ (ov Y) fun hp=>ow Y<|gT hp)<|Za<|K8 0 1 3 4 18 20 24 199 Y<|If h Y (fun h=>?_) fun h=>?_
       ·
        exact K7 0 1 3 4 18 20 24 Y<|Zt<|Rm Y<|Rm Y<|Rm Y<|Rm Y<|Rm Y<|bE h fun y5 h_y5 h=>Rx Y (JH [0] (hrec cmp_d cmp_h h_y5) (.cons (ov Y) (.own _ Y)<|.cons (ov Y) (.dat Y)<|.cons (ov Y) (.dat Y)<|.cons (ov Y) (.dat Y)<|.cons (ov Y) (rFn<|rld cmp_d) .nil) (.cons Y (roM D3) .nil) Y (.lent 0 (.inl Y) Y (roM D3) .nil) Y Y<|ZbA<|rld Y)<|Za<|⟨_,h,ES [some 0]<|sr 0 Y (ZfM (Eq.symm<|ln_rec_ h_y5) Y)<|sd 3 Y Y<|sr 4 Y (rFn<|rld cmp_d)<|sd 18 Y Y<|sd 24 Y Y sn⟩
       ·
        exact Zj<|⟨_,h,ES [some 0]<|sr 0 Y (.own _ Y)<|sd 3 Y Y<|sr 4 Y (rFn<|rld cmp_d)<|sd 18 Y Y<|sd 24 Y Y sn⟩
      ·
       refine Tr<|Rm Y<|Rm Y<|R2 ZV Y<|Rm Y<|Rq Y (.guarded ((decide ((i64 q3)<(i64 ((i64 ((i64 q3)+m))-start2))))==true) Y Y Y Y fun h=>Zc<|ov Y)<|Rq Y (.guarded ((decide ((i64 q3)<(i64 ((i64 ((i64 q3)+m))-start2))))==true) Y Y Y Y fun h=>Zc<|ov Y)<|Rq Y (.guarded ((decide ((i64 q3)<(i64 ((i64 ((i64 q3)+m))-start2))))==true) Y Y Y Y fun h=>ZV (ow Y h)<|ow Y h)<|Rq Y (XJ (ov Y) fun hp=>ow Y<|gT hp)<|Za<|K6 0 3 4 18 24 213 Y<|If h Y (fun h=>?_) fun h=>?_
       ·
        refine K5 0 3 4 18 24 Y<|Zt<|Rm Y<|Rm Y<|Rm Y<|Rm Y<|Rm Y<|bE h fun y6 h_y6 h=>Rx Y (JH [0] (hrec cmp_d cmp_h h_y6) (.cons (ov Y) (.own _ Y)<|.cons (ov Y) (.dat Y)<|.cons (ov Y) (.dat Y)<|.cons (ov Y) (.dat Y)<|.cons (ov Y) (rFn<|rld cmp_d) .nil) (.cons Y (roM D3) .nil) Y (.lent 0 (.inl Y) Y (roM D3) .nil) Y Y<|ZbA<|rld Y)<|Za<|?_
        obtain rfl:=rt h
        exact Zfz [some 0] Y .nil (.cons Y (roM D3) .nil) Y Y<|ZbA rln
       ·
        refine Zj<|?_
        obtain rfl:=rt h
        exact Zfz [some 0] Y .nil (.cons Y (roM D3) .nil) Y Y<|ZbA rln
end Go.Proofs.YtjjknklgafdeiaaGreatDoor
