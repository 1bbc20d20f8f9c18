/- A text of the proof: a verified executor of the program form, or the contracts of the functions that the law reaches. -/
import Derived.Test.YtgohgnaapbpggaaGreatDoorVS
import Derived.Test.YtgohgnaapbpggaaGreatDoorVW
import Derived.Test.YtgohgnaapbpggaaGreatDoorPA
import Derived.Test.YtgohgnaapbpggaaGreatDoorShT
import Derived.Test.YtgohgnaapbpggaaGreatDoorProg
import Derived.Test.YtgohgnaapbpggaaGreatDoorLayZ
set_option linter.all false
namespace Go.Proofs.YtgohgnaapbpggaaGreatDoor
open Go Go.Vx
set_option maxRecDepth 10000
set_option maxHeartbeats 1000000
set_option linter.unusedVariables false
theorem tZ_5:Tryz.prog.cellsOf 5=1:=by kernel_rfl
instance:SzD Tryz.prog 5 1:=⟨tZ_5⟩
theorem tZ_22:Tryz.prog.cellsOf 22=1:=by kernel_rfl
instance:SzD Tryz.prog 22 1:=⟨tZ_22⟩
theorem tZ_3:Tryz.prog.cellsOf 3=1:=by kernel_rfl
instance:SzD Tryz.prog 3 1:=⟨tZ_3⟩
theorem tZ_4:Tryz.prog.cellsOf 4=1:=by kernel_rfl
instance:SzD Tryz.prog 4 1:=⟨tZ_4⟩
theorem tZ_59:Tryz.prog.cellsOf 59=5:=by kernel_rfl
instance:SzD Tryz.prog 59 5:=⟨tZ_59⟩
theorem tZ_48:Tryz.prog.cellsOf 48=66:=by kernel_rfl
instance:SzD Tryz.prog 48 66:=⟨tZ_48⟩
theorem XC:tSl Tryz.prog 36 59 5 88=true:=by kernel_rfl
theorem XL:tAgg Tryz.prog 59 5=true:=by kernel_rfl
theorem Zde:JM Tryz.prog 59=some [.int .i64 0,.int .i64 0,.slice none 0 0,.slice none 0 0,.slice none 0 0]:=by kernel_rfl
theorem Z9:tFld Tryz.prog 59 2 2=true:=by kernel_rfl
theorem Q7:tScal Tryz.prog 55=true:=by kernel_rfl
theorem Q3:tSl Tryz.prog 55 22 1 24=true:=by kernel_rfl
theorem Zfb:tFld Tryz.prog 59 0 0=true:=by kernel_rfl
theorem tS3:tScal Tryz.prog 3=true:=by kernel_rfl
theorem Zhg:tFld Tryz.prog 59 1 1=true:=by kernel_rfl
theorem Zcz:tFld Tryz.prog 59 3 3=true:=by kernel_rfl
theorem Zib:tScal Tryz.prog 56=true:=by kernel_rfl
theorem QA:tSl Tryz.prog 56 3 1 8=true:=by kernel_rfl
theorem ZdK:tFld Tryz.prog 59 4 4=true:=by kernel_rfl
theorem ZiA:tScal Tryz.prog 57=true:=by kernel_rfl
theorem Zgl:tSl Tryz.prog 57 4 1 1=true:=by kernel_rfl
theorem Zek:tScal Tryz.prog 22=true:=by kernel_rfl
theorem Qi:tSl Tryz.prog 22 5 1 1=true:=by kernel_rfl
theorem Ztb:Zco Tryz.prog 80=some [(0,2),(2,1),(3,1),(4,1),(5,1),(6,1)]:=by kernel_rfl
theorem Zss:Zf3 Tryz.prog 80=true:=by kernel_rfl
theorem ZtE:JM Tryz.prog 80=some [.slice none 0 0,.slice none 0 0,.int .i64 0,.bool false,.bool false,.int .i64 0,.bool false]:=by kernel_rfl
theorem Zty:tAgg Tryz.prog 80 7=true:=by kernel_rfl
theorem Zsh:(match Tryz.prog.underlying 22 with |some (.slice _)=>true |_=>false)=true:=by kernel_rfl
theorem Zr6:(match Tryz.prog.underlying 56 with |some (.slice _)=>true |_=>false)=true:=by kernel_rfl
theorem ZrI:(match Tryz.prog.underlying 57 with |some (.slice _)=>true |_=>false)=true:=by kernel_rfl
theorem Ze2:tFld Tryz.prog 80 0 0=true:=by kernel_rfl
theorem Ze6:tFld Tryz.prog 78 0 0=true:=by kernel_rfl
theorem Zcc:tScal Tryz.prog 36=true:=by kernel_rfl
theorem Znn:JM Tryz.prog 83=some [.int .i64 0,.int .i64 0]:=by kernel_rfl
theorem tZ_83:Tryz.prog.cellsOf 83=2:=by kernel_rfl
instance:SzD Tryz.prog 83 2:=⟨tZ_83⟩
theorem Zs4:JM Tryz.prog 109=some [.nilFunc]:=by kernel_rfl
theorem tZ_109:Tryz.prog.cellsOf 109=1:=by kernel_rfl
instance:SzD Tryz.prog 109 1:=⟨tZ_109⟩
theorem Zo9:tScal Tryz.prog 109=true:=by kernel_rfl
theorem Zkw:tArr Tryz.prog 211 16 5 1=true:=by kernel_rfl
theorem tS5:tScal Tryz.prog 5=true:=by kernel_rfl
theorem tI5:tInt Tryz.prog 5 .u8=true:=by kernel_rfl
theorem tI3:tInt Tryz.prog 3 .i64=true:=by kernel_rfl
theorem tS4:tScal Tryz.prog 4=true:=by kernel_rfl
theorem Zg9:tInt Tryz.prog 131 .u64=true:=by kernel_rfl
theorem Zpt:Zco Tryz.prog 83=some [(0,1),(1,1)]:=by kernel_rfl
theorem Zqb:Zf3 Tryz.prog 83=true:=by kernel_rfl
theorem ZkQ:tAgg Tryz.prog 83 2=true:=by kernel_rfl
theorem Zhu:tFld Tryz.prog 83 0 0=true:=by kernel_rfl
theorem ZnS:tArr Tryz.prog 210 97 5 1=true:=by kernel_rfl
theorem ZkB:tFld Tryz.prog 83 1 1=true:=by kernel_rfl
theorem ZhD:tFld Tryz.prog 78 1 1=true:=by kernel_rfl
theorem ZmB:tScal Tryz.prog 76=true:=by kernel_rfl
theorem Zmj:tSl Tryz.prog 76 83 2 16=true:=by kernel_rfl
theorem ZlS:tFld Tryz.prog 80 2 3=true:=by kernel_rfl
theorem tZ_80:Tryz.prog.cellsOf 80=7:=by kernel_rfl
instance:SzD Tryz.prog 80 7:=⟨tZ_80⟩
theorem Zs0:Zco Tryz.prog 89=some [(0,1),(1,1),(2,1),(3,1),(4,1),(5,1),(6,1),(7,1)]:=by kernel_rfl
theorem ZsA:Zf3 Tryz.prog 89=true:=by kernel_rfl
theorem Ztq:JM Tryz.prog 89=some [.slice none 0 0,.int .i64 0,.slice none 0 0,.bool false,.bool false,.int .i64 0,.bool false,.int .i64 0]:=by kernel_rfl
theorem Ztl:tAgg Tryz.prog 89 8=true:=by kernel_rfl
theorem ZaI:tFld Tryz.prog 89 0 0=true:=by kernel_rfl
theorem Zq9:Zco Tryz.prog 92=some [(0,1),(1,1)]:=by kernel_rfl
theorem Zq4:Zf3 Tryz.prog 92=true:=by kernel_rfl
theorem Zqp:JM Tryz.prog 92=some [.int .i64 0,.int .i64 0]:=by kernel_rfl
theorem tZ_92:Tryz.prog.cellsOf 92=2:=by kernel_rfl
instance:SzD Tryz.prog 92 2:=⟨tZ_92⟩
theorem Zpm:tAgg Tryz.prog 92 2=true:=by kernel_rfl
theorem ZpR:tInt Tryz.prog 158 .u32=true:=by kernel_rfl
theorem Zqh:tSl Tryz.prog 159 158 1 4=true:=by kernel_rfl
theorem tZ_158:Tryz.prog.cellsOf 158=1:=by kernel_rfl
instance:SzD Tryz.prog 158 1:=⟨tZ_158⟩
theorem ZsL:tScal Tryz.prog 158=true:=by kernel_rfl
theorem ZqM:tU8 Tryz.prog 5=true:=by kernel_rfl
theorem ZlG:tStr Tryz.prog 9=true:=by kernel_rfl
theorem ZgH:tFld Tryz.prog 92 0 0=true:=by kernel_rfl
theorem Zkr:tFld Tryz.prog 92 1 1=true:=by kernel_rfl
theorem Zku:tFld Tryz.prog 89 3 3=true:=by kernel_rfl
theorem Ze0:tFld Tryz.prog 89 2 2=true:=by kernel_rfl
theorem ZkW:tScal Tryz.prog 87=true:=by kernel_rfl
theorem ZjA:tSl Tryz.prog 87 92 2 16=true:=by kernel_rfl
theorem tZ_89:Tryz.prog.cellsOf 89=8:=by kernel_rfl
instance:SzD Tryz.prog 89 8:=⟨tZ_89⟩
theorem tZ3:JM Tryz.prog 3=some [.int .i64 0]:=by kernel_rfl
theorem Ziy:JM Tryz.prog 46=some [.int .u16 0,.int .u16 0,.int .u16 0,.int .u16 0,.int .u16 0,.int .u16 0,.int .u16 0,.int .u16 0,.int .u16 0,.int .u16 0,.int .u16 0,.int .u16 0,.int .u16 0,.int .u16 0,.int .u16 0,.int .u16 0,.int .u16 0,.int .u16 0,.int .u16 0,.int .u16 0,.int .u16 0,.int .u16 0,.int .u16 0,.int .u16 0,.int .u16 0,.int .u16 0,.int .u16 0,.int .u16 0,.int .u16 0,.int .u16 0,.int .u16 0,.int .u16 0,.int .u16 0,.int .u16 0,.int .u16 0,.int .u16 0,.int .u16 0,.int .u16 0,.int .u16 0,.int .u16 0,.int .u16 0,.int .u16 0,.int .u16 0,.int .u16 0,.int .u16 0,.int .u16 0,.int .u16 0,.int .u16 0,.int .u16 0,.int .u16 0,.int .u16 0,.int .u16 0,.int .u16 0,.int .u16 0,.int .u16 0,.int .u16 0,.int .u16 0,.int .u16 0,.int .u16 0,.int .u16 0,.int .u16 0,.int .u16 0,.int .u16 0,.int .u16 0]:=by kernel_rfl
theorem tZ_46:Tryz.prog.cellsOf 46=64:=by kernel_rfl
instance:SzD Tryz.prog 46 64:=⟨tZ_46⟩
theorem Zaq:tArr Tryz.prog 46 64 44 1=true:=by kernel_rfl
theorem X3:tAgg Tryz.prog 46 64=true:=by kernel_rfl
theorem Zdl:tInt Tryz.prog 44 .u16=true:=by kernel_rfl
theorem Za7:tScal Tryz.prog 44=true:=by kernel_rfl
theorem Zq8:tArr Tryz.prog 163 4 3 1=true:=by kernel_rfl
theorem Zsv:JM Tryz.prog 163=some [.int .i64 0,.int .i64 0,.int .i64 0,.int .i64 0]:=by kernel_rfl
theorem Zk7:Zco Tryz.prog 59=some [(0,1),(1,1),(2,1),(3,1),(4,1)]:=by kernel_rfl
theorem Zkv:Zf3 Tryz.prog 59=true:=by kernel_rfl
theorem tZ4:JM Tryz.prog 4=some [.bool false]:=by kernel_rfl
theorem tZ5:JM Tryz.prog 5=some [.int .u8 0]:=by kernel_rfl
theorem ZnB:tFld Tryz.prog 80 3 4=true:=by kernel_rfl
theorem Zf4:Zco Tryz.prog 133=some [(0,1),(1,1)]:=by kernel_rfl
theorem ZfT:Zf3 Tryz.prog 133=true:=by kernel_rfl
theorem Zh2:JM Tryz.prog 133=some [.int .i64 0,.int .i64 0]:=by kernel_rfl
theorem ZeG:tSl Tryz.prog 97 133 2 16=true:=by kernel_rfl
theorem tZ_133:Tryz.prog.cellsOf 133=2:=by kernel_rfl
instance:SzD Tryz.prog 133 2:=⟨tZ_133⟩
theorem Zsy:tArr Tryz.prog 134 4 44 1=true:=by kernel_rfl
theorem tB4:(match Tryz.prog.underlying 4 with |some .bool=>true |_=>false)=true:=by kernel_rfl
theorem Zrm:tFld Tryz.prog 80 1 2=true:=by kernel_rfl
theorem Zq5:JM Tryz.prog 141=some [.int .u8 0,.int .u8 0,.int .u8 0,.int .u8 0,.int .u8 0,.int .u8 0,.int .u8 0,.int .u8 0,.int .u8 0,.int .u8 0,.int .u8 0,.int .u8 0,.int .u8 0,.int .u8 0,.int .u8 0,.int .u8 0,.int .u8 0,.int .u8 0,.int .u8 0,.int .u8 0,.int .u8 0,.int .u8 0,.int .u8 0,.int .u8 0,.int .u8 0,.int .u8 0,.int .u8 0,.int .u8 0,.int .u8 0,.int .u8 0,.int .u8 0,.int .u8 0,.int .u8 0,.int .u8 0,.int .u8 0,.int .u8 0,.int .u8 0,.int .u8 0,.int .u8 0,.int .u8 0,.int .u8 0,.int .u8 0,.int .u8 0,.int .u8 0,.int .u8 0,.int .u8 0,.int .u8 0,.int .u8 0,.int .u8 0,.int .u8 0,.int .u8 0,.int .u8 0,.int .u8 0,.int .u8 0,.int .u8 0,.int .u8 0,.int .u8 0,.int .u8 0,.int .u8 0,.int .u8 0,.int .u8 0,.int .u8 0,.int .u8 0,.int .u8 0,.int .u8 0,.int .u8 0,.int .u8 0,.int .u8 0,.int .u8 0,.int .u8 0,.int .u8 0,.int .u8 0,.int .u8 0,.int .u8 0,.int .u8 0,.int .u8 0,.int .u8 0,.int .u8 0,.int .u8 0,.int .u8 0,.int .u8 0,.int .u8 0,.int .u8 0,.int .u8 0,.int .u8 0,.int .u8 0,.int .u8 0,.int .u8 0,.int .u8 0,.int .u8 0,.int .u8 0,.int .u8 0,.int .u8 0,.int .u8 0,.int .u8 0,.int .u8 0]:=by kernel_rfl
theorem tZ_141:Tryz.prog.cellsOf 141=96:=by kernel_rfl
instance:SzD Tryz.prog 141 96:=⟨tZ_141⟩
theorem ZfJ:tArr Tryz.prog 141 96 5 1=true:=by kernel_rfl
theorem ZpU:tFld Tryz.prog 80 4 5=true:=by kernel_rfl
theorem Zp1:tFld Tryz.prog 80 5 6=true:=by kernel_rfl
theorem Zrk:tAgg Tryz.prog 141 96=true:=by kernel_rfl
theorem ZrW:Zco Tryz.prog 123=some [(0,1),(1,1),(2,1),(3,1),(4,64)]:=by kernel_rfl
theorem Zrr:Zf3 Tryz.prog 123=true:=by kernel_rfl
theorem Zqf:JM Tryz.prog 123=some ([.int .i64 0,.int .i64 0,.int .i64 0,.int .i64 0]++(List.flatten (List.replicate 64 [.int .u16 0]))):=by kernel_rfl
theorem Zn3:tSl Tryz.prog 118 123 68 160=true:=by kernel_rfl
theorem tZ_123:Tryz.prog.cellsOf 123=68:=by kernel_rfl
instance:SzD Tryz.prog 123 68:=⟨tZ_123⟩
theorem ZlR:tMap Tryz.prog 121 3 123=true:=by kernel_rfl
theorem Zo7:ZnK Tryz.prog 123=some (.agg (([.int .i64 0,.int .i64 0,.int .i64 0,.int .i64 0]++(List.flatten (List.replicate 64 [.int .u16 0]))):List Value).toArray):=by kernel_rfl
theorem Zn0:tAgg Tryz.prog 123 68=true:=by kernel_rfl
theorem Zoh:tFld Tryz.prog 123 4 4=true:=by kernel_rfl
theorem ZnZ:tFld Tryz.prog 123 2 2=true:=by kernel_rfl
theorem tZ_121:Tryz.prog.cellsOf 121=1:=by kernel_rfl
instance:SzD Tryz.prog 121 1:=⟨tZ_121⟩
theorem ZpM:Zo6 Tryz.prog 123 4 4 46 64=true:=by kernel_rfl
theorem ZqY:tSl Tryz.prog 72 46 64 128=true:=by kernel_rfl
theorem ZsV:tSl Tryz.prog 37 48 66 144=true:=by kernel_rfl
theorem ZsZ:tAgg Tryz.prog 48 66=true:=by kernel_rfl
theorem ZtF:JM Tryz.prog 48=some ([.bool false]++(List.flatten (List.replicate 64 [.int .u16 0]))++ [.int .i64 0]):=by kernel_rfl
theorem Zr2:tFld Tryz.prog 48 0 0=true:=by kernel_rfl
theorem Zl0:tFld Tryz.prog 48 2 65=true:=by kernel_rfl
theorem ZkE:tFld Tryz.prog 89 4 4=true:=by kernel_rfl
theorem Zfn:tFld Tryz.prog 89 7 7=true:=by kernel_rfl
theorem ZpZ:tFld Tryz.prog 48 1 1=true:=by kernel_rfl
theorem ZrP:tFld Tryz.prog 89 1 1=true:=by kernel_rfl
theorem Zpg:tFld Tryz.prog 89 5 5=true:=by kernel_rfl
theorem ZpQ:tFld Tryz.prog 89 6 6=true:=by kernel_rfl
def gl0:Gl:=⟨1,[(0,(gv_frame_syncs.toList.map fun z=>Value.int .u16 z).toArray)]⟩
def R5(x:Int):List AV:= [.int .u8 x]
def R22(x:List Int):List AV:= [.sl 5 (List.map R5 x)]
def R3(x:Int):List AV:= [.int .i64 x]
def R4(x:Bool):List AV:= [.bool x]
def R59(x:api_Memory):List AV:= [.int .i64 x.Slots,.int .i64 x.Limit,.sl 22 (List.map R22 x.Sectors),.sl 3 (List.map R3 x.Wear),.sl 4 (List.map R4 x.Bad)]
def C44(x:Int):AV:= .int .u16 x
def R48(x:law3_Deed):List AV:=(.bool x.Freeze)::((List.map C44 x.Frame.toList)++((.int .i64 x.Power):: []))
theorem D5(x:Int):(R5 x).length=Tryz.prog.cellsOf 5∧(R5 x).all datB=true:=⟨tZ_5.symm,rfl⟩
instance:RowD Tryz.prog 5 R5:=⟨D5⟩
theorem D22(x:List Int):(R22 x).length=Tryz.prog.cellsOf 22∧(R22 x).all datB=true:=⟨tZ_22.symm,rfl⟩
instance:RowD Tryz.prog 22 R22:=⟨D22⟩
theorem DR5(x:Int):(R5 x).length=Tryz.prog.cellsOf 5∧Zei Tryz.prog (R5 x):=⟨(D5 x).1,dlF rfl⟩
def O22(x:List Int):List AV:= [.osub 5 (List.map R5 x)]
theorem Zat(x:List Int):(O22 x).length=Tryz.prog.cellsOf 22∧Zei Tryz.prog (O22 x):=⟨tZ_22.symm,dlC (dcS DR5)<|dlN⟩
theorem ZqB(x:List Int):Pw (MeltC Tryz.prog) (O22 x) (R22 x):= .cons (mcS DR5 (fun x=>(D5 x).1) (fun _=>mcF rfl))<| .nil
theorem D3(x:Int):(R3 x).length=Tryz.prog.cellsOf 3∧(R3 x).all datB=true:=⟨tZ_3.symm,rfl⟩
instance:RowD Tryz.prog 3 R3:=⟨D3⟩
theorem D4(x:Bool):(R4 x).length=Tryz.prog.cellsOf 4∧(R4 x).all datB=true:=⟨tZ_4.symm,rfl⟩
instance:RowD Tryz.prog 4 R4:=⟨D4⟩
theorem D59(x:api_Memory):(R59 x).length=Tryz.prog.cellsOf 59∧(R59 x).all datB=true:=⟨tZ_59.symm,rfl⟩
instance:RowD Tryz.prog 59 R59:=⟨D59⟩
theorem DR3(x:Int):(R3 x).length=Tryz.prog.cellsOf 3∧Zei Tryz.prog (R3 x):=⟨(D3 x).1,dlF rfl⟩
theorem DR4(x:Bool):(R4 x).length=Tryz.prog.cellsOf 4∧Zei Tryz.prog (R4 x):=⟨(D4 x).1,dlF rfl⟩
def O59(x:api_Memory):List AV:= [.int .i64 x.Slots,.int .i64 x.Limit,.osub 22 (List.map O22 x.Sectors),.osub 3 (List.map R3 x.Wear),.osub 4 (List.map R4 x.Bad)]
theorem Zw(x:api_Memory):(O59 x).length=Tryz.prog.cellsOf 59∧Zei Tryz.prog (O59 x):=⟨tZ_59.symm,dlC (.flat rfl)<|dlC (.flat rfl)<|dlC (dcS Zat)<|dlC (dcS DR3)<|dlC (dcS DR4)<|dlN⟩
theorem ZeK(x:api_Memory):Pw (MeltC Tryz.prog) (O59 x) (R59 x):= .cons (.dat rfl)<| .cons (.dat rfl)<| .cons (mcS Zat (fun x=>(D22 x).1) ZqB)<| .cons (mcS DR3 (fun x=>(D3 x).1) (fun _=>mcF rfl))<| .cons (mcS DR4 (fun x=>(D4 x).1) (fun _=>mcF rfl))<| .nil
def C5(x:Int):AV:= .int .u8 x
def R83(x:ring_spot):List AV:= [.int .i64 x.sector,.int .i64 x.slot]
theorem D83(x:ring_spot):(R83 x).length=Tryz.prog.cellsOf 83∧(R83 x).all datB=true:=⟨tZ_83.symm,rfl⟩
instance:RowD Tryz.prog 83 R83:=⟨D83⟩
def ZqR(x:Int):List AV:= [.int .u32 x]
def C3(x:Int):AV:= .int .i64 x
def R92(x:ref3_stand):List AV:= [.int .i64 x.sector,.int .i64 x.slot]
theorem D92(x:ref3_stand):(R92 x).length=Tryz.prog.cellsOf 92∧(R92 x).all datB=true:=⟨tZ_92.symm,rfl⟩
instance:RowD Tryz.prog 92 R92:=⟨D92⟩
def R133(x:api_Flaw):List AV:= [.int .i64 x.Word,.int .i64 x.Kind]
theorem D133(x:api_Flaw):(R133 x).length=Tryz.prog.cellsOf 133∧(R133 x).all datB=true:=⟨tZ_133.symm,rfl⟩
instance:RowD Tryz.prog 133 R133:=⟨D133⟩
theorem at1{a0:AV}{a1:AV}{a2:AV}{a3:AV}{v4:Vector Int 64}:At ((a0)::(a1)::(a2)::(a3)::((List.map C44 v4.toList)++([]))) 0 1 ([a0]):=at0 (hdc (n:=0) hd0)
theorem pt2{a0:AV}{a1:AV}{a2:AV}{a3:AV}{v4:Vector Int 64}{b0:AV}:Put ((a0)::(a1)::(a2)::(a3)::((List.map C44 v4.toList)++([]))) 0 ([b0]) ((b0)::(a1)::(a2)::(a3)::((List.map C44 v4.toList)++([]))):=Zqu
theorem at3{a0:AV}{a1:AV}{a2:AV}{a3:AV}{v4:Vector Int 64}:At ((a0)::(a1)::(a2)::(a3)::((List.map C44 v4.toList)++([]))) 1 1 ([a1]):=atc (o:=0) (at0 (hdc (n:=0) hd0))
theorem pt4{a0:AV}{a1:AV}{a2:AV}{a3:AV}{v4:Vector Int 64}{b1:AV}:Put ((a0)::(a1)::(a2)::(a3)::((List.map C44 v4.toList)++([]))) 1 ([b1]) ((a0)::(b1)::(a2)::(a3)::((List.map C44 v4.toList)++([]))):=Zln (o:=0) (Zqu)
theorem at5{a0:AV}{a1:AV}{a2:AV}{a3:AV}{v4:Vector Int 64}:At ((a0)::(a1)::(a2)::(a3)::((List.map C44 v4.toList)++([]))) 2 1 ([a2]):=atc (o:=1) (atc (o:=0) (at0 (hdc (n:=0) hd0)))
theorem pt6{a0:AV}{a1:AV}{a2:AV}{a3:AV}{v4:Vector Int 64}{b2:AV}:Put ((a0)::(a1)::(a2)::(a3)::((List.map C44 v4.toList)++([]))) 2 ([b2]) ((a0)::(a1)::(b2)::(a3)::((List.map C44 v4.toList)++([]))):=Zln (o:=1) (Zln (o:=0) (Zqu))
theorem at7{a0:AV}{a1:AV}{a2:AV}{a3:AV}{v4:Vector Int 64}:At ((a0)::(a1)::(a2)::(a3)::((List.map C44 v4.toList)++([]))) 3 1 ([a3]):=atc (o:=2) (atc (o:=1) (atc (o:=0) (at0 (hdc (n:=0) hd0))))
theorem pt8{a0:AV}{a1:AV}{a2:AV}{a3:AV}{v4:Vector Int 64}{b3:AV}:Put ((a0)::(a1)::(a2)::(a3)::((List.map C44 v4.toList)++([]))) 3 ([b3]) ((a0)::(a1)::(a2)::(b3)::((List.map C44 v4.toList)++([]))):=Zln (o:=2) (Zln (o:=1) (Zln (o:=0) (Zqu)))
theorem at9{a0:AV}{a1:AV}{a2:AV}{a3:AV}{v4:Vector Int 64}:At ((a0)::(a1)::(a2)::(a3)::((List.map C44 v4.toList)++([]))) 4 64 ((List.map C44 v4.toList)):=atc (o:=3) (atc (o:=2) (atc (o:=1) (atc (o:=0) (at0 (hdw arL)))))
theorem Ztz{a0:AV}{a1:AV}{a2:AV}{a3:AV}{v4:Vector Int 64}{w4:Vector Int 64}:Put ((a0)::(a1)::(a2)::(a3)::((List.map C44 v4.toList)++([]))) 4 ((List.map C44 w4.toList)) ((a0)::(a1)::(a2)::(a3)::((List.map C44 w4.toList)++([]))):=Zln (o:=3) (Zln (o:=2) (Zln (o:=1) (Zln (o:=0) (Ztj (Eq.trans arL (Eq.symm arL))))))
theorem Zfs{a0:AV}{a1:AV}{a2:AV}{a3:AV}{v4:Vector Int 64}:((a0)::(a1)::(a2)::(a3)::((List.map C44 v4.toList)++([]))).length=68:=lnC (n:=67) (lnC (n:=66) (lnC (n:=65) (lnC (n:=64) (lnA (m:=64) (n:=0) arL (lnN)))))
theorem Zid{x0:Int}{x1:Int}{x2:Int}{x3:Int}{v4:Vector Int 64}:((.int .i64 x0)::(.int .i64 x1)::(.int .i64 x2)::(.int .i64 x3)::((List.map C44 v4.toList)++([]))).all datB=true:=alC rfl (alC rfl (alC rfl (alC rfl (alA (arD fun _=>rfl) (alN)))))
def R123(x:api_Kept):List AV:=(.int .i64 x.Memory)::(.int .i64 x.Sector)::(.int .i64 x.Sequence)::(.int .i64 x.Slot)::((List.map C44 x.Frame.toList)++([]))
theorem ZrR{x0:Int}{x1:Int}{x2:Int}{x3:Int}{v4:Vector Int 64}:((.int .i64 x0)::(.int .i64 x1)::(.int .i64 x2)::(.int .i64 x3)::((List.map C44 v4.toList)++([]))).all c1B=true:=alC rfl (alC rfl (alC rfl (alC rfl (alA (arC fun _=>rfl) (alN)))))
theorem ZtD(x:api_Kept):(R123 x).all c1B=true:=ZrR
theorem D123(x:api_Kept):(R123 x).length=Tryz.prog.cellsOf 123∧(R123 x).all datB=true:=⟨Eq.trans (b:=68) Zfs tZ_123.symm,Zid⟩
instance:RowD Tryz.prog 123 R123:=⟨D123⟩
def FK3(x:Int):AV:= .int .i64 x
theorem Zsi:KeyOK Tryz.prog 3 FK3 kqI:=ZqC (fun _=>rfl) tI3
def ZeI(x:api_Kept):AV:= .agg ((.int .i64 x.Memory)::(.int .i64 x.Sector)::(.int .i64 x.Sequence)::(.int .i64 x.Slot)::((List.map C44 x.Frame.toList)++([])))
theorem Zts{x0:Int}{x1:Int}{x2:Int}{x3:Int}{v4:Vector Int 64}:NS ((.int .i64 x0)::(.int .i64 x1)::(.int .i64 x2)::(.int .i64 x3)::((List.map C44 v4.toList)++([]))):=nsC rfl (nsC rfl (nsC rfl (nsC rfl (nsA (nsM fun _=>rfl) (nsR rfl)))))
def R46(x:Vector Int 64):List AV:=(List.map C44 x.toList)
theorem E46(x:Vector Int 64):(R46 x).all c1B=true:=(arC fun _=>rfl)
theorem D46(x:Vector Int 64):(R46 x).length=Tryz.prog.cellsOf 46∧(R46 x).all datB=true:=⟨Eq.trans (b:=64) arL tZ_46.symm,(arD fun _=>rfl)⟩
instance:RowD Tryz.prog 46 R46:=⟨D46⟩
theorem ZsW:Zr5 Tryz.prog 46 ((List.replicate 64 ([.i .u16])).flatten):=⟨by kernel_rfl,by kernel_rfl,by kernel_rfl⟩
theorem Znf{a0:AV}{v1:Vector Int 64}{a2:AV}:((a0)::((List.map C44 v1.toList)++((a2):: []))).length=66:=lnC (n:=65) (lnA (m:=64) (n:=1) arL (lnC (n:=0) (lnN)))
theorem ZtG{x0:Bool}{v1:Vector Int 64}{x2:Int}:((.bool x0)::((List.map C44 v1.toList)++((.int .i64 x2):: []))).all c1B=true:=alC rfl (alA (arC fun _=>rfl) (alC rfl (alN)))
theorem Ztk{a0:AV}{v1:Vector Int 64}{a2:AV}:At ((a0)::((List.map C44 v1.toList)++((a2):: []))) 0 1 ([a0]):=at0 (hdc (n:=0) hd0)
theorem ZqW{a0:AV}{v1:Vector Int 64}{a2:AV}:At ((a0)::((List.map C44 v1.toList)++((a2):: []))) 65 1 ([a2]):=atc (o:=64) (ata (m:=64) (o:=0) arL (at0 (hdc (n:=0) hd0)))
theorem Zst{a0:AV}{v1:Vector Int 64}{a2:AV}:At ((a0)::((List.map C44 v1.toList)++((a2):: []))) 1 64 ((List.map C44 v1.toList)):=atc (o:=0) (at0 (hdw arL))
theorem Xf{n:Int}{low:Int}{high:Int}{r:Bool}(h:QE n low high=some r):
 CSpec Tryz.prog gl0 25 [.int .i64 n,.int .i64 low,.int .i64 high] (.bool r):=by
 unfold QE at h
 replace h:=Qb h
 refine So Tryz.func25 Y fun w0 A=>Tr<|Rz Y<|Tr<|Rm Y<|Rm Y<|R2 ZiV Y<|Rm Y<|Rq Y (.guarded ((decide (low≤n))==true) Y Y Y Y fun h=>Zc<|ov Y)<|Rq Y (.guarded ((decide (low≤n))==true) Y Y Y Y fun h=>Zc<|ov Y)<|Rq Y (.guarded ((decide (low≤n))==true) Y Y Y Y fun h=>ZiK (ow Y h)<|ow Y h)<|Rq Y (J6 (ov Y) fun hp=>ow Y<|gT hp)<|Rz Y<|?_
 obtain rfl:=rt h
 exact Zk (ZK Y (.one<|rb Y))
theorem Q2{slots:Int}{r:Int}(h:XB slots=some r):
 CSpec Tryz.prog gl0 64 [.int .i64 slots] (.int .i64 r):=by
 unfold XB at h
 replace h:=Qb h
 refine So Tryz.func64 Y fun w0 A=>Tr<|Rz Y<|Tr<|Rm Y<|R2 ZeC Y<|R2 ZI Y<|Rz Y<|?_
 obtain rfl:=rt h
 exact Zk (ZK Y (.one<|rb Y))
theorem ZhN{m:api_Memory}{r:Int}(h:Xl m=some r):
 CSpec Tryz.prog gl0 67 [.agg [.int .i64 m.Slots,.int .i64 m.Limit,.sl 22 (List.map R22 m.Sectors),.sl 3 (List.map R3 m.Wear),.sl 4 (List.map R4 m.Bad)]] (.int .i64 r):=by
 unfold Xl at h
 replace h:=Qb h
 refine So Tryz.func67 Y fun w0 A=>Tr<|Rq Y (JL (cva<|ov Y) Y tZ_59 Y)<|Rz Y<|K1 1 Y<|Tr<|Rq Y (Zv (ov Y) Z9)<|Rq Y (Zd (ov Y) Q7 Y)<|Rl tZ_22 Q3 Y<|Rz Y<|Zh<|Zf<|K2 1 3 Y<|Tr<|Rq Y (Zv (ov Y) Zfb)<|Rq Y (Zd (ov Y) tS3 Y)<|bE h fun y h_y h=>Rq Y (Zq (Xf h_y)<|.cons (ov Y) (.b Y)<|.cons (ov Y) (.b Y)<|.cons (ov Y) (.b Y) .nil)<|R1 XM Y<|Rm Y<|Rq Y (.guarded ((!y)==false) Y Y Y Y fun h=>Zv (ov Y) Zhg)<|Rq Y (.guarded ((!y)==false) Y Y Y Y fun h=>Zd (ow Y h) tS3 Y)<|bE h fun y2 h_y2 h=>Rq Y (.guarded ((!y)==false) Y Y Y Y fun h=>Zq (Xf<|gdT h_y2 h)<|.cons (ow Y h) (.b Y)<|.cons (ov Y) (.b Y)<|.cons (ov Y) (.b Y) .nil)<|Rq Y (.guarded ((!y)==false) Y Y Y Y fun h=>XM<|ow Y h)<|Rq Y (ZaO (ov Y) fun hp=>ow Y<|gF hp)<|Rm Y<|Rq Y (.guarded (((!y) || (!y2))==false) Y Y Y Y fun h=>Zc<|ov Y)<|bE h fun y3 h_y3 h=>Rq Y (.guarded (((!y) || (!y2))==false) Y Y Y Y fun h=>Zq (Xf<|gdT h_y3 h)<|.cons (ow Y h) (.b Y)<|.cons (ov Y) (.b Y)<|.cons (ov Y) (.b Y) .nil)<|Rq Y (.guarded (((!y) || (!y2))==false) Y Y Y Y fun h=>XM<|ow Y h)<|Rq Y (ZaO (ov Y) fun hp=>ow Y<|gF hp)<|Rz Y<|K3 1 3 9 Y<|If h Y (fun h=>?_) fun h=>?_
 ·
  refine K0<|Tr<|Rz Y<|?_
  obtain rfl:=rt h
  exact Zk (ZK Y (.one<|rb Y))
 ·
  refine K2 1 3 Y<|Tr<|Rq Y (Zv (ov Y) Zcz)<|Rq Y (Zd (ov Y) Zib Y)<|Rl tZ_3 QA Y<|Rm Y<|R2 Qy Y<|Rm Y<|Rq Y (.guarded ((!decide ((m.Wear.length:Int)=(m.Sectors.length:Int)))==false) Y Y Y Y fun h=>Zv (ov Y) ZdK)<|Rq Y (.guarded ((!decide ((m.Wear.length:Int)=(m.Sectors.length:Int)))==false) Y Y Y Y fun h=>Zd (ow Y h) ZiA Y)<|Rq Y (.guarded ((!decide ((m.Wear.length:Int)=(m.Sectors.length:Int)))==false) Y Y Y Y fun h=>Zk2 (Qr (ow Y h) tZ_4) Zgl<|Zgw _ _)<|Rq Y (.guarded ((!decide ((m.Wear.length:Int)=(m.Sectors.length:Int)))==false) Y Y Y Y fun h=>Zc<|ov Y)<|Rq Y (.guarded ((!decide ((m.Wear.length:Int)=(m.Sectors.length:Int)))==false) Y Y Y Y fun h=>Qy (ow Y h)<|ow Y h)<|Rq Y (ZaO (ov Y) fun hp=>ow Y<|gF hp)<|Rz Y<|K2 1 25 Y<|If h Y (fun h=>?_) fun h=>?_
  ·
   refine K0<|Tr<|Rz Y<|?_
   obtain rfl:=rt h
   exact Zk (ZK Y (.one<|rb Y))
  ·
   refine Zg<|J0 (fun j=>(.inr j)) ⟨[],[]⟩ h (fun h=>?_) fun h=>?_
   ·
    refine K1 1 Y<|Tr<|Rq Y (Zv (ov Y) Z9)<|Rq Y (Zd (ov Y) Q7 Y)<|Rl tZ_22 Q3 Y<|Rm Y<|Zb<|Zf<|?_
    obtain⟨r1,hl1,ho1⟩:=QC h
    refine L1 (fun i=>⟨[(1,.rp [.int .i64 m.Slots,.int .i64 m.Limit,.sl 22 (List.map R22 m.Sectors),.sl 3 (List.map R3 m.Wear),.sl 4 (List.map R4 m.Bad)] 0),(39,.sl 22 (List.map R22 m.Sectors)),(40,.int .i64 (m.Sectors.length:Int)),(41,.int .i64 i)],[]⟩) hl1 (ES []) fun n1 i h=>?_
    unfold QF at h
    refine Tr<|R2 ZL Y<|Zb<|Zh<|If h Y (fun h=>?_) fun h=>?_
    ·
     refine Zg<|Zh<|Zf<|K4 1 39 40 41 Y<|Tr<|Rm Y<|bE h fun x h_x h=>Rq Y (ZP (ov Y) (ov Y) Q3 h_x)<|Rq Y (Zd (ov Y) Zek Y)<|Ra Y<|Rz Y<|Zh<|K6 1 4 5 39 40 41 Y<|Tr<|Rm Y<|Rl tZ_5 Qi Y<|Rq Y (Zv (ov Y) Zfb)<|Rq Y (Zd (ov Y) tS3 Y)<|bE h fun y4 h_y4 h=>Rq Y (Zq (Q2 h_y4)<|.cons (ov Y) (.b Y) .nil)<|R2 Qy Y<|Zb<|K6 1 4 39 40 41 51 Y<|If h Y (fun h=>?_) fun h=>?_
     ·
      refine K0<|Tr<|Rz Y<|?_
      replace h:=lx h▸ho1
      obtain rfl:=rt h
      exact Zk (ZK Y (.one<|rb Y))
     ·
      refine Zg<|Zh<|K5 1 4 39 40 41 Y<|Z5 (cw:=md0) (by kernel_rfl)<|Dq 0 Y (Zv (ov Y) Zcz)<|Dq 1 Y (Zd (ov Y) Zib Y)<|D1 2 Zc Y<|bE h fun x2 h_x2 h=>Dq 3 Y (ZP (ov Y) (ov Y) QA h_x2)<|Dq 4 Y (Zd (ov Y) tS3 Y)<|Dq 5 Y (Zv (ov Y) Zhg)<|Dq 6 Y (Zd (ov Y) tS3 Y)<|bE h fun y5 h_y5 h=>Dq 7 Y (Zq (Xf h_y5)<|.cons (ov Y) (.b Y)<|.cons (ov Y) (.b Y)<|.cons (ov Y) (.b Y) .nil)<|D1 8 XM Y<|Dd<|K5 1 39 40 41 60 Y<|If h Y (fun h=>?_) fun h=>?_
      ·
       refine K0<|Tr<|Rz Y<|?_
       replace h:=lx h▸ho1
       obtain rfl:=rt h
       exact Zk (ZK Y (.one<|rb Y))
      ·
       exact Zg<|K4 1 39 40 41 Y<|Zo<|R2 ZI Y<|Rm Y<|Zb<|⟨_,h,ES []⟩
    ·
     refine ZA<|?_
     replace h:=lx h▸ho1
     exact⟨(),h,ES []⟩
   ·
    replace h:=elr h
    replace h:=t0i h
    refine Tr<|Rz Y<|?_
    obtain rfl:=rt h
    exact Zk (ZK Y (.one<|rb Y))
theorem Zf6{l:List api_Memory}{r:Int}(h:JO l=some r):
 CSpec Tryz.prog gl0 34 [.sl 59 (List.map R59 l)] (.int .i64 r):=by
 unfold JO at h
 replace h:=Qb h
 refine So Tryz.func34 Y fun w0 A=>Tr<|Rz Y<|Zh<|K1 0 Y<|Tr<|Rm Y<|Rl tZ_59 XC Y<|bE h fun y h_y h=>Rq Y (Zq (Xf h_y)<|.cons (ov Y) (.b Y)<|.cons (ov Y) (.b Y)<|.cons (ov Y) (.b Y) .nil)<|R1 XM Y<|Zb<|K2 0 9 Y<|If h Y (fun h=>?_) fun h=>?_
 ·
  refine K0<|Tr<|Rz Y<|?_
  obtain rfl:=rt h
  exact Zk (ZK Y (.one<|rb Y))
 ·
  refine Zg<|J0 (fun j=>(.inr j)) ⟨[],[]⟩ h (fun h=>?_) fun h=>?_
  ·
   refine K1 0 Y<|Tr<|Rm Y<|Rl tZ_59 XC Y<|Rm Y<|Zb<|Zf<|?_
   obtain⟨r1,hl1,ho1⟩:=QC h
   refine L1 (fun i=>⟨[(10,.sl 59 (List.map R59 l)),(11,.int .i64 (l.length:Int)),(12,.int .i64 i)],[]⟩) hl1 (ES []) fun n1 i h=>?_
   unfold ring_checkAll_L1 at h
   refine Tr<|R2 ZL Y<|Zb<|Zh<|If h Y (fun h=>?_) fun h=>?_
   ·
    refine Zg<|Zh<|Zf<|K3 10 11 12 Y<|Tr<|bE h fun x h_x h=>Rq Y (ZP (ov Y) (ov Y) XC h_x)<|Rq Y (Z3 (ov Y) XL Y Y)<|Rx Y (Qd (row:= [_,_,_,_,_]) 0 Y Zde Y tZ_59)<|Rx Y (Zm (ov Y) (ov Y) (ZB XL Y) Y Y Y (nL Y) (Za Y) Y)<|Zb<|K4 4 10 11 12 Y<|Tr<|Rq Y (Qt (ov Y) Y Y Y XL Y Y)<|bE h fun y2 h_y2 h=>Rq Y (Zq (ZhN h_y2)<|.cons (ov Y) (.aggB Y) .nil)<|Rz Y<|K4 5 10 11 12 Y<|Tr<|Rm Y<|R2 Qy Y<|Zb<|K5 5 10 11 12 19 Y<|If h Y (fun h=>?_) fun h=>?_
    ·
     refine K1 5 Y<|Tr<|Rm Y<|Rz Y<|?_
     replace h:=lx h▸ho1
     obtain rfl:=rt h
     exact Zk (ZK Y (.one<|rb Y))
    ·
     exact Zg<|K3 10 11 12 Y<|Zo<|R2 ZI Y<|Rm Y<|Zb<|⟨_,h,ES []⟩
   ·
    refine ZA<|?_
    replace h:=lx h▸ho1
    exact⟨(),h,ES []⟩
  ·
   replace h:=elr h
   replace h:=t0i h
   refine Tr<|Rz Y<|?_
   obtain rfl:=rt h
   exact Zk (ZK Y (.one<|rb Y))
theorem ZmG{xs r:List Int}(h:ZfU 1 xs=some r):
 GSpec Tryz.prog gl0 100 [.sl 5 (List.map R5 xs)] [] (.own 0 r.length) [some ⟨5,List.map R5 r⟩]:=by
 have h2:apz 1 [] xs=some r:=h
 refine Ql (by kernel_rfl) Tryz.func100 Y Y<|?_
 intro w0 A W φ0
 refine Tr<|Rz Y<|Zh<|Zh<|Zo<|Rm Y<|Zmh (ov Y) Zsh Y fun b hb=>?_
 refine Zb<|Zl6 Y (fun hb2=>?_) fun hb2=>?_
 ·
  obtain rfl:xs= []:=by simpa using hb hb2
  obtain rfl:r= []:=by simpa [app,apz] using h2.symm
  exact Tr<|Rz Y<|Zk<|Xu [none] Y (.cons (.tmp Y) .nil) (.row 5 .nil) Y Y<|.row Y
 ·
  exact Zg<|Tr<|Rx Y (Zfr (r:=0) (xs:= []) (f:=R5) Y Qi .nil Y Y Y)<|Rm Y<|Rx Y (Zaj (ov Y) (Qr (ov Y) tZ_5) Qi Y Y (fun _=>Za Y) Y h2)<|Rz Y<|Zk<|Xu [some 0] Y (.cons (.tmp Y) .nil) (.cons Y (roM D5) .nil) Y Y<|.own _ Y
theorem ZjN{xs r:List Int}(h:ZfU 8 xs=some r):
 GSpec Tryz.prog gl0 101 [.sl 3 (List.map R3 xs)] [] (.own 0 r.length) [some ⟨3,List.map R3 r⟩]:=by
 have h2:apz 8 [] xs=some r:=h
 refine Ql (by kernel_rfl) Tryz.func101 Y Y<|?_
 intro w0 A W φ0
 refine Tr<|Rz Y<|Zh<|Zh<|Zo<|Rm Y<|Zmh (ov Y) Zr6 Y fun b hb=>?_
 refine Zb<|Zl6 Y (fun hb2=>?_) fun hb2=>?_
 ·
  obtain rfl:xs= []:=by simpa using hb hb2
  obtain rfl:r= []:=by simpa [app,apz] using h2.symm
  exact Tr<|Rz Y<|Zk<|Xu [none] Y (.cons (.tmp Y) .nil) (.row 3 .nil) Y Y<|.row Y
 ·
  exact Zg<|Tr<|Rx Y (Zfr (r:=0) (xs:= []) (f:=R3) Y QA .nil Y Y Y)<|Rm Y<|Rx Y (Zaj (ov Y) (Qr (ov Y) tZ_3) QA Y Y (fun _=>Za Y) Y h2)<|Rz Y<|Zk<|Xu [some 0] Y (.cons (.tmp Y) .nil) (.cons Y (roM D3) .nil) Y Y<|.own _ Y
theorem ZjE{xs r:List Bool}(h:ZfU 1 xs=some r):
 GSpec Tryz.prog gl0 102 [.sl 4 (List.map R4 xs)] [] (.own 0 r.length) [some ⟨4,List.map R4 r⟩]:=by
 have h2:apz 1 [] xs=some r:=h
 refine Ql (by kernel_rfl) Tryz.func102 Y Y<|?_
 intro w0 A W φ0
 refine Tr<|Rz Y<|Zh<|Zh<|Zo<|Rm Y<|Zmh (ov Y) ZrI Y fun b hb=>?_
 refine Zb<|Zl6 Y (fun hb2=>?_) fun hb2=>?_
 ·
  obtain rfl:xs= []:=by simpa using hb hb2
  obtain rfl:r= []:=by simpa [app,apz] using h2.symm
  exact Tr<|Rz Y<|Zk<|Xu [none] Y (.cons (.tmp Y) .nil) (.row 4 .nil) Y Y<|.row Y
 ·
  exact Zg<|Tr<|Rx Y (Zfr (r:=0) (xs:= []) (f:=R4) Y Zgl .nil Y Y Y)<|Rm Y<|Rx Y (Zaj (ov Y) (Qr (ov Y) tZ_4) Zgl Y Y (fun _=>Za Y) Y h2)<|Rz Y<|Zk<|Xu [some 0] Y (.cons (.tmp Y) .nil) (.cons Y (roM D4) .nil) Y Y<|.own _ Y
theorem Zeo{m:api_Memory}{r:api_Memory}(h:JF m=some r):
 GSpec Tryz.prog gl0 68 [.agg [.int .i64 m.Slots,.int .i64 m.Limit,.sl 22 (List.map R22 m.Sectors),.sl 3 (List.map R3 m.Wear),.sl 4 (List.map R4 m.Bad)]] [] (.agg [.int .i64 r.Slots,.int .i64 r.Limit,.own 0 r.Sectors.length,.own 1 r.Wear.length,.own 2 r.Bad.length]) [some ⟨22,List.map O22 r.Sectors⟩,some ⟨3,List.map R3 r.Wear⟩,some ⟨4,List.map R4 r.Bad⟩]:=by
 unfold JF at h
 replace h:=Qb h
 refine Ql (by kernel_rfl) Tryz.func68 Y Y<|?_
 intro w0 A W φ0
 refine Tr<|Rx Y (ZmW 0 Y (ov Y) XL Y)<|Rx Y (Qd (row:= [_,_,_,_,_]) 1 Y Zde Y tZ_59)<|Zb<|K2 1 2 Y<|Tr<|Rz Y<|I1 (fun sectors=>⟨[(1,.ptr 0 1 0 0),(2,.ptr 1 1 0 0),(3,.own 2 sectors.length)],[some ⟨59,[[.int .i64 m.Slots,.int .i64 m.Limit,.sl 22 (List.map R22 m.Sectors),.sl 3 (List.map R3 m.Wear),.sl 4 (List.map R4 m.Bad)]]⟩,some ⟨59,[[.int .i64 0,.int .i64 0,.nils,.nils,.nils]]⟩,some ⟨22,List.map O22 sectors⟩]⟩) h (fun h=>?_) fun sectors h=>?_
 ·
  refine Tr<|Rq Y (Ze (ov Y) Y Y Z9)<|Rq Y (Zl (ov Y) Y Y Y Q7 Y)<|Rl tZ_22 Q3 Y<|Rm Y<|Zb<|Zf<|?_
  obtain⟨r1,hl1,ho1⟩:=QC h
  refine L2 (fun sectors2 i=>⟨[(1,.ptr 0 1 0 0),(2,.ptr 1 1 0 0),(3,.own 2 sectors2.length),(7,.sl 22 (List.map R22 m.Sectors)),(8,.int .i64 (m.Sectors.length:Int)),(9,.int .i64 i)],[some ⟨59,[[.int .i64 m.Slots,.int .i64 m.Limit,.sl 22 (List.map R22 m.Sectors),.sl 3 (List.map R3 m.Wear),.sl 4 (List.map R4 m.Bad)]]⟩,some ⟨59,[[.int .i64 0,.int .i64 0,.nils,.nils,.nils]]⟩,some ⟨22,List.map O22 sectors2⟩]⟩) hl1 (ES [some 0,some 1,none]) fun n1 sectors2 i h=>?_
  unfold Xz at h
  refine Tr<|R2 ZL Y<|Zb<|Zh<|If h Y (fun h=>?_) fun h=>?_
  ·
   exact Zg<|Zh<|Zf<|K6 1 2 3 7 8 9 Y<|Tr<|bE h fun x h_x h=>Rq Y (ZP (ov Y) (ov Y) Q3 h_x)<|Rq Y (Zd (ov Y) Zek Y)<|Rz Y<|K7 1 2 3 5 7 8 9 Y<|Zo<|Rm Y<|Rm Y<|bE h fun y h_y h=>Rx Y (Zz [] (ZmG h_y) (.cons (ov Y) (.dat Y) .nil) .nil Y (.keep Y Y<|.keep Y Y<|.keep Y Y<|.lent 0 (Wa Y Y) Y (roM D5) .nil) Y Y<|.own _<|Wa Y Y)<|Rx Y (Xs (r:=4) Y Q3 (.cons (cvs (ov Y)<|Zn Y) Y .nil) Y Y)<|bE h fun l h_l h=>Rx Y (Q8 (f:=O22) (ov Y) (Jv (o:=⟨22,[[.own 3 y.length]]⟩) (ov Y) Y Y tZ_22) Q3 Y Y (Za Y) Y h_l)<|Ra Y<|ZdL [some ⟨59,[[.int .i64 m.Slots,.int .i64 m.Limit,.sl 22 (List.map R22 m.Sectors),.sl 3 (List.map R3 m.Wear),.sl 4 (List.map R4 m.Bad)]]⟩,some ⟨59,[[.int .i64 0,.int .i64 0,.nils,.nils,.nils]]⟩,some ⟨22,List.set (List.map O22 l) sectors2.length [.own 3 y.length]⟩,some ⟨5,List.map R5 y⟩,some ⟨22,[[.own 3 y.length]]⟩] Y<|Qk (Ent.absorbH (r:=2) (j:=0) (q:=3) Y (ZF h_l) Y Y (List.length_map ..) Y)<|Qk (Ent.closeS (r:=2) Y (ZF h_l) Y)<|Zb<|K6 1 2 3 7 8 9 Y<|ZH [some ⟨59,[[.int .i64 m.Slots,.int .i64 m.Limit,.sl 22 (List.map R22 m.Sectors),.sl 3 (List.map R3 m.Wear),.sl 4 (List.map R4 m.Bad)]]⟩,some ⟨59,[[.int .i64 0,.int .i64 0,.nils,.nils,.nils]]⟩,some ⟨22,List.map O22 l⟩,none,some ⟨22,[[.own 3 y.length]]⟩] Y<|Zo<|R2 ZI Y<|Rm Y<|Zb<|⟨_,h,ES [some 0,some 1,some 2] (hhp:= .cons Y (ro1 (by exact tZ_59.symm)<|rld Y)<|.cons Y (ro1 (by exact tZ_59.symm)<|rld Y)<|.cons Y (roO Zat) .nil)⟩
  ·
   refine ZA<|?_
   replace h:=lx h▸ho1
   exact⟨_,h,ES [some 0,some 1,some 2] (hhp:= .cons Y (ro1 (by exact tZ_59.symm)<|rld Y)<|.cons Y (ro1 (by exact tZ_59.symm)<|rld Y)<|.cons Y (roO Zat) .nil)⟩
 ·
  refine Zh<|Z5 (cw:=⟨true,true,[some ⟨59,[[.int .i64 m.Slots,.int .i64 m.Limit,.sl 22 (List.map R22 m.Sectors),.sl 3 (List.map R3 m.Wear),.sl 4 (List.map R4 m.Bad)]]⟩,some ⟨59,[[.int .i64 0,.int .i64 0,.nils,.nils,.nils]]⟩,some ⟨22,List.map O22 sectors⟩],[],[0]⟩) (by kernel_rfl)<|Dq 1 Y (Ze (ov Y) Y Y Zcz)<|Dq 2 Y (Zl (ov Y) Y Y Y Zib Y)<|ZO 0 _ Y (by kernel_rfl) Y Y (fun hp'=>Zc<|ov Y)<|Xq 4 _ Y (by kernel_rfl) Y Y Y (EL.ext<|.wr Y Y Y<|.keep<|.keep .nil) (fun hp' hx=>exW (r:=0) hx Y fun _ ho hn=>Ze (ov Y) ho hn ZdK)<|bE h fun y2 h_y2 h=>ZpI 5 3 Y Y (by kernel_rfl) Y Y Y Y (fun h=>by cases h) (fun _=>by exact EL.ext (.wr rfl rfl rfl<| .keep<| .keep<| .nil)) (Zl (ov Y) Y Y Y ZiA Y) (Zz [] (ZjN h_y2) (.cons (ov Y) (.dat Y) .nil) .nil Y (.keep Y Y<|.keep Y Y<|.keep Y Y<|.lent 0 (Wa Y Y) Y (roM D3) .nil) Y Y<|.own _<|Wa Y Y) ?_ ?_
  ·
   refine Xq 7 _ Y (by kernel_rfl) Y Y Y (EL.ext<|.wr Y Y Y<|.keep<|.keep .nil) (fun hp' hx=>exW (r:=0) hx Y fun _ ho hn=>Ze (ov Y) ho hn Z9)<|Zba 3 _ _ Y (by kernel_rfl) Y Y (fun h=>by cases h) (fun _=>by exact EL.ext (.wr rfl rfl rfl<| .keep<| .keep<| .nil)) (Zz [] (ZjN h_y2) (.cons (ov Y) (.dat Y) .nil) .nil Y (.keep Y Y<|.keep Y Y<|.keep Y Y<|.lent 0 (Wa Y Y) Y (roM D3) .nil) Y Y<|.own _<|Wa Y Y)<|bE h fun y3 h_y3 h=>Zba 6 _ _ Y (by kernel_rfl) Y Y (fun h=>by cases h) (fun _=>by exact EL.ext (.wr rfl rfl rfl<| .keep<| .keep<| .nil)) (Zz [] (ZjE h_y3) (.cons (ov Y) (.dat Y) .nil) .nil Y (.keep Y Y<|.keep Y Y<|.keep Y Y<|.keep Y Y<|.lent 0 (Wa Y Y) Y (roM D4) .nil) Y Y<|.own _<|Wa Y Y)<|Zba 8 _ _ Y (by kernel_rfl) Y Y (fun h=>by cases h) (fun _=>by exact EL.ext (.wr rfl rfl rfl<| .keep<| .keep<| .nil)) (Zm (ov Y) (ov Y) (Zj Q7) Y Y Y (nL Y) (Za Y) Y)<|Dq 9 Y (Ze (ov Y) Y Y Zcz)<|Zba 10 _ _ Y (by kernel_rfl) Y Y (fun h=>by cases h) (fun _=>by exact EL.ext (.wr rfl rfl rfl<| .keep<| .keep<| .nil)) (Zm (ov Y) (ov Y) (Zj Zib) Y Y Y (nL Y) (Za Y) Y)<|Dq 11 Y (Ze (ov Y) Y Y ZdK)<|Zba 12 _ _ Y (by kernel_rfl) Y Y (fun h=>by cases h) (fun _=>by exact EL.ext (.wr rfl rfl rfl<| .keep<| .keep<| .nil)) (Zm (ov Y) (ov Y) (Zj ZiA) Y Y Y (nL Y) (Za Y) Y)<|Dd<|K2 1 2 Y<|ZH [some ⟨59,[[.int .i64 m.Slots,.int .i64 m.Limit,.own 2 sectors.length,.own 3 y2.length,.own 4 y3.length]]⟩,some ⟨59,[[.int .i64 0,.int .i64 0,.nils,.nils,.nils]]⟩,some ⟨22,List.map O22 sectors⟩,some ⟨3,List.map R3 y2⟩,some ⟨4,List.map R4 y3⟩] Y<|Tr<|Rq Y (Qt (ov Y) Y Y Y XL Y Y)<|Rx Y (Zm (ov Y) (ov Y) (ZB XL Y) Y Y Y (nL Y) (Za Y) Y)<|Zb<|?_
   obtain rfl:=rt h
   exact Zk<|Xu [some 2,some 3,some 4] Y (.cons (.agg Y Y Y Y XL Y Y) .nil) (.cons Y (roO Zat)<|.cons Y (roM D3)<|.cons Y (roM D4) .nil) Y Y<|Zb7<|rlD Y<|rlD Y<|rlc (.own _ Y)<|rlc (.own _ Y)<|rlc (.own _ Y) rln
  ·
   refine Dq 5 Y (Zl (ov Y) Y Y Y ZiA Y)<|Xq 7 _ Y (by kernel_rfl) Y Y Y (EL.ext<|.wr Y Y Y<|.keep<|.keep .nil) (fun hp' hx=>exW (r:=0) hx Y fun _ ho hn=>Ze (ov Y) ho hn Z9)<|bE h fun y3 h_y3 h=>Zba 6 _ _ Y (by kernel_rfl) Y Y (fun h=>by cases h) (fun _=>by exact EL.ext (.wr rfl rfl rfl<| .keep<| .keep<| .nil)) (Zz [] (ZjE h_y3) (.cons (ov Y) (.dat Y) .nil) .nil Y (.keep Y Y<|.keep Y Y<|.keep Y Y<|.keep Y Y<|.lent 0 (Wa Y Y) Y (roM D4) .nil) Y Y<|.own _<|Wa Y Y)<|Zba 8 _ _ Y (by kernel_rfl) Y Y (fun h=>by cases h) (fun _=>by exact EL.ext (.wr rfl rfl rfl<| .keep<| .keep<| .nil)) (Zm (ov Y) (ov Y) (Zj Q7) Y Y Y (nL Y) (Za Y) Y)<|Dq 9 Y (Ze (ov Y) Y Y Zcz)<|Zba 10 _ _ Y (by kernel_rfl) Y Y (fun h=>by cases h) (fun _=>by exact EL.ext (.wr rfl rfl rfl<| .keep<| .keep<| .nil)) (Zm (ov Y) (ov Y) (Zj Zib) Y Y Y (nL Y) (Za Y) Y)<|Dq 11 Y (Ze (ov Y) Y Y ZdK)<|Zba 12 _ _ Y (by kernel_rfl) Y Y (fun h=>by cases h) (fun _=>by exact EL.ext (.wr rfl rfl rfl<| .keep<| .keep<| .nil)) (Zm (ov Y) (ov Y) (Zj ZiA) Y Y Y (nL Y) (Za Y) Y)<|Dd<|K2 1 2 Y<|ZH [some ⟨59,[[.int .i64 m.Slots,.int .i64 m.Limit,.own 2 sectors.length,.own 3 y2.length,.own 4 y3.length]]⟩,some ⟨59,[[.int .i64 0,.int .i64 0,.nils,.nils,.nils]]⟩,some ⟨22,List.map O22 sectors⟩,some ⟨3,List.map R3 y2⟩,some ⟨4,List.map R4 y3⟩] Y<|Tr<|Rq Y (Qt (ov Y) Y Y Y XL Y Y)<|Rx Y (Zm (ov Y) (ov Y) (ZB XL Y) Y Y Y (nL Y) (Za Y) Y)<|Zb<|?_
   obtain rfl:=rt h
   exact Zk<|Xu [some 2,some 3,some 4] Y (.cons (.agg Y Y Y Y XL Y Y) .nil) (.cons Y (roO Zat)<|.cons Y (roM D3)<|.cons Y (roM D4) .nil) Y Y<|Zb7<|rlD Y<|rlD Y<|rlc (.own _ Y)<|rlc (.own _ Y)<|rlc (.own _ Y) rln
theorem ZfF{l:List api_Memory}{r:(List api_Memory)}(h:Ji l=some r):
 GSpec Tryz.prog gl0 35 [.sl 59 (List.map R59 l)] [] (.own 0 r.length) [some ⟨59,List.map O59 r⟩]:=by
 unfold Ji at h
 replace h:=Qb h
 refine Ql (by kernel_rfl) Tryz.func35 Y Y<|?_
 intro w0 A W φ0
 refine Tr<|Rz Y<|K1 0 Y<|Tr<|Rz Y<|I1 (fun out=>⟨[(3,.own 0 out.length)],[some ⟨59,List.map O59 out⟩]⟩) h (fun h=>?_) fun out h=>?_
 ·
  refine Tr<|Rm Y<|Rl tZ_59 XC Y<|Rm Y<|Zb<|Zf<|?_
  obtain⟨r1,hl1,ho1⟩:=QC h
  refine L2 (fun out2 i=>⟨[(3,.own 0 out2.length),(6,.sl 59 (List.map R59 l)),(7,.int .i64 (l.length:Int)),(8,.int .i64 i)],[some ⟨59,List.map O59 out2⟩]⟩) hl1 (ES [none]) fun n1 out2 i h=>?_
  unfold XX at h
  refine Tr<|R2 ZL Y<|Zb<|Zh<|If h Y (fun h=>?_) fun h=>?_
  ·
   exact Zg<|Zh<|Zf<|K4 3 6 7 8 Y<|Tr<|bE h fun x h_x h=>Rq Y (ZP (ov Y) (ov Y) XC h_x)<|Rq Y (Z3 (ov Y) XL Y Y)<|Rx Y (Qd (row:= [_,_,_,_,_]) 1 Y Zde Y tZ_59)<|Rx Y (Zm (ov Y) (ov Y) (ZB XL Y) Y Y Y (nL Y) (Za Y) Y)<|Zb<|K5 3 5 6 7 8 Y<|ZH [some ⟨59,List.map O59 out2⟩,some ⟨59,[[.int .i64 x.Slots,.int .i64 x.Limit,.sl 22 (List.map R22 x.Sectors),.sl 3 (List.map R3 x.Wear),.sl 4 (List.map R4 x.Bad)]]⟩] Y<|Zo<|Rm Y<|Rq Y (Qt (ov Y) Y Y Y XL Y Y)<|bE h fun y h_y h=>Rx Y (Zz [] (Zeo h_y) (.cons (ov Y) (Zb7<|rld Y) .nil) .nil Y (.keep Y Y<|.keep Y Y<|.lent 0 (Wa Y Y) Y (roO Zat)<|.lent 1 (Wa Y Y) Y (roM D3)<|.lent 2 (Wa Y Y) Y (roM D4) .nil) Y Y<|Zb7<|rlD Y<|rlD Y<|rlc (.own _<|Wa Y Y)<|rlc (.own _<|Wa Y Y)<|rlc (.own _<|Wa Y Y) rln)<|Rx Y (Xs (r:=5) Y XC (.cons (cva<|ov Y) Y .nil) Y Y)<|bE h fun l2 h_l2 h=>Rx Y (Q8 (f:=O59) (ov Y) (Jv (o:=⟨59,[[.int .i64 y.Slots,.int .i64 y.Limit,.own 2 y.Sectors.length,.own 3 y.Wear.length,.own 4 y.Bad.length]]⟩) (ov Y) Y Y tZ_59) XC Y Y (Za Y) Y h_l2)<|Ra Y<|ZdL [some ⟨59,List.set (List.map O59 l2) out2.length [.int .i64 y.Slots,.int .i64 y.Limit,.own 2 y.Sectors.length,.own 3 y.Wear.length,.own 4 y.Bad.length]⟩,some ⟨59,[[.int .i64 x.Slots,.int .i64 x.Limit,.sl 22 (List.map R22 x.Sectors),.sl 3 (List.map R3 x.Wear),.sl 4 (List.map R4 x.Bad)]]⟩,some ⟨22,List.map O22 y.Sectors⟩,some ⟨3,List.map R3 y.Wear⟩,some ⟨4,List.map R4 y.Bad⟩,some ⟨59,[[.int .i64 y.Slots,.int .i64 y.Limit,.own 2 y.Sectors.length,.own 3 y.Wear.length,.own 4 y.Bad.length]]⟩] Y<|Qk (Ent.absorbH (r:=0) (j:=2) (q:=2) Y (ZF h_l2) Y Y (List.length_map ..) Y)<|Qk (Ent.absorbH (r:=0) (j:=3) (q:=3) Y (ZF h_l2) Y Y (List.length_map ..) Y)<|Qk (Ent.absorbH (r:=0) (j:=4) (q:=4) Y (ZF h_l2) Y Y (List.length_map ..) Y)<|Qk (Ent.closeS (r:=0) Y (ZF h_l2) Y)<|Zb<|K4 3 6 7 8 Y<|ZH [some ⟨59,List.map O59 l2⟩,some ⟨59,[[.int .i64 x.Slots,.int .i64 x.Limit,.sl 22 (List.map R22 x.Sectors),.sl 3 (List.map R3 x.Wear),.sl 4 (List.map R4 x.Bad)]]⟩,none,none,none,some ⟨59,[[.int .i64 y.Slots,.int .i64 y.Limit,.own 2 y.Sectors.length,.own 3 y.Wear.length,.own 4 y.Bad.length]]⟩] Y<|Zo<|R2 ZI Y<|Rm Y<|Zb<|⟨_,h,ES [some 0] (hhp:= .cons Y (roO Zw) .nil)⟩
  ·
   refine ZA<|?_
   replace h:=lx h▸ho1
   exact⟨_,h,ES [some 0] (hhp:= .cons Y (roO Zw) .nil)⟩
 ·
  refine Tr<|Rm Y<|Rz Y<|?_
  obtain rfl:=rt h
  exact Zk<|Xu [some 0] Y (.cons (.tmp Y) .nil) (.cons Y (roO Zw) .nil) Y Y<|.own _ Y
theorem Zhk{sequence:Int}{r:(List Int)}(h:ZaU sequence=some r):
 CSpec Tryz.prog gl0 73 [.int .i64 sequence] (.sl 5 (List.map R5 r)):=by
 unfold ZaU at h
 replace h:=Qb h
 refine So Tryz.func73 Y fun w0 A=>Tr<|Rz Y<|K1 0 Y<|Tr<|Rx Y (Zfr (r:=0) (xs:=([79,66]:List Int)) (f:=R5) Y Qi (.cons (cvs (ov Y)<|Zn Y) Y (.cons (.b Y) .nil)<|.cons (cvs (ov Y)<|Zn Y) Y (.cons (.b Y) .nil) .nil) Y Y Y)<|Rz Y<|I1 (fun out=>⟨[(3,.own 0 out.length)],[some ⟨5,List.map R5 out⟩]⟩) h (fun h=>?_) fun out h=>?_
 ·
  refine K2 0 3 Y<|Tr<|Rz Y<|Zf<|?_
  obtain⟨r1,hl1,ho1⟩:=QC h
  refine L2 (fun out2 shift=>⟨[(0,.int .i64 sequence),(3,.own 0 out2.length),(4,.int .i64 shift)],[some ⟨5,List.map R5 out2⟩]⟩) hl1 (ES [some 0]) fun n1 out2 shift h=>?_
  unfold XP at h
  refine Zh<|Tr<|Rm Y<|R2 ZiV Y<|Zb<|K4 0 3 4 9 Y<|If h Y (fun h=>?_) fun h=>?_
  ·
   exact Zg<|Zh<|Zf<|K3 0 3 4 Y<|Zo<|Rm Y<|Rm Y<|Rm Y<|bE h fun q h_q h=>Rq Y (Zbf (ov Y) (ov Y) h_q)<|Rq Y (Qh (ov Y) tI3 tI5 Y)<|R_q (.sl 5<|List.map R5 ([(u8 q)]:List Int)) Y (Jc Qi (.cons (cvs (ov Y)<|Zn Y) Y (.cons (.b Y) .nil) .nil) Y Y)<|bE h fun l h_l h=>Rx Y (QK (ov Y) (Qr (ov Y) tZ_5) Qi Y Y Y (fun _=>Za Y) Y h_l)<|Rz Y<|K3 0 3 4 Y<|Zo<|Rm Y<|R2 ZbR Y<|Rz Y<|⟨_,h,ES [some 0]⟩
  ·
   refine ZA<|?_
   replace h:=lx h▸ho1
   exact⟨_,h,ES [some 0]⟩
 ·
  refine I1 (fun out3=>⟨[(3,.own 0 out3.length)],[some ⟨5,List.map R5 out3⟩]⟩) h (fun h=>?_) fun out3 h=>?_
  ·
   refine Tr<|Rm Y<|bE h fun u h_u h=>Rq Y (Zra (ov Y) Y Y Qi (oi<|ov Y) (oi<|ov Y) h_u)<|Rq Y (Zqc (ov Y) Y (List.length_map ..) Qi)<|Rm Y<|Zb<|Zf<|?_
   obtain⟨r2,hl2,ho2⟩:=QC h
   refine ZqO (τ:=Option (List Int)) _ (fun b s=>Option.elim b (t2 (fun out4 i=>(⟨[(3,.own 0 out4.length),(20,.osl 0 out4.length (Int.toNat 2) (Int.toNat (6-2))),(21,.int .i64 ((Int.toNat (6-2):Nat):Int)),(22,.int .i64 i)],[some ⟨5,List.map R5 out4⟩]⟩:St)) s) fun old2=>t2 (fun out4 i=>(⟨[(3,.own 1 out4.length),(20,.osl 0 old2.length (Int.toNat 2) (Int.toNat (6-2))),(21,.int .i64 ((Int.toNat (6-2):Nat):Int)),(22,.int .i64 i)],[some ⟨5,List.map R5 old2⟩,some ⟨5,List.map R5 out4⟩]⟩:St)) s) (fun b s=> ∃ tl,Option.getD b s.1=out++tl) none _ hl2 Zpf (Ent.sel [some 0] (sr 3 Y (.own _ Y)<|sr 20 Y (.osl _ _ _ Y)<|sd 21 Y Y<|sd 22 Y Y sn) (.cons Y (roM D5) .nil) Y Y) fun b2 n2 s2 hC h=>?_
   obtain⟨out4,i⟩:=s2
   replace h:=t2i h
   unfold XO at h
   rcases b2 with _ |old2
   ·
    replace hC: ∃ tl,out4=out++tl:=hC
    show T _ _ ⟨[(3,.own 0 out4.length),(20,.osl 0 out4.length (Int.toNat 2) (Int.toNat (6-2))),(21,.int .i64 ((Int.toNat (6-2):Nat):Int)),(22,.int .i64 i)],[some ⟨5,List.map R5 out4⟩]⟩ _
    refine Tr<|R2 ZL Y<|Zb<|Zh<|If h Y (fun h=>?_) fun h=>?_
    ·
     refine Zg<|Zh<|Zf<|K4 3 20 21 22 Y<|Tr<|bE h fun u2 h_u2 h=>bE h fun x2 h_x2 h=>?_
     have h_x2P:=Zok hC h_x2
     refine Rq Y (Zp5 (ov Y) (ov Y) Qi Y Y (Zi3 h_u).1 h_u2 h_x2P)<|Rq Y (Qj (ov Y) Y Y h_x2P tS5 Y)<|Rz Y<|K5 3 6 20 21 22 Y<|Zo<|Rm Y<|Rm Y<|R1 Zl2 Y<|R_q (.sl 5<|List.map R5 ([(Zbv .u8 255 x2)]:List Int)) Y (Jc Qi (.cons (cvs (ov Y)<|Zn Y) Y (.cons (.b Y) .nil) .nil) Y Y)<|bE h fun l2 h_l2 h=>Zqq (f:=R5) (tp:=20) (ys:=([(Zbv .u8 255 x2)]:List Int)) Y (ov Y) (Qr (ov Y) tZ_5) Qi Y Y Y (fun _=>Za Y) Y (fun _=>nsR Y) h_l2 Y ?_ ?_
     ·
      exact Rz Y<|K4 3 20 21 22 Y<|Zo<|R2 ZI Y<|Rm Y<|Zb<|⟨none,(l2,(i64 (i+1))),Zqy hC h_l2,h,Ent.sel [some 0] (sr 3 Y (.own _ Y)<|sr 20 Y (.osl _ _ _ Y)<|sd 21 Y Y<|sd 22 Y Y<|sn) (.cons Y (roM D5)<| .nil) Y Y⟩
     ·
      exact Rz Y<|K4 3 20 21 22 Y<|Zo<|R2 ZI Y<|Rm Y<|Zb<|⟨some out4,(l2,(i64 (i+1))),hC,h,Ent.sel [some 0,some 1] (sr 3 Y (.own _ Y)<|sr 20 Y (.osl _ _ _ Y)<|sd 21 Y Y<|sd 22 Y Y<|sn) (.cons Y (roM D5)<| .cons Y (roM D5)<| .nil) Y Y⟩
    ·
     refine ZA<|?_
     replace h:=lx h▸ho2
     exact⟨_,h,ES [some 0]⟩
   ·
    replace hC: ∃ tl,old2=out++tl:=hC
    show T _ _ ⟨[(3,.own 1 out4.length),(20,.osl 0 old2.length (Int.toNat 2) (Int.toNat (6-2))),(21,.int .i64 ((Int.toNat (6-2):Nat):Int)),(22,.int .i64 i)],[some ⟨5,List.map R5 old2⟩,some ⟨5,List.map R5 out4⟩]⟩ _
    refine Tr<|R2 ZL Y<|Zb<|Zh<|If h Y (fun h=>?_) fun h=>?_
    ·
     refine Zg<|Zh<|Zf<|K4 3 20 21 22 Y<|Tr<|bE h fun u2 h_u2 h=>bE h fun x2 h_x2 h=>?_
     have h_x2P:=Zok hC h_x2
     exact Rq Y (Zp5 (ov Y) (ov Y) Qi Y Y (Zi3 h_u).1 h_u2 h_x2P)<|Rq Y (Qj (ov Y) Y Y h_x2P tS5 Y)<|Rz Y<|K5 3 6 20 21 22 Y<|Zo<|Rm Y<|Rm Y<|R1 Zl2 Y<|R_q (.sl 5<|List.map R5 ([(Zbv .u8 255 x2)]:List Int)) Y (Jc Qi (.cons (cvs (ov Y)<|Zn Y) Y (.cons (.b Y) .nil) .nil) Y Y)<|bE h fun l2 h_l2 h=>Rx Y (QK (ov Y) (Qr (ov Y) tZ_5) Qi Y Y Y (fun _=>Za Y) Y h_l2)<|Rz Y<|K4 3 20 21 22 Y<|Zo<|R2 ZI Y<|Rm Y<|Zb<|⟨some old2,(l2,(i64 (i+1))),hC,h,Ent.sel [some 0,some 1] (sr 3 Y (.own _ Y)<|sr 20 Y (.osl _ _ _ Y)<|sd 21 Y Y<|sd 22 Y Y<|sn) (.cons Y (roM D5)<| .cons Y (roM D5)<| .nil) Y Y⟩
    ·
     refine ZA<|?_
     replace h:=lx h▸ho2
     exact⟨_,h,ES [some 1]⟩
  ·
   refine Tr<|Rm Y<|Rz Y<|?_
   obtain rfl:=rt h
   exact Zk (ZK Y (.one<|.tmp Y<|View.ownM Y Y D5))
theorem ZfA{s1:List Int}{s2:List Int}{r:Bool}(h:QS s1 s2=some r):
 CSpec Tryz.prog gl0 72 [.sl 5 (List.map R5 s1),.sl 5 (List.map R5 s2)] (.bool r):=by
 unfold QS at h
 replace h:=Qb h
 refine So Tryz.func72 Y fun w0 A=>Tr<|Rz Y<|Zh<|K2 0 1 Y<|Tr<|Rm Y<|Rl tZ_5 Qi Y<|Rm Y<|Rl tZ_5 Qi Y<|R2 Qy Y<|Zb<|K3 0 1 10 Y<|If h Y (fun h=>?_) fun h=>?_
 ·
  refine K0<|Tr<|Rz Y<|?_
  obtain rfl:=rt h
  exact Zk (ZK Y (.one<|rb Y))
 ·
  refine Zg<|J0 (fun j=>(.inr j)) ⟨[],[]⟩ h (fun h=>?_) fun h=>?_
  ·
   refine K2 0 1 Y<|Tr<|Rm Y<|Rl tZ_5 Qi Y<|Rm Y<|Zb<|Zf<|?_
   obtain⟨r1,hl1,ho1⟩:=QC h
   refine L1 (fun i=>⟨[(0,.sl 5 (List.map R5 s1)),(1,.sl 5 (List.map R5 s2)),(12,.int .i64 (s1.length:Int)),(13,.int .i64 i)],[]⟩) hl1 (ES []) fun n1 i h=>?_
   unfold QP at h
   refine Tr<|R2 ZL Y<|Zb<|Zh<|If h Y (fun h=>?_) fun h=>?_
   ·
    refine Zg<|Zh<|Zf<|K4 0 1 12 13 Y<|Tr<|Rm Y<|Rz Y<|Zh<|K5 0 1 5 12 13 Y<|Z5 (cw:=md0) (by kernel_rfl)<|D1 0 Zc Y<|D1 1 Zc Y<|bE h fun x h_x h=>Dq 2 Y (ZP (ov Y) (ov Y) Qi h_x)<|Dq 3 Y (Zd (ov Y) tS5 Y)<|D1 4 Zc Y<|D1 5 Zc Y<|bE h fun x2 h_x2 h=>Dq 6 Y (ZP (ov Y) (ov Y) Qi h_x2)<|Dq 7 Y (Zd (ov Y) tS5 Y)<|D2 8 Qy Y<|Dd<|K5 0 1 12 13 24 Y<|If h Y (fun h=>?_) fun h=>?_
    ·
     refine K0<|Tr<|Rz Y<|?_
     replace h:=lx h▸ho1
     obtain rfl:=rt h
     exact Zk (ZK Y (.one<|rb Y))
    ·
     exact Zg<|K4 0 1 12 13 Y<|Zo<|R2 ZI Y<|Rm Y<|Zb<|⟨_,h,ES []⟩
   ·
    refine ZA<|?_
    replace h:=lx h▸ho1
    exact⟨(),h,ES []⟩
  ·
   replace h:=elr h
   replace h:=t0i h
   refine Tr<|Rz Y<|?_
   obtain rfl:=rt h
   exact Zk (ZK Y (.one<|rb Y))
theorem Zdv{s:List Int}{r:Int×Bool×Bool}(h:ZaM s=some r):
 CSpec Tryz.prog gl0 37 [.sl 5 (List.map R5 s)] (.tuple [.int .i64 r.1,.bool r.2.1,.bool r.2.2]):=by
 unfold ZaM at h
 replace h:=Qb h
 refine So Tryz.func37 Y fun w0 A=>Tr<|Ra Y<|Ra Y<|Rz Y<|Zh<|K1 0 Y<|Tr<|Rm Y<|Rl tZ_5 Qi Y<|R2 ZL Y<|Zb<|K2 0 9 Y<|If h Y (fun h=>?_) fun h=>?_
 ·
  refine K0<|Tr<|Ra Y<|Ra Y<|Rz Y<|?_
  obtain rfl:=rt h
  exact Zk (ZK Y (.three (rb Y) (rb Y)<|rb Y))
 ·
  refine Zg<|K1 0 Y<|Tr<|Rm Y<|bE h fun l h_l h=>Rq Y (Zf8 (ov Y) Qi on (oi<|ov Y) h_l)<|bE h fun v h_v h=>Rq Y (Znl (f:=C5) (ov Y) Zkw tZ_5 Y h_v)<|Rz Y<|Zh<|K1 5 Y<|Z5 (cw:=md0) (by kernel_rfl)<|D1 0 Zc Y<|D1 1 ZG Y<|bE h fun x h_x h=>Dq 2 Y (Q6 (ov Y) (ov Y) Zkw h_x)<|Dq 3 Y (Zd (ov Y) tS5<|Qx<|XV (o:=0) (o':=((Int.toNat 2)*1)) (Zu arL)<|XR h_x)<|Dq 4 Y (Qh (ov Y) tI5 tI3 Y)<|bE h fun q h_q h=>Dq 5 Y (ZgJ (ov Y) (ov Y) h_q)<|D1 6 Zc Y<|D1 7 ZG Y<|bE h fun x2 h_x2 h=>Dq 8 Y (Q6 (ov Y) (ov Y) Zkw h_x2)<|Dq 9 Y (Zd (ov Y) tS5<|Qx<|XV (o:=0) (o':=((Int.toNat 3)*1)) (Zu arL)<|XR h_x2)<|Dq 10 Y (Qh (ov Y) tI5 tI3 Y)<|bE h fun q2 h_q2 h=>Dq 11 Y (ZgJ (ov Y) (ov Y) h_q2)<|D2 12 Zho Y<|D1 13 Zc Y<|D1 14 ZG Y<|bE h fun x3 h_x3 h=>Dq 15 Y (Q6 (ov Y) (ov Y) Zkw h_x3)<|Dq 16 Y (Zd (ov Y) tS5<|Qx<|XV (o:=0) (o':=((Int.toNat 4)*1)) (Zu arL)<|XR h_x3)<|Dq 17 Y (Qh (ov Y) tI5 tI3 Y)<|bE h fun q3 h_q3 h=>Dq 18 Y (ZgJ (ov Y) (ov Y) h_q3)<|D2 19 Zho Y<|D1 20 Zc Y<|D1 21 ZG Y<|bE h fun x4 h_x4 h=>Dq 22 Y (Q6 (ov Y) (ov Y) Zkw h_x4)<|Dq 23 Y (Zd (ov Y) tS5<|Qx<|XV (o:=0) (o':=((Int.toNat 5)*1)) (Zu arL)<|XR h_x4)<|Dq 24 Y (Qh (ov Y) tI5 tI3 Y)<|D2 25 Zho Y<|D1 26 ZS Y<|Dd<|Zh<|Zh<|K2 5 6 Y<|Z5 (cw:=md0) (by kernel_rfl)<|D1 0 Zc Y<|bE h fun y h_y h=>Dq 1 Y (Zq (Xf h_y)<|.cons (ov Y) (.b Y)<|.cons (ov Y) (.b Y)<|.cons (ov Y) (.b Y) .nil)<|D1 2 XM Y<|D1 3 Zc Y<|Dq 4 Y (.guarded ((!y)==false) Y Y Y Y fun h=>Zc<|ov Y)<|Dq 5 Y (.guarded ((!y)==false) Y Y Y Y fun h=>ZG<|ow Y h)<|bE h fun l2 h_l2 h=>Dq 6 Y (.guarded ((!y)==false) Y Y Y Y fun h=>Zoc (f:=C5) (ow Y h) Zkw tZ_5 (Zu arL) Y on (oi<|ov Y)<|gdT h_l2 h)<|Dq 7 Y (.guarded ((!y)==false) Y Y Y Y fun h=>Zc<|ov Y)<|bE h fun y2 h_y2 h=>Dq 8 Y (.guarded ((!y)==false) Y Y Y Y fun h=>Zq (Zhk<|gdT h_y2 h)<|.cons (ow Y h) (.b Y) .nil)<|bE h fun y3 h_y3 h=>Dq 9 Y (.guarded ((!y)==false) Y Y Y Y fun h=>Zq (ZfA<|gdT h_y3 h)<|.cons (ow Y h) (.b Y)<|.cons (ow Y h) (.b Y) .nil)<|Dq 10 Y (.guarded ((!y)==false) Y Y Y Y fun h=>XM<|ow Y h)<|Dq 11 Y (ZaO (ov Y) fun hp=>ow Y<|gF hp)<|Dd<|K3 5 6 50 Y<|If h Y (fun h=>?_) fun h=>?_
  ·
   refine K0<|Tr<|Ra Y<|Ra Y<|Rz Y<|?_
   obtain rfl:=rt h
   exact Zk (ZK Y (.three (rb Y) (rb Y)<|rb Y))
  ·
   refine Zg<|Zh<|K2 5 6 Y<|Z5 (cw:=md0) (by kernel_rfl)<|D1 0 Zc Y<|D1 1 Zc Y<|D1 2 ZG Y<|bE h fun x5 h_x5 h=>Dq 3 Y (Q6 (ov Y) (ov Y) Zkw h_x5)<|Dq 4 Y (Zd (ov Y) tS5<|Qx<|XV (o:=0) (o':=((Int.toNat 10)*1)) (Zu arL)<|XR h_x5)<|D2 5 Qy Y<|D1 6 ZS Y<|D1 7 ZS Y<|D1 8 ZS Y<|Dd<|?_
   obtain rfl:=rt h
   exact Zk (ZK Y (.three (rb Y) (rb Y)<|rb Y))
theorem JS{data:List Int}{a:Int}{b:Int}{cmp:Int→Int→Option Int}{r:(List Int)}{cmp_f:FuncId}{cmp_c:List AV}(cmp_d:cmp_c.all datB=true)(cmp_h: ∀ (z0:Int) (z1:Int) z,cmp z0 z1=some z→CSpec Tryz.prog gl0 cmp_f ([.int .i64 z0,.int .i64 z1]++cmp_c) (.int .i64 z))(h:ZE data a b cmp=some r):
 GSpec Tryz.prog gl0 138 [.own 0 data.length,.int .i64 a,.int .i64 b,.fn cmp_f cmp_c] [some ⟨3,List.map R3 data⟩] (.tuple []) [some ⟨3,List.map R3 r⟩]:=by
 unfold ZE at h
 replace h:=Qb h
 refine Ql (by kernel_rfl) Tryz.func138 Y Y<|?_
 intro w0 A W φ0
 refine Tr<|Rm Y<|R2 ZI Y<|Rz Y<|Zf<|?_
 obtain⟨r1,hl1,ho1⟩:=QC h
 refine L2 (fun o i=>⟨[(0,.own 0 o.length),(1,.int .i64 a),(2,.int .i64 b),(3,.fn cmp_f cmp_c),(8,.int .i64 i)],[some ⟨3,List.map R3 o⟩]⟩) hl1 (ES [some 0]<|sr 0 Y (.own _ Y)<|sd 1 Y Y<|sd 2 Y Y<|sr 3 Y (rFn<|rld cmp_d)<|sd 8 Y Y sn) fun n1 o i h=>?_
 unfold Zx at h
 refine Zh<|Tr<|Rm Y<|Rm Y<|R2 ZL Y<|Zb<|K6 0 1 2 3 8 14 Y<|If h Y (fun h=>?_) fun h=>?_
 ·
  refine Zg<|I1 (fun o2=>⟨[(0,.own 0 o2.length),(1,.int .i64 a),(2,.int .i64 b),(3,.fn cmp_f cmp_c),(8,.int .i64 i)],[some ⟨3,List.map R3 o2⟩]⟩) h (fun h=>?_) fun o2 h=>?_
  ·
   refine Zf<|K5 0 1 2 3 8 Y<|Tr<|Rm Y<|Rz Y<|Zf<|?_
   obtain⟨r2,hl2,ho2⟩:=QC h
   refine L2 (fun o3 j=>⟨[(0,.own 0 o3.length),(1,.int .i64 a),(2,.int .i64 b),(3,.fn cmp_f cmp_c),(8,.int .i64 i),(9,.int .i64 j)],[some ⟨3,List.map R3 o3⟩]⟩) hl2 (ES [some 0]<|sr 0 Y (.own _ Y)<|sd 1 Y Y<|sd 2 Y Y<|sr 3 Y (rFn<|rld cmp_d)<|sd 8 Y Y<|sd 9 Y Y sn) fun n2 o3 j h=>?_
   unfold ZC at h
   refine Zh<|Zh<|Z5 (cw:=md0) (by kernel_rfl)<|D1 0 Zc Y<|D1 1 Zc Y<|D2 2 Za9 Y<|D1 3 Zc Y<|Dq 4 Y (.guarded ((decide (a<j))==true) Y Y Y Y fun h=>Zc<|ov Y)<|Dq 5 Y (.guarded ((decide (a<j))==true) Y Y Y Y fun h=>Zc<|ov Y)<|Dq 6 Y (.guarded ((decide (a<j))==true) Y Y Y Y fun h=>Zc<|ov Y)<|bE h fun x h_x h=>Dq 7 Y (.guarded ((decide (a<j))==true) Y Y Y Y fun h=>Z4 (ow Y h) (ow Y h) QA Y Y<|gdT h_x h)<|Dq 8 Y (.guarded ((decide (a<j))==true) Y Y Y Y fun h=>Qj (ow Y h) Y Y (gdT h_x h) tS3 Y)<|Dq 9 Y (.guarded ((decide (a<j))==true) Y Y Y Y fun h=>Zc<|ov Y)<|Dq 10 Y (.guarded ((decide (a<j))==true) Y Y Y Y fun h=>Zc<|ov Y)<|Dq 11 Y (.guarded ((decide (a<j))==true) Y Y Y Y fun h=>Zn8 (ow Y h) (ov Y) Y)<|bE h fun x2 h_x2 h=>Dq 12 Y (.guarded ((decide (a<j))==true) Y Y Y Y fun h=>Z4 (ow Y h) (ow Y h) QA Y Y<|gdT h_x2 h)<|Dq 13 Y (.guarded ((decide (a<j))==true) Y Y Y Y fun h=>Qj (ow Y h) Y Y (gdT h_x2 h) tS3 Y)<|bE h fun y h_y h=>Dq 14 Y (.guarded ((decide (a<j))==true) Y Y Y Y fun h=>ZeS (ow Y h) cmp_d (cmp_h _ _ _<|gdT h_y h)<|.cons (ow Y h) (.b Y)<|.cons (ow Y h) (.b Y) .nil)<|Dq 15 Y (.guarded ((decide (a<j))==true) Y Y Y Y fun h=>ZL (ow Y h)<|ov Y)<|Dq 16 Y (J6 (ov Y) fun hp=>ow Y<|gT hp)<|Dd<|K7 0 1 2 3 8 9 34 Y<|If h Y (fun h=>?_) fun h=>?_
   ·
    exact Zg<|Zh<|Zf<|K6 0 1 2 3 8 9 Y<|Z5 (cw:=md0) (by kernel_rfl)<|D1 0 Zc Y<|D1 1 Zc Y<|D1 5 Zc Y<|D1 6 Zc Y<|D2 7 ZbR Y<|bE h fun x3 h_x3 h=>Dq 8 Y (Z4 (ov Y) (ov Y) QA Y Y h_x3)<|Dq 9 Y (Qj (ov Y) Y Y h_x3 tS3 Y)<|D1 10 Zc Y<|D1 11 Zc Y<|bE h fun x4 h_x4 h=>Dq 12 Y (Z4 (ov Y) (ov Y) QA Y Y h_x4)<|Dq 13 Y (Qj (ov Y) Y Y h_x4 tS3 Y)<|bE h fun x5 h_x5 h=>Dq 14 Y (Z4 (ov Y) (ov Y) QA Y Y h_x5)<|ZO 2 _ Y (by kernel_rfl) Y Y (fun hp'=>Zc<|ov Y)<|ZO 3 _ Y (by kernel_rfl) Y Y (fun hp'=>Zc<|ov Y)<|ZO 4 _ Y (by kernel_rfl) Y Y (fun hp'=>Zn8 (ov Y) (ov Y) Y)<|Do 15 Y (Xg (u':=x3) (ov Y) (ov Y) (Zj tS3) Y Y h_x5 Y (Za Y) Y)<|bE h fun x6 h_x6 h=>Dq 16 Y (Z4 (ov Y) (ov Y) QA Y ((List.length_set ..).trans Y) h_x6)<|Do 17 Y (Xg (u':=x4) (ov Y) (ov Y) (Zj tS3) Y ((List.length_set ..).trans Y) h_x6 Y (Za Y) Y)<|Dd<|K6 0 1 2 3 8 9 Y<|Zo<|Rm Y<|R2 ZbR Y<|Rz Y<|⟨_,h,ES [some 0]<|sr 0 Y (Zbu (Eq.symm<|(List.length_set ..).trans<|(List.length_set ..).trans Y) Y)<|sd 1 Y Y<|sd 2 Y Y<|sr 3 Y (rFn<|rld cmp_d)<|sd 8 Y Y<|sd 9 Y Y sn⟩
   ·
    refine ZA<|?_
    replace h:=lx h▸ho2
    exact⟨_,h,ES [some 0]<|sr 0 Y (.own _ Y)<|sd 1 Y Y<|sd 2 Y Y<|sr 3 Y (rFn<|rld cmp_d)<|sd 8 Y Y sn⟩
  ·
   exact Zo<|Rm Y<|R2 ZI Y<|Rz Y<|⟨_,h,ES [some 0]<|sr 0 Y (.own _ Y)<|sd 1 Y Y<|sd 2 Y Y<|sr 3 Y (rFn<|rld cmp_d)<|sd 8 Y Y sn⟩
 ·
  refine ZA<|?_
  replace h:=lx h▸ho1
  obtain rfl:=rt h
  exact Zh0 [some 0] Y .nil (.cons Y (roM D3) .nil) Y Y<|Qq rln
theorem Jb{data:List Int}{a:Int}{b:Int}{n:Int}{cmp:Int→Int→Option Int}{r:(List Int)}{cmp_f:FuncId}{cmp_c:List AV}(cmp_d:cmp_c.all datB=true)(cmp_h: ∀ (z0:Int) (z1:Int) z,cmp z0 z1=some z→CSpec Tryz.prog gl0 cmp_f ([.int .i64 z0,.int .i64 z1]++cmp_c) (.int .i64 z))(h:ZU data a b n cmp=some r):
 GSpec Tryz.prog gl0 142 [.own 0 data.length,.int .i64 a,.int .i64 b,.int .i64 n,.fn cmp_f cmp_c] [some ⟨3,List.map R3 data⟩] (.tuple []) [some ⟨3,List.map R3 r⟩]:=by
 unfold ZU at h
 replace h:=Qb h
 refine Ql (by kernel_rfl) Tryz.func142 Y Y<|?_
 intro w0 A W φ0
 refine K4 0 1 2 3 Y<|Tr<|Rz Y<|Zf<|?_
 obtain⟨r1,hl1,ho1⟩:=QC h
 refine L2 (fun o i=>⟨[(0,.own 0 o.length),(1,.int .i64 a),(2,.int .i64 b),(3,.int .i64 n),(10,.int .i64 i)],[some ⟨3,List.map R3 o⟩]⟩) hl1 (ES [some 0]) fun n1 o i h=>?_
 unfold Qa at h
 refine Zh<|Tr<|Rm Y<|Rm Y<|R2 ZL Y<|Zb<|K6 0 1 2 3 10 13 Y<|If h Y (fun h=>?_) fun h=>?_
 ·
  exact Zg<|Zh<|Zf<|K5 0 1 2 3 10 Y<|Z5 (cw:=md0) (by kernel_rfl)<|D1 0 Zc Y<|D1 1 Zc Y<|D1 2 Zc Y<|D2 3 ZI Y<|D1 8 Zc Y<|D1 9 Zc Y<|D1 10 Zc Y<|D2 11 ZI Y<|bE h fun x h_x h=>Dq 12 Y (Z4 (ov Y) (ov Y) QA Y Y h_x)<|Dq 13 Y (Qj (ov Y) Y Y h_x tS3 Y)<|D1 14 Zc Y<|D1 15 Zc Y<|D1 16 Zc Y<|D2 17 ZI Y<|bE h fun x2 h_x2 h=>Dq 18 Y (Z4 (ov Y) (ov Y) QA Y Y h_x2)<|Dq 19 Y (Qj (ov Y) Y Y h_x2 tS3 Y)<|bE h fun x3 h_x3 h=>Dq 20 Y (Z4 (ov Y) (ov Y) QA Y Y h_x3)<|ZO 4 _ Y (by kernel_rfl) Y Y (fun hp'=>Zc<|ov Y)<|ZO 5 _ Y (by kernel_rfl) Y Y (fun hp'=>Zc<|ov Y)<|ZO 6 _ Y (by kernel_rfl) Y Y (fun hp'=>Zc<|ov Y)<|ZO 7 _ Y (by kernel_rfl) Y Y (fun hp'=>ZkV (ov Y) (ov Y) Y)<|Do 21 Y (Xg (u':=x) (ov Y) (ov Y) (Zj tS3) Y Y h_x3 Y (Za Y) Y)<|bE h fun x4 h_x4 h=>Dq 22 Y (Z4 (ov Y) (ov Y) QA Y ((List.length_set ..).trans Y) h_x4)<|Do 23 Y (Xg (u':=x2) (ov Y) (ov Y) (Zj tS3) Y ((List.length_set ..).trans Y) h_x4 Y (Za Y) Y)<|Dd<|K5 0 1 2 3 10 Y<|Zo<|Rm Y<|R2 ZI Y<|Rz Y<|⟨_,h,ES [some 0]<|sr 0 Y (Zbu (Eq.symm<|(List.length_set ..).trans<|(List.length_set ..).trans Y) Y)<|sd 1 Y Y<|sd 2 Y Y<|sd 3 Y Y<|sd 10 Y Y sn⟩
 ·
  refine ZA<|?_
  replace h:=lx h▸ho1
  obtain rfl:=rt h
  exact Zh0 [some 0] Y .nil (.cons Y (roM D3) .nil) Y Y<|Qq rln
theorem ZeM{data:List Int}{a:Int}{m:Int}{b:Int}{cmp:Int→Int→Option Int}{r:(List Int)}{cmp_f:FuncId}{cmp_c:List AV}(cmp_d:cmp_c.all datB=true)(cmp_h: ∀ (z0:Int) (z1:Int) z,cmp z0 z1=some z→CSpec Tryz.prog gl0 cmp_f ([.int .i64 z0,.int .i64 z1]++cmp_c) (.int .i64 z))(h:Qo data a m b cmp=some r):
 GSpec Tryz.prog gl0 141 [.own 0 data.length,.int .i64 a,.int .i64 m,.int .i64 b,.fn cmp_f cmp_c] [some ⟨3,List.map R3 data⟩] (.tuple []) [some ⟨3,List.map R3 r⟩]:=by
 unfold Qo at h
 replace h:=Qb h
 refine Ql (by kernel_rfl) Tryz.func141 Y Y<|?_
 intro w0 A W φ0
 refine Tr<|Rm Y<|Rm Y<|R2 ZbR Y<|Rz Y<|K5 0 2 3 4 10 Y<|Tr<|Rm Y<|Rm Y<|R2 ZbR Y<|Rz Y<|I2 (fun o i=>⟨[(0,.own 0 o.length),(2,.int .i64 m),(4,.fn cmp_f cmp_c),(10,.int .i64 i)],[some ⟨3,List.map R3 o⟩]⟩) h (fun h=>?_) fun o i h=>?_
 ·
  refine Zf<|?_
  obtain⟨r1,hl1,ho1⟩:=QC h
  refine L3 (fun o2 i2 j=>⟨[(0,.own 0 o2.length),(2,.int .i64 m),(4,.fn cmp_f cmp_c),(10,.int .i64 i2),(11,.int .i64 j)],[some ⟨3,List.map R3 o2⟩]⟩) hl1 (ES [some 0]<|sr 0 Y (.own _ Y)<|sd 2 Y Y<|sr 4 Y (rFn<|rld cmp_d)<|sd 10 Y Y<|sd 11 Y Y sn) fun n1 o2 i2 j h=>?_
  unfold Qn at h
  refine Zh<|Tr<|Rm Y<|Rm Y<|R2 Qy Y<|Zb<|K6 0 2 4 10 11 20 Y<|If h Y (fun h=>?_) fun h=>?_
  ·
   refine Zg<|Zf<|K5 0 2 4 10 11 Y<|Tr<|Rm Y<|Rm Y<|R2 Za9 Y<|Zb<|K6 0 2 4 10 11 23 Y<|If h Y (fun h=>?_) fun h=>?_
   ·
    exact K5 0 2 4 10 11 Y<|Tr<|Rm Y<|Rm Y<|Rm Y<|R2 ZbR Y<|Rm Y<|Rm Y<|Rm Y<|bE h fun y h_y h=>Rx Y (Zz [0] (Jb cmp_d cmp_h h_y) (.cons (ov Y) (.own _ Y)<|.cons (ov Y) (.dat Y)<|.cons (ov Y) (.dat Y)<|.cons (ov Y) (.dat Y)<|.cons (ov Y) (rFn<|rld cmp_d) .nil) (.cons Y (roM D3) .nil) Y (.lent 0 (.inl Y) Y (roM D3) .nil) Y Y<|Qq<|rld Y)<|Zb<|K5 0 2 4 10 11 Y<|Zo<|Rm Y<|Rm Y<|R2 ZbR Y<|Rz Y<|⟨_,h,ES [some 0]<|sr 0 Y (Zbu (Eq.symm<|QJ h_y) Y)<|sd 2 Y Y<|sr 4 Y (rFn<|rld cmp_d)<|sd 10 Y Y<|sd 11 Y Y sn⟩
   ·
    exact K5 0 2 4 10 11 Y<|Tr<|Rm Y<|Rm Y<|Rm Y<|R2 ZbR Y<|Rm Y<|Rm Y<|R2 ZI Y<|Rm Y<|R2 ZbR Y<|Rm Y<|Rm Y<|bE h fun y2 h_y2 h=>Rx Y (Zz [0] (Jb cmp_d cmp_h h_y2) (.cons (ov Y) (.own _ Y)<|.cons (ov Y) (.dat Y)<|.cons (ov Y) (.dat Y)<|.cons (ov Y) (.dat Y)<|.cons (ov Y) (rFn<|rld cmp_d) .nil) (.cons Y (roM D3) .nil) Y (.lent 0 (.inl Y) Y (roM D3) .nil) Y Y<|Qq<|rld Y)<|Zb<|K5 0 2 4 10 11 Y<|Zo<|Rm Y<|Rm Y<|R2 ZbR Y<|Rz Y<|⟨_,h,ES [some 0]<|sr 0 Y (Zbu (Eq.symm<|QJ h_y2) Y)<|sd 2 Y Y<|sr 4 Y (rFn<|rld cmp_d)<|sd 10 Y Y<|sd 11 Y Y sn⟩
  ·
   refine ZA<|?_
   replace h:=lx h▸ho1
   exact⟨_,h,ES [some 0]<|sr 0 Y (.own _ Y)<|sd 2 Y Y<|sr 4 Y (rFn<|rld cmp_d)<|sd 10 Y Y sn⟩
 ·
  refine Zo<|Rm Y<|Rm Y<|Rm Y<|R2 ZbR Y<|Rm Y<|Rm Y<|Rm Y<|bE h fun y3 h_y3 h=>Rx Y (Zz [0] (Jb cmp_d cmp_h h_y3) (.cons (ov Y) (.own _ Y)<|.cons (ov Y) (.dat Y)<|.cons (ov Y) (.dat Y)<|.cons (ov Y) (.dat Y)<|.cons (ov Y) (rFn<|rld cmp_d) .nil) (.cons Y (roM D3) .nil) Y (.lent 0 (.inl Y) Y (roM D3) .nil) Y Y<|Qq<|rld Y)<|Zb<|?_
  obtain rfl:=rt h
  exact Zh0 [some 0] Y .nil (.cons Y (roM D3) .nil) Y Y<|Qq rln
theorem Zdw{rec_:List Int→Int→Int→Int→(Int→Int→Option Int)→Option (List Int)}{data:List Int}{a:Int}{m:Int}{b:Int}{cmp:Int→Int→Option Int}{r:(List Int)}{cmp_f:FuncId}{cmp_c:List AV}(cmp_d:cmp_c.all datB=true)(cmp_h: ∀ (z0:Int) (z1:Int) z,cmp z0 z1=some z→CSpec Tryz.prog gl0 cmp_f ([.int .i64 z0,.int .i64 z1]++cmp_c) (.int .i64 z))(ln_rec_: ∀ {data:List Int} {a:Int} {m:Int} {b:Int} {cmp:Int→Int→Option Int} {r:(List Int)},rec_ data a m b cmp=some r→r.length=data.length)(hrec: ∀ {data:List Int} {a:Int} {m:Int} {b:Int} {cmp:Int→Int→Option Int} {r:(List Int)} {cmp_f:FuncId} {cmp_c:List AV} (cmp_d:cmp_c.all datB=true) (cmp_h: ∀ (z0:Int) (z1:Int) z,cmp z0 z1=some z→CSpec Tryz.prog gl0 cmp_f ([.int .i64 z0,.int .i64 z1]++cmp_c) (.int .i64 z)) (h:rec_ data a m b cmp=some r),GSpec Tryz.prog gl0 139 [.own 0 data.length,.int .i64 a,.int .i64 m,.int .i64 b,.fn cmp_f cmp_c] [some ⟨3,List.map R3 data⟩] (.tuple []) [some ⟨3,List.map R3 r⟩])(h:Qg rec_ data a m b cmp=some r):
 GSpec Tryz.prog gl0 139 [.own 0 data.length,.int .i64 a,.int .i64 m,.int .i64 b,.fn cmp_f cmp_c] [some ⟨3,List.map R3 data⟩] (.tuple []) [some ⟨3,List.map R3 r⟩]:=by
 unfold Qg at h
 replace h:=Qb h
 refine Ql (by kernel_rfl) Tryz.func139 Y Y<|?_
 intro w0 A W φ0
 refine Zh<|Tr<|Rm Y<|Rm Y<|R2 ZbR Y<|R2 Zae Y<|Zb<|K6 0 1 2 3 4 28 Y<|If h Y (fun h=>?_) fun h=>?_
 ·
  refine K5 0 1 2 3 4 Y<|Tr<|Rm Y<|Rz Y<|K5 0 1 3 4 10 Y<|Tr<|Rm Y<|Rz Y<|I1 (fun i=>⟨[(0,.own 0 data.length),(1,.int .i64 a),(10,.int .i64 i)],[some ⟨3,List.map R3 data⟩]⟩) h (fun h=>?_) fun i h=>?_
  ·
   refine Zf<|?_
   obtain⟨r1,hl1,ho1⟩:=QC h
   refine L2 (fun i2 j=>⟨[(0,.own 0 data.length),(1,.int .i64 a),(4,.fn cmp_f cmp_c),(10,.int .i64 i2),(11,.int .i64 j)],[some ⟨3,List.map R3 data⟩]⟩) hl1 (ES [some 0]<|sr 0 Y (.own _ Y)<|sd 1 Y Y<|sr 4 Y (rFn<|rld cmp_d)<|sd 10 Y Y<|sd 11 Y Y sn) fun n1 i2 j h=>?_
   unfold Qu at h
   refine Zh<|Tr<|Rm Y<|Rm Y<|R2 ZL Y<|Zb<|K6 0 1 4 10 11 33 Y<|If h Y (fun h=>?_) fun h=>?_
   ·
    refine Zg<|Zf<|K5 0 1 4 10 11 Y<|Tr<|Rm Y<|Rm Y<|R2 ZI Y<|Rq Y (Qh (ov Y) tI3 Zg9 Y)<|bE h fun q h_q h=>Rq Y (Zbf (ov Y) (ov Y) h_q)<|Rq Y (Qh (ov Y) Zg9 tI3 Y)<|Rz Y<|Zh<|K6 0 1 4 10 11 12 Y<|Z5 (cw:=md0) (by kernel_rfl)<|D1 0 Zc Y<|D1 1 Zc Y<|D1 2 Zc Y<|bE h fun x h_x h=>Dq 3 Y (Z4 (ov Y) (ov Y) QA Y Y h_x)<|Dq 4 Y (Qj (ov Y) Y Y h_x tS3 Y)<|D1 5 Zc Y<|D1 6 Zc Y<|bE h fun x2 h_x2 h=>Dq 7 Y (Z4 (ov Y) (ov Y) QA Y Y h_x2)<|Dq 8 Y (Qj (ov Y) Y Y h_x2 tS3 Y)<|bE h fun y h_y h=>Dq 9 Y (ZeS (ov Y) cmp_d (cmp_h _ _ _ h_y)<|.cons (ov Y) (.b Y)<|.cons (ov Y) (.b Y) .nil)<|D2 10 ZL Y<|Dd<|K7 0 1 4 10 11 12 50 Y<|If h Y (fun h=>?_) fun h=>?_
    ·
     exact K6 0 1 4 10 11 12 Y<|Zo<|Rm Y<|R2 ZI Y<|Rz Y<|⟨_,h,ES [some 0]<|sr 0 Y (.own _ Y)<|sd 1 Y Y<|sr 4 Y (rFn<|rld cmp_d)<|sd 10 Y Y<|sd 11 Y Y sn⟩
    ·
     exact K6 0 1 4 10 11 12 Y<|Zo<|Rm Y<|Rz Y<|⟨_,h,ES [some 0]<|sr 0 Y (.own _ Y)<|sd 1 Y Y<|sr 4 Y (rFn<|rld cmp_d)<|sd 10 Y Y<|sd 11 Y Y sn⟩
   ·
    refine ZA<|?_
    replace h:=lx h▸ho1
    exact⟨_,h,ES [some 0]⟩
  ·
   refine I1 (fun o=>⟨[],[some ⟨3,List.map R3 o⟩]⟩) h (fun h=>?_) fun o h=>?_
   ·
    refine Tr<|Rm Y<|Rz Y<|Zf<|?_
    obtain⟨r2,hl2,ho2⟩:=QC h
    refine L2 (fun o2 k=>⟨[(0,.own 0 o2.length),(10,.int .i64 i),(13,.int .i64 k)],[some ⟨3,List.map R3 o2⟩]⟩) hl2 (ES [some 0]) fun n2 o2 k h=>?_
    unfold ZV at h
    refine Zh<|Tr<|Rm Y<|Rm Y<|R2 ZbR Y<|R2 ZL Y<|Zb<|K4 0 10 13 58 Y<|If h Y (fun h=>?_) fun h=>?_
    ·
     exact Zg<|Zh<|Zf<|K3 0 10 13 Y<|Z5 (cw:=md0) (by kernel_rfl)<|D1 0 Zc Y<|D1 1 Zc Y<|D1 5 Zc Y<|D1 6 Zc Y<|D2 7 ZI Y<|bE h fun x3 h_x3 h=>Dq 8 Y (Z4 (ov Y) (ov Y) QA Y Y h_x3)<|Dq 9 Y (Qj (ov Y) Y Y h_x3 tS3 Y)<|D1 10 Zc Y<|D1 11 Zc Y<|bE h fun x4 h_x4 h=>Dq 12 Y (Z4 (ov Y) (ov Y) QA Y Y h_x4)<|Dq 13 Y (Qj (ov Y) Y Y h_x4 tS3 Y)<|bE h fun x5 h_x5 h=>Dq 14 Y (Z4 (ov Y) (ov Y) QA Y Y h_x5)<|ZO 2 _ Y (by kernel_rfl) Y Y (fun hp'=>Zc<|ov Y)<|ZO 3 _ Y (by kernel_rfl) Y Y (fun hp'=>Zc<|ov Y)<|ZO 4 _ Y (by kernel_rfl) Y Y (fun hp'=>ZkV (ov Y) (ov Y) Y)<|Do 15 Y (Xg (u':=x3) (ov Y) (ov Y) (Zj tS3) Y Y h_x5 Y (Za Y) Y)<|bE h fun x6 h_x6 h=>Dq 16 Y (Z4 (ov Y) (ov Y) QA Y ((List.length_set ..).trans Y) h_x6)<|Do 17 Y (Xg (u':=x4) (ov Y) (ov Y) (Zj tS3) Y ((List.length_set ..).trans Y) h_x6 Y (Za Y) Y)<|Dd<|K3 0 10 13 Y<|Zo<|Rm Y<|R2 ZI Y<|Rz Y<|⟨_,h,ES [some 0]<|sr 0 Y (Zbu (Eq.symm<|(List.length_set ..).trans<|(List.length_set ..).trans Y) Y)<|sd 10 Y Y<|sd 13 Y Y sn⟩
    ·
     refine ZA<|?_
     replace h:=lx h▸ho2
     exact⟨_,h,ES [some 0]⟩
   ·
    obtain rfl:=rt h
    exact Zk<|Xu [some 0] Y .nil (.cons Y (roM D3) .nil) Y Y<|Qq rln
 ·
  refine Zg<|Zh<|K5 0 1 2 3 4 Y<|Tr<|Rm Y<|Rm Y<|R2 ZbR Y<|R2 Zae Y<|Zb<|K6 0 1 2 3 4 80 Y<|If h Y (fun h=>?_) fun h=>?_
  ·
   refine K4 0 1 2 4 Y<|Tr<|Rm Y<|Rz Y<|K4 0 2 4 14 Y<|Tr<|Rm Y<|Rz Y<|I1 (fun i3=>⟨[(0,.own 0 data.length),(2,.int .i64 m),(14,.int .i64 i3)],[some ⟨3,List.map R3 data⟩]⟩) h (fun h=>?_) fun i3 h=>?_
   ·
    refine Zf<|?_
    obtain⟨r3,hl3,ho3⟩:=QC h
    refine L2 (fun i4 j2=>⟨[(0,.own 0 data.length),(2,.int .i64 m),(4,.fn cmp_f cmp_c),(14,.int .i64 i4),(15,.int .i64 j2)],[some ⟨3,List.map R3 data⟩]⟩) hl3 (ES [some 0]<|sr 0 Y (.own _ Y)<|sd 2 Y Y<|sr 4 Y (rFn<|rld cmp_d)<|sd 14 Y Y<|sd 15 Y Y sn) fun n3 i4 j2 h=>?_
    unfold Qv at h
    refine Zh<|Tr<|Rm Y<|Rm Y<|R2 ZL Y<|Zb<|K6 0 2 4 14 15 85 Y<|If h Y (fun h=>?_) fun h=>?_
    ·
     refine Zg<|Zf<|K5 0 2 4 14 15 Y<|Tr<|Rm Y<|Rm Y<|R2 ZI Y<|Rq Y (Qh (ov Y) tI3 Zg9 Y)<|bE h fun q2 h_q2 h=>Rq Y (Zbf (ov Y) (ov Y) h_q2)<|Rq Y (Qh (ov Y) Zg9 tI3 Y)<|Rz Y<|Zh<|K6 0 2 4 14 15 16 Y<|Z5 (cw:=md0) (by kernel_rfl)<|D1 0 Zc Y<|D1 1 Zc Y<|D1 2 Zc Y<|bE h fun x7 h_x7 h=>Dq 3 Y (Z4 (ov Y) (ov Y) QA Y Y h_x7)<|Dq 4 Y (Qj (ov Y) Y Y h_x7 tS3 Y)<|D1 5 Zc Y<|D1 6 Zc Y<|bE h fun x8 h_x8 h=>Dq 7 Y (Z4 (ov Y) (ov Y) QA Y Y h_x8)<|Dq 8 Y (Qj (ov Y) Y Y h_x8 tS3 Y)<|bE h fun y2 h_y2 h=>Dq 9 Y (ZeS (ov Y) cmp_d (cmp_h _ _ _ h_y2)<|.cons (ov Y) (.b Y)<|.cons (ov Y) (.b Y) .nil)<|D2 10 ZL Y<|D1 11 XM Y<|Dd<|K7 0 2 4 14 15 16 103 Y<|If h Y (fun h=>?_) fun h=>?_
     ·
      exact K6 0 2 4 14 15 16 Y<|Zo<|Rm Y<|R2 ZI Y<|Rz Y<|⟨_,h,ES [some 0]<|sr 0 Y (.own _ Y)<|sd 2 Y Y<|sr 4 Y (rFn<|rld cmp_d)<|sd 14 Y Y<|sd 15 Y Y sn⟩
     ·
      exact K6 0 2 4 14 15 16 Y<|Zo<|Rm Y<|Rz Y<|⟨_,h,ES [some 0]<|sr 0 Y (.own _ Y)<|sd 2 Y Y<|sr 4 Y (rFn<|rld cmp_d)<|sd 14 Y Y<|sd 15 Y Y sn⟩
    ·
     refine ZA<|?_
     replace h:=lx h▸ho3
     exact⟨_,h,ES [some 0]⟩
   ·
    refine I1 (fun o3=>⟨[],[some ⟨3,List.map R3 o3⟩]⟩) h (fun h=>?_) fun o3 h=>?_
    ·
     refine Tr<|Rm Y<|Rz Y<|Zf<|?_
     obtain⟨r4,hl4,ho4⟩:=QC h
     refine L2 (fun o4 k2=>⟨[(0,.own 0 o4.length),(14,.int .i64 i3),(17,.int .i64 k2)],[some ⟨3,List.map R3 o4⟩]⟩) hl4 (ES [some 0]) fun n4 o4 k2 h=>?_
     unfold ZX at h
     refine Zh<|Tr<|Rm Y<|Rm Y<|R2 Za9 Y<|Zb<|K4 0 14 17 110 Y<|If h Y (fun h=>?_) fun h=>?_
     ·
      exact Zg<|Zh<|Zf<|K3 0 14 17 Y<|Z5 (cw:=md0) (by kernel_rfl)<|D1 0 Zc Y<|D1 1 Zc Y<|D1 5 Zc Y<|D1 6 Zc Y<|D2 7 ZbR Y<|bE h fun x9 h_x9 h=>Dq 8 Y (Z4 (ov Y) (ov Y) QA Y Y h_x9)<|Dq 9 Y (Qj (ov Y) Y Y h_x9 tS3 Y)<|D1 10 Zc Y<|D1 11 Zc Y<|bE h fun x10 h_x10 h=>Dq 12 Y (Z4 (ov Y) (ov Y) QA Y Y h_x10)<|Dq 13 Y (Qj (ov Y) Y Y h_x10 tS3 Y)<|bE h fun x11 h_x11 h=>Dq 14 Y (Z4 (ov Y) (ov Y) QA Y Y h_x11)<|ZO 2 _ Y (by kernel_rfl) Y Y (fun hp'=>Zc<|ov Y)<|ZO 3 _ Y (by kernel_rfl) Y Y (fun hp'=>Zc<|ov Y)<|ZO 4 _ Y (by kernel_rfl) Y Y (fun hp'=>Zn8 (ov Y) (ov Y) Y)<|Do 15 Y (Xg (u':=x9) (ov Y) (ov Y) (Zj tS3) Y Y h_x11 Y (Za Y) Y)<|bE h fun x12 h_x12 h=>Dq 16 Y (Z4 (ov Y) (ov Y) QA Y ((List.length_set ..).trans Y) h_x12)<|Do 17 Y (Xg (u':=x10) (ov Y) (ov Y) (Zj tS3) Y ((List.length_set ..).trans Y) h_x12 Y (Za Y) Y)<|Dd<|K3 0 14 17 Y<|Zo<|Rm Y<|R2 ZbR Y<|Rz Y<|⟨_,h,ES [some 0]<|sr 0 Y (Zbu (Eq.symm<|(List.length_set ..).trans<|(List.length_set ..).trans Y) Y)<|sd 14 Y Y<|sd 17 Y Y sn⟩
     ·
      refine ZA<|?_
      replace h:=lx h▸ho4
      exact⟨_,h,ES [some 0]⟩
    ·
     obtain rfl:=rt h
     exact Zk<|Xu [some 0] Y .nil (.cons Y (roM D3) .nil) Y Y<|Qq rln
  ·
   refine Zg<|K5 0 1 2 3 4 Y<|Tr<|Rm Y<|Rm Y<|R2 ZI Y<|Rq Y (Qh (ov Y) tI3 Zg9 Y)<|bE h fun q3 h_q3 h=>Rq Y (Zbf (ov Y) (ov Y) h_q3)<|Rq Y (Qh (ov Y) Zg9 tI3 Y)<|Rz Y<|K6 0 1 2 3 4 18 Y<|Tr<|Rm Y<|Rm Y<|R2 ZI Y<|Rz Y<|K7 0 1 2 3 4 18 19 Y<|Tr<|Ra Y<|Rz Y<|I2 (fun start r_=>⟨[(0,.own 0 data.length),(1,.int .i64 a),(2,.int .i64 m),(3,.int .i64 b),(4,.fn cmp_f cmp_c),(18,.int .i64 (i64 q3)),(19,.int .i64 (i64 ((i64 q3)+m))),(20,.int .i64 start),(21,.int .i64 r_)],[some ⟨3,List.map R3 data⟩]⟩) h (fun h=>?_) fun start r_ h=>?_
   ·
    refine K7 0 1 2 3 4 18 19 Y<|Tr<|Rm Y<|Rm Y<|R2 Za9 Y<|Zb<|K8 0 1 2 3 4 18 19 140 Y<|If h Y (fun h=>?_) fun h=>?_
    ·
     exact K7 0 1 2 3 4 18 19 Y<|Tr<|Rm Y<|Rm Y<|R2 ZbR Y<|Rz Y<|K8 0 1 2 3 4 18 19 20 Y<|Zo<|Rm Y<|Rz Y<|⟨_,h,ES [some 0]<|sr 0 Y (.own _ Y)<|sd 1 Y Y<|sd 2 Y Y<|sd 3 Y Y<|sr 4 Y (rFn<|rld cmp_d)<|sd 18 Y Y<|sd 19 Y Y<|sd 20 Y Y<|sd 21 Y Y sn⟩
    ·
     exact K7 0 1 2 3 4 18 19 Y<|Tr<|Rm Y<|Rz Y<|K8 0 1 2 3 4 18 19 20 Y<|Zo<|Rm Y<|Rz Y<|⟨_,h,ES [some 0]<|sr 0 Y (.own _ Y)<|sd 1 Y Y<|sd 2 Y Y<|sd 3 Y Y<|sr 4 Y (rFn<|rld cmp_d)<|sd 18 Y Y<|sd 19 Y Y<|sd 20 Y Y<|sd 21 Y Y sn⟩
   ·
    refine Tr<|Rm Y<|R2 ZbR Y<|Rz Y<|I1 (fun start2=>⟨[(0,.own 0 data.length),(1,.int .i64 a),(2,.int .i64 m),(3,.int .i64 b),(4,.fn cmp_f cmp_c),(18,.int .i64 (i64 q3)),(19,.int .i64 (i64 ((i64 q3)+m))),(20,.int .i64 start2)],[some ⟨3,List.map R3 data⟩]⟩) h (fun h=>?_) fun start2 h=>?_
    ·
     refine Zf<|?_
     obtain⟨r5,hl5,ho5⟩:=QC h
     refine L2 (fun start3 r_2=>⟨[(0,.own 0 data.length),(1,.int .i64 a),(2,.int .i64 m),(3,.int .i64 b),(4,.fn cmp_f cmp_c),(18,.int .i64 (i64 q3)),(19,.int .i64 (i64 ((i64 q3)+m))),(20,.int .i64 start3),(21,.int .i64 r_2),(22,.int .i64 (i64 ((i64 ((i64 q3)+m))-1)))],[some ⟨3,List.map R3 data⟩]⟩) hl5 (ES [some 0]<|sr 0 Y (.own _ Y)<|sd 1 Y Y<|sd 2 Y Y<|sd 3 Y Y<|sr 4 Y (rFn<|rld cmp_d)<|sd 18 Y Y<|sd 19 Y Y<|sd 20 Y Y<|sd 21 Y Y<|sd 22 Y Y sn) fun n5 start3 r_2 h=>?_
     unfold QO at h
     refine Zh<|Tr<|Rm Y<|Rm Y<|R2 ZL Y<|Zb<|K11 0 1 2 3 4 18 19 20 21 22 151 Y<|If h Y (fun h=>?_) fun h=>?_
     ·
      refine Zg<|Zf<|K10 0 1 2 3 4 18 19 20 21 22 Y<|Tr<|Rm Y<|Rm Y<|R2 ZI Y<|Rq Y (Qh (ov Y) tI3 Zg9 Y)<|bE h fun q4 h_q4 h=>Rq Y (Zbf (ov Y) (ov Y) h_q4)<|Rq Y (Qh (ov Y) Zg9 tI3 Y)<|Rz Y<|Zh<|K11 0 1 2 3 4 18 19 20 21 22 23 Y<|Z5 (cw:=md0) (by kernel_rfl)<|D1 0 Zc Y<|D1 1 Zc Y<|D1 2 Zc Y<|D1 3 Zc Y<|D2 4 ZbR Y<|bE h fun x13 h_x13 h=>Dq 5 Y (Z4 (ov Y) (ov Y) QA Y Y h_x13)<|Dq 6 Y (Qj (ov Y) Y Y h_x13 tS3 Y)<|D1 7 Zc Y<|D1 8 Zc Y<|bE h fun x14 h_x14 h=>Dq 9 Y (Z4 (ov Y) (ov Y) QA Y Y h_x14)<|Dq 10 Y (Qj (ov Y) Y Y h_x14 tS3 Y)<|bE h fun y3 h_y3 h=>Dq 11 Y (ZeS (ov Y) cmp_d (cmp_h _ _ _ h_y3)<|.cons (ov Y) (.b Y)<|.cons (ov Y) (.b Y) .nil)<|D2 12 ZL Y<|D1 13 XM Y<|Dd<|K12 0 1 2 3 4 18 19 20 21 22 23 171 Y<|If h Y (fun h=>?_) fun h=>?_
      ·
       exact K11 0 1 2 3 4 18 19 20 21 22 23 Y<|Zo<|Rm Y<|R2 ZI Y<|Rz Y<|⟨_,h,ES [some 0]<|sr 0 Y (.own _ Y)<|sd 1 Y Y<|sd 2 Y Y<|sd 3 Y Y<|sr 4 Y (rFn<|rld cmp_d)<|sd 18 Y Y<|sd 19 Y Y<|sd 20 Y Y<|sd 21 Y Y<|sd 22 Y Y sn⟩
      ·
       exact K11 0 1 2 3 4 18 19 20 21 22 23 Y<|Zo<|Rm Y<|Rz Y<|⟨_,h,ES [some 0]<|sr 0 Y (.own _ Y)<|sd 1 Y Y<|sd 2 Y Y<|sd 3 Y Y<|sr 4 Y (rFn<|rld cmp_d)<|sd 18 Y Y<|sd 19 Y Y<|sd 20 Y Y<|sd 21 Y Y<|sd 22 Y Y sn⟩
     ·
      refine ZA<|?_
      replace h:=lx h▸ho5
      exact⟨_,h,ES [some 0]<|sr 0 Y (.own _ Y)<|sd 1 Y Y<|sd 2 Y Y<|sd 3 Y Y<|sr 4 Y (rFn<|rld cmp_d)<|sd 18 Y Y<|sd 19 Y Y<|sd 20 Y Y sn⟩
    ·
     refine Tr<|Rm Y<|Rm Y<|R2 ZbR Y<|Rz Y<|I1 (fun o5=>⟨[(0,.own 0 o5.length),(1,.int .i64 a),(3,.int .i64 b),(4,.fn cmp_f cmp_c),(18,.int .i64 (i64 q3)),(20,.int .i64 start2),(24,.int .i64 (i64 ((i64 ((i64 q3)+m))-start2)))],[some ⟨3,List.map R3 o5⟩]⟩) h (fun h=>?_) fun o5 h=>?_
     ·
      refine K8 0 1 2 3 4 18 20 24 Y<|Tr<|Rm Y<|Rm Y<|R2 ZL Y<|Rm Y<|Rq Y (.guarded ((decide (start2<m))==true) Y Y Y Y fun h=>Zc<|ov Y)<|Rq Y (.guarded ((decide (start2<m))==true) Y Y Y Y fun h=>Zc<|ov Y)<|Rq Y (.guarded ((decide (start2<m))==true) Y Y Y Y fun h=>ZL (ow Y h)<|ow Y h)<|Rq Y (J6 (ov Y) fun hp=>ow Y<|gT hp)<|Zb<|K9 0 1 2 3 4 18 20 24 185 Y<|If h Y (fun h=>?_) fun h=>?_
      ·
       exact K8 0 1 2 3 4 18 20 24 Y<|Zo<|Rm Y<|Rm Y<|Rm Y<|Rm Y<|Rm Y<|bE h fun y4 h_y4 h=>Rx Y (Zz [0] (ZeM cmp_d cmp_h h_y4) (.cons (ov Y) (.own _ Y)<|.cons (ov Y) (.dat Y)<|.cons (ov Y) (.dat Y)<|.cons (ov Y) (.dat Y)<|.cons (ov Y) (rFn<|rld cmp_d) .nil) (.cons Y (roM D3) .nil) Y (.lent 0 (.inl Y) Y (roM D3) .nil) Y Y<|Qq<|rld Y)<|Zb<|⟨_,h,ES [some 0]<|sr 0 Y (Zbu (Eq.symm<|Zbs h_y4) Y)<|sd 1 Y Y<|sd 3 Y Y<|sr 4 Y (rFn<|rld cmp_d)<|sd 18 Y Y<|sd 20 Y Y<|sd 24 Y Y sn⟩
      ·
       exact Zg<|⟨_,h,ES [some 0]<|sr 0 Y (.own _ Y)<|sd 1 Y Y<|sd 3 Y Y<|sr 4 Y (rFn<|rld cmp_d)<|sd 18 Y Y<|sd 20 Y Y<|sd 24 Y Y sn⟩
     ·
      refine I1 (fun o6=>⟨[(0,.own 0 o6.length),(3,.int .i64 b),(4,.fn cmp_f cmp_c),(18,.int .i64 (i64 q3)),(24,.int .i64 (i64 ((i64 ((i64 q3)+m))-start2)))],[some ⟨3,List.map R3 o6⟩]⟩) h (fun h=>?_) fun o6 h=>?_
      ·
       refine Tr<|Rm Y<|Rm Y<|R2 ZL Y<|Rm Y<|Rq Y (.guarded ((decide (a<start2))==true) Y Y Y Y fun h=>Zc<|ov Y)<|Rq Y (.guarded ((decide (a<start2))==true) Y Y Y Y fun h=>Zc<|ov Y)<|Rq Y (.guarded ((decide (a<start2))==true) Y Y Y Y fun h=>ZL (ow Y h)<|ow Y h)<|Rq Y (J6 (ov Y) fun hp=>ow Y<|gT hp)<|Zb<|K8 0 1 3 4 18 20 24 199 Y<|If h Y (fun h=>?_) fun h=>?_
       ·
        exact K7 0 1 3 4 18 20 24 Y<|Zo<|Rm Y<|Rm Y<|Rm Y<|Rm Y<|Rm Y<|bE h fun y5 h_y5 h=>Rx Y (Zz [0] (hrec cmp_d cmp_h h_y5) (.cons (ov Y) (.own _ Y)<|.cons (ov Y) (.dat Y)<|.cons (ov Y) (.dat Y)<|.cons (ov Y) (.dat Y)<|.cons (ov Y) (rFn<|rld cmp_d) .nil) (.cons Y (roM D3) .nil) Y (.lent 0 (.inl Y) Y (roM D3) .nil) Y Y<|Qq<|rld Y)<|Zb<|⟨_,h,ES [some 0]<|sr 0 Y (Zbu (Eq.symm<|ln_rec_ h_y5) Y)<|sd 3 Y Y<|sr 4 Y (rFn<|rld cmp_d)<|sd 18 Y Y<|sd 24 Y Y sn⟩
       ·
        exact Zg<|⟨_,h,ES [some 0]<|sr 0 Y (.own _ Y)<|sd 3 Y Y<|sr 4 Y (rFn<|rld cmp_d)<|sd 18 Y Y<|sd 24 Y Y sn⟩
      ·
       refine Tr<|Rm Y<|Rm Y<|R2 ZL Y<|Rm Y<|Rq Y (.guarded ((decide ((i64 q3)<(i64 ((i64 ((i64 q3)+m))-start2))))==true) Y Y Y Y fun h=>Zc<|ov Y)<|Rq Y (.guarded ((decide ((i64 q3)<(i64 ((i64 ((i64 q3)+m))-start2))))==true) Y Y Y Y fun h=>Zc<|ov Y)<|Rq Y (.guarded ((decide ((i64 q3)<(i64 ((i64 ((i64 q3)+m))-start2))))==true) Y Y Y Y fun h=>ZL (ow Y h)<|ow Y h)<|Rq Y (J6 (ov Y) fun hp=>ow Y<|gT hp)<|Zb<|K6 0 3 4 18 24 213 Y<|If h Y (fun h=>?_) fun h=>?_
       ·
        refine K5 0 3 4 18 24 Y<|Zo<|Rm Y<|Rm Y<|Rm Y<|Rm Y<|Rm Y<|bE h fun y6 h_y6 h=>Rx Y (Zz [0] (hrec cmp_d cmp_h h_y6) (.cons (ov Y) (.own _ Y)<|.cons (ov Y) (.dat Y)<|.cons (ov Y) (.dat Y)<|.cons (ov Y) (.dat Y)<|.cons (ov Y) (rFn<|rld cmp_d) .nil) (.cons Y (roM D3) .nil) Y (.lent 0 (.inl Y) Y (roM D3) .nil) Y Y<|Qq<|rld Y)<|Zb<|?_
        obtain rfl:=rt h
        exact Zh0 [some 0] Y .nil (.cons Y (roM D3) .nil) Y Y<|Qq rln
       ·
        refine Zg<|?_
        obtain rfl:=rt h
        exact Zh0 [some 0] Y .nil (.cons Y (roM D3) .nil) Y Y<|Qq rln
theorem ZaS{n_:Nat}{data:List Int}{a:Int}{m:Int}{b:Int}{cmp:Int→Int→Option Int}{r:(List Int)}{cmp_f:FuncId}{cmp_c:List AV}(cmp_d:cmp_c.all datB=true)(cmp_h: ∀ (z0:Int) (z1:Int) z,cmp z0 z1=some z→CSpec Tryz.prog gl0 cmp_f ([.int .i64 z0,.int .i64 z1]++cmp_c) (.int .i64 z))(h:ZQ n_ data a m b cmp=some r):
 GSpec Tryz.prog gl0 139 [.own 0 data.length,.int .i64 a,.int .i64 m,.int .i64 b,.fn cmp_f cmp_c] [some ⟨3,List.map R3 data⟩] (.tuple []) [some ⟨3,List.map R3 r⟩]:=by
 induction n_ generalizing data a m b cmp r cmp_f cmp_c with
 |zero=>cases h
 |succ n ih=>exact Zdw cmp_d cmp_h QN (fun cmp_d cmp_h h=>ih cmp_d cmp_h h) h
theorem ZeR{data:List Int}{n:Int}{cmp:Int→Int→Option Int}{r:(List Int)}{cmp_f:FuncId}{cmp_c:List AV}(cmp_d:cmp_c.all datB=true)(cmp_h: ∀ (z0:Int) (z1:Int) z,cmp z0 z1=some z→CSpec Tryz.prog gl0 cmp_f ([.int .i64 z0,.int .i64 z1]++cmp_c) (.int .i64 z))(h:Qp data n cmp=some r):
 GSpec Tryz.prog gl0 128 [.own 0 data.length,.int .i64 n,.fn cmp_f cmp_c] [some ⟨3,List.map R3 data⟩] (.tuple []) [some ⟨3,List.map R3 r⟩]:=by
 unfold Qp at h
 replace h:=Qb h
 refine Ql (by kernel_rfl) Tryz.func128 Y Y<|?_
 intro w0 A W φ0
 refine Tr<|Rz Y<|Tr<|Rm Y<|Ra Y<|Rz Y<|I2 (fun o a=>⟨[(0,.own 0 o.length),(1,.int .i64 n),(2,.fn cmp_f cmp_c),(6,.int .i64 20),(7,.int .i64 a)],[some ⟨3,List.map R3 o⟩]⟩) h (fun h=>?_) fun o a h=>?_
 ·
  refine Zf<|?_
  obtain⟨r1,hl1,ho1⟩:=QC h
  refine L3 (fun o2 a2 b=>⟨[(0,.own 0 o2.length),(1,.int .i64 n),(2,.fn cmp_f cmp_c),(6,.int .i64 20),(7,.int .i64 a2),(8,.int .i64 b)],[some ⟨3,List.map R3 o2⟩]⟩) hl1 (ES [some 0]<|sr 0 Y (.own _ Y)<|sd 1 Y Y<|sr 2 Y (rFn<|rld cmp_d)<|sd 6 Y Y<|sd 7 Y Y<|sd 8 Y Y sn) fun n1 o2 a2 b h=>?_
  unfold ZT at h
  refine Zh<|Tr<|Rm Y<|Rm Y<|R2 ZiK Y<|Zb<|K7 0 1 2 6 7 8 13 Y<|If h Y (fun h=>?_) fun h=>?_
  ·
   exact Zg<|Zf<|K6 0 1 2 6 7 8 Y<|Tr<|Rm Y<|Rm Y<|Rm Y<|Rm Y<|bE h fun y h_y h=>Rx Y (Zz [0] (JS cmp_d cmp_h h_y) (.cons (ov Y) (.own _ Y)<|.cons (ov Y) (.dat Y)<|.cons (ov Y) (.dat Y)<|.cons (ov Y) (rFn<|rld cmp_d) .nil) (.cons Y (roM D3) .nil) Y (.lent 0 (.inl Y) Y (roM D3) .nil) Y Y<|Qq<|rld Y)<|Zb<|K6 0 1 2 6 7 8 Y<|Tr<|Rm Y<|Rz Y<|K6 0 1 2 6 7 8 Y<|Zo<|Rm Y<|Rm Y<|R2 ZI Y<|Rz Y<|⟨_,h,ES [some 0]<|sr 0 Y (Zbu (Eq.symm<|QQ h_y) Y)<|sd 1 Y Y<|sr 2 Y (rFn<|rld cmp_d)<|sd 6 Y Y<|sd 7 Y Y<|sd 8 Y Y sn⟩
  ·
   refine ZA<|?_
   replace h:=lx h▸ho1
   exact⟨_,h,ES [some 0]<|sr 0 Y (.own _ Y)<|sd 1 Y Y<|sr 2 Y (rFn<|rld cmp_d)<|sd 6 Y Y<|sd 7 Y Y sn⟩
 ·
  refine Tr<|Rm Y<|Rm Y<|Rm Y<|Rm Y<|bE h fun y2 h_y2 h=>Rx Y (Zz [0] (JS cmp_d cmp_h h_y2) (.cons (ov Y) (.own _ Y)<|.cons (ov Y) (.dat Y)<|.cons (ov Y) (.dat Y)<|.cons (ov Y) (rFn<|rld cmp_d) .nil) (.cons Y (roM D3) .nil) Y (.lent 0 (.inl Y) Y (roM D3) .nil) Y Y<|Qq<|rld Y)<|Zb<|Zf<|?_
  obtain⟨r2,hl2,ho2⟩:=QC h
  refine L2 (fun o3 blockSize=>⟨[(0,.own 0 o3.length),(1,.int .i64 n),(2,.fn cmp_f cmp_c),(6,.int .i64 blockSize)],[some ⟨3,List.map R3 o3⟩]⟩) hl2 (ES [some 0]<|sr 0 Y (Zbu (Eq.symm<|QQ h_y2) Y)<|sd 1 Y Y<|sr 2 Y (rFn<|rld cmp_d)<|sd 6 Y Y sn) fun n2 o3 blockSize h=>?_
  unfold ZM at h
  refine Zh<|Tr<|Rm Y<|Rm Y<|R2 ZL Y<|Zb<|K5 0 1 2 6 30 Y<|If h Y (fun h=>?_) fun h=>?_
  ·
   refine Zg<|Zf<|K4 0 1 2 6 Y<|Tr<|Rm Y<|R2 ZeC Y<|Ra Y<|Rz Y<|I2 (fun o4 a3=>⟨[(0,.own 0 o4.length),(1,.int .i64 n),(2,.fn cmp_f cmp_c),(6,.int .i64 blockSize),(7,.int .i64 a3)],[some ⟨3,List.map R3 o4⟩]⟩) h (fun h=>?_) fun o4 a3 h=>?_
   ·
    refine Zf<|?_
    obtain⟨r3,hl3,ho3⟩:=QC h
    refine L3 (fun o5 a4 b2=>⟨[(0,.own 0 o5.length),(1,.int .i64 n),(2,.fn cmp_f cmp_c),(6,.int .i64 blockSize),(7,.int .i64 a4),(8,.int .i64 b2)],[some ⟨3,List.map R3 o5⟩]⟩) hl3 (ES [some 0]<|sr 0 Y (.own _ Y)<|sd 1 Y Y<|sr 2 Y (rFn<|rld cmp_d)<|sd 6 Y Y<|sd 7 Y Y<|sd 8 Y Y sn) fun n3 o5 a4 b2 h=>?_
    unfold ZN at h
    refine Zh<|Tr<|Rm Y<|Rm Y<|R2 ZiK Y<|Zb<|K7 0 1 2 6 7 8 35 Y<|If h Y (fun h=>?_) fun h=>?_
    ·
     exact Zg<|Zf<|K6 0 1 2 6 7 8 Y<|Tr<|Rm Y<|Rm Y<|Rm Y<|Rm Y<|R2 ZI Y<|Rm Y<|Rm Y<|bE h fun y3 h_y3 h=>Rx Y (Zz [0] (ZaS cmp_d cmp_h h_y3) (.cons (ov Y) (.own _ Y)<|.cons (ov Y) (.dat Y)<|.cons (ov Y) (.dat Y)<|.cons (ov Y) (.dat Y)<|.cons (ov Y) (rFn<|rld cmp_d) .nil) (.cons Y (roM D3) .nil) Y (.lent 0 (.inl Y) Y (roM D3) .nil) Y Y<|Qq<|rld Y)<|Zb<|K6 0 1 2 6 7 8 Y<|Tr<|Rm Y<|Rz Y<|K6 0 1 2 6 7 8 Y<|Zo<|Rm Y<|Rm Y<|R2 ZeC Y<|R2 ZI Y<|Rz Y<|⟨_,h,ES [some 0]<|sr 0 Y (Zbu (Eq.symm<|QN h_y3) Y)<|sd 1 Y Y<|sr 2 Y (rFn<|rld cmp_d)<|sd 6 Y Y<|sd 7 Y Y<|sd 8 Y Y sn⟩
    ·
     refine ZA<|?_
     replace h:=lx h▸ho3
     exact⟨_,h,ES [some 0]<|sr 0 Y (.own _ Y)<|sd 1 Y Y<|sr 2 Y (rFn<|rld cmp_d)<|sd 6 Y Y<|sd 7 Y Y sn⟩
   ·
    refine Zh<|Tr<|Rm Y<|Rm Y<|R2 ZI Y<|Rz Y<|K6 0 1 2 6 7 9 Y<|Tr<|Rm Y<|Rm Y<|R2 ZL Y<|Zb<|K7 0 1 2 6 7 9 54 Y<|If h Y (fun h=>?_) fun h=>?_
    ·
     exact K6 0 1 2 6 7 9 Y<|Zo<|Rm Y<|Rm Y<|Rm Y<|Rm Y<|Rm Y<|bE h fun y4 h_y4 h=>Rx Y (Zz [0] (ZaS cmp_d cmp_h h_y4) (.cons (ov Y) (.own _ Y)<|.cons (ov Y) (.dat Y)<|.cons (ov Y) (.dat Y)<|.cons (ov Y) (.dat Y)<|.cons (ov Y) (rFn<|rld cmp_d) .nil) (.cons Y (roM D3) .nil) Y (.lent 0 (.inl Y) Y (roM D3) .nil) Y Y<|Qq<|rld Y)<|Zb<|K4 0 1 2 6 Y<|Zo<|Rm Y<|R2 ZeC Y<|Rz Y<|⟨_,h,ES [some 0]<|sr 0 Y (Zbu (Eq.symm<|QN h_y4) Y)<|sd 1 Y Y<|sr 2 Y (rFn<|rld cmp_d)<|sd 6 Y Y sn⟩
    ·
     exact Zg<|K4 0 1 2 6 Y<|Zo<|Rm Y<|R2 ZeC Y<|Rz Y<|⟨_,h,ES [some 0]<|sr 0 Y (.own _ Y)<|sd 1 Y Y<|sr 2 Y (rFn<|rld cmp_d)<|sd 6 Y Y sn⟩
  ·
   refine ZA<|?_
   replace h:=lx h▸ho2
   obtain rfl:=rt h
   exact Zh0 [some 0] Y .nil (.cons Y (roM D3) .nil) Y Y<|Qq rln
theorem ZcN{x:List Int}{cmp:Int→Int→Option Int}{r:(List Int)}{cmp_f:FuncId}{cmp_c:List AV}(cmp_d:cmp_c.all datB=true)(cmp_h: ∀ (z0:Int) (z1:Int) z,cmp z0 z1=some z→CSpec Tryz.prog gl0 cmp_f ([.int .i64 z0,.int .i64 z1]++cmp_c) (.int .i64 z))(h:ZW x cmp=some r):
 GSpec Tryz.prog gl0 104 [.own 0 x.length,.fn cmp_f cmp_c] [some ⟨3,List.map R3 x⟩] (.tuple []) [some ⟨3,List.map R3 r⟩]:=by
 unfold ZW at h
 replace h:=Qb h
 refine Ql (by kernel_rfl) Tryz.func104 Y Y<|?_
 intro w0 A W φ0
 refine Zo<|Rm Y<|Rm Y<|Rq Y (Zb9 (ov Y) Y Y QA)<|Rm Y<|bE h fun y h_y h=>Rx Y (Zz [0] (ZeR cmp_d cmp_h h_y) (.cons (ov Y) (.own _ Y)<|.cons (ov Y) (.dat Y)<|.cons (ov Y) (rFn<|rld cmp_d) .nil) (.cons Y (roM D3) .nil) Y (.lent 0 (.inl Y) Y (roM D3) .nil) Y Y<|Qq<|rld Y)<|Zb<|?_
 obtain rfl:=rt h
 exact Zh0 [some 0] Y .nil (.cons Y (roM D3) .nil) Y Y<|Qq rln
theorem ZfN{i:Int}{c0:api_Memory}{r:Int}(h:Jn i c0=some r):
 CSpec Tryz.prog gl0 103 [.int .i64 i,.rp [.int .i64 c0.Slots,.int .i64 c0.Limit,.sl 22 (List.map R22 c0.Sectors),.sl 3 (List.map R3 c0.Wear),.sl 4 (List.map R4 c0.Bad)] 0] (.int .i64 r):=by
 unfold Jn at h
 replace h:=Qb h
 refine So Tryz.func103 Y fun w0 A=>Tr<|Rz Y<|K2 0 1 Y<|Tr<|Rq Y (Zv (ov Y) Z9)<|Rq Y (Zd (ov Y) Q7 Y)<|Rm Y<|bE h fun x h_x h=>Rq Y (ZP (ov Y) (ov Y) Q3 h_x)<|Rq Y (Zd (ov Y) Zek Y)<|bE h fun y h_y h=>Rq Y (Zq (Zdv h_y)<|.cons (ov Y) (.b Y) .nil)<|Rm Y<|Rj Y Y Y<|Rj Y Y Y<|Rj Y Y Y<|Ra Y<|Ra Y<|Rz Y<|K1 4 Y<|Tr<|Rm Y<|Rz Y<|?_
 obtain rfl:=rt h
 exact Zk (ZK Y (.one<|rb Y))
theorem Zi2{a:Int}{b:Int}{k:api_Memory}{r:Int}(h:Jq a b k=some r):
 CSpec Tryz.prog gl0 105 [.int .i64 a,.int .i64 b,.rp [.fn 103 [.rp [.int .i64 k.Slots,.int .i64 k.Limit,.sl 22 (List.map R22 k.Sectors),.sl 3 (List.map R3 k.Wear),.sl 4 (List.map R4 k.Bad)] 0]] 0] (.int .i64 r):=by
 unfold Jq at h
 replace h:=Qb h
 refine So Tryz.func105 Y fun w0 A=>Tr<|Rz Y<|Zh<|Z5 (cw:=md0) (by kernel_rfl)<|Dq 0 Y (Zd (ov Y) Zo9 Y)<|D1 1 Zc Y<|bE h fun y h_y h=>Dq 2 Y (ZeS (ov Y) Y (ZfN h_y)<|.cons (ov Y) (.b Y) .nil)<|Dq 3 Y (Zd (ov Y) Zo9 Y)<|D1 4 Zc Y<|bE h fun y2 h_y2 h=>Dq 5 Y (ZeS (ov Y) Y (ZfN h_y2)<|.cons (ov Y) (.b Y) .nil)<|D2 6 ZbR Y<|D1 7 ZS Y<|Dd<|?_
 obtain rfl:=rt h
 exact Zk (ZK Y (.one<|rb Y))
theorem ZgO{m:api_Memory}{r:(List Int)}(h:XU m=some r):
 CSpec Tryz.prog gl0 69 [.agg [.int .i64 m.Slots,.int .i64 m.Limit,.sl 22 (List.map R22 m.Sectors),.sl 3 (List.map R3 m.Wear),.sl 4 (List.map R4 m.Bad)]] (.sl 3 (List.map R3 r)):=by
 unfold XU at h
 replace h:=Qb h
 refine So Tryz.func69 Y fun w0 A=>Tr<|Rq Y (JL (cva<|ov Y) Y tZ_59 Y)<|Rz Y<|K1 1 Y<|Tr<|Rz Y<|Tr<|Rq Y (Zk9<|.cons (ov Y) .nil)<|Rx Y (Qd (row:= [_]) 0 Y Zs4 Y tZ_109)<|Rx Y (Zm (ov Y) (ov Y) (Zj Zo9) Y Y Y (nL Y) (Za Y) Y)<|Zb<|I1 (fun out=>⟨[(3,.own 0 out.length),(4,.ptr 1 1 0 0)],[some ⟨3,List.map R3 out⟩,some ⟨109,[[.fn 103 [.rp [.int .i64 m.Slots,.int .i64 m.Limit,.sl 22 (List.map R22 m.Sectors),.sl 3 (List.map R3 m.Wear),.sl 4 (List.map R4 m.Bad)] 0]]]⟩]⟩) h (fun h=>?_) fun out h=>?_
 ·
  refine K3 1 3 4 Y<|Tr<|Rq Y (Zv (ov Y) Z9)<|Rq Y (Zd (ov Y) Q7 Y)<|Rl tZ_22 Q3 Y<|Rm Y<|Zb<|Zf<|?_
  obtain⟨r1,hl1,ho1⟩:=QC h
  refine L2 (fun out2 i=>⟨[(1,.rp [.int .i64 m.Slots,.int .i64 m.Limit,.sl 22 (List.map R22 m.Sectors),.sl 3 (List.map R3 m.Wear),.sl 4 (List.map R4 m.Bad)] 0),(3,.own 0 out2.length),(4,.ptr 1 1 0 0),(12,.sl 22 (List.map R22 m.Sectors)),(13,.int .i64 (m.Sectors.length:Int)),(14,.int .i64 i)],[some ⟨3,List.map R3 out2⟩,some ⟨109,[[.fn 103 [.rp [.int .i64 m.Slots,.int .i64 m.Limit,.sl 22 (List.map R22 m.Sectors),.sl 3 (List.map R3 m.Wear),.sl 4 (List.map R4 m.Bad)] 0]]]⟩]⟩) hl1 (ES [none,some 0] (hhp:= .row 3<|.cons Y (ro1 (by exact tZ_109.symm)<|rlc (rFn<|rlD Y rln) rln) .nil)) fun n1 out2 i h=>?_
  unfold JB at h
  refine Tr<|R2 ZL Y<|Zb<|Zh<|If h Y (fun h=>?_) fun h=>?_
  ·
   refine Zg<|Zh<|Zf<|K6 1 3 4 12 13 14 Y<|Tr<|Rm Y<|bE h fun x h_x h=>Rq Y (ZP (ov Y) (ov Y) Q3 h_x)<|Rq Y (Zd (ov Y) Zek Y)<|Ra Y<|Rz Y<|K8 1 3 4 5 6 12 13 14 Y<|Tr<|Rm Y<|bE h fun y h_y h=>Rq Y (Zq (Zdv h_y)<|.cons (ov Y) (.b Y) .nil)<|Rm Y<|Rj Y Y Y<|Rj Y Y Y<|Rj Y Y Y<|Ra Y<|Ra Y<|Rz Y<|K8 1 3 4 5 9 12 13 14 Y<|Tr<|Rm Y<|Rm Y<|Rq Y (.guarded (y.2.2==true) Y Y Y Y fun h=>Zv (ov Y) ZdK)<|Rq Y (.guarded (y.2.2==true) Y Y Y Y fun h=>Zd (ow Y h) ZiA Y)<|Rq Y (.guarded (y.2.2==true) Y Y Y Y fun h=>Zc<|ov Y)<|bE h fun x2 h_x2 h=>Rq Y (.guarded (y.2.2==true) Y Y Y Y fun h=>ZP (ow Y h) (ow Y h) Zgl<|gdT h_x2 h)<|Rq Y (.guarded (y.2.2==true) Y Y Y Y fun h=>Zd (ow Y h) tS4 Y)<|Rq Y (.guarded (y.2.2==true) Y Y Y Y fun h=>XM<|ow Y h)<|Rq Y (J6 (ov Y) fun hp=>ow Y<|gT hp)<|Zb<|K8 1 3 4 5 12 13 14 33 Y<|If h Y (fun h=>?_) fun h=>?_
   ·
    exact K7 1 3 4 5 12 13 14 Y<|Zo<|Rm Y<|Rm Y<|R_q (.sl 3<|List.map R3 ([i]:List Int)) Y (Jc QA (.cons (cvs (ov Y)<|Zn Y) Y (.cons (.b Y) .nil) .nil) Y Y)<|bE h fun l h_l h=>Rx Y (QK (ov Y) (Qr (ov Y) tZ_3) QA Y Y Y (fun _=>Za Y) Y h_l)<|Rz Y<|K6 1 3 4 12 13 14 Y<|Zo<|R2 ZI Y<|Rm Y<|Zb<|⟨_,h,ES [some 0,some 1] (hhp:= .cons Y (roM D3)<|.cons Y (ro1 (by exact tZ_109.symm)<|rlc (rFn<|rlD Y rln) rln) .nil)⟩
   ·
    exact Zg<|K6 1 3 4 12 13 14 Y<|Zo<|R2 ZI Y<|Rm Y<|Zb<|⟨_,h,ES [some 0,some 1] (hhp:= .cons Y (roM D3)<|.cons Y (ro1 (by exact tZ_109.symm)<|rlc (rFn<|rlD Y rln) rln) .nil)⟩
  ·
   refine ZA<|?_
   replace h:=lx h▸ho1
   exact⟨_,h,ES [some 0,some 1] (hhp:= .cons Y (roM D3)<|.cons Y (ro1 (by exact tZ_109.symm)<|rlc (rFn<|rlD Y rln) rln) .nil)⟩
 ·
  refine Tr<|Rm Y<|Qk (Ent.sel [some 0,none] (sr 3 Y (.own (r':=0) _ Y)<|sr 4 Y (.frp ⟨Y,⟨_,Y⟩,Y,Y⟩)<|sr 39 Y (.own (r':=0) _ Y) sn) (.cons Y (roM D3)<|.row 109 .nil) Y Y)<|Rq Y (Zk9<|.cons (ov Y) .nil)<|bE h fun y2 h_y2 h=>Rx Y (Zz [0] (ZcN Y (fun z0 z1 _ hz=>Zi2 hz) h_y2) (.cons (ov Y) (.own _ Y)<|.cons (ov Y) (.dat Y) .nil) (.cons Y (roM D3) .nil) Y (.lent 0 (.inl Y) Y (roM D3)<|.keep Y Y .nil) Y Y<|Qq<|rld Y)<|Zb<|K1 3 Y<|Tr<|Rm Y<|Rz Y<|?_
  obtain rfl:=rt h
  exact Zk (ZK Y (.one<|.tmp Y<|View.ownM Y (Zdr h_y2) D3))
theorem Zhe{s:List Int}{i:Int}{r:(Vector Int 97)}(h:ZaQ s i=some r):
 CSpec Tryz.prog gl0 71 [.sl 5 (List.map R5 s),.int .i64 i] (.rp (List.map C5 r.toList) 0):=by
 unfold ZaQ at h
 replace h:=Qb h
 refine So Tryz.func71 Y fun w0 A=>Tr<|Rz Y<|K2 0 1 Y<|Tr<|Rm Y<|R2 ZeC Y<|R2 ZI Y<|Rz Y<|K2 0 5 Y<|Tr<|Rm Y<|Rm Y<|Rm Y<|R2 ZI Y<|bE h fun l h_l h=>Rq Y (Zf8 (ov Y) Qi (oi<|ov Y) (oi<|ov Y) h_l)<|bE h fun v h_v h=>Rq Y (Znl (f:=C5) (ov Y) ZnS tZ_5 Y h_v)<|Rz Y<|?_
 obtain rfl:=rt h
 exact Zk (ZK Y (.one<|rb Y))
theorem Zee{s:List Int}{f:Int→Option Bool}{r:Int}{f_f:FuncId}{f_c:List AV}(f_d:f_c.all datB=true)(f_h: ∀ (z0:Int) z,f z0=some z→CSpec Tryz.prog gl0 f_f ([.int .u8 z0]++f_c) (.bool z))(h:QI s f=some r):
 CSpec Tryz.prog gl0 129 [.sl 5 (List.map R5 s),.fn f_f f_c] (.int .i64 r):=by
 unfold QI at h
 replace h:=Qb h
 refine So Tryz.func129 Y fun w0 A=>Tr<|Rz Y<|J0 (fun j=>(.inr j)) ⟨[],[]⟩ h (fun h=>?_) fun h=>?_
 ·
  refine K2 0 1 Y<|Tr<|Rm Y<|Rl tZ_5 Qi Y<|Rm Y<|Zb<|Zf<|?_
  obtain⟨r1,hl1,ho1⟩:=QC h
  refine L1 (fun i=>⟨[(0,.sl 5 (List.map R5 s)),(1,.fn f_f f_c),(7,.int .i64 (s.length:Int)),(8,.int .i64 i)],[]⟩) hl1 (ES []<|sd 0 Y Y<|sr 1 Y (rFn<|rld f_d)<|sd 7 Y Y<|sd 8 Y Y sn) fun n1 i h=>?_
  unfold Qe at h
  refine Tr<|R2 ZL Y<|Zb<|Zh<|If h Y (fun h=>?_) fun h=>?_
  ·
   refine Zg<|Zh<|Zf<|K4 0 1 7 8 Y<|Tr<|Rm Y<|Rz Y<|K5 0 1 5 7 8 Y<|Tr<|Rm Y<|Rm Y<|Rm Y<|bE h fun x h_x h=>Rq Y (ZP (ov Y) (ov Y) Qi h_x)<|Rq Y (Zd (ov Y) tS5 Y)<|bE h fun y h_y h=>Rq Y (ZeS (ov Y) f_d (f_h _ _ h_y)<|.cons (ov Y) (.b Y) .nil)<|Zb<|K6 0 1 5 7 8 16 Y<|If h Y (fun h=>?_) fun h=>?_
   ·
    refine K1 5 Y<|Tr<|Rm Y<|Rz Y<|?_
    replace h:=lx h▸ho1
    obtain rfl:=rt h
    exact Zk (ZK Y (.one<|rb Y))
   ·
    exact Zg<|K4 0 1 7 8 Y<|Zo<|R2 ZI Y<|Rm Y<|Zb<|⟨_,h,ES []<|sd 0 Y Y<|sr 1 Y (rFn<|rld f_d)<|sd 7 Y Y<|sd 8 Y Y sn⟩
  ·
   refine ZA<|?_
   replace h:=lx h▸ho1
   exact⟨(),h,ES []⟩
 ·
  replace h:=elr h
  replace h:=t0i h
  refine Tr<|Rz Y<|?_
  obtain rfl:=rt h
  exact Zk (ZK Y (.one<|rb Y))
theorem ZcP{s:List Int}{f:Int→Option Bool}{r:Bool}{f_f:FuncId}{f_c:List AV}(f_d:f_c.all datB=true)(f_h: ∀ (z0:Int) z,f z0=some z→CSpec Tryz.prog gl0 f_f ([.int .u8 z0]++f_c) (.bool z))(h:Qf s f=some r):
 CSpec Tryz.prog gl0 106 [.sl 5 (List.map R5 s),.fn f_f f_c] (.bool r):=by
 unfold Qf at h
 replace h:=Qb h
 refine So Tryz.func106 Y fun w0 A=>Tr<|Rz Y<|Tr<|Rm Y<|Rm Y<|bE h fun y h_y h=>Rq Y (Zq (Zee f_d f_h h_y)<|.cons (ov Y) (.b Y)<|.cons (ov Y) (Dat.fnC<|.refl fun x hx=> .b<|List.all_eq_true.1 f_d x hx) .nil)<|R2 ZiV Y<|Rz Y<|?_
 obtain rfl:=rt h
 exact Zk (ZK Y (.one<|rb Y))
theorem ZiZ{b:Int}{r:Bool}(h:Jo b=some r):
 CSpec Tryz.prog gl0 107 [.int .u8 b] (.bool r):=by
 unfold Jo at h
 replace h:=Qb h
 refine So Tryz.func107 Y fun w0 A=>Tr<|Rz Y<|Tr<|Rm Y<|R2 Qy Y<|Rz Y<|?_
 obtain rfl:=rt h
 exact Zk (ZK Y (.one<|rb Y))
theorem ZgP{p:Vector Int 97}{r:Int}(h:Zap p=some r):
 CSpec Tryz.prog gl0 70 [.rp (List.map C5 p.toList) 0] (.int .i64 r):=by
 unfold Zap at h
 replace h:=Qb h
 refine So Tryz.func70 Y fun w0 A=>Tr<|Rz Y<|Zh<|Zf<|K1 0 Y<|Tr<|Rm Y<|R1 ZG Y<|bE h fun x h_x h=>Rq Y (Q6 (ov Y) (ov Y) ZnS h_x)<|Rq Y (Zd (ov Y) tS5<|Qx<|XV (o:=0) (o':=((Int.toNat 96)*1)) (Zu arL)<|XR h_x)<|R2 Zae Y<|Rz Y<|K2 0 3 Y<|If h Y (fun h=>?_) fun h=>?_
 ·
  refine K0<|Tr<|Rz Y<|?_
  obtain rfl:=rt h
  exact Zk (ZK Y (.one<|rb Y))
 ·
  refine K1 0 Y<|Tr<|Rm Y<|R1 ZG Y<|bE h fun l h_l h=>Rq Y (Zoc (f:=C5) (ov Y) ZnS tZ_5 (Zu arL) Y on on h_l)<|bE h fun y h_y h=>Rq Y (Zq (ZcP Y (fun z0 _ hz=>ZiZ hz) h_y)<|.cons (ov Y) (.b Y)<|.cons (ov Y) .fn .nil)<|Rz Y<|K1 9 Y<|If h Y (fun h=>?_) fun h=>?_
  ·
   refine K0<|Tr<|Rz Y<|?_
   obtain rfl:=rt h
   exact Zk (ZK Y (.one<|rb Y))
  ·
   refine Zg<|K0<|Tr<|Rz Y<|?_
   obtain rfl:=rt h
   exact Zk (ZK Y (.one<|rb Y))
theorem Zjt{m:api_Memory}{r:ring_spot}(h:Jf m=some r):
 CSpec Tryz.prog gl0 36 [.agg [.int .i64 m.Slots,.int .i64 m.Limit,.sl 22 (List.map R22 m.Sectors),.sl 3 (List.map R3 m.Wear),.sl 4 (List.map R4 m.Bad)]] (.agg [.int .i64 r.sector,.int .i64 r.slot]):=by
 unfold Jf at h
 replace h:=Qb h
 refine So Tryz.func36 Y fun w0 A=>Tr<|Rq Y (JL (cva<|ov Y) Y tZ_59 Y)<|Rx Y (Qd (row:= [_,_]) 0 Y Znn Y tZ_83)<|Zb<|K2 1 2 Y<|Tr<|Rq Y (Z3 (ov Y) XL Y Y)<|bE h fun y h_y h=>Rq Y (Zq (ZgO h_y)<|.cons (ov Y) (.aggB Y) .nil)<|Rz Y<|Zh<|K3 1 2 3 Y<|Tr<|Rm Y<|Rl tZ_3 QA Y<|R2 Zae Y<|Zb<|K4 1 2 3 10 Y<|If h Y (fun h=>?_) fun h=>?_
 ·
  refine K1 2 Y<|Tr<|Rq Y (Xw (ys:= [_,_]) Zpt Zqb Znn (.cons (cvs (ov Y)<|Zn Y) .nil) Y)<|Rx Y (Zm (ov Y) (ov Y) (ZB ZkQ Y) Y Y Y (nL Y) (Za Y) Y)<|Zb<|?_
  obtain rfl:=rt h
  exact Zk (ZK Y (.one<|.agg Y Y Y Y ZkQ Y Y<|pwB Y))
 ·
  refine Zg<|K3 1 2 3 Y<|Tr<|Rm Y<|Rm Y<|Rl tZ_3 QA Y<|R2 ZbR Y<|bE h fun x h_x h=>Rq Y (ZP (ov Y) (ov Y) QA h_x)<|Rq Y (Zd (ov Y) tS3 Y)<|Rq Y (Xw (ys:= [_,_]) Zpt Zqb Znn (.cons (cvs (ov Y)<|Zn Y) .nil) Y)<|Rx Y (Qd (row:= [_,_]) 1 Y Znn Y tZ_83)<|Rx Y (Zm (ov Y) (ov Y) (ZB ZkQ Y) Y Y Y (nL Y) (Za Y) Y)<|Zb<|I1 (fun slot=>⟨[(2,.ptr 0 1 0 0),(4,.ptr 1 1 0 0)],[some ⟨83,[[.int .i64 0,.int .i64 0]]⟩,some ⟨83,[[.int .i64 x,.int .i64 slot]]⟩]⟩) h (fun h=>?_) fun slot h=>?_
  ·
   refine K3 1 2 4 Y<|Tr<|Rq Y (Zv (ov Y) Zfb)<|Rq Y (Zd (ov Y) tS3 Y)<|Rm Y<|Zb<|Zf<|?_
   obtain⟨r1,hl1,ho1⟩:=QC h
   refine L2 (fun slot2 i=>⟨[(1,.rp [.int .i64 m.Slots,.int .i64 m.Limit,.sl 22 (List.map R22 m.Sectors),.sl 3 (List.map R3 m.Wear),.sl 4 (List.map R4 m.Bad)] 0),(2,.ptr 0 1 0 0),(4,.ptr 1 1 0 0),(20,.int .i64 m.Slots),(21,.int .i64 i)],[some ⟨83,[[.int .i64 0,.int .i64 0]]⟩,some ⟨83,[[.int .i64 x,.int .i64 slot2]]⟩]⟩) hl1 (ES [some 0,some 1]) fun n1 slot2 i h=>?_
   unfold Xj at h
   refine Tr<|R2 ZL Y<|Zb<|Zh<|If h Y (fun h=>?_) fun h=>?_
   ·
    refine Zg<|Zh<|Zf<|K5 1 2 4 20 21 Y<|Tr<|Rm Y<|Rz Y<|K6 1 2 4 5 20 21 Y<|Tr<|Rq Y (Zv (ov Y) Z9)<|Rq Y (Zd (ov Y) Q7 Y)<|Rq Y (Ze (ov Y) Y Y Zhu)<|Rq Y (Zl (ov Y) Y Y Y tS3 Y)<|bE h fun x2 h_x2 h=>Rq Y (ZP (ov Y) (ov Y) Q3 h_x2)<|Rq Y (Zd (ov Y) Zek Y)<|Rm Y<|bE h fun y2 h_y2 h=>Rq Y (Zq (Zhe h_y2)<|.cons (ov Y) (.b Y)<|.cons (ov Y) (.b Y) .nil)<|bE h fun y3 h_y3 h=>Rq Y (Zq (ZgP h_y3)<|.cons (ov Y) (.b Y) .nil)<|R2 Qy Y<|Zb<|K7 1 2 4 5 20 21 33 Y<|If h Y (fun h=>?_) fun h=>?_
    ·
     exact K6 1 2 4 5 20 21 Y<|Zo<|Rm Y<|R2 ZI Y<|Rq Y (Ze (ov Y) Y Y ZkB)<|Rx Y (Zm (ov Y) (ov Y) (Zj tS3) Y Y Y (nL Y) (Za Y) Y)<|Zb<|K5 1 2 4 20 21 Y<|Zo<|R2 ZI Y<|Rm Y<|Zb<|⟨_,h,ES [some 0,some 1]⟩
    ·
     exact Zg<|K5 1 2 4 20 21 Y<|Zo<|R2 ZI Y<|Rm Y<|Zb<|⟨_,h,ES [some 0,some 1]⟩
   ·
    refine ZA<|?_
    replace h:=lx h▸ho1
    exact⟨_,h,ES [some 0,some 1]⟩
  ·
   refine Tr<|Rq Y (Qt (ov Y) Y Y Y ZkQ Y Y)<|Rx Y (Zm (ov Y) (ov Y) (ZB ZkQ Y) Y Y Y (nL Y) (Za Y) Y)<|Zb<|?_
   obtain rfl:=rt h
   exact Zk (ZK Y (.one<|.agg Y Y Y Y ZkQ Y Y<|pwB Y))
theorem ZgS{l:List api_Memory}{copies:Int}{r:(Int) ⊕ (ring_Recorder×Int)}(h:Jy l copies=some r):
 GSpec Tryz.prog gl0 13 [.sl 59 (List.map R59 l),.int .i64 copies] [] (Sum.elim (fun r=> .tuple [.lit (.pointer none),.int .i64 r]) (fun r=> .tuple [.ptr 0 1 0 0,.int .i64 r.2]) r) (Sum.elim (fun r=> []) (fun r=> [some ⟨80,[[.own 1 r.1.bank.memories.length,.own 2 r.1.bank.spots.length,.int .i64 r.1.copies,.bool r.1.frozen,.bool r.1.stopped,.int .i64 r.1.last,.bool r.1.some_]]⟩,some ⟨59,List.map O59 r.1.bank.memories⟩,some ⟨83,List.map R83 r.1.bank.spots⟩]) r):=by
 unfold Jy at h
 replace h:=Qb h
 refine Ql (by kernel_rfl) Tryz.func13 Y Y<|?_
 intro w0 A W φ0
 refine Tr<|Ra Y<|Rz Y<|Zh<|K2 0 1 Y<|Tr<|Rm Y<|bE h fun y h_y h=>Rq Y (Zq (Zf6 h_y)<|.cons (ov Y) (.b Y) .nil)<|Rz Y<|K3 0 1 6 Y<|Tr<|Rm Y<|R2 Qy Y<|Zb<|K4 0 1 6 17 Y<|If h Y (fun h=>?_) fun h=>?_
 ·
  refine K1 6 Y<|Tr<|Rm Y<|Ra Y<|Rz Y<|?_
  obtain rfl:=rt h
  exact Zk<|Xu [] Y (.cons (.tmp Y)<|.cons (.tmp Y) .nil) .nil Y Y<|Qq<|rlD Y<|rlD Y rln
 ·
  refine Zg<|Zh<|K2 0 1 Y<|Tr<|Rm Y<|Rm Y<|Rl tZ_59 XC Y<|bE h fun y2 h_y2 h=>Rq Y (Zq (Xf h_y2)<|.cons (ov Y) (.b Y)<|.cons (ov Y) (.b Y)<|.cons (ov Y) (.b Y) .nil)<|R1 XM Y<|Zb<|K3 0 1 23 Y<|If h Y (fun h=>?_) fun h=>?_
  ·
   refine K0<|Tr<|Ra Y<|Rz Y<|?_
   obtain rfl:=rt h
   exact Zk<|Xu [] Y (.cons (.tmp Y)<|.cons (.tmp Y) .nil) .nil Y Y<|Qq<|rlD Y<|rlD Y rln
  ·
   refine Zg<|K2 0 1 Y<|Tr<|Rm Y<|Rq Y (Xw (ys:= [_,_,_,_,_,_,_]) Ztb Zss ZtE (.cons (cvs (ov Y)<|Zn Y) .nil) Y)<|Rx Y (ZmW 0 Y (ov Y) Zty Y)<|Rz Y<|K2 0 7 Y<|Tr<|Rm Y<|Rm Y<|bE h fun y3 h_y3 h=>Rx Y (Zz [] (ZfF h_y3) (.cons (ov Y) (.dat Y) .nil) .nil Y (.keep Y Y<|.lent 0 (Wa Y Y) Y (roO Zw) .nil) Y Y<|.own _<|Wa Y Y)<|Rq Y (Zi (ov Y) Y Y)<|Rq Y (Ze (ov Y) Y Y Ze2)<|Rq Y (Ze (ov Y) Y Y Ze6)<|Rx Y (Zm (ov Y) (ov Y) (Zj Zcc) Y Y Y (nL Y) (Za Y) Y)<|Zb<|I2 (fun spots frozen=>⟨[(7,.ptr 0 1 0 0)],[some ⟨80,[[.own 1 y3.length,.own 2 spots.length,.int .i64 copies,.bool frozen,.bool false,.int .i64 0,.bool false]]⟩,some ⟨59,List.map O59 y3⟩,some ⟨83,List.map R83 spots⟩]⟩) h (fun h=>?_) fun spots frozen h=>?_
   ·
    refine K1 7 Y<|ZH [some ⟨80,[[.own 1 y3.length,.nils,.int .i64 copies,.bool false,.bool false,.int .i64 0,.bool false]]⟩,some ⟨59,List.map O59 y3⟩] Y<|Tr<|Rm Y<|Rq Y (Zi (ov Y) Y Y)<|Rq Y (Ze (ov Y) Y Y Ze2)<|Rq Y (Ze (ov Y) Y Y Ze6)<|Rq Y (Zl (ov Y) Y Y Y Zcc Y)<|Rq Y (Zb9 (ov Y) Y Y XC)<|Rm Y<|Zb<|Zf<|?_
    obtain⟨r1,hl1,ho1⟩:=QC h
    refine L3 (fun spots2 frozen2 i=>⟨[(7,.ptr 0 1 0 0),(37,.own 1 y3.length),(38,.int .i64 (y3.length:Int)),(39,.int .i64 i)],[some ⟨80,[[.own 1 y3.length,.own 2 spots2.length,.int .i64 copies,.bool frozen2,.bool false,.int .i64 0,.bool false]]⟩,some ⟨59,List.map O59 y3⟩,some ⟨83,List.map R83 spots2⟩]⟩) hl1 (ES [some 0,some 1,none] (hhp:= .cons Y (ro1 (by exact tZ_80.symm)<|rlc (.own _ Y)<|rlc (.row Y)<|rlD Y<|rlD Y<|rlD Y<|rlD Y<|rlD Y rln)<|.cons Y (roO Zw)<|.row 83 .nil)) fun n1 spots2 frozen2 i h=>?_
    unfold Zbd at h
    refine Tr<|R2 ZL Y<|Zb<|Zh<|If h Y (fun h=>?_) fun h=>?_
    ·
     refine Zg<|Zh<|Zf<|K4 7 37 38 39 Y<|Tr<|bE h fun x h_x h=>Rq Y (Z4 (ov Y) (ov Y) XC Y Y h_x)<|Qk (Ent.focusH (r:=1) (j:=2) (e':=22) (g:=O22) (ys:=x.Sectors) Y (Zp h_x).2 Y Zat)<|Qk (Ent.focusI (r:=1) (j:=3) (e':=3) (g:=R3) (ys:=x.Wear) Y (Zp h_x).2 Y DR3)<|Qk (Ent.focusI (r:=1) (j:=4) (e':=4) (g:=R4) (ys:=x.Bad) Y (Zp h_x).2 Y DR4)<|Rq Y (Zmt (ov Y) Y Y (Zp h_x).2 XL Y Y)<|Rx Y (Qd (row:= [_,_,_,_,_]) 6 Y Zde Y tZ_59)<|Rx Y (Zm (ov Y) (ov Y) (ZB XL Y) Y Y Y (nL Y) (Za Y) Y)<|ZdL [some ⟨80,[[.own 1 y3.length,.own 2 spots2.length,.int .i64 copies,.bool frozen2,.bool false,.int .i64 0,.bool false]]⟩,some ⟨59,List.set (List.map O59 y3) i.toNat [.int .i64 x.Slots,.int .i64 x.Limit,.own 3 x.Sectors.length,.own 4 x.Wear.length,.own 5 x.Bad.length]⟩,some ⟨83,List.map R83 spots2⟩,some ⟨22,List.map O22 x.Sectors⟩,some ⟨3,List.map R3 x.Wear⟩,some ⟨4,List.map R4 x.Bad⟩,some ⟨59,[[.int .i64 x.Slots,.int .i64 x.Limit,.own 3 x.Sectors.length,.own 4 x.Wear.length,.own 5 x.Bad.length]]⟩] Y<|Zb<|K5 7 9 37 38 39 Y<|Tr<|Rq Y (Qt (ov Y) Y Y Y XL Y Y)<|bE h fun y4 h_y4 h=>Rq Y (Jh (Zjt h_y4) (.agg<|by simp only [List.mem_cons,List.not_mem_nil,or_false,forall_eq_or_imp,forall_eq];exact⟨.int,.int⟩)<|.cons (ov Y) (View.aggL<|.cons (Dat.view<|.b Y)<|.cons (Dat.view<|.b Y)<|.cons (View.ownO Y Y Zat (fun x=>(D22 x).1) ZqB)<|.cons (View.ownM Y Y D3)<|.cons (View.ownM Y Y D4) .nil) .nil)<|Rx Y (Qd (row:= [_,_]) 7 Y Znn Y tZ_83)<|Rx Y (Zm (ov Y) (ov Y) (ZB ZkQ Y) Y Y Y (nL Y) (Za Y) Y)<|ZdL [some ⟨80,[[.own 1 y3.length,.own 2 spots2.length,.int .i64 copies,.bool frozen2,.bool false,.int .i64 0,.bool false]]⟩,some ⟨59,List.set (List.map O59 y3) i.toNat [.int .i64 x.Slots,.int .i64 x.Limit,.own 3 x.Sectors.length,.own 4 x.Wear.length,.own 5 x.Bad.length]⟩,some ⟨83,List.map R83 spots2⟩,some ⟨22,List.map O22 x.Sectors⟩,some ⟨3,List.map R3 x.Wear⟩,some ⟨4,List.map R4 x.Bad⟩,some ⟨59,[[.int .i64 x.Slots,.int .i64 x.Limit,.own 3 x.Sectors.length,.own 4 x.Wear.length,.own 5 x.Bad.length]]⟩,some ⟨83,[[.int .i64 y4.sector,.int .i64 y4.slot]]⟩] Y<|Zb<|Zh<|K6 7 9 10 37 38 39 Y<|Z5 (cw:=md0) (by kernel_rfl)<|D1 1 Zc Y<|Dq 2 Y (Zi (ov Y) Y Y)<|Dq 3 Y (Ze (ov Y) Y Y Ze2)<|Dq 4 Y (Ze (ov Y) Y Y ZhD)<|Dq 5 Y (Zl (ov Y) Y Y Y ZmB Y)<|Dq 6 Y (Qt (ov Y) Y Y Y ZkQ Y Y)<|Zpb 7 (.sl 83<|List.map R83 ([y4]:List ring_spot)) Y (by kernel_rfl) Y Y (Jc Zmj (.cons (cva<|ov Y) Y (pwD Y) .nil) Y Y)<|ZO 0 _ Y (by kernel_rfl) Y Y (fun hp'=>Zc<|ov Y)<|bE h fun l2 h_l2 h=>Do 8 Y (QK (ov Y) (Qr (ov Y) tZ_83) Zmj Y Y Y (fun _=>Za Y) Y h_l2)<|Dq 9 Y (Zi (ov Y) Y Y)<|Dq 10 Y (Ze (ov Y) Y Y Ze2)<|Dq 11 Y (Ze (ov Y) Y Y ZhD)<|Do 12 Y (Zm (ov Y) (ov Y) (Zj ZmB) Y Y Y (nL Y) (Za Y) Y)<|Dd<|K6 7 9 10 37 38 39 Y<|ZH [some ⟨80,[[.own 1 y3.length,.own 2 l2.length,.int .i64 copies,.bool frozen2,.bool false,.int .i64 0,.bool false]]⟩,some ⟨59,List.set (List.map O59 y3) i.toNat [.int .i64 x.Slots,.int .i64 x.Limit,.own 3 x.Sectors.length,.own 4 x.Wear.length,.own 5 x.Bad.length]⟩,some ⟨83,List.map R83 l2⟩,some ⟨22,List.map O22 x.Sectors⟩,some ⟨3,List.map R3 x.Wear⟩,some ⟨4,List.map R4 x.Bad⟩,some ⟨59,[[.int .i64 x.Slots,.int .i64 x.Limit,.own 3 x.Sectors.length,.own 4 x.Wear.length,.own 5 x.Bad.length]]⟩,some ⟨83,[[.int .i64 y4.sector,.int .i64 y4.slot]]⟩] Y<|Tr<|Rq Y (Ze (ov Y) Y Y Zhu)<|Rq Y (Zl (ov Y) Y Y Y tS3 Y)<|R2 ZiV Y<|Zb<|K7 7 9 10 37 38 39 59 Y<|If h Y (fun h=>?_) fun h=>?_
     ·
      exact K6 7 9 10 37 38 39 Y<|Tr<|Rq Y (Ze (ov Y) Y Y Z9)<|Rq Y (Zl (ov Y) Y Y Y Q7 Y)<|Rq Y (Ze (ov Y) Y Y Zhu)<|Rq Y (Zl (ov Y) Y Y Y tS3 Y)<|bE h fun x2 h_x2 h=>Rq Y (Z4 (ov Y) (ov Y) Q3 Y Y h_x2)<|Qk (Ent.focusH (r:=3) (j:=0) (e':=5) (g:=R5) (ys:=x2) Y (Zp h_x2).2 Y DR5)<|Rq Y (Jl (ov Y) Y Y (Zp h_x2).2 Zek Y)<|bE h fun y5 h_y5 h=>Rq Y (Jh (Zdv h_y5) (.tuple<|by simp only [List.mem_cons,List.not_mem_nil,or_false,forall_eq_or_imp,forall_eq];exact⟨.int,.bool,.bool⟩)<|.cons (ov Y) (View.ownM Y Y D5) .nil)<|Rm Y<|Rj Y Y Y<|Rj Y Y Y<|Rj Y Y Y<|Ra Y<|Ra Y<|Ra Y<|ZdL [some ⟨80,[[.own 1 y3.length,.own 2 l2.length,.int .i64 copies,.bool frozen2,.bool false,.int .i64 0,.bool false]]⟩,some ⟨59,List.set (List.map O59 y3) i.toNat [.int .i64 x.Slots,.int .i64 x.Limit,.own 3 x.Sectors.length,.own 4 x.Wear.length,.own 5 x.Bad.length]⟩,some ⟨83,List.map R83 l2⟩,some ⟨22,List.set (List.map O22 x.Sectors) y4.sector.toNat [.own 8 x2.length]⟩,some ⟨3,List.map R3 x.Wear⟩,some ⟨4,List.map R4 x.Bad⟩,some ⟨59,[[.int .i64 x.Slots,.int .i64 x.Limit,.own 3 x.Sectors.length,.own 4 x.Wear.length,.own 5 x.Bad.length]]⟩,some ⟨83,[[.int .i64 y4.sector,.int .i64 y4.slot]]⟩,some ⟨5,List.map R5 x2⟩] Y<|Qk (Ent.absorbH (r:=3) (j:=0) (q:=8) Y (Zp h_x2).2 Y Y (List.length_map ..) Y)<|Qk (Ent.closeS (r:=3) Y (Zp h_x2).2 Y)<|Qk (Ent.absorbH (r:=1) (j:=2) (q:=3) Y (Zp h_x).2 Y Y (List.length_map ..) Y)<|Qk (Ent.absorbH (r:=1) (j:=3) (q:=4) Y (Zp h_x).2 Y Y (List.length_map ..) Y)<|Qk (Ent.absorbH (r:=1) (j:=4) (q:=5) Y (Zp h_x).2 Y Y (List.length_map ..) Y)<|Qk (Ent.closeS (r:=1) Y (Zp h_x).2 Y)<|Zb<|K5 7 12 37 38 39 Y<|ZH [some ⟨80,[[.own 1 y3.length,.own 2 l2.length,.int .i64 copies,.bool frozen2,.bool false,.int .i64 0,.bool false]]⟩,some ⟨59,List.map O59 y3⟩,some ⟨83,List.map R83 l2⟩,none,none,none,some ⟨59,[[.int .i64 x.Slots,.int .i64 x.Limit,.own 3 x.Sectors.length,.own 4 x.Wear.length,.own 5 x.Bad.length]]⟩,some ⟨83,[[.int .i64 y4.sector,.int .i64 y4.slot]]⟩,none] Y<|Zo<|Rm Y<|Rm Y<|Rq Y (Zi (ov Y) Y Y)<|Rq Y (Ze (ov Y) Y Y ZlS)<|Rq Y (Zl (ov Y) Y Y Y tS4 Y)<|Rm Y<|Rq Y (.guarded (frozen2==false) Y Y Y Y fun h=>Zc<|ov Y)<|Rq Y (ZaO (ov Y) fun hp=>ow Y<|gF hp)<|Rq Y (Zi (ov Y) Y Y)<|Rq Y (Ze (ov Y) Y Y ZlS)<|Rx Y (Zm (ov Y) (ov Y) (Zj tS4) Y Y Y (nL Y) (Za Y) Y)<|Zb<|K4 7 37 38 39 Y<|ZH [some ⟨80,[[.own 1 y3.length,.own 2 l2.length,.int .i64 copies,.bool (frozen2 || y5.2.1),.bool false,.int .i64 0,.bool false]]⟩,some ⟨59,List.map O59 y3⟩,some ⟨83,List.map R83 l2⟩,none,none,none,some ⟨59,[[.int .i64 x.Slots,.int .i64 x.Limit,.own 3 x.Sectors.length,.own 4 x.Wear.length,.own 5 x.Bad.length]]⟩,some ⟨83,[[.int .i64 y4.sector,.int .i64 y4.slot]]⟩,none] Y<|Zo<|R2 ZI Y<|Rm Y<|Zb<|⟨_,h,ES [some 0,some 1,some 2] (hhp:= .cons Y (ro1 (by exact tZ_80.symm)<|rlc (.own _ Y)<|rlc (.own _ Y)<|rlD Y<|rlD Y<|rlD Y<|rlD Y<|rlD Y rln)<|.cons Y (roO Zw)<|.cons Y (roM D83) .nil)⟩
     ·
      exact Zg<|K4 7 37 38 39 Y<|Zo<|R2 ZI Y<|Rm Y<|Qk (Ent.absorbH (r:=1) (j:=2) (q:=3) Y (Zp h_x).2 Y Y (List.length_map ..) Y)<|Qk (Ent.absorbH (r:=1) (j:=3) (q:=4) Y (Zp h_x).2 Y Y (List.length_map ..) Y)<|Qk (Ent.absorbH (r:=1) (j:=4) (q:=5) Y (Zp h_x).2 Y Y (List.length_map ..) Y)<|Qk (Ent.closeS (r:=1) Y (Zp h_x).2 Y)<|Zb<|⟨_,h,ES [some 0,some 1,some 2] (hhp:= .cons Y (ro1 (by exact tZ_80.symm)<|rlc (.own _ Y)<|rlc (.own _ Y)<|rlD Y<|rlD Y<|rlD Y<|rlD Y<|rlD Y rln)<|.cons Y (roO Zw)<|.cons Y (roM D83) .nil)⟩
    ·
     refine ZA<|?_
     replace h:=lx h▸ho1
     exact⟨_,h,ES [some 0,some 1,some 2] (hhp:= .cons Y (ro1 (by exact tZ_80.symm)<|rlc (.own _ Y)<|rlc (.own _ Y)<|rlD Y<|rlD Y<|rlD Y<|rlD Y<|rlD Y rln)<|.cons Y (roO Zw)<|.cons Y (roM D83) .nil)⟩
   ·
    refine Tr<|Rm Y<|Ra Y<|Rz Y<|?_
    obtain rfl:=rt h
    exact Zk<|Xu [some 0,some 1,some 2] Y (.cons (.tmp Y)<|.cons (.tmp Y) .nil) (.cons Y (ro1 (by exact tZ_80.symm)<|rlc (.own _ Y)<|rlc (.own _ Y)<|rlD Y<|rlD Y<|rlD Y<|rlD Y<|rlD Y rln)<|.cons Y (roO Zw)<|.cons Y (roM D83) .nil) Y Y<|Qq<|rlc (.ptr _ _ _ Y)<|rlD Y rln
end Go.Proofs.YtgohgnaapbpggaaGreatDoor
