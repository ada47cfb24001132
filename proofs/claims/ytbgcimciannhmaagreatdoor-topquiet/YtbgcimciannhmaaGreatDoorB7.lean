import Derived.Test.YtbgcimciannhmaaGreatDoorB6
import Derived.Test.YtbgcimciannhmaaGreatDoorProg
import Derived.KernelRfl
/- A part of the proof of TopQuiet; no condition. -/
set_option linter.all false
set_option maxRecDepth 100000
namespace Go.Ev
open Go.Proofs
abbrev aa:Kind:=(.arr 32 (.int .u8))
abbrev ci:Kind:=(.pair (.int .u32) (.pair aa (.pair aa (.pair (.int .u32) (.pair (.int .u32) (.pair (.int .u32) .unit))))))
abbrev a8:Kind:=(.arr 4 (.int .u64))
abbrev ay:Kind:=(.pair (.int .u32) (.pair (.int .i64) (.pair (.int .i64) (.pair (.int .i64) (.pair (.int .i64) (.pair ci (.pair a8 .unit)))))))
abbrev cK:Kind:=(.pair ay (.pair (.int .i64) (.pair (.int .i64) (.pair (.int .i64) (.pair (.int .i64) (.pair (.sl (.sl (.int .u8))) .unit))))))
abbrev bG:Kind:=(.pair ci (.pair (.sl (.sl (.int .u8))) .unit))
abbrev b8:Kind:=(.pair cK (.pair (.int .i64) (.pair (.sl (.sl bG)) (.pair (.sl (.int .i64)) (.pair (.int .i64) (.pair (.int .i64) .unit))))))
abbrev ct:Kind:=(.pair (.sl (.int .u8)) .unit)
abbrev eV:Kind:=(.pair (.int .i64) ct)
abbrev s5:Kind:=(.pair (.int .i64) (.pair (.int .i64) eV))
abbrev jX:Kind:=(.pair b8 (.pair (.sl s5) .unit))
abbrev aj4:Kind:=(.pair b8 (.pair (.sl s5) (.pair (.int .i64) eV)))
abbrev CC:Kind:=(.pair (.int .i64) (.pair (.int .i64) (.pair (.sl aa) .unit)))
abbrev mK:Kind:=(.pair .str (.pair CC .unit))
abbrev eX:Kind:=(.pair (.int .i64) (.pair (.sl aa) (.pair aa (.pair (.sl ci) (.pair aa (.pair .str (.pair .str (.pair (.sl mK) (.pair (.int .u64) (.pair (.int .i64) (.pair (.int .i64) .unit)))))))))))
abbrev jl:Kind:=(.pair (.int .u32) (.pair (.int .i64) (.pair (.int .i64) (.pair (.int .i64) (.pair (.int .i64) (.pair ci (.pair (.sl (.int .i64)) .unit)))))))
abbrev bT:Kind:=(.pair jl (.pair (.int .i64) (.pair (.int .i64) (.pair (.int .i64) (.pair (.int .i64) (.pair (.sl .str) .unit))))))
abbrev MF:Kind:=(.pair ci (.pair aa .unit))
abbrev MG:Kind:=(.pair MF (.pair (.int .i64) (.pair (.sl (.int .i64)) .unit)))
abbrev dv:Kind:=(.pair jl (.pair (.sl MG) .unit))
abbrev aP:Kind:=(.pair (.int .i64) (.pair aa (.pair (.int .i64) .unit)))
abbrev iA:Kind:=(.pair (.int .i64) (.pair (.int .i64) (.pair .bool (.pair aP (.pair (.int .i64) (.pair (.sl aP) (.pair (.int .i64) (.pair (.int .i64) (.pair (.int .i64) (.pair .bool .unit))))))))))
abbrev MH:Kind:=(.pair aa (.pair (.sl (.int .i64)) .unit))
abbrev mL:Kind:=(.pair (.int .i64) (.pair (.sl MH) .unit))
abbrev eK:Kind:=(.pair iA (.pair mL (.pair aa (.pair .bool (.pair (.int .i64) (.pair (.int .i64) (.pair .bool .unit)))))))
abbrev iC:Kind:=(.pair aa (.pair aa (.pair mK .unit)))
abbrev bU:Kind:=(.pair bT (.pair dv (.pair (.int .i64) (.pair (.sl eK) (.pair (.sl iC) .unit)))))
abbrev c7:Kind:=(.pair ci (.pair (.sl .str) .unit))
abbrev gV:Kind:=(.pair (.sl c7) (.pair (.sl aa) .unit))
abbrev fL:Kind:=(.pair gV (.pair (.int .i64) (.pair (.int .i64) (.pair (.int .i64) .unit))))
abbrev cr:Kind:=(.pair .str (.pair (.int .i64) .unit))
abbrev db:Kind:=(.pair bU (.pair (.sl .bool) (.pair (.sl fL) (.pair (.sl (.sl cr)) (.pair (.int .i64) (.pair (.int .i64) .unit))))))
abbrev du:Kind:=(.pair bT (.pair (.int .i64) (.pair (.sl (.sl c7)) (.pair (.sl (.int .i64)) (.pair (.int .i64) (.pair (.int .i64) .unit))))))
abbrev ME:Kind:=(.pair .opq .unit)
abbrev b7:Kind:=(.pair .opq (.pair .opq ME))
abbrev cU:Kind:=(.pair .opq (.pair (.sl b7) (.pair (.int .i64) (.pair (.int .i64) .unit))))
abbrev aF:Kind:=(.pair aa (.pair aa .unit))
abbrev bF:Kind:=(.pair cK (.pair .opq (.pair (.int .i64) (.pair (.sl .opq) (.pair .opq (.pair (.sl aF) .unit))))))
abbrev a9:Kind:=(.pair ci (.pair aa (.pair (.int .i64) (.pair (.int .i64) (.pair a8 .unit)))))
abbrev bh:Kind:=(.pair ay (.pair (.sl a9) (.pair .opq (.pair (.sl (.int .i64)) .unit))))
abbrev cg:Kind:=(.pair (.sl (.int .u8)) (.pair (.int .i64) .unit))
abbrev dR:Kind:=(.pair (.sl cg) .unit)
abbrev vX:Kind:=(.pair .opq (.pair .opq (.pair .opq (.pair (.int .i64) (.pair (.int .i64) (.pair .bool .unit))))))
abbrev Vn:Kind:=(.pair aa (.pair (.sl bG) .unit))
abbrev ajZ:Kind:=(.arr 10 .str)
abbrev eu:Kind:=(.pair (.int .i64) (.pair (.int .i64) (.pair aP (.pair (.int .i64) (.pair .bool (.pair .opq (.pair (.int .i64) (.pair (.int .i64) (.pair (.int .i64) (.pair .bool .unit))))))))))
abbrev Vo:Kind:=(.pair .str .unit)
abbrev mN:Kind:=(.pair (.int .i64) Vo)
abbrev mM:Kind:=(.pair .opq (.pair (.int .i64) (.pair (.int .i64) (.pair (.int .i64) .unit))))
abbrev bk:Kind:=(.pair (.sl (.int .u8)) (.pair CC .unit))
abbrev eW:Kind:=(.pair (.int .i64) (.pair (.sl aa) (.pair aa (.pair (.sl ci) (.pair aa (.pair (.sl (.int .u8)) (.pair (.sl (.int .u8)) (.pair (.sl bk) (.pair (.int .u64) (.pair (.int .i64) (.pair (.int .i64) .unit)))))))))))
abbrev jk:Kind:=(.pair (.int .i64) ME)
abbrev iB:Kind:=(.pair (.sl bG) (.pair (.sl aa) ME))
abbrev pV:Kind:=(.pair (.int .u64) Vo)
abbrev sY:Kind:=(.pair (.int .u64) (.pair (.sl pV) .unit))
abbrev aK:Kind:=(.arr 8 (.int .u32))
abbrev Vl:Kind:=(.arr 3 (.int .u32))
abbrev d5:Kind:=(.pair (.sl (.int .u8)) (.pair (.int .i64) (.pair (.int .i64) .unit)))
abbrev aj3:Kind:=(.arr 9 .str)
abbrev aj0:Kind:=(.arr 10 (.int .u16))
abbrev aj1:Kind:=(.arr 2 (.int .u64))
abbrev dj:Kind:=(.arr 64 (.int .u32))
abbrev aj2:Kind:=(.arr 8 .str)
abbrev pW:Kind:=(.pair (.int .u64) ct)
abbrev sZ:Kind:=(.pair (.int .u64) (.pair (.sl pW) .unit))
abbrev fZ:Kind:=(.arr 64 (.int .u8))
abbrev dB:Kind:=(.pair aK (.pair fZ (.pair (.int .i64) .unit)))
def NI:ByteArray:=⟨#[253]⟩
def NJ:ByteArray:=⟨#[254]⟩
def NL:ByteArray:=⟨#[255]⟩
def fP:ByteArray:=⟨#[108,115,110]⟩
def amR:ByteArray:=⟨#[104,110]⟩
def amS:ByteArray:=⟨#[98]⟩
def amT:ByteArray:=⟨#[98,100]⟩
def amU:ByteArray:=⟨#[98,105]⟩
def amV:ByteArray:=⟨#[98,105,101]⟩
def XF:ByteArray:=⟨#[110]⟩
def amH:ByteArray:=⟨#[111,98,105,110,99]⟩
def XE:ByteArray:=⟨#[108,115,104,98,105,100,101,110,111,99]⟩
def iI:ByteArray:=⟨List.toArray (((([0,1,2,2,3,3,3,3,4,4,4,4,4,4,4,4,5,5,5,5,5,5,5,5,5,5,5,5,5,5,5,5,6,6,6,6,6,6,6,6,6,6,6,6,6,6,6,6,6,6,6,6,6,6,6,6,6,6,6,6,6,6,6,6]:List UInt8)++([7,7,7,7,7,7,7,7,7,7,7,7,7,7,7,7,7,7,7,7,7,7,7,7,7,7,7,7,7,7,7,7,7,7,7,7,7,7,7,7,7,7,7,7,7,7,7,7,7,7,7,7,7,7,7,7,7,7,7,7,7,7,7,7]:List UInt8))++(([8,8,8,8,8,8,8,8,8,8,8,8,8,8,8,8,8,8,8,8,8,8,8,8,8,8,8,8,8,8,8,8,8,8,8,8,8,8,8,8,8,8,8,8,8,8,8,8,8,8,8,8,8,8,8,8,8,8,8,8,8,8,8,8]:List UInt8)++([8,8,8,8,8,8,8,8,8,8,8,8,8,8,8,8,8,8,8,8,8,8,8,8,8,8,8,8,8,8,8,8,8,8,8,8,8,8,8,8,8,8,8,8,8,8,8,8,8,8,8,8,8,8,8,8,8,8,8,8,8,8,8,8]:List UInt8))):List UInt8)⟩
def NK:ByteArray:=⟨#[103,101,116,104,101,97,100,101,114,115]⟩
def amI:ByteArray:=⟨#[104,101,97,100,101,114,115]⟩
def amJ:ByteArray:=⟨#[103,101,116,102,105,108,116,101,114]⟩
def amK:ByteArray:=⟨#[102,105,108,116,101,114]⟩
def amL:ByteArray:=⟨#[103,101,116,112,114,111,111,102]⟩
def amM:ByteArray:=⟨#[112,114,111,111,102]⟩
def amN:ByteArray:=⟨#[112,105,110,103]⟩
def amO:ByteArray:=⟨#[112,111,110,103]⟩
def amP:ByteArray:=⟨#[114,101,106,101,99,116]⟩
def Mu:(List Int):=[0,1,28,2,29,14,24,3,30,22,20,15,25,17,4,8,31,27,13,23,21,19,16,7,26,12,18,6,11,5,10,9]
def gU:(List Int):=[1116352408,1899447441,3049323471,3921009573,961987163,1508970993,2453635748,2870763221,3624381080,310598401,607225278,1426881987,1925078388,2162078206,2614888103,3248222580,3835390401,4022224774,264347078,604807628,770255983,1249150122,1555081692,1996064986,2554220882,2821834349,2952996808,3210313671,3336571891,3584528711,113926993,338241895,666307205,773529912,1294757372,1396182291,1695183700,1986661051,2177026350,2456956037,2730485921,2820302411,3259730800,3345764771,3516065817,3600352804,4094571909,275423344,430227734,506948616,659060556,883997877,958139571,1322822218,1537002063,1747873779,1955562222,2024104815,2227730452,2361852424,2428436474,2756734187,3204031479,3329325298]
def aw:GL:=[(1,⟨aa,Mu⟩),(2,⟨dj,gU⟩)]
def aN:List (TypeId×TI):=[(2,⟨(.int .i64),.prim,8,true⟩),(3,⟨(.int .i64),.prim,8,true⟩),(4,⟨.bool,.prim,1,true⟩),(5,⟨(.int .u8),.prim,1,true⟩),(9,⟨.str,.prim,16,true⟩),(12,⟨(.int .u64),.prim,8,true⟩),(22,⟨(.int .u32),.prim,4,true⟩),(23,⟨aa,(.array 32 5),32,true⟩),(24,⟨aa,(.array 32 5),32,true⟩),(26,⟨ci,(.struct [22,24,24,22,22,22]),80,true⟩),(27,⟨(.int .u64),.prim,8,true⟩),(28,⟨a8,(.array 4 27),32,true⟩),(29,⟨a8,(.array 4 27),32,true⟩),(31,⟨ay,(.struct [22,3,3,3,3,26,29]),152,true⟩),(32,⟨(.sl (.sl (.int .u8))),(.slice 46),24,false⟩),(34,⟨cK,(.struct [31,3,3,3,3,32]),208,false⟩),(35,⟨(.sl (.sl bG)),(.slice 146),24,false⟩),(36,⟨(.sl (.int .i64)),(.slice 3),24,false⟩),(38,⟨b8,(.struct [34,3,35,36,3,3]),280,false⟩),(39,⟨(.sl s5),(.slice 48),24,false⟩),(41,⟨jX,(.struct [38,39]),304,false⟩),(44,⟨.opq,(.ptr 111),8,false⟩),(46,⟨(.sl (.int .u8)),(.slice 5),24,false⟩),(48,⟨s5,(.struct [3,3,3,46]),48,false⟩),(49,⟨.opq,(.ptr 120),8,false⟩),(50,⟨.opq,(.ptr 116),8,false⟩),(56,⟨(.int .i64),.prim,8,true⟩),(59,⟨aj4,(.struct [38,39,3,3,46]),344,false⟩),(61,⟨(.sl aa),(.slice 23),24,false⟩),(62,⟨(.sl ci),(.slice 79),24,false⟩),(63,⟨(.sl mK),(.slice 205),24,false⟩),(65,⟨eX,(.struct [3,61,23,62,23,9,9,63,27,3,3]),200,false⟩),(68,⟨.opq,(.ptr 139),8,false⟩),(77,⟨jX,(.struct [38,39]),304,false⟩),(79,⟨ci,(.struct [22,23,23,22,22,22]),80,true⟩),(80,⟨(.sl (.int .i64)),(.slice 3),24,false⟩),(82,⟨jl,(.struct [22,3,3,3,3,79,80]),144,false⟩),(83,⟨(.sl .str),(.slice 9),24,false⟩),(85,⟨bT,(.struct [82,3,3,3,3,83]),200,false⟩),(86,⟨(.sl MG),(.slice 285),24,false⟩),(88,⟨dv,(.struct [82,86]),168,false⟩),(89,⟨(.sl eK),(.slice 225),24,false⟩),(90,⟨(.sl iC),(.slice 615),24,false⟩),(92,⟨bU,(.struct [85,88,3,89,90]),424,false⟩),(93,⟨(.sl .bool),(.slice 4),24,false⟩),(94,⟨(.sl fL),(.slice 156),24,false⟩),(95,⟨(.sl (.sl cr)),(.slice 358),24,false⟩),(97,⟨db,(.struct [92,93,94,95,3,3]),512,false⟩),(100,⟨(.sl (.sl c7)),(.slice 152),24,false⟩),(102,⟨du,(.struct [85,3,100,36,3,3]),272,false⟩),(109,⟨(.sl b7),(.slice 126),24,false⟩),(111,⟨cU,(.struct [50,109,3,3]),48,false⟩),(112,⟨(.sl .opq),(.slice 140),24,false⟩),(113,⟨.opq,(.map 475 398),8,false⟩),(114,⟨(.sl aF),(.slice 475),24,false⟩),(116,⟨bF,(.struct [34,49,3,112,113,114]),280,false⟩),(117,⟨(.sl a9),(.slice 181),24,false⟩),(118,⟨.opq,(.map 24 3),8,false⟩),(120,⟨bh,(.struct [31,117,118,36]),208,false⟩),(124,⟨.opq,(.ptr 260),8,false⟩),(126,⟨b7,(.struct [124,68,68]),24,false⟩),(131,⟨cr,(.struct [9,3]),24,true⟩),(137,⟨(.sl cg),(.slice 193),24,false⟩),(139,⟨dR,(.struct [137]),24,false⟩),(140,⟨.opq,(.ptr 145),8,false⟩),(141,⟨.opq,(.ptr 212),8,false⟩),(142,⟨.opq,(.ptr 306),8,false⟩),(143,⟨.opq,(.ptr 24),8,false⟩),(145,⟨vX,(.struct [141,142,143,3,3,4]),48,false⟩),(146,⟨(.sl bG),(.slice 163),24,false⟩),(149,⟨Vn,(.struct [24,146]),56,false⟩),(152,⟨(.sl c7),(.slice 165),24,false⟩),(154,⟨gV,(.struct [152,61]),48,false⟩),(156,⟨fL,(.struct [154,3,3,3]),72,false⟩),(163,⟨bG,(.struct [26,32]),104,false⟩),(165,⟨c7,(.struct [79,83]),104,false⟩),(176,⟨(.sl eV),(.slice 257),24,false⟩),(181,⟨a9,(.struct [26,24,3,3,29]),160,true⟩),(193,⟨cg,(.struct [46,3]),32,false⟩),(197,⟨ajZ,(.array 10 9),160,true⟩),(203,⟨CC,(.struct [3,3,61]),40,false⟩),(205,⟨mK,(.struct [9,203]),56,false⟩),(209,⟨aP,(.struct [3,24,3]),48,true⟩),(210,⟨.opq,(.map 209 3),8,false⟩),(212,⟨eu,(.struct [3,3,209,3,4,210,3,3,3,4]),120,false⟩),(217,⟨aP,(.struct [3,23,3]),48,true⟩),(218,⟨(.sl aP),(.slice 217),24,false⟩),(220,⟨iA,(.struct [3,3,4,217,3,218,3,3,3,4]),136,false⟩),(221,⟨(.sl MH),(.slice 433),24,false⟩),(223,⟨mL,(.struct [3,221]),32,false⟩),(225,⟨eK,(.struct [220,223,23,4,3,3,4]),232,false⟩),(229,⟨(.sl mN),(.slice 296),24,false⟩),(250,⟨.opq,(.ptr 308),8,false⟩),(257,⟨eV,(.struct [3,46]),32,false⟩),(260,⟨mM,(.struct [250,3,3,3]),32,false⟩),(262,⟨(.sl aa),(.slice 24),24,false⟩),(263,⟨(.sl ci),(.slice 26),24,false⟩),(264,⟨(.sl bk),(.slice 398),24,false⟩),(266,⟨eW,(.struct [3,262,24,263,24,46,46,264,27,3,3]),216,false⟩),(282,⟨MF,(.struct [79,23]),112,true⟩),(285,⟨MG,(.struct [282,3,80]),144,false⟩),(296,⟨mN,(.struct [3,9]),24,true⟩),(304,⟨.opq,(.map 24 388),8,false⟩),(306,⟨jk,(.struct [3,304]),16,false⟩),(308,⟨iB,(.struct [146,262,118]),56,false⟩),(316,⟨.opq,(.ptr 385),8,false⟩),(322,⟨.opq,(.ptr 406),8,false⟩),(333,⟨(.sl pV),(.slice 424),24,false⟩),(335,⟨sY,(.struct [27,333]),32,false⟩),(340,⟨aK,(.array 8 22),32,true⟩),(347,⟨aP,(.struct [3,23,3]),48,true⟩),(358,⟨(.sl cr),(.slice 439),24,false⟩),(362,⟨(.sl (.int .u64)),(.slice 27),24,false⟩),(368,⟨(.int .u64),.prim,8,true⟩),(372,⟨.opq,(.map 9 3),8,false⟩),(376,⟨Vl,(.array 3 22),12,true⟩),(378,⟨aP,(.struct [3,24,3]),48,true⟩),(385,⟨d5,(.struct [46,3,56]),40,false⟩),(387,⟨aj3,(.array 9 9),144,true⟩),(388,⟨(.int .u16),.prim,2,true⟩),(389,⟨aj0,(.array 10 388),20,true⟩),(390,⟨.opq,(.ptr 266),8,false⟩),(396,⟨CC,(.struct [3,3,262]),40,false⟩),(398,⟨bk,(.struct [46,396]),64,false⟩),(406,⟨ct,(.struct [46]),24,false⟩),(415,⟨aj1,(.array 2 27),16,true⟩),(424,⟨pV,(.struct [27,9]),24,true⟩),(427,⟨(.sl (.int .u32)),(.slice 22),24,false⟩),(429,⟨dj,(.array 64 22),256,true⟩),(433,⟨MH,(.struct [23,36]),56,false⟩),(439,⟨cr,(.struct [9,3]),24,true⟩),(442,⟨aj2,(.array 8 9),128,true⟩),(446,⟨(.sl pW),(.slice 486),24,false⟩),(448,⟨sZ,(.struct [27,446]),32,false⟩),(453,⟨.opq,(.ptr 491),8,false⟩),(475,⟨aF,(.struct [24,24]),64,true⟩),(486,⟨pW,(.struct [27,46]),32,false⟩),(489,⟨fZ,(.array 64 5),64,true⟩),(491,⟨dB,(.struct [340,489,3]),104,true⟩),(503,⟨.opq,(.ptr 535),8,false⟩),(515,⟨.opq,(.ptr 489),8,false⟩),(535,⟨cg,(.struct [46,3]),32,false⟩),(544,⟨.opq,(.ptr 554),8,false⟩),(554,⟨cg,(.struct [46,3]),32,false⟩),(557,⟨(.int .i64),.prim,8,true⟩),(572,⟨(.int .u64),.prim,8,true⟩),(576,⟨.opq,(.ptr 3),8,false⟩),(585,⟨.opq,(.ptr 572),8,false⟩),(615,⟨iC,(.struct [23,23,205]),120,false⟩)]
abbrev bH:OKd:=.one ⟨(.ptr 0),[(.var 145 vX (.pr (.ptr 1) (.pr (.ptr 3) (.pr (.np aa) (.p (.pair (.int .i64) (.pair (.int .i64) (.pair .bool .unit)))))))),(.var 212 eu (.pr (.p (.int .i64)) (.pr (.p (.int .i64)) (.pr (.p aP) (.pr (.p (.int .i64)) (.pr (.p .bool) (.pr (.mp 2) (.p (.pair (.int .i64) (.pair (.int .i64) (.pair (.int .i64) (.pair .bool .unit)))))))))))),(.map aP (.int .i64)),(.var 306 jk (.pr (.p (.int .i64)) (.pr (.mp 4) (.p .unit)))),(.map aa (.int .u16))]⟩
abbrev cb:OKd:=.two ⟨(.pr .nilp (.pr (.ptr 0) (.pr (.ptr 2) (.p .unit)))),[(.var 139 dR (.pr (.row 1) (.p .unit))),(.row 193 cg),(.var 139 dR (.pr (.row 3) (.p .unit))),(.row 193 cg)]⟩ ⟨(.pr (.ptr 0) (.pr (.ptr 5) (.pr (.ptr 7) (.p .unit)))),[(.var 260 mM (.pr (.ptr 1) (.p (.pair (.int .i64) (.pair (.int .i64) (.pair (.int .i64) .unit)))))),(.var 308 iB (.pr (.row 2) (.pr (.row 3) (.pr (.mp 4) (.p .unit))))),(.row 163 bG),(.row 24 aa),(.map aa (.int .i64)),(.var 139 dR (.pr (.row 6) (.p .unit))),(.row 193 cg),(.var 139 dR (.pr (.row 8) (.p .unit))),(.row 193 cg)]⟩
def obs:List (TypeId×OKd):=[(140,bH),(126,cb)]
def bI:List (TypeId×List Nat):=[(34,[5]),(65,[1,3,7]),(85,[5]),(92,[3]),(97,[1,2,3]),(102,[2]),(111,[1]),(116,[3,5]),(120,[1,3]),(126,[100]),(139,[0]),(145,[2]),(163,[1]),(165,[1]),(266,[1,3,5,6,7]),(308,[0,1]),(335,[1]),(385,[0]),(396,[2]),(406,[0]),(448,[1]),(535,[0]),(554,[0])]
theorem bA:aN.all (ke Tryz.prog aN)=true:=by kernel_rfl
theorem follows:Tryz.prog.follows .mixedOrders=true:=by kernel_rfl
abbrev Y0:Type:=Int×Unit
abbrev Y1:Type:=Int×Y0
abbrev Y2:Type:=Int×Y1
abbrev Y3:Type:=(List Int)×Y2
abbrev Y4:Type:=(List Int)×Y3
abbrev Y5:Type:=Int×Y4
abbrev Y6:Type:=(List (List Int))×Unit
abbrev Y7:Type:=Y5×Y6
abbrev Y8:Type:=List Y7
abbrev Y9:Type:=Y8×Unit
abbrev Oh:Type:=(List Int)×Y9
abbrev aW(A:Type):Type:=Bool→Option A
abbrev ae(A:Type):Type:=Int→Option A
abbrev gA:Type:=Y8
abbrev Yw:Type:=Oh
abbrev Dr:Type:=(List Int)×Unit
abbrev Dt:Type:=Y5×Dr
abbrev YI:Type:=Int×Dt
abbrev YL:Type:=Int×YI
abbrev YM:Type:=Int×YL
abbrev YP:Type:=Int×YM
abbrev aJ:Type:=Int×YP
abbrev Zh:Type:=Int×Y6
abbrev OG:Type:=Int×Zh
abbrev Zw:Type:=Int×OG
abbrev Zy:Type:=Int×Zw
abbrev rG:Type:=aJ×Zy
abbrev tS:Type:=List Y8
abbrev nz:Type:=(List Int)×Y1
abbrev ZC:Type:=tS×nz
abbrev ZK:Type:=Int×ZC
abbrev iZ:Type:=rG×ZK
abbrev DF:Type:=Int×Dr
abbrev O2:Type:=Int×DF
abbrev DG:Type:=Int×O2
abbrev DH:Type:=List DG
abbrev ZN:Type:=DH×Unit
abbrev tW:Type:=iZ×ZN
abbrev rL:Type:=tS
abbrev cq(A:Type):Type:=Int→Int→Option A
abbrev O3:Type:=DH
abbrev tX:Type:=tW
abbrev O4(A:Type):Type:=Int→Bool→Int→Option A
abbrev ah(A:Type):Type:=(List Int)→Option A
abbrev fB(A:Type):Type:=Int→Int→(List Int)→Option A
abbrev bt(A:Type):Type:=Int→(List Int)→Option A
abbrev O5(A:Type):Type:=(List Int)→Bool→Option A
abbrev i3(A:Type):Type:=(List Int)→Int→Option A
abbrev aT:Type:=aJ
abbrev O6:Type:=(List ByteArray)×Unit
abbrev ZO:Type:=Int×O6
abbrev ZP:Type:=Int×ZO
abbrev ZQ:Type:=Int×ZP
abbrev ZR:Type:=Int×ZQ
abbrev ef:Type:=aJ×ZR
abbrev dx:Type:=ef
abbrev O7(A:Type):Type:=Nat→Nat→(List Int)→Option A
abbrev cJ(A:Type):Type:=ByteArray→Option A
abbrev fC:Type:=Y5
abbrev O8(A:Type):Type:=Dt→Option A
abbrev ZS:Type:=Dt×DF
abbrev ZT:Type:=List ZS
abbrev ZU:Type:=ZT×Unit
abbrev dt:Type:=aJ×ZU
abbrev O9(A:Type):Type:=dt→Option A
abbrev DI:Type:=(List Int)×Y0
abbrev cP:Type:=Int×DI
abbrev ZV:Type:=List cP
abbrev ZW:Type:=Bool×Unit
abbrev ZX:Type:=Int×ZW
abbrev nA:Type:=Int×ZX
abbrev eH:Type:=Int×nA
abbrev ZY:Type:=ZV×eH
abbrev ZZ:Type:=Int×ZY
abbrev Z1:Type:=cP×ZZ
abbrev Z2:Type:=Bool×Z1
abbrev Z3:Type:=Int×Z2
abbrev i4:Type:=Int×Z3
abbrev Pa:Type:=(List Int)×Dr
abbrev cB:Type:=List Pa
abbrev Z4:Type:=cB×Unit
abbrev rM:Type:=Int×Z4
abbrev Z5:Type:=Bool×nA
abbrev Z6:Type:=(List Int)×Z5
abbrev Z7:Type:=rM×Z6
abbrev ye:Type:=i4×Z7
abbrev lL:Type:=List ye
abbrev Pb:Type:=OG×Unit
abbrev Pc:Type:=ByteArray×Pb
abbrev Z8:Type:=Pc×Unit
abbrev Z9:Type:=(List Int)×Z8
abbrev Y91:Type:=(List Int)×Z9
abbrev Y92:Type:=List Y91
abbrev rN:Type:=Y92×Unit
abbrev Y94:Type:=lL×rN
abbrev Y95:Type:=Int×Y94
abbrev Y96:Type:=dt×Y95
abbrev eO:Type:=ef×Y96
abbrev yf(A:Type):Type:=eO→Option A
abbrev Pd(A:Type):Type:=Int→lL→Option A
abbrev eb:Type:=dt
abbrev lE:Type:=rN
abbrev nk:Type:=lL
abbrev Do(A:Type):Type:=lL→Option A
abbrev bx(A:Type):Type:=(List (List Int))→Option A
abbrev dz(A:Type):Type:=Int→(List (List Int))→Option A
abbrev il:Type:=ByteArray×Y0
abbrev xN(A:Type):Type:=il→ByteArray→Option A
abbrev tH:Type:=il
abbrev xO(A:Type):Type:=il→Int→Option A
abbrev Yr:Type:=ByteArray×Unit
abbrev Ys:Type:=Int×Yr
abbrev gz:Type:=List Ys
abbrev Yt:Type:=gz×Unit
abbrev Yu:Type:=Int×Yt
abbrev Oi(A:Type):Type:=Yu→Int→Option A
abbrev Oj(A:Type):Type:=Int→il→gz→Option A
abbrev nl:Type:=gz
abbrev Dp(A:Type):Type:=il→gz→Option A
abbrev lF(A:Type):Type:=(List (List Int))→Int→Int→(ah A)→Option A
abbrev xP:Type:=Y5×O6
abbrev Yv:Type:=xP
abbrev jv:Type:=List xP
abbrev xQ:Type:=jv×Y6
abbrev Ol(A:Type):Type:=xQ→Int→Option A
abbrev ry:Type:=jv
abbrev Om:Type:=xQ
abbrev xR(A:Type):Type:=i4→Option A
abbrev tI:Type:=i4
abbrev On(A:Type):Type:=i4→cP→Bool→Option A
abbrev fy:Type:=eO
abbrev Dq:Type:=ye
abbrev rz:Type:=rM
abbrev xS(A:Type):Type:=cP→Bool→Option A
abbrev ec:Type:=cP
abbrev rA(A:Type):Type:=cP→Option A
abbrev xT(A:Type):Type:=dt→Int→(ah A)→Option A
abbrev Oo(A:Type):Type:=i4→Int→Option A
abbrev rB:Type:=List Y5
abbrev tJ:Type:=List Pc
abbrev Yx:Type:=tJ×Y2
abbrev Yy:Type:=ByteArray×Yx
abbrev Yz:Type:=ByteArray×Yy
abbrev YA:Type:=(List Int)×Yz
abbrev YB:Type:=rB×YA
abbrev YC:Type:=(List Int)×YB
abbrev YD:Type:=(List (List Int))×YC
abbrev no:Type:=Int×YD
abbrev lG:Type:=no
abbrev rC:Type:=tJ
abbrev iW(A:Type):Type:=ByteArray→Int→Option A
abbrev rD:Type:=rB
abbrev tL(A:Type):Type:=eO→gz→Option A
abbrev Ds:Type:=Y2
abbrev Oq(A:Type):Type:=eO→Int→gz→Option A
abbrev Ot(A:Type):Type:=Int→eO→gz→Option A
abbrev tM:Type:=List il
abbrev Ou(A:Type):Type:=tM→Int→Option A
abbrev Ov:Type:=tM
abbrev YE:Type:=xQ×Y2
abbrev lH:Type:=List YE
abbrev lI:Type:=List tM
abbrev YF:Type:=lI×Y1
abbrev YG:Type:=lH×YF
abbrev YH:Type:=(List Bool)×YG
abbrev jw:Type:=eO×YH
abbrev im(A:Type):Type:=jw→Option A
abbrev tN:Type:=jw
abbrev Ow(A:Type):Type:=Int→jw→Option A
abbrev cH:Type:=Y1
abbrev nq:Type:=lH
abbrev nu:Type:=lI
abbrev lJ:Type:=List jv
abbrev YJ:Type:=lJ×nz
abbrev YK:Type:=Int×YJ
abbrev tO:Type:=ef×YK
abbrev Ox(A:Type):Type:=jw→Int→Option A
abbrev tP(A:Type):Type:=Int→(List Bool)→lH→lI→Option A
abbrev tQ:Type:=tO
abbrev Du(A:Type):Type:=(List Bool)→lH→lI→Option A
abbrev Oy(A:Type):Type:=Y5→Option A
abbrev xU(A:Type):Type:=aJ→Option A
abbrev Oz(A:Type):Type:=ef→Option A
abbrev xV(A:Type):Type:=Int→(List ByteArray)→Option A
abbrev rE(A:Type):Type:=(List ByteArray)→Option A
abbrev tR:Type:=rG
abbrev OA(A:Type):Type:=xP→Option A
abbrev nv:Type:=Y7
abbrev OB(A:Type):Type:=tO→Option A
abbrev OC(A:Type):Type:=Int→jv→Option A
abbrev lK:Type:=nz
abbrev ny:Type:=lJ
abbrev Dv(A:Type):Type:=jv→Option A
abbrev OD(A:Type):Type:=Int→lJ→Option A
abbrev Dw(A:Type):Type:=lJ→Option A
abbrev gB:Type:=iZ
abbrev YN:Type:=(List Int)×O2
abbrev OE:Type:=Y5×YN
abbrev bR:Type:=List OE
abbrev YO:Type:=(List Int)×Int
abbrev bc:Type:=List YO
abbrev YQ:Type:=(Option (List Int))×nA
abbrev YR:Type:=Unit×YQ
abbrev YS:Type:=Unit×YR
abbrev YT:Type:=Unit×eH
abbrev YU:Type:=Bool×YT
abbrev YV:Type:=Int×YU
abbrev YW:Type:=cP×YV
abbrev YX:Type:=Int×YW
abbrev YY:Type:=Int×YX
abbrev YZ:Type:=cP×Int
abbrev eN:Type:=List YZ
abbrev xW:Type:=Unit×Unit
abbrev Za:Type:=Int×xW
abbrev Zb:Type:=bc×Unit
abbrev Zc:Type:=Za×Zb
abbrev Zd:Type:=eN×Zc
abbrev Ze:Type:=YY×Zd
abbrev Zf:Type:=YS×Ze
abbrev Zg:Type:=Unit×Zf
abbrev cn:Type:=List Zg
abbrev OF:Type:=(List Int)×Pb
abbrev Zi:Type:=Pa×OF
abbrev cI:Type:=List Zi
abbrev Zj:Type:=Unit×xW
abbrev Dx:Type:=Unit×Zj
abbrev gC:Type:=List DI
abbrev Zk:Type:=gC×Unit
abbrev Zl:Type:=xW×Zk
abbrev Zm:Type:=gC×Zl
abbrev OH:Type:=xW×Zm
abbrev Zn:Type:=Dx×OH
abbrev Zo:Type:=Unit×Y2
abbrev Zp:Type:=bc×OH
abbrev Zq:Type:=(List (List Int))×Zp
abbrev Zr:Type:=Y8×Zq
abbrev Zs:Type:=Dx×Zr
abbrev Zt:Type:=Zo×Zs
abbrev Zu:Type:=Dx×Zt
abbrev Zv:Type:=Zn⊕Zu
abbrev dA:Type:=List Zv
abbrev cA:Type:=bR
abbrev bO:Type:=bc
abbrev dw:Type:=cn
abbrev dq:Type:=cI
abbrev dr:Type:=cB
abbrev gD:Type:=dA
abbrev xX(A:Type):Type:=Int→Int→Int→cP→Int→Bool→eH→eN→Option A
abbrev Zx:Type:=ByteArray×Int
abbrev xY:Type:=List Zx
abbrev OI(A:Type):Type:=Int→xY→Option A
abbrev xZ(A:Type):Type:=xY→Option A
abbrev Zz:Type:=xY
abbrev jx:Type:=(List Int)×DI
abbrev iX(A:Type):Type:=jx→Option A
abbrev OJ(A:Type):Type:=(List Int)→jx→Option A
abbrev rF:Type:=jx
abbrev OL(A:Type):Type:=Int→jx→Option A
abbrev co(A:Type):Type:=Unit→(List Int)→Option A
abbrev dI(A:Type):Type:=(List Int)→(ah A)→Option A
abbrev iY(A:Type):Type:=Int→Unit→(List Int)→Option A
abbrev OM(A:Type):Type:=Int→aJ→Unit→bR→bc→(List Int)→Option A
abbrev ON(A:Type):Type:=Int→Int→Unit→bc→Option A
abbrev OO(A:Type):Type:=Int→aJ→Int→Int→Int→Int→Unit→Int→Unit→(List (List Int))→aJ→Unit→bR→bc→(List Int)→cn→cI→cB→Option A
abbrev OP(A:Type):Type:=Int→cn→Option A
abbrev Dy(A:Type):Type:=cn→Option A
abbrev x5(A:Type):Type:=Int→Y2→Option A
abbrev OQ(A:Type):Type:=Unit→gC→Option A
abbrev x6(A:Type):Type:=Y1→(List Int)→Option A
abbrev x7(A:Type):Type:=Y1→(List Int)→(List Int)→Option A
abbrev rH(A:Type):Type:=Int→Y1→(List Int)→Option A
abbrev fA:Type:=List DF
abbrev ZA:Type:=fA×Unit
abbrev ZB:Type:=Int×ZA
abbrev OR(A:Type):Type:=ZB→Int→Option A
abbrev OS(A:Type):Type:=Int→Y1→(List Int)→fA→Option A
abbrev jy:Type:=fA
abbrev Dz(A:Type):Type:=Y1→(List Int)→fA→Option A
abbrev x8(A:Type):Type:=(List (List Int))→(aW A)→Option A
abbrev x9(A:Type):Type:=(List (List Int))→(ah A)→Option A
abbrev OT(A:Type):Type:=Y7→Option A
abbrev OU(A:Type):Type:=Int→Unit→Y8→(List (List Int))→bc→Option A
abbrev tT(A:Type):Type:=Int→Y8→(List (List Int))→bc→Option A
abbrev DA(A:Type):Type:=Y8→(List (List Int))→bc→Option A
abbrev jz(A:Type):Type:=Int→dA→Option A
abbrev rI(A:Type):Type:=dA→Option A
abbrev ya(A:Type):Type:=Int→Int→cP→Int→Bool→eH→eN→Option A
abbrev jA:Type:=eH
abbrev jB:Type:=eN
abbrev OV(A:Type):Type:=cP→Bool→Int→Int→cP→Int→Bool→eH→eN→Option A
abbrev tU:Type:=List OF
abbrev ZD:Type:=tU×Y2
abbrev ZE:Type:=(List Int)×ZD
abbrev ZF:Type:=(List Int)×ZE
abbrev ZG:Type:=(List Int)×ZF
abbrev ZH:Type:=rB×ZG
abbrev ZI:Type:=(List Int)×ZH
abbrev ZJ:Type:=(List (List Int))×ZI
abbrev io:Type:=Int×ZJ
abbrev ip:Type:=io
abbrev tV:Type:=tU
abbrev DB(A:Type):Type:=fA→Option A
abbrev OW(A:Type):Type:=Int→Int→(List (List Int))→Option A
abbrev OX:Type:=nA
abbrev OY(A:Type):Type:=io→cP→Bool→aJ→Int→Int→Int→Int→Unit→Int→Unit→(List (List Int))→aJ→Unit→bR→bc→(List Int)→cn→Nat→(Option (List Int))→nA→Int→Int→cP→Int→Bool→eH→eN→Int→Unit→bc→cI→cB→Option A
abbrev rJ(A:Type):Type:=aJ→Int→Int→Int→Int→Unit→Int→Unit→(List (List Int))→aJ→Unit→bR→bc→(List Int)→cn→cI→cB→fA→Option A
abbrev yb(A:Type):Type:=Int→aJ→Int→Int→Int→Int→Unit→Int→Unit→(List (List Int))→aJ→Unit→bR→bc→(List Int)→cn→cI→cB→fA→Option A
abbrev DC(A:Type):Type:=Int→Unit→gC→Option A
abbrev DD:Type:=gC
abbrev fS(A:Type):Type:=Y1→aJ→Int→Int→Int→Int→Unit→Int→Unit→(List (List Int))→aJ→Unit→bR→bc→(List Int)→cn→cI→cB→dA→Option A
abbrev OZ(A:Type):Type:=Int→Y1→dA→Option A
abbrev DE(A:Type):Type:=Y1→dA→Option A
abbrev gE(A:Type):Type:=Int→Y1→aJ→Int→Int→Int→Int→Unit→Int→Unit→(List (List Int))→aJ→Unit→bR→bc→(List Int)→cn→cI→cB→dA→Option A
abbrev O0(A:Type):Type:=Y2→Unit→Y8→(List (List Int))→bc→Option A
abbrev ZL:Type:=DG
abbrev yc(A:Type):Type:=Y1→aJ→Int→Int→Int→Int→Unit→Int→Unit→(List (List Int))→aJ→Unit→bR→bc→(List Int)→cn→cI→cB→dA→Nat→Unit→Unit→gC→Unit→gC→Option A
abbrev yd(A:Type):Type:=Y1→aJ→Int→Int→Int→Int→Unit→Int→Unit→(List (List Int))→aJ→Unit→bR→bc→(List Int)→cn→cI→cB→dA→Nat→Unit→Y2→Unit→Y8→(List (List Int))→bc→Unit→gC→Unit→gC→Option A
abbrev rK(A:Type):Type:=(aW A)→Option A
abbrev O1(A:Type):Type:=OE→Int→Option A
abbrev ZM:Type:=AV×List Blk
abbrev kI:Kind:=.int .i64
abbrev kB:Kind:=.int .u8
abbrev kU:Kind:=.int .u32
abbrev kL:Kind:=.int .u64
abbrev kS:Kind:=.sl (.int .u8)
def Ev{A:Type}(fl:List (FuncId×Entry A))(ll:List (Nat×Loop A))(ni mv:List Nat):Env A:=⟨aN,aw,fl,ll,ni,mv,bI,obs⟩
section
variable{A:Type}{fl:List (FuncId×Entry A)}{ll:List (Nat×Loop A)}{ni mv:List Nat}{fn:Func}
abbrev OK(A:Type)(f:FuncId)(en:Entry A):Prop:=aI Tryz.prog aw f en
theorem ag{J:Nat}(h:(Ev fl ll ni mv).lps.all (fun q=>Nat.blt q.1 J)=true:=by rfl):Lq Tryz.prog (Ev fl ll ni mv) fn J:=.none h
theorem ax{J n:Nat}{R:Type}{D Y:List Nat}{S:LSh}{B:KK A→S.den→R→Option A}{W:KK A→S.den→Nat→Option A}{m:(S.den→Option A)→S.den→R}(t:Lst A (Ev fl ll ni mv) fn J Y B W m)(h:Lq Tryz.prog (Ev fl ll ni mv) fn (J+1))(e:ll.lookup J=some (au D W n):=by rfl):Lq Tryz.prog (Ev fl ll ni mv) fn J:=.step (bz rfl bA) follows t h e
theorem oz:aj (A:=A) Tryz.prog aw []:=aj.nil
theorem oc{f:FuncId}{en:Entry A}{l:List (FuncId×Entry A)}(h:aI Tryz.prog aw f en)(r:aj Tryz.prog aw l):aj Tryz.prog aw ((f,en)::l):=.cons h r
variable{f:FuncId}{rm:List RMode}{en:Entry A}
theorem ak(q:Qo A (Ev fl ll ni mv) fn rm en)(b:Tryz.prog.funcs[f]?=some fn)(lo:Lq Tryz.prog (Ev fl ll ni mv) fn 0)(fns:aj Tryz.prog aw fl)(nm:(fn.name== "runtime.NumGoroutine")=false:=by kernel_rfl):OK A f en:=q.ok (bz rfl bA) follows ⟨b,nm⟩ lo (aj.env rfl rfl fns)
theorem cR(q:Qr A (Ev fl ll ni mv) fn rm en)(b:Tryz.prog.funcs[f]?=some fn)(lo:Lq Tryz.prog (Ev fl ll ni mv) fn 0)(fns:aj Tryz.prog aw fl)(nm:(fn.name== "runtime.NumGoroutine")=false:=by kernel_rfl):OK A f en:=q.ok (bz rfl bA) follows ⟨b,nm⟩ lo (aj.env rfl rfl fns)
end
end Go.Ev
namespace Go.Ev
open Go.Proofs
variable{A:Type}
abbrev kZ(A:Type):=Oh→(aW A)→Option A
def BJ(n:Nat)(t12:gA)(t13 t14:Int)(t23:List (List Int))(t24:Int)(k0 k1:Option A)(r:(ae A))(t25:Int):Option A:=bif (decide (t25<t24)) then if 0≤t25 then(t23[(Int.toNat t25)]?).bind fun y2=>bif (decide ((y2.length:Int)>300)) then k0 else r (IntKind.wrap .i64 (t25+1)) else none else k1
def pw(n:Nat)(t12:gA)(t13 t14:Int)(t23:List (List Int))(t24:Int)(k0 k1:Option A):Nat→(ae A)|0=>fun _=>none|f+1=>BJ n t12 t13 t14 t23 t24 k0 k1 (pw n t12 t13 t14 t23 t24 k0 k1 f)
def BI(n:Nat)(t12:gA)(t13:Int)(k0 k1:Option A)(r:(ae A))(t14:Int):Option A:=bif (decide (t14<t13)) then if 0≤t14 then(t12[(Int.toNat t14)]?).bind fun y1=>bif (decide ((y1.2.1.length:Int)>17)) then k0 else pw n t12 t13 t14 y1.2.1 (y1.2.1.length:Int) ( k0) ( r (IntKind.wrap .i64 (t14+1))) n 0 else none else k1
def pu(n:Nat)(t12:gA)(t13:Int)(k0 k1:Option A):Nat→(ae A)|0=>fun _=>none|f+1=>BI n t12 t13 k0 k1 (pu n t12 t13 k0 k1 f)
def Kq(n:Nat)(a0:Yw)(k:aW A):Option A:=bif (decide ((a0.2.1.length:Int)>10)) then k false else pu n a0.2.1 (a0.2.1.length:Int) ( k false) ( k true) n 0
def vv(n:Nat):kZ A:=Kq n
abbrev qR(A:Type):=tW→(aW A)→Option A
def AS(g43:kZ A)(n:Nat)(n_:Int)(t68:rL)(t69:Int)(k0 k1:Option A)(r:(ae A))(t70:Int):Option A:=bif (decide (t70<t69)) then if 0≤t70 then(t68[(Int.toNat t70)]?).bind fun y3=>g43 ((List.replicate 32 (0:Int)),(y3,())) fun r4=>bif (!r4) then k0 else r (IntKind.wrap .i64 (t70+1)) else none else k1
def oU(g43:kZ A)(n:Nat)(n_:Int)(t68:rL)(t69:Int)(k0 k1:Option A):Nat→(ae A)|0=>fun _=>none|f+1=>AS g43 n n_ t68 t69 k0 k1 (oU g43 n n_ t68 t69 k0 k1 f)
def Iv(g43:kZ A)(n:Nat)(t42:O3)(t43:Int)(z:tX)(k0:ae A)(r:(cq A))(n_ t44:Int):Option A:=bif (decide (t44<t43)) then if 0≤t44 then(t42[(Int.toNat t44)]?).bind fun y1=>bif (y1.1==8) then r (IntKind.wrap .i64 ((IntKind.wrap .i64 (n_+(IntKind.wrap .i64 (1+(IntKind.wrap .i64 (Int.tdiv (y1.2.2.2.1.length:Int) 200))))))+(IntKind.wrap .i64 (Int.tdiv (cf (bi y1.2.2.1 0) 100) 20)))) (IntKind.wrap .i64 (t44+1)) else r (IntKind.wrap .i64 (n_+(IntKind.wrap .i64 (1+(IntKind.wrap .i64 (Int.tdiv (y1.2.2.2.1.length:Int) 200)))))) (IntKind.wrap .i64 (t44+1)) else none else k0 n_
def va(g43:kZ A)(n:Nat)(t42:O3)(t43:Int)(z:tX)(k0:ae A):Nat→(cq A)|0=>fun _ _=>none|f+1=>Iv g43 n t42 t43 z k0 (va g43 n t42 t43 z k0 f)
def Iw(g43:kZ A)(n:Nat)(a0:tX)(k:aW A):Option A:=bif (decide ((a0.1.2.2.1.length:Int)>3)) then k false else bif (decide ((a0.1.2.2.2.1.length:Int)>8)) then k false else bif (decide ((a0.2.1.length:Int)>60)) then k false else bif (decide ((a0.1.1.2.2.2.2.2.1.length:Int)>9)) then k false else bif (decide (a0.1.1.2.2.2.2.1>9)) then k false else va g43 n a0.2.1 (a0.2.1.length:Int) a0 (fun y2=>oU g43 n y2 a0.1.2.2.1 (a0.1.2.2.1.length:Int) ( k false) ( k (decide (y2≤120))) n 0) n 0 0
def uZ(n:Nat):qR A:=Iw (vv n) n
abbrev kA(A:Type):=Int→(O4 A)→Option A
def Ga(n:Nat)(a0:Int)(k:O4 A):Option A:=k (IntKind.wrap .i64 (IntKind.wrap .u32 (Int.tdiv a0 16777216))) ((Int.tmod (IntKind.wrap .u32 (Int.tdiv a0 8388608)) 2)==1) (IntKind.wrap .i64 (Int.tmod a0 8388608))
def uH(n:Nat):kA A:=Ga n
abbrev dW(A:Type):=(List Int)→(ah A)→Option A
def uR(n:Nat)(a:List Int)(k0:ae A)(r:(ae A))(n_:Int):Option A:=bif (decide (n_>0)) then if 0≤(IntKind.wrap .i64 (n_-1)) then(a[(Int.toNat (IntKind.wrap .i64 (n_-1)))]?).bind fun y1=>bif (y1==0) then r (IntKind.wrap .i64 (n_-1)) else k0 n_ else none else k0 n_
def mf(n:Nat)(a:List Int)(k0:ae A):Nat→(ae A)|0=>fun _=>none|f+1=>uR n a k0 (mf n a k0 f)
def Hf(n:Nat)(a0:List Int)(k:ah A):Option A:=mf n a0 (fun y2=>if 0≤y2 then if y2≤(a0.length:Int) then k ((a0.drop 0).take ((Int.toNat y2)-0)) else none else none) n (a0.length:Int)
def gR(n:Nat):dW A:=Hf n
abbrev kl(A:Type):=(List Int)→(ah A)→Option A
def yY(g179:dW A)(n:Nat)(t7:List Int)(t8 t9:Int)(k0:ah A)(r:(fB A))(w i:Int)(out:List Int):Option A:=bif (decide (i<4)) then if (out.length+1)*8≤140737488355328 then r (IntKind.wrap .u64 (Int.tdiv w 65536)) (IntKind.wrap .i64 (i+1)) (out++[(IntKind.wrap .i64 (Int.tmod w 65536))]) else none else k0 out
def jI(g179:dW A)(n:Nat)(t7:List Int)(t8 t9:Int)(k0:ah A):Nat→(fB A)|0=>fun _ _ _=>none|f+1=>yY g179 n t7 t8 t9 k0 (jI g179 n t7 t8 t9 k0 f)
def yX(g179:dW A)(n:Nat)(t7:List Int)(t8:Int)(k0:ah A)(r:(bt A))(t9:Int)(out:List Int):Option A:=bif (decide (t9<t8)) then if 0≤t9 then(t7[(Int.toNat t9)]?).bind fun y1=>jI g179 n t7 t8 t9 (fun y2=>r (IntKind.wrap .i64 (t9+1)) y2) n y1 0 out else none else k0 out
def nZ(g179:dW A)(n:Nat)(t7:List Int)(t8:Int)(k0:ah A):Nat→(bt A)|0=>fun _ _=>none|f+1=>yX g179 n t7 t8 k0 (nZ g179 n t7 t8 k0 f)
def Fh(g179:dW A)(n:Nat)(a0:List Int)(k:ah A):Option A:=nZ g179 n a0 (a0.length:Int) (fun y3=>g179 y3 fun r4=>k r4) n 0 []
def l7(n:Nat):kl A:=Fh (gR n) n
abbrev eF(A:Type):=Int→(ah A)→Option A
def AK(n:Nat)(k_:Int)(k0:ah A)(r:(bt A))(i:Int)(out:List Int):Option A:=bif (decide (i<(Int.tmod k_ 16))) then if 0≤(IntKind.wrap .i64 (Int.tdiv k_ 16)) then if (IntKind.wrap .i64 (Int.tdiv k_ 16))<(out.length:Int) then(out[(Int.toNat (IntKind.wrap .i64 (Int.tdiv k_ 16)))]?).bind fun y1=>if 0≤(IntKind.wrap .i64 (Int.tdiv k_ 16)) then if (IntKind.wrap .i64 (Int.tdiv k_ 16))<(out.length:Int) then if (Int.toNat (IntKind.wrap .i64 (Int.tdiv k_ 16)))<out.length then r (IntKind.wrap .i64 (i+1)) (out.set (Int.toNat (IntKind.wrap .i64 (Int.tdiv k_ 16))) (IntKind.wrap .i64 (y1*2))) else none else none else none else none else none else k0 out
def oQ(n:Nat)(k_:Int)(k0:ah A):Nat→(bt A)|0=>fun _ _=>none|f+1=>AK n k_ k0 (oQ n k_ k0 f)
def Ie(n:Nat)(a0:Int)(k:ah A):Option A:=if 0≤(IntKind.wrap .i64 ((IntKind.wrap .i64 (Int.tdiv a0 16))+1)) then if (IntKind.wrap .i64 ((IntKind.wrap .i64 (Int.tdiv a0 16))+1))≤(IntKind.wrap .i64 ((IntKind.wrap .i64 (Int.tdiv a0 16))+1)) then if (IntKind.wrap .i64 ((IntKind.wrap .i64 (Int.tdiv a0 16))+1))*8≤140737488355328 then if 0≤(IntKind.wrap .i64 (Int.tdiv a0 16)) then if (IntKind.wrap .i64 (Int.tdiv a0 16))<((List.replicate (Int.toNat (IntKind.wrap .i64 ((IntKind.wrap .i64 (Int.tdiv a0 16))+1))) (0:Int)).length:Int) then if (Int.toNat (IntKind.wrap .i64 (Int.tdiv a0 16)))<(List.replicate (Int.toNat (IntKind.wrap .i64 ((IntKind.wrap .i64 (Int.tdiv a0 16))+1))) (0:Int)).length then oQ n a0 (fun y2=>k y2) n 0 ((List.replicate (Int.toNat (IntKind.wrap .i64 ((IntKind.wrap .i64 (Int.tdiv a0 16))+1))) (0:Int)).set (Int.toNat (IntKind.wrap .i64 (Int.tdiv a0 16))) 1) else none else none else none else none else none else none
def ir(n:Nat):eF A:=Ie n
abbrev eG(A:Type):=(List Int)→(List Int)→(ah A)→Option A
def uY(g179:dW A)(n:Nat)(a b:List Int)(i:Int)(k0:ah A)(r:(fB A))(c j:Int)(out:List Int):Option A:=bif (decide (j<(b.length:Int))) then if 0≤(IntKind.wrap .i64 (i+j)) then if (IntKind.wrap .i64 (i+j))<(out.length:Int) then(out[(Int.toNat (IntKind.wrap .i64 (i+j)))]?).bind fun y1=>bif (decide (j<(b.length:Int))) then if 0≤i then(a[(Int.toNat i)]?).bind fun y2=>if 0≤j then(b[(Int.toNat j)]?).bind fun y3=>if 0≤(IntKind.wrap .i64 (i+j)) then if (IntKind.wrap .i64 (i+j))<(out.length:Int) then if (Int.toNat (IntKind.wrap .i64 (i+j)))<out.length then r (IntKind.wrap .i64 (Int.tdiv (IntKind.wrap .i64 ((IntKind.wrap .i64 (y1+c))+(IntKind.wrap .i64 (y2*y3)))) 65536)) (IntKind.wrap .i64 (j+1)) (out.set (Int.toNat (IntKind.wrap .i64 (i+j))) (Int.tmod (IntKind.wrap .i64 ((IntKind.wrap .i64 (y1+c))+(IntKind.wrap .i64 (y2*y3)))) 65536)) else none else none else none else none else none else if 0≤(IntKind.wrap .i64 (i+j)) then if (IntKind.wrap .i64 (i+j))<(out.length:Int) then if (Int.toNat (IntKind.wrap .i64 (i+j)))<out.length then r (IntKind.wrap .i64 (Int.tdiv (IntKind.wrap .i64 (y1+c)) 65536)) (IntKind.wrap .i64 (j+1)) (out.set (Int.toNat (IntKind.wrap .i64 (i+j))) (Int.tmod (IntKind.wrap .i64 (y1+c)) 65536)) else none else none else none else none else none else bif (decide (c>0)) then if 0≤(IntKind.wrap .i64 (i+j)) then if (IntKind.wrap .i64 (i+j))<(out.length:Int) then(out[(Int.toNat (IntKind.wrap .i64 (i+j)))]?).bind fun y4=>bif (decide (j<(b.length:Int))) then if 0≤i then(a[(Int.toNat i)]?).bind fun y5=>if 0≤j then(b[(Int.toNat j)]?).bind fun y6=>if 0≤(IntKind.wrap .i64 (i+j)) then if (IntKind.wrap .i64 (i+j))<(out.length:Int) then if (Int.toNat (IntKind.wrap .i64 (i+j)))<out.length then r (IntKind.wrap .i64 (Int.tdiv (IntKind.wrap .i64 ((IntKind.wrap .i64 (y4+c))+(IntKind.wrap .i64 (y5*y6)))) 65536)) (IntKind.wrap .i64 (j+1)) (out.set (Int.toNat (IntKind.wrap .i64 (i+j))) (Int.tmod (IntKind.wrap .i64 ((IntKind.wrap .i64 (y4+c))+(IntKind.wrap .i64 (y5*y6)))) 65536)) else none else none else none else none else none else if 0≤(IntKind.wrap .i64 (i+j)) then if (IntKind.wrap .i64 (i+j))<(out.length:Int) then if (Int.toNat (IntKind.wrap .i64 (i+j)))<out.length then r (IntKind.wrap .i64 (Int.tdiv (IntKind.wrap .i64 (y4+c)) 65536)) (IntKind.wrap .i64 (j+1)) (out.set (Int.toNat (IntKind.wrap .i64 (i+j))) (Int.tmod (IntKind.wrap .i64 (y4+c)) 65536)) else none else none else none else none else none else k0 out
def mn(g179:dW A)(n:Nat)(a b:List Int)(i:Int)(k0:ah A):Nat→(fB A)|0=>fun _ _ _=>none|f+1=>uY g179 n a b i k0 (mn g179 n a b i k0 f)
def AN(g179:dW A)(n:Nat)(a b:List Int)(k0:ah A)(r:(bt A))(i:Int)(out:List Int):Option A:=bif (decide (i<(a.length:Int))) then mn g179 n a b i (fun y1=>r (IntKind.wrap .i64 (i+1)) y1) n 0 0 out else k0 out
def mj(g179:dW A)(n:Nat)(a b:List Int)(k0:ah A):Nat→(bt A)|0=>fun _ _=>none|f+1=>AN g179 n a b k0 (mj g179 n a b k0 f)
def Ik(g179:dW A)(n:Nat)(a0 a1:List Int)(k:ah A):Option A:=if 0≤(IntKind.wrap .i64 ((IntKind.wrap .i64 ((a0.length:Int)+(a1.length:Int)))+1)) then if (IntKind.wrap .i64 ((IntKind.wrap .i64 ((a0.length:Int)+(a1.length:Int)))+1))≤(IntKind.wrap .i64 ((IntKind.wrap .i64 ((a0.length:Int)+(a1.length:Int)))+1)) then if (IntKind.wrap .i64 ((IntKind.wrap .i64 ((a0.length:Int)+(a1.length:Int)))+1))*8≤140737488355328 then mj g179 n a0 a1 (fun y2=>g179 y2 fun r3=>k r3) n 0 (List.replicate (Int.toNat (IntKind.wrap .i64 ((IntKind.wrap .i64 ((a0.length:Int)+(a1.length:Int)))+1))) (0:Int)) else none else none else none
def iu(n:Nat):eG A:=Ik (gR n) n
abbrev xe(A:Type):=Int→(ah A)→Option A
def uI(g158:kA A)(g120:kl A)(g224:eF A)(g226:eG A)(n:Nat)(k0:cq A)(r:(cq A))(e m:Int):Option A:=bif (decide (e<3)) then r (IntKind.wrap .i64 (e+1)) (IntKind.wrap .i64 (Int.tdiv m 256)) else k0 e m
def mb(g158:kA A)(g120:kl A)(g224:eF A)(g226:eG A)(n:Nat)(k0:cq A):Nat→(cq A)|0=>fun _ _=>none|f+1=>uI g158 g120 g224 g226 n k0 (mb g158 g120 g224 g226 n k0 f)
def Gc(g158:kA A)(g120:kl A)(g224:eF A)(g226:eG A)(n:Nat)(a0:Int)(k:ah A):Option A:=g158 a0 fun r1 r2 r3=>mb g158 g120 g224 g226 n (fun y4 y5=>g120 [(IntKind.wrap .u64 y5)] fun r6=>g224 (IntKind.wrap .i64 (8*(IntKind.wrap .i64 (y4-3)))) fun r7=>g226 r6 r7 fun r8=>k r8) n r1 r3
def zC(n:Nat):xe A:=Gc (uH n) (l7 n) (ir n) (iu n) n
abbrev qp(A:Type):=Int→(O5 A)→Option A
def EJ(g158:kA A)(g159:xe A)(n:Nat)(a0:Int)(k:O5 A):Option A:=g158 a0 fun r1 r2 r3=>g159 a0 fun r4=>bif r2 then k [] false else bif ((r4.length:Int)==0) then k [] false else bif (decide ((r4.length:Int)>16)) then k [] false else k r4 true
def um(n:Nat):qp A:=EJ (uH n) (zC n) n
abbrev dV(A:Type):=(List Int)→(List Int)→(aW A)→Option A
def yK(n:Nat)(a b:List Int)(k0:aW A)(k1:Option A)(r:(ae A))(i:Int):Option A:=bif (decide (i≥0)) then if 0≤i then(a[(Int.toNat i)]?).bind fun y1=>if 0≤i then(b[(Int.toNat i)]?).bind fun y2=>bif (y1 != y2) then if 0≤i then(a[(Int.toNat i)]?).bind fun y3=>if 0≤i then(b[(Int.toNat i)]?).bind fun y4=>k0 (decide (y3<y4)) else none else none else r (IntKind.wrap .i64 (i-1)) else none else none else k1
def nS(n:Nat)(a b:List Int)(k0:aW A)(k1:Option A):Nat→(ae A)|0=>fun _=>none|f+1=>yK n a b k0 k1 (nS n a b k0 k1 f)
def EL(n:Nat)(a0 a1:List Int)(k:aW A):Option A:=bif ((a0.length:Int) != (a1.length:Int)) then k (decide ((a0.length:Int)<(a1.length:Int))) else nS n a0 a1 (fun y5=>k y5) ( k false) n (IntKind.wrap .i64 ((a0.length:Int)-1))
def jb(n:Nat):dV A:=EL n
abbrev gr(A:Type):=(List Int)→(ah A)→Option A
def AM(g179:dW A)(n:Nat)(a:List Int)(k0:ah A)(r:(fB A))(c i:Int)(out:List Int):Option A:=bif (decide (i≥0)) then if 0≤i then(a[(Int.toNat i)]?).bind fun y1=>if 0≤i then if i<(out.length:Int) then if (Int.toNat i)<out.length then r (Int.tmod (IntKind.wrap .i64 ((IntKind.wrap .i64 (c*65536))+y1)) 2) (IntKind.wrap .i64 (i-1)) (out.set (Int.toNat i) (IntKind.wrap .i64 (Int.tdiv (IntKind.wrap .i64 ((IntKind.wrap .i64 (c*65536))+y1)) 2))) else none else none else none else none else k0 out
def oR(g179:dW A)(n:Nat)(a:List Int)(k0:ah A):Nat→(fB A)|0=>fun _ _ _=>none|f+1=>AM g179 n a k0 (oR g179 n a k0 f)
def Ih(g179:dW A)(n:Nat)(a0:List Int)(k:ah A):Option A:=if 0≤(a0.length:Int) then if (a0.length:Int)≤(a0.length:Int) then if (a0.length:Int)*8≤140737488355328 then oR g179 n a0 (fun y2=>g179 y2 fun r3=>k r3) n 0 (IntKind.wrap .i64 ((a0.length:Int)-1)) (List.replicate (Int.toNat (a0.length:Int)) (0:Int)) else none else none else none
def mg(n:Nat):gr A:=Ih (gR n) n
abbrev gt(A:Type):=(List Int)→(ah A)→Option A
def AP(n:Nat)(a t2:List Int)(k0:ah A)(r:(bt A))(i:Int)(out:List Int):Option A:=bif (decide (i≥0)) then bif (decide (i<16)) then if 0≤(IntKind.wrap .i64 (Int.tdiv i 4)) then if (IntKind.wrap .i64 (Int.tdiv i 4))<4 then(out[(Int.toNat (IntKind.wrap .i64 (Int.tdiv i 4)))]?).bind fun y1=>if 0≤i then(a[(Int.toNat i)]?).bind fun y2=>if 0≤(IntKind.wrap .i64 (Int.tdiv i 4)) then if (IntKind.wrap .i64 (Int.tdiv i 4))<4 then if (Int.toNat (IntKind.wrap .i64 (Int.tdiv i 4)))<4 then r (IntKind.wrap .i64 (i-1)) (out.set (Int.toNat (IntKind.wrap .i64 (Int.tdiv i 4))) (IntKind.wrap .u64 ((IntKind.wrap .u64 (y1*65536))+(IntKind.wrap .u64 y2)))) else none else none else none else none else none else none else r (IntKind.wrap .i64 (i-1)) out else k0 out
def oS(n:Nat)(a t2:List Int)(k0:ah A):Nat→(bt A)|0=>fun _ _=>none|f+1=>AP n a t2 k0 (oS n a t2 k0 f)
def Io(n:Nat)(a0:List Int)(k:ah A):Option A:=oS n a0 [0,0,0,0] (fun y3=>k y3) n (IntKind.wrap .i64 ((a0.length:Int)-1)) [0,0,0,0]
def mo(n:Nat):gt A:=Io n
abbrev xd(A:Type):=(List Int)→(ae A)→Option A
def zz(g224:eF A)(g109:dV A)(g225:gr A)(g226:eG A)(g227:gt A)(n:Nat)(e:Int)(k0:ah A)(r:(i3 A))(m:List Int)(i:Int):Option A:=bif (decide (i<8)) then g225 m fun r9=>r r9 (IntKind.wrap .i64 (i+1)) else k0 m
def ov(g224:eF A)(g109:dV A)(g225:gr A)(g226:eG A)(g227:gt A)(n:Nat)(e:Int)(k0:ah A):Nat→(i3 A)|0=>fun _ _=>none|f+1=>zz g224 g109 g225 g226 g227 n e k0 (ov g224 g109 g225 g226 g227 n e k0 f)
def zy(g224:eF A)(g109:dV A)(g225:gr A)(g226:eG A)(g227:gt A)(n:Nat)(e:Int)(k0:ah A)(r:(i3 A))(m:List Int)(i:Int):Option A:=bif (decide (i<3)) then g226 m [256] fun r6=>r r6 (IntKind.wrap .i64 (i+1)) else k0 m
def ou(g224:eF A)(g109:dV A)(g225:gr A)(g226:eG A)(g227:gt A)(n:Nat)(e:Int)(k0:ah A):Nat→(i3 A)|0=>fun _ _=>none|f+1=>zy g224 g109 g225 g226 g227 n e k0 (ou g224 g109 g225 g226 g227 n e k0 f)
def zx(g224:eF A)(g109:dV A)(g225:gr A)(g226:eG A)(g227:gt A)(n:Nat)(e:Int)(k0:ah A)(r:(i3 A))(m:List Int)(i:Int):Option A:=bif (decide (i<(IntKind.wrap .i64 (8*(IntKind.wrap .i64 (e-3)))))) then g225 m fun r4=>r r4 (IntKind.wrap .i64 (i+1)) else k0 m
def ot(g224:eF A)(g109:dV A)(g225:gr A)(g226:eG A)(g227:gt A)(n:Nat)(e:Int)(k0:ah A):Nat→(i3 A)|0=>fun _ _=>none|f+1=>zx g224 g109 g225 g226 g227 n e k0 (ot g224 g109 g225 g226 g227 n e k0 f)
def zv(g224:eF A)(g109:dV A)(g225:gr A)(g226:eG A)(g227:gt A)(n:Nat)(t:List Int)(k0:ae A)(r:(ae A))(e:Int):Option A:=bif (decide (e<32)) then g224 (IntKind.wrap .i64 (8*e)) fun r1=>g109 t r1 fun r2=>bif (!r2) then r (IntKind.wrap .i64 (e+1)) else k0 e else k0 e
def oq(g224:eF A)(g109:dV A)(g225:gr A)(g226:eG A)(g227:gt A)(n:Nat)(t:List Int)(k0:ae A):Nat→(ae A)|0=>fun _=>none|f+1=>zv g224 g109 g225 g226 g227 n t k0 (oq g224 g109 g225 g226 g227 n t k0 f)
def F5(g224:eF A)(g109:dV A)(g225:gr A)(g226:eG A)(g227:gt A)(n:Nat)(a0:List Int)(k:ae A):Option A:=oq g224 g109 g225 g226 g227 n a0 (fun y3=>ot g224 g109 g225 g226 g227 n y3 (fun y5=>ou g224 g109 g225 g226 g227 n y3 (fun y7=>g109 y7 [0,128] fun r8=>bif (!r8) then ov g224 g109 g225 g226 g227 n y3 (fun y10=>g227 y10 fun r11=>(r11[0]?).bind fun y12=>k (IntKind.wrap .u32 ((IntKind.wrap .u32 ((IntKind.wrap .u32 (IntKind.wrap .i64 (y3+1)))*16777216))+(IntKind.wrap .u32 y12)))) n y7 0 else g227 y7 fun r13=>(r13[0]?).bind fun y14=>k (IntKind.wrap .u32 ((IntKind.wrap .u32 ((IntKind.wrap .u32 y3)*16777216))+(IntKind.wrap .u32 y14)))) n y5 y3) n a0 0) n 0
def zA(n:Nat):xd A:=F5 (ir n) (jb n) (mg n) (iu n) (mo n) n
abbrev wT(A:Type):=Int→(aW A)→Option A
def EI(g108:qp A)(g157:xd A)(n:Nat)(a0:Int)(k:aW A):Option A:=g108 a0 fun r1 r2=>bif r2 then g157 r1 fun r3=>k (r3==a0) else k false
def yI(n:Nat):wT A:=EI (um n) (zA n) n
abbrev lj(A:Type):=aJ→(aW A)→Option A
def Lz(g107:wT A)(g108:qp A)(g109:dV A)(n:Nat)(a0:aT)(k:aW A):Option A:=g107 a0.1 fun r1=>bif (!r1) then k false else g107 a0.2.2.2.2.2.1.2.2.2.2.1 fun r2=>bif (!r2) then k false else g108 a0.2.2.2.2.2.1.2.2.2.2.1 fun r3 r4=>g108 a0.1 fun r5 r6=>g109 r5 r3 fun r7=>bif r7 then k false else bif (decide (a0.2.1≥1)) then bif (decide (a0.2.1≤65536)) then bif (decide (a0.2.2.1≥1)) then bif (decide (a0.2.2.1≤65536)) then bif (decide (a0.2.2.2.1≥0)) then bif (decide (a0.2.2.2.1≤4294967296)) then bif (decide (a0.2.2.2.2.1≥1)) then k (decide (a0.2.2.2.2.1≤4096)) else k false else k false else k false else k false else k false else k false else k false
def vF(n:Nat):lj A:=Lz (yI n) (um n) (jb n) n
abbrev gw(A:Type):=Int→Int→(aW A)→Option A
def LA(n:Nat)(a0 a1:Int)(k:aW A):Option A:=bif (decide (a0≥1)) then bif (decide (a0≤65536)) then bif (decide (a1≥a0)) then k (decide (a1≤1048576)) else k false else k false else k false
def sQ(n:Nat):gw A:=LA n
abbrev k6(A:Type):=ef→(aW A)→Option A
def BL(g74:lj A)(g75:gw A)(n:Nat)(s:ByteArray)(t46:List ByteArray)(t47 t48:Int)(t59:List ByteArray)(t60:Int)(c:dx)(k0 k1:Option A)(r:(ae A))(t61:Int):Option A:=bif (decide (t61<t60)) then if 0≤t61 then(t59[(Int.toNat t61)]?).bind fun y4=>bif (s.toList==y4.toList) then k0 else r (IntKind.wrap .i64 (t61+1)) else none else k1
def pz(g74:lj A)(g75:gw A)(n:Nat)(s:ByteArray)(t46:List ByteArray)(t47 t48:Int)(t59:List ByteArray)(t60:Int)(c:dx)(k0 k1:Option A):Nat→(ae A)|0=>fun _=>none|f+1=>BL g74 g75 n s t46 t47 t48 t59 t60 c k0 k1 (pz g74 g75 n s t46 t47 t48 t59 t60 c k0 k1 f)
def BK(g74:lj A)(g75:gw A)(n:Nat)(t46:List ByteArray)(t47:Int)(c:dx)(k0 k1:Option A)(r:(ae A))(t48:Int):Option A:=bif (decide (t48<t47)) then if 0≤t48 then(t46[(Int.toNat t48)]?).bind fun y3=>bif (decide ((y3.size:Int)>64)) then k0 else if 0≤t48 then if t48≤(c.2.2.2.2.2.1.length:Int) then pz g74 g75 n y3 t46 t47 t48 ((c.2.2.2.2.2.1.drop 0).take ((Int.toNat t48)-0)) (((c.2.2.2.2.2.1.drop 0).take ((Int.toNat t48)-0)).length:Int) c ( k0) ( r (IntKind.wrap .i64 (t48+1))) n 0 else none else none else none else k1
def py(g74:lj A)(g75:gw A)(n:Nat)(t46:List ByteArray)(t47:Int)(c:dx)(k0 k1:Option A):Nat→(ae A)|0=>fun _=>none|f+1=>BK g74 g75 n t46 t47 c k0 k1 (py g74 g75 n t46 t47 c k0 k1 f)
def Kw(g74:lj A)(g75:gw A)(n:Nat)(a0:dx)(k:aW A):Option A:=g74 a0.1 fun r1=>bif (!r1) then k false else g75 a0.2.1 a0.2.2.1 fun r2=>bif (!r2) then k false else bif (decide (a0.2.2.2.1<1)) then k false else bif (decide (a0.2.2.2.1>65536)) then k false else bif (decide (a0.2.2.2.2.1<1)) then k false else bif (decide (a0.2.2.2.2.1>8)) then k false else bif (decide ((a0.2.2.2.2.2.1.length:Int)>8)) then k false else py g74 g75 n a0.2.2.2.2.2.1 (a0.2.2.2.2.2.1.length:Int) a0 ( k false) ( k true) n 0
def vw(n:Nat):k6 A:=Kw (vF n) (sQ n) n
abbrev fh(A:Type):=(ah A)→Option A
def Ry(n:Nat)(k:ah A):Option A:=k [1779033703,3144134277,1013904242,2773480762,1359893119,2600822924,528734635,1541459225]
def jd(n:Nat):fh A:=Ry n
abbrev gu(A:Type):=Int→Int→(ae A)→Option A
def AU(n:Nat)(k_:Int)(k0:ae A)(r:(cq A))(x i:Int):Option A:=bif (decide (i<k_)) then r (IntKind.wrap .u32 ((IntKind.wrap .u32 (Int.tdiv x 2))+(IntKind.wrap .u32 ((Int.tmod x 2)*2147483648)))) (IntKind.wrap .i64 (i+1)) else k0 x
def oV(n:Nat)(k_:Int)(k0:ae A):Nat→(cq A)|0=>fun _ _=>none|f+1=>AU n k_ k0 (oV n k_ k0 f)
def IA(n:Nat)(a0 a1:Int)(k:ae A):Option A:=oV n a1 (fun y1=>k y1) n a0 0
def mr(n:Nat):gu A:=IA n
abbrev gv(A:Type):=(ah A)→Option A
def SG(n:Nat)(k:ah A):Option A:=k (((((((((((((((((((((((((((((((((((((((((((((((((((((((((((((((((List.replicate 64 (0:Int)).set 0 1116352408).set 1 1899447441).set 2 3049323471).set 3 3921009573).set 4 961987163).set 5 1508970993).set 6 2453635748).set 7 2870763221).set 8 3624381080).set 9 310598401).set 10 607225278).set 11 1426881987).set 12 1925078388).set 13 2162078206).set 14 2614888103).set 15 3248222580).set 16 3835390401).set 17 4022224774).set 18 264347078).set 19 604807628).set 20 770255983).set 21 1249150122).set 22 1555081692).set 23 1996064986).set 24 2554220882).set 25 2821834349).set 26 2952996808).set 27 3210313671).set 28 3336571891).set 29 3584528711).set 30 113926993).set 31 338241895).set 32 666307205).set 33 773529912).set 34 1294757372).set 35 1396182291).set 36 1695183700).set 37 1986661051).set 38 2177026350).set 39 2456956037).set 40 2730485921).set 41 2820302411).set 42 3259730800).set 43 3345764771).set 44 3516065817).set 45 3600352804).set 46 4094571909).set 47 275423344).set 48 430227734).set 49 506948616).set 50 659060556).set 51 883997877).set 52 958139571).set 53 1322822218).set 54 1537002063).set 55 1747873779).set 56 1955562222).set 57 2024104815).set 58 2227730452).set 59 2361852424).set 60 2428436474).set 61 2756734187).set 62 3204031479).set 63 3329325298)
def oW(n:Nat):gv A:=SG n
abbrev fm(A:Type):=(List Int)→(List Int)→(ah A)→Option A
def Rz(g230:gu A)(g231:gv A)(n:Nat)(h t4:List Int)(k0:ah A)(r:(bt A))(i:Int)(s:List Int):Option A:=bif (decide (i<8)) then if 0≤i then if i<8 then(s[(Int.toNat i)]?).bind fun y41=>if 0≤i then if i<8 then(h[(Int.toNat i)]?).bind fun y42=>if 0≤i then if i<8 then if (Int.toNat i)<8 then r (IntKind.wrap .i64 (i+1)) (s.set (Int.toNat i) (IntKind.wrap .u32 (y41+y42))) else none else none else none else none else none else none else none else k0 s
def uM(g230:gu A)(g231:gv A)(n:Nat)(h t4:List Int)(k0:ah A):Nat→(bt A)|0=>fun _ _=>none|f+1=>Rz g230 g231 n h t4 k0 (uM g230 g231 n h t4 k0 f)
def zO(g230:gu A)(g231:gv A)(n:Nat)(h t4 w ks:List Int)(k0:ah A)(r:(bt A))(i:Int)(s:List Int):Option A:=bif (decide (i<64)) then(s[4]?).bind fun y16=>(s[0]?).bind fun y17=>(s[7]?).bind fun y18=>g230 y16 6 fun aX=>g230 y16 11 fun bn=>g230 y16 25 fun r21=>(s[5]?).bind fun y22=>(s[6]?).bind fun y23=>if 0≤i then if i<64 then(ks[(Int.toNat i)]?).bind fun y24=>if 0≤i then if i<(w.length:Int) then(w[(Int.toNat i)]?).bind fun y25=>g230 y17 2 fun bV=>g230 y17 13 fun r27=>g230 y17 22 fun r28=>(s[1]?).bind fun y29=>(s[2]?).bind fun y30=>(s[1]?).bind fun y31=>(s[2]?).bind fun y32=>(s[6]?).bind fun y33=>(s[5]?).bind fun y34=>(s[4]?).bind fun y35=>(s[3]?).bind fun y36=>(((((s.set 7 y33).set 6 y34).set 5 y35).set 4 (IntKind.wrap .u32 (y36+(IntKind.wrap .u32 ((IntKind.wrap .u32 ((IntKind.wrap .u32 ((IntKind.wrap .u32 (y18+(bp .u32 (bp .u32 aX bn) r21)))+(bp .u32 (bL .u32 y16 y22) (bL .u32 (IntKind.wrap .u32 (4294967295-y16)) y23))))+y24))+y25)))))[2]?).bind fun y37=>(((((s.set 7 y33).set 6 y34).set 5 y35).set 4 (IntKind.wrap .u32 (y36+(IntKind.wrap .u32 ((IntKind.wrap .u32 ((IntKind.wrap .u32 ((IntKind.wrap .u32 (y18+(bp .u32 (bp .u32 aX bn) r21)))+(bp .u32 (bL .u32 y16 y22) (bL .u32 (IntKind.wrap .u32 (4294967295-y16)) y23))))+y24))+y25)))))[1]?).bind fun y38=>(((((s.set 7 y33).set 6 y34).set 5 y35).set 4 (IntKind.wrap .u32 (y36+(IntKind.wrap .u32 ((IntKind.wrap .u32 ((IntKind.wrap .u32 ((IntKind.wrap .u32 (y18+(bp .u32 (bp .u32 aX bn) r21)))+(bp .u32 (bL .u32 y16 y22) (bL .u32 (IntKind.wrap .u32 (4294967295-y16)) y23))))+y24))+y25)))))[0]?).bind fun y39=>r (IntKind.wrap .i64 (i+1)) ((((((((s.set 7 y33).set 6 y34).set 5 y35).set 4 (IntKind.wrap .u32 (y36+(IntKind.wrap .u32 ((IntKind.wrap .u32 ((IntKind.wrap .u32 ((IntKind.wrap .u32 (y18+(bp .u32 (bp .u32 aX bn) r21)))+(bp .u32 (bL .u32 y16 y22) (bL .u32 (IntKind.wrap .u32 (4294967295-y16)) y23))))+y24))+y25))))).set 3 y37).set 2 y38).set 1 y39).set 0 (IntKind.wrap .u32 ((IntKind.wrap .u32 ((IntKind.wrap .u32 ((IntKind.wrap .u32 ((IntKind.wrap .u32 (y18+(bp .u32 (bp .u32 aX bn) r21)))+(bp .u32 (bL .u32 y16 y22) (bL .u32 (IntKind.wrap .u32 (4294967295-y16)) y23))))+y24))+y25))+(IntKind.wrap .u32 ((bp .u32 (bp .u32 bV r27) r28)+(bp .u32 (bp .u32 (bL .u32 y17 y29) (bL .u32 y17 y30)) (bL .u32 y31 y32))))))) else none else none else none else none else k0 s
def oE(g230:gu A)(g231:gv A)(n:Nat)(h t4 w ks:List Int)(k0:ah A):Nat→(bt A)|0=>fun _ _=>none|f+1=>zO g230 g231 n h t4 w ks k0 (oE g230 g231 n h t4 w ks k0 f)
def zM(g230:gu A)(g231:gv A)(n:Nat)(h t4:List Int)(k0:ah A)(r:(bt A))(i:Int)(w:List Int):Option A:=bif (decide (i<64)) then if 0≤(IntKind.wrap .i64 (i-15)) then if (IntKind.wrap .i64 (i-15))<(w.length:Int) then(w[(Int.toNat (IntKind.wrap .i64 (i-15)))]?).bind fun y6=>if 0≤(IntKind.wrap .i64 (i-2)) then if (IntKind.wrap .i64 (i-2))<(w.length:Int) then(w[(Int.toNat (IntKind.wrap .i64 (i-2)))]?).bind fun y7=>if 0≤(IntKind.wrap .i64 (i-16)) then if (IntKind.wrap .i64 (i-16))<(w.length:Int) then(w[(Int.toNat (IntKind.wrap .i64 (i-16)))]?).bind fun y8=>g230 y6 7 fun r9=>g230 y6 18 fun r10=>if 0≤(IntKind.wrap .i64 (i-7)) then if (IntKind.wrap .i64 (i-7))<(w.length:Int) then(w[(Int.toNat (IntKind.wrap .i64 (i-7)))]?).bind fun y11=>g230 y7 17 fun r12=>g230 y7 19 fun r13=>if (w.length+1)*4≤140737488355328 then r (IntKind.wrap .i64 (i+1)) (w++[(IntKind.wrap .u32 ((IntKind.wrap .u32 ((IntKind.wrap .u32 (y8+(bp .u32 (bp .u32 r9 r10) (IntKind.wrap .u32 (Int.tdiv y6 8)))))+y11))+(bp .u32 (bp .u32 r12 r13) (IntKind.wrap .u32 (Int.tdiv y7 1024)))))]) else none else none else none else none else none else none else none else none else none else k0 w
def oD(g230:gu A)(g231:gv A)(n:Nat)(h t4:List Int)(k0:ah A):Nat→(bt A)|0=>fun _ _=>none|f+1=>zM g230 g231 n h t4 k0 (oD g230 g231 n h t4 k0 f)
def zL(g230:gu A)(g231:gv A)(n:Nat)(b h t4:List Int)(k0:ah A)(r:(bt A))(i:Int)(w:List Int):Option A:=bif (decide (i<16)) then if 0≤(IntKind.wrap .i64 (4*i)) then(b[(Int.toNat (IntKind.wrap .i64 (4*i)))]?).bind fun y1=>if 0≤(IntKind.wrap .i64 ((IntKind.wrap .i64 (4*i))+1)) then(b[(Int.toNat (IntKind.wrap .i64 ((IntKind.wrap .i64 (4*i))+1)))]?).bind fun y2=>if 0≤(IntKind.wrap .i64 ((IntKind.wrap .i64 (4*i))+2)) then(b[(Int.toNat (IntKind.wrap .i64 ((IntKind.wrap .i64 (4*i))+2)))]?).bind fun y3=>if 0≤(IntKind.wrap .i64 ((IntKind.wrap .i64 (4*i))+3)) then(b[(Int.toNat (IntKind.wrap .i64 ((IntKind.wrap .i64 (4*i))+3)))]?).bind fun y4=>if (w.length+1)*4≤140737488355328 then r (IntKind.wrap .i64 (i+1)) (w++[(IntKind.wrap .u32 ((IntKind.wrap .u32 ((IntKind.wrap .u32 ((IntKind.wrap .u32 ((IntKind.wrap .u32 y1)*16777216))+(IntKind.wrap .u32 ((IntKind.wrap .u32 y2)*65536))))+(IntKind.wrap .u32 ((IntKind.wrap .u32 y3)*256))))+(IntKind.wrap .u32 y4)))]) else none else none else none else none else none else k0 w
def oC(g230:gu A)(g231:gv A)(n:Nat)(b h t4:List Int)(k0:ah A):Nat→(bt A)|0=>fun _ _=>none|f+1=>zL g230 g231 n b h t4 k0 (oC g230 g231 n b h t4 k0 f)
def Gr(g230:gu A)(g231:gv A)(n:Nat)(a0 a1:List Int)(k:ah A):Option A:=oC g230 g231 n a1 a0 [0,0,0,0,0,0,0,0] (fun y5=>oD g230 g231 n a0 [0,0,0,0,0,0,0,0] (fun y14=>g231 fun aM=>oE g230 g231 n a0 [0,0,0,0,0,0,0,0] y14 aM (fun y40=>uM g230 g231 n a0 [0,0,0,0,0,0,0,0] (fun y43=>k y43) n 0 y40) n 0 a0) n 16 y5) n 0 []
def je(n:Nat):fm A:=Gr (mr n) (oW n) n
abbrev wX(A:Type):=ByteArray→(ah A)→Option A
def QO(g164:fh A)(g165:fm A)(n:Nat)(t2 s:List Int)(k0:ah A)(r:(bt A))(i:Int)(out:List Int):Option A:=bif (decide (i<8)) then if 0≤i then if i<8 then(s[(Int.toNat i)]?).bind fun y7=>if 0≤(IntKind.wrap .i64 (4*i)) then if (IntKind.wrap .i64 (4*i))<32 then if (Int.toNat (IntKind.wrap .i64 (4*i)))<32 then if 0≤i then if i<8 then(s[(Int.toNat i)]?).bind fun y8=>if 0≤(IntKind.wrap .i64 ((IntKind.wrap .i64 (4*i))+1)) then if (IntKind.wrap .i64 ((IntKind.wrap .i64 (4*i))+1))<32 then if (Int.toNat (IntKind.wrap .i64 ((IntKind.wrap .i64 (4*i))+1)))<32 then if 0≤i then if i<8 then(s[(Int.toNat i)]?).bind fun y9=>if 0≤(IntKind.wrap .i64 ((IntKind.wrap .i64 (4*i))+2)) then if (IntKind.wrap .i64 ((IntKind.wrap .i64 (4*i))+2))<32 then if (Int.toNat (IntKind.wrap .i64 ((IntKind.wrap .i64 (4*i))+2)))<32 then if 0≤i then if i<8 then(s[(Int.toNat i)]?).bind fun y10=>if 0≤(IntKind.wrap .i64 ((IntKind.wrap .i64 (4*i))+3)) then if (IntKind.wrap .i64 ((IntKind.wrap .i64 (4*i))+3))<32 then if (Int.toNat (IntKind.wrap .i64 ((IntKind.wrap .i64 (4*i))+3)))<32 then r (IntKind.wrap .i64 (i+1)) ((((out.set (Int.toNat (IntKind.wrap .i64 (4*i))) (IntKind.wrap .u8 (IntKind.wrap .u32 (Int.tdiv y7 16777216)))).set (Int.toNat (IntKind.wrap .i64 ((IntKind.wrap .i64 (4*i))+1))) (IntKind.wrap .u8 (Int.tmod (IntKind.wrap .u32 (Int.tdiv y8 65536)) 256))).set (Int.toNat (IntKind.wrap .i64 ((IntKind.wrap .i64 (4*i))+2))) (IntKind.wrap .u8 (Int.tmod (IntKind.wrap .u32 (Int.tdiv y9 256)) 256))).set (Int.toNat (IntKind.wrap .i64 ((IntKind.wrap .i64 (4*i))+3))) (IntKind.wrap .u8 (Int.tmod y10 256))) else none else none else none else none else none else none else none else none else none else none else none else none else none else none else none else none else none else none else none else none else k0 out
def nX(g164:fh A)(g165:fm A)(n:Nat)(t2 s:List Int)(k0:ah A):Nat→(bt A)|0=>fun _ _=>none|f+1=>QO g164 g165 n t2 s k0 (nX g164 g165 n t2 s k0 f)
def yT(g164:fh A)(g165:fm A)(n:Nat)(t2 b:List Int)(k0:ah A)(r:(O7 A))(blo blen:Nat)(s:List Int):Option A:=bif (decide (((blen:Nat):Int)>0)) then if 64≤((blen:Nat):Int) then g165 s ((b.drop (blo+0)).take 64) fun r5=>if 64≤((blen:Nat):Int) then r (blo+64) (blen-64) r5 else none else none else k0 s
def l5(g164:fh A)(g165:fm A)(n:Nat)(t2 b:List Int)(k0:ah A):Nat→(O7 A)|0=>fun _ _ _=>none|f+1=>yT g164 g165 n t2 b k0 (l5 g164 g165 n t2 b k0 f)
def yS(g164:fh A)(g165:fm A)(n:Nat)(n_ i:Int)(t2 b:List Int)(k0:ae A)(r:(cq A))(d_ j:Int):Option A:=bif (decide (j<(IntKind.wrap .i64 (7-i)))) then r (IntKind.wrap .u64 (Int.tdiv d_ 256)) (IntKind.wrap .i64 (j+1)) else k0 d_
def nW(g164:fh A)(g165:fm A)(n:Nat)(n_ i:Int)(t2 b:List Int)(k0:ae A):Nat→(cq A)|0=>fun _ _=>none|f+1=>yS g164 g165 n n_ i t2 b k0 (nW g164 g165 n n_ i t2 b k0 f)
def yR(g164:fh A)(g165:fm A)(n:Nat)(n_:Int)(t2:List Int)(k0:ah A)(r:(bt A))(i:Int)(b:List Int):Option A:=bif (decide (i<8)) then nW g164 g165 n n_ i t2 b (fun y2=>if (b.length+1)*1≤140737488355328 then r (IntKind.wrap .i64 (i+1)) (b++[(IntKind.wrap .u8 (Int.tmod y2 256))]) else none) n n_ 0 else k0 b
def l4(g164:fh A)(g165:fm A)(n:Nat)(n_:Int)(t2:List Int)(k0:ah A):Nat→(bt A)|0=>fun _ _=>none|f+1=>yR g164 g165 n n_ t2 k0 (l4 g164 g165 n n_ t2 k0 f)
def yQ(g164:fh A)(g165:fm A)(n:Nat)(text:ByteArray)(t2:List Int)(k0:ah A)(r:(ah A))(b:List Int):Option A:=bif ((Int.tmod (b.length:Int) 64) != 56) then if (b.length+1)*1≤140737488355328 then r (b++[0]) else none else k0 b
def nV(g164:fh A)(g165:fm A)(n:Nat)(text:ByteArray)(t2:List Int)(k0:ah A):Nat→(ah A)|0=>fun _=>none|f+1=>yQ g164 g165 n text t2 k0 (nV g164 g165 n text t2 k0 f)
def EZ(g164:fh A)(g165:fm A)(n:Nat)(a0:ByteArray)(k:ah A):Option A:=if a0.size≤140737488355328 then if ((bd a0).length+1)*1≤140737488355328 then nV g164 g165 n a0 (List.replicate 32 (0:Int)) (fun y1=>l4 g164 g165 n (IntKind.wrap .u64 ((IntKind.wrap .u64 (a0.size:Int))*8)) (List.replicate 32 (0:Int)) (fun y3=>g164 fun r4=>l5 g164 g165 n (List.replicate 32 (0:Int)) y3 (fun y6=>nX g164 g165 n (List.replicate 32 (0:Int)) y6 (fun y11=>k y11) n 0 (List.replicate 32 (0:Int))) n 0 y3.length r4) n 0 y1) n ((bd a0)++[128]) else none else none
def yU(n:Nat):wX A:=EZ (jd n) (je n) n
abbrev iT(A:Type):=ByteArray→(ah A)→Option A
def LG(g114:wX A)(n:Nat)(a0:ByteArray)(k:ah A):Option A:=g114 a0 fun r1=>g114 (am ((r1.drop 0).take 32)) fun r2=>k r2
def pM(n:Nat):iT A:=LG (yU n) n
abbrev lh(A:Type):=Int→(ae A)→Option A
def Lp(n:Nat)(a0:Int)(k:ae A):Option A:=bif (decide (a0<0)) then k 0 else bif (decide (a0>8)) then k 8 else k a0
def sN(n:Nat):lh A:=Lp n
abbrev qD(A:Type):=Int→Int→(ah A)→Option A
def zQ(n:Nat)(width:Int)(k0:ah A)(r:(fB A))(n_ i:Int)(out:List Int):Option A:=bif (decide (i<width)) then if (out.length+1)*8≤140737488355328 then r (IntKind.wrap .u64 (Int.tdiv n_ 256)) (IntKind.wrap .i64 (i+1)) (out++[(IntKind.wrap .i64 (Int.tmod n_ 256))]) else none else k0 out
def oF(n:Nat)(width:Int)(k0:ah A):Nat→(fB A)|0=>fun _ _ _=>none|f+1=>zQ n width k0 (oF n width k0 f)
def Gx(n:Nat)(a0 a1:Int)(k:ah A):Option A:=oF n a1 (fun y1=>k y1) n a0 0 []
def uN(n:Nat):qD A:=Gx n
abbrev gk(A:Type):=Int→Int→(cJ A)→Option A
def yV(g67:lh A)(g166:qD A)(n:Nat)(t13:Int)(t12:List Int)(k0:ah A)(r:(bt A))(t14:Int)(out:List Int):Option A:=bif (decide (t14<t13)) then if 0≤t14 then if t14<(t12.length:Int) then(t12[(Int.toNat t14)]?).bind fun y3=>if (out.length+1)*1≤140737488355328 then r (IntKind.wrap .i64 (t14+1)) (out++[(IntKind.wrap .u8 y3)]) else none else none else none else k0 out
def nY(g67:lh A)(g166:qD A)(n:Nat)(t13:Int)(t12:List Int)(k0:ah A):Nat→(bt A)|0=>fun _ _=>none|f+1=>yV g67 g166 n t13 t12 k0 (nY g67 g166 n t13 t12 k0 f)
def E6(g67:lh A)(g166:qD A)(n:Nat)(a0 a1:Int)(k:cJ A):Option A:=g67 a1 fun r1=>g166 a0 r1 fun r2=>nY g67 g166 n (r2.length:Int) r2 (fun y4=>k (am y4)) n 0 []
def jc(n:Nat):gk A:=E6 (sN n) (uN n) n
abbrev iU(A:Type):=Y5→(cJ A)→Option A
def LH(g115:gk A)(n:Nat)(a0:fC)(k:cJ A):Option A:=g115 (IntKind.wrap .u64 a0.1) 4 fun r1=>if r1.size+(am ((a0.2.1.drop 0).take 32)).size≤9223372036854775807 then if (r1++(am ((a0.2.1.drop 0).take 32))).size+(am ((a0.2.2.1.drop 0).take 32)).size≤9223372036854775807 then g115 (IntKind.wrap .u64 a0.2.2.2.1) 4 fun r2=>if ((r1++(am ((a0.2.1.drop 0).take 32)))++(am ((a0.2.2.1.drop 0).take 32))).size+r2.size≤9223372036854775807 then g115 (IntKind.wrap .u64 a0.2.2.2.2.1) 4 fun r3=>if (((r1++(am ((a0.2.1.drop 0).take 32)))++(am ((a0.2.2.1.drop 0).take 32)))++r2).size+r3.size≤9223372036854775807 then g115 (IntKind.wrap .u64 a0.2.2.2.2.2.1) 4 fun r4=>if ((((r1++(am ((a0.2.1.drop 0).take 32)))++(am ((a0.2.2.1.drop 0).take 32)))++r2)++r3).size+r4.size≤9223372036854775807 then k (((((r1++(am ((a0.2.1.drop 0).take 32)))++(am ((a0.2.2.1.drop 0).take 32)))++r2)++r3)++r4) else none else none else none else none else none
def vI(n:Nat):iU A:=LH (jc n) n
abbrev fu(A:Type):=Y5→(ah A)→Option A
def KG(g79:iU A)(g78:iT A)(n:Nat)(a0:fC)(k:ah A):Option A:=g79 a0 fun r1=>g78 r1 fun r2=>k r2
def mw(n:Nat):fu A:=KG (vI n) (pM n) n
abbrev wU(A:Type):=Y5→(O8 A)→Option A
def EQ(g47:fu A)(n:Nat)(a0:fC)(k:O8 A):Option A:=g47 a0 fun r1=>k (a0,(r1,()))
def EP(n:Nat):wU A:=EQ (mw n) n
abbrev rq(A:Type):=aJ→(O9 A)→Option A
def LC(g110:wU A)(n:Nat)(a0:aT)(k:O9 A):Option A:=g110 a0.2.2.2.2.2.1 fun r1=>k (a0,([(r1,((-1),(a0.2.2.2.2.2.2.1,())))],()))
def Ca(n:Nat):rq A:=LC (EP n) n
abbrev k7(A:Type):=ef→Int→(yf A)→Option A
def BM(g76:rq A)(n:Nat)(c t4a:dx)(t4ba:eb)(t4bba:Int)(t4bbbb:lE)(t4bbba:nk)(xa:dx)(xba:eb)(xbba:Int)(xbbbb:lE)(k0:Do A)(r:(Pd A))(i:Int)(xbbba:nk):Option A:=bif (decide (i<c.2.2.2.2.1)) then if (xbbba.length+1)*232≤140737488355328 then r (IntKind.wrap .i64 (i+1)) (xbbba++[((c.2.1,(c.2.2.1,(false,((0,((List.replicate 32 (0:Int)),(0,()))),(0,([],(0,(0,(0,(false,())))))))))),(((c.2.2.2.2.2.1.length:Int),([],())),((List.replicate 32 (0:Int)),(false,(0,(0,(false,())))))))]) else none else k0 xbbba
def pA(g76:rq A)(n:Nat)(c t4a:dx)(t4ba:eb)(t4bba:Int)(t4bbbb:lE)(t4bbba:nk)(xa:dx)(xba:eb)(xbba:Int)(xbbbb:lE)(k0:Do A):Nat→(Pd A)|0=>fun _ _=>none|f+1=>BM g76 n c t4a t4ba t4bba t4bbbb t4bbba xa xba xbba xbbbb k0 (pA g76 n c t4a t4ba t4bba t4bbbb t4bbba xa xba xbba xbbbb k0 f)
def KA(g76:rq A)(n:Nat)(a0:dx)(a1:Int)(k:yf A):Option A:=g76 a0.1 fun r1=>pA g76 n a0 ((0,(0,(0,(0,(0,((0,((List.replicate 32 (0:Int)),((List.replicate 32 (0:Int)),(0,(0,(0,())))))),([],()))))))),(0,(0,(0,(0,([],())))))) ((0,(0,(0,(0,(0,((0,((List.replicate 32 (0:Int)),((List.replicate 32 (0:Int)),(0,(0,(0,())))))),([],()))))))),([],())) 0 ([],()) [] a0 r1 a1 ([],()) (fun y2=>k (a0,(r1,(a1,(y2,([],())))))) n 0 []
def vx(n:Nat):k7 A:=KA (Ca n) n
abbrev kj(A:Type):=(List ByteArray)→(bx A)→Option A
def yO(g78:iT A)(n:Nat)(t6:List ByteArray)(t7:Int)(k0:bx A)(r:(dz A))(t8:Int)(out:List (List Int)):Option A:=bif (decide (t8<t7)) then if 0≤t8 then(t6[(Int.toNat t8)]?).bind fun y1=>g78 y1 fun r2=>if (out.length+1)*32≤140737488355328 then r (IntKind.wrap .i64 (t8+1)) (out++[r2]) else none else none else k0 out
def nU(g78:iT A)(n:Nat)(t6:List ByteArray)(t7:Int)(k0:bx A):Nat→(dz A)|0=>fun _ _=>none|f+1=>yO g78 n t6 t7 k0 (nU g78 n t6 t7 k0 f)
def EW(g78:iT A)(n:Nat)(a0:List ByteArray)(k:bx A):Option A:=nU g78 n a0 (a0.length:Int) (fun y3=>k y3) n 0 []
def sg(n:Nat):kj A:=EW (pM n) n
abbrev rl(A:Type):=il→Int→(xN A)→Option A
def Lo(n:Nat)(a0:tH)(a1:Int)(k:xN A):Option A:=bif (a0.2.1 != 0) then k a0 ByteArray.empty else bif (decide (a1<0)) then bif (decide (0>(a0.1.size:Int))) then k (a0.1,(2,())) ByteArray.empty else if 0≤((a0.1.size:Nat):Int) then if 0≤((a0.1.size:Nat):Int) then k ((a0.1.extract 0 a0.1.size),(0,())) (a0.1.extract 0 0) else none else none else bif (decide (a1>(a0.1.size:Int))) then k (a0.1,(2,())) ByteArray.empty else if 0≤a1 then if a1≤((a0.1.size:Nat):Int) then if 0≤a1 then if a1≤((a0.1.size:Nat):Int) then k ((a0.1.extract (Int.toNat a1) a0.1.size),(0,())) (a0.1.extract 0 (Int.toNat a1)) else none else none else none else none
def vE(n:Nat):rl A:=Lo n
abbrev rn(A:Type):=(List Int)→(ae A)→Option A
def B5(n:Nat)(b:List Int)(k0:ae A)(r:(cq A))(n_ i:Int):Option A:=bif (decide (i≥0)) then bif (decide (i<8)) then if 0≤i then(b[(Int.toNat i)]?).bind fun y1=>r (IntKind.wrap .u64 ((IntKind.wrap .u64 (n_*256))+(IntKind.wrap .u64 y1))) (IntKind.wrap .i64 (i-1)) else none else r n_ (IntKind.wrap .i64 (i-1)) else k0 n_
def pL(n:Nat)(b:List Int)(k0:ae A):Nat→(cq A)|0=>fun _ _=>none|f+1=>B5 n b k0 (pL n b k0 f)
def Lr(n:Nat)(a0:List Int)(k:ae A):Option A:=pL n a0 (fun y2=>k y2) n 0 (IntKind.wrap .i64 ((a0.length:Int)-1))
def sO(n:Nat):rn A:=Lr n
abbrev rk(A:Type):=il→Int→(xO A)→Option A
def Kk(g67:lh A)(g66:rl A)(g68:rn A)(n:Nat)(a0:tH)(a1:Int)(k:xO A):Option A:=g67 a1 fun r1=>g66 a0 r1 fun r2 r3=>g68 (bd r3) fun r4=>k r2 r4
def pt(n:Nat):rk A:=Kk (sN n) (vE n) (sO n) n
abbrev eE(A:Type):=Int→(cJ A)→Option A
def EG(g115:gk A)(n:Nat)(a0:Int)(k:cJ A):Option A:=bif (decide (a0<253)) then g115 a0 1 fun r1=>k r1 else bif (decide (a0<65536)) then g115 a0 2 fun r2=>if NI.size+r2.size≤9223372036854775807 then k (NI++r2) else none else bif (decide (a0<4294967296)) then g115 a0 4 fun r3=>if NJ.size+r3.size≤9223372036854775807 then k (NJ++r3) else none else g115 a0 8 fun r4=>if NL.size+r4.size≤9223372036854775807 then k (NL++r4) else none
def jH(n:Nat):eE A:=EG (jc n) n
abbrev li(A:Type):=il→Int→(xO A)→Option A
def Lv(g68:rn A)(g105:eE A)(n:Nat)(a0:tH)(a1:Int)(k:xO A):Option A:=bif (a0.2.1 != 0) then k a0 0 else bif (decide ((a0.1.size:Int)>0)) then((bd a0.1)[0]?).bind fun y1=>bif (y1==253) then bif (decide ((a0.1.size:Int)<3)) then k (a0.1,(2,())) 0 else if 3≤((a0.1.size:Nat):Int) then g68 (bd (a0.1.extract 1 3)) fun r2=>g105 r2 fun r3=>if 3≤((a0.1.size:Nat):Int) then bif (!(r3.toList==(a0.1.extract 0 3).toList)) then k (a0.1,(3,())) 0 else bif (decide (r2>a1)) then k (a0.1,(4,())) 0 else if 3≤((a0.1.size:Nat):Int) then k ((a0.1.extract 3 a0.1.size),(0,())) r2 else none else none else none else bif (y1==254) then bif (decide ((a0.1.size:Int)<5)) then k (a0.1,(2,())) 0 else if 5≤((a0.1.size:Nat):Int) then g68 (bd (a0.1.extract 1 5)) fun r4=>g105 r4 fun r5=>if 5≤((a0.1.size:Nat):Int) then bif (!(r5.toList==(a0.1.extract 0 5).toList)) then k (a0.1,(3,())) 0 else bif (decide (r4>a1)) then k (a0.1,(4,())) 0 else if 5≤((a0.1.size:Nat):Int) then k ((a0.1.extract 5 a0.1.size),(0,())) r4 else none else none else none else bif (y1==255) then bif (decide ((a0.1.size:Int)<9)) then k (a0.1,(2,())) 0 else if 9≤((a0.1.size:Nat):Int) then g68 (bd (a0.1.extract 1 9)) fun r6=>g105 r6 fun r7=>if 9≤((a0.1.size:Nat):Int) then bif (!(r7.toList==(a0.1.extract 0 9).toList)) then k (a0.1,(3,())) 0 else bif (decide (r6>a1)) then k (a0.1,(4,())) 0 else if 9≤((a0.1.size:Nat):Int) then k ((a0.1.extract 9 a0.1.size),(0,())) r6 else none else none else none else bif (decide ((a0.1.size:Int)<1)) then k (a0.1,(2,())) 0 else if 1≤((a0.1.size:Nat):Int) then if 1≤((a0.1.size:Nat):Int) then g68 (bd (a0.1.extract 0 1)) fun r8=>g105 r8 fun r9=>if 1≤((a0.1.size:Nat):Int) then bif (!(r9.toList==(a0.1.extract 0 1).toList)) then k (a0.1,(3,())) 0 else bif (decide (r8>a1)) then k (a0.1,(4,())) 0 else if 1≤((a0.1.size:Nat):Int) then k ((a0.1.extract 1 a0.1.size),(0,())) r8 else none else none else none else none else bif (decide ((a0.1.size:Int)<1)) then k (a0.1,(2,())) 0 else if 1≤((a0.1.size:Nat):Int) then if 1≤((a0.1.size:Nat):Int) then g68 (bd (a0.1.extract 0 1)) fun r10=>g105 r10 fun r11=>if 1≤((a0.1.size:Nat):Int) then bif (!(r11.toList==(a0.1.extract 0 1).toList)) then k (a0.1,(3,())) 0 else bif (decide (r10>a1)) then k (a0.1,(4,())) 0 else if 1≤((a0.1.size:Nat):Int) then k ((a0.1.extract 1 a0.1.size),(0,())) r10 else none else none else none else none
def mE(n:Nat):li A:=Lv (sO n) (jH n) n
abbrev rp(A:Type):=il→Int→(xN A)→Option A
def Lx(g70:li A)(g66:rl A)(n:Nat)(a0:tH)(a1:Int)(k:xN A):Option A:=bif (decide (a1<0)) then g70 a0 0 fun r1 r2=>g66 r1 (IntKind.wrap .i64 r2) fun r3 r4=>bif (r3.2.1 != 0) then k (a0.1,(r3.2.1,())) ByteArray.empty else k r3 r4 else g70 a0 (IntKind.wrap .u64 a1) fun r5 r6=>g66 r5 (IntKind.wrap .i64 r6) fun r7 r8=>bif (r7.2.1 != 0) then k (a0.1,(r7.2.1,())) ByteArray.empty else k r7 r8
def sP(n:Nat):rp A:=Lx (mE n) (vE n) n
abbrev qB(A:Type):=ByteArray→(Oi A)→Option A
def zD(g38:rk A)(g70:li A)(g72:rp A)(n:Nat)(n_ t2a:Int)(t2bb:Unit)(t2ba:nl)(ta:Int)(tbb:Unit)(k0:Dp A)(r:(Oj A))(i:Int)(x:tH)(tba:nl):Option A:=bif (decide (i<n_)) then g38 x 8 fun r7 r8=>g72 r7 64 fun r9 r10=>if (tba.length+1)*24≤140737488355328 then r (IntKind.wrap .u64 (i+1)) r9 (tba++[(r8,(r10,()))]) else none else k0 x tba
def jK(g38:rk A)(g70:li A)(g72:rp A)(n:Nat)(n_ t2a:Int)(t2bb:Unit)(t2ba:nl)(ta:Int)(tbb:Unit)(k0:Dp A):Nat→(Oj A)|0=>fun _ _ _=>none|f+1=>zD g38 g70 g72 n n_ t2a t2bb t2ba ta tbb k0 (jK g38 g70 g72 n n_ t2a t2bb t2ba ta tbb k0 f)
def Gf(g38:rk A)(g70:li A)(g72:rp A)(n:Nat)(a0:ByteArray)(k:Oi A):Option A:=bif ((a0.size:Int)==64) then k (0,([],())) 3 else g38 (a0,(0,())) 1 fun r1 r2=>bif (r1.2.1==0) then bif (r2 != 1) then k (0,([],())) 3 else g38 r1 8 fun r3 r4=>g70 r3 8 fun r5 r6=>jK g38 g70 g72 n r6 0 () [] r4 () (fun y11 y12=>bif (y11.2.1 != 0) then k (0,([],())) y11.2.1 else bif (decide ((y11.1.size:Int)>0)) then k (0,([],())) 3 else k (r4,(y12,())) 0) n 0 r5 [] else g38 r1 8 fun r13 aQ=>g70 r13 8 fun aM r16=>jK g38 g70 g72 n r16 0 () [] aQ () (fun y17 y18=>bif (y17.2.1 != 0) then k (0,([],())) y17.2.1 else bif (decide ((y17.1.size:Int)>0)) then k (0,([],())) 3 else k (aQ,(y18,())) 0) n 0 aM []
def uJ(n:Nat):qB A:=Gf (pt n) (mE n) (sP n) n
abbrev kK(A:Type):=Int→Int→(ae A)→Option A
def AQ(n:Nat)(level:Int)(k0:ae A)(r:(cq A))(n_ i:Int):Option A:=bif (decide (i<level)) then r (IntKind.wrap .i64 (Int.tdiv (IntKind.wrap .i64 (n_+1)) 2)) (IntKind.wrap .i64 (i+1)) else k0 n_
def oT(n:Nat)(level:Int)(k0:ae A):Nat→(cq A)|0=>fun _ _=>none|f+1=>AQ n level k0 (oT n level k0 f)
def Iq(n:Nat)(a0 a1:Int)(k:ae A):Option A:=oT n a1 (fun y1=>k y1) n a0 0
def fG(n:Nat):kK A:=Iq n
abbrev N2(A:Type):=(List Int)→(List Int)→(ah A)→Option A
def It(g78:iT A)(n:Nat)(a0 a1:List Int)(k:ah A):Option A:=if (am ((a0.drop 0).take 32)).size+(am ((a1.drop 0).take 32)).size≤9223372036854775807 then g78 ((am ((a0.drop 0).take 32))++(am ((a1.drop 0).take 32))) fun r1=>k r1 else none
def iv(n:Nat):N2 A:=It (pM n) n
def zI(g_f162:(List (List Int))→Int→Int→(ah A)→Option A)(g_f228:Int→Int→(ae A)→Option A)(g_f229:(List Int)→(List Int)→(ah A)→Option A)(n:Nat)(a0:(List (List Int)))(a1:Int)(a2:Int)(k:(List Int)→Option A):Option A:=bif (a1==0) then if 0≤a2 then(a0[(Int.toNat a2)]?).bind fun y1=>k y1 else none else g_f162 a0 (IntKind.wrap .i64 (a1-1)) (IntKind.wrap .i64 (2*a2)) fun r2=>g_f228 (a0.length:Int) (IntKind.wrap .i64 (a1-1)) fun r3=>bif (decide ((IntKind.wrap .i64 ((IntKind.wrap .i64 (2*a2))+1))≥r3)) then g_f229 r2 r2 fun r4=>k r4 else g_f162 a0 (IntKind.wrap .i64 (a1-1)) (IntKind.wrap .i64 ((IntKind.wrap .i64 (2*a2))+1)) fun r5=>g_f229 r2 r5 fun r6=>k r6
def dQ:(n:Nat)→(List (List Int))→Int→Int→(ah A)→Option A|0=>fun _ _ _ _=>none|n+1=>fun a0 a1 a2 k=>zI (dQ n) (fG n) (iv n) n a0 a1 a2 k
abbrev iO(A:Type):=Int→(ae A)→Option A
def Rv(n:Nat)(n_:Int)(k0:ae A)(r:(cq A))(d_ k_:Int):Option A:=bif (decide (k_<n_)) then r (IntKind.wrap .i64 (d_+1)) (IntKind.wrap .i64 (k_*2)) else k0 d_
def zK(n:Nat)(n_:Int)(k0:ae A):Nat→(cq A)|0=>fun _ _=>none|f+1=>Rv n n_ k0 (zK n n_ k0 f)
def Rx(n:Nat)(a0:Int)(k:ae A):Option A:=zK n a0 (fun y1=>k y1) n 0 1
def oB(n:Nat):iO A:=Rx n
abbrev qC(A:Type):=(List (List Int))→(aW A)→Option A
def zH(g163:iO A)(g228:kK A)(g162:lF A)(n:Nat)(l:List (List Int))(level:Int)(k0 k1:Option A)(r:(ae A))(at_:Int):Option A:=g228 (l.length:Int) level fun r2=>bif (decide ((IntKind.wrap .i64 ((IntKind.wrap .i64 (2*at_))+1))<r2)) then g162 l level (IntKind.wrap .i64 (2*at_)) fun r3=>g162 l level (IntKind.wrap .i64 ((IntKind.wrap .i64 (2*at_))+1)) fun r4=>bif (cY aa r3 r4) then k0 else r (IntKind.wrap .i64 (at_+1)) else k1
def oy(g163:iO A)(g228:kK A)(g162:lF A)(n:Nat)(l:List (List Int))(level:Int)(k0 k1:Option A):Nat→(ae A)|0=>fun _=>none|f+1=>zH g163 g228 g162 n l level k0 k1 (oy g163 g228 g162 n l level k0 k1 f)
def zG(g163:iO A)(g228:kK A)(g162:lF A)(n:Nat)(l:List (List Int))(k0 k1:Option A)(r:(ae A))(level:Int):Option A:=g163 (l.length:Int) fun r1=>bif (decide (level<r1)) then oy g163 g228 g162 n l level ( k0) ( r (IntKind.wrap .i64 (level+1))) n 0 else k1
def ox(g163:iO A)(g228:kK A)(g162:lF A)(n:Nat)(l:List (List Int))(k0 k1:Option A):Nat→(ae A)|0=>fun _=>none|f+1=>zG g163 g228 g162 n l k0 k1 (ox g163 g228 g162 n l k0 k1 f)
def Gj(g163:iO A)(g228:kK A)(g162:lF A)(n:Nat)(a0:List (List Int))(k:aW A):Option A:=ox g163 g228 g162 n a0 ( k true) ( k false) n 0
def uK(n:Nat):qC A:=Gj (oB n) (fG n) (dQ n) n
abbrev wV(A:Type):=(List ByteArray)→(ae A)→Option A
def yL(g160:qB A)(g113:kj A)(g161:qC A)(n:Nat)(txs t15:List ByteArray)(t16:Int)(k0:ae A)(k1:Option A)(r:(ae A))(t17:Int):Option A:=bif (decide (t17<t16)) then if 0≤t17 then(t15[(Int.toNat t17)]?).bind fun y1=>g160 y1 fun r2 r3=>bif (r3 != 0) then k0 r3 else r (IntKind.wrap .i64 (t17+1)) else none else k1
def nT(g160:qB A)(g113:kj A)(g161:qC A)(n:Nat)(txs t15:List ByteArray)(t16:Int)(k0:ae A)(k1:Option A):Nat→(ae A)|0=>fun _=>none|f+1=>yL g160 g113 g161 n txs t15 t16 k0 k1 (nT g160 g113 g161 n txs t15 t16 k0 k1 f)
def ES(g160:qB A)(g113:kj A)(g161:qC A)(n:Nat)(a0:List ByteArray)(k:ae A):Option A:=bif ((a0.length:Int)==0) then k 5 else bif (decide ((a0.length:Int)>16)) then k 5 else nT g160 g113 g161 n a0 a0 (a0.length:Int) (fun y4=>k y4) ( g113 a0 fun r5=>g161 r5 fun r6=>bif r6 then k 7 else k 0) n 0
def yM(n:Nat):wV A:=ES (uJ n) (sg n) (uK n) n
abbrev wW(A:Type):=(List (List Int))→(ah A)→Option A
def EV(g163:iO A)(g162:lF A)(n:Nat)(a0:List (List Int))(k:ah A):Option A:=bif ((a0.length:Int)==0) then k (List.replicate 32 (0:Int)) else g163 (a0.length:Int) fun r1=>g162 a0 r1 0 fun r2=>k r2
def yN(n:Nat):wW A:=EV (oB n) (dQ n) n
abbrev rr(A:Type):=xP→(ae A)→Option A
def LE(g111:wV A)(g113:kj A)(g112:wW A)(n:Nat)(a0:Yv)(k:ae A):Option A:=g111 a0.2.1 fun r1=>bif (r1 != 0) then k r1 else g113 a0.2.1 fun r2=>g112 r2 fun r3=>bif (!(cY aa r3 a0.1.2.2.1)) then k 15 else k 0
def vG(n:Nat):rr A:=LE (yM n) (sg n) (yN n) n
abbrev k8(A:Type):=(List Int)→jv→(Ol A)→Option A
def BN(g77:rr A)(g47:fu A)(n:Nat)(t18:ry)(t19:Int)(t4:Om)(da:ry)(dbb:Unit)(k0:dz A)(k1:bx A)(r:(dz A))(t20:Int)(dba:List (List Int)):Option A:=bif (decide (t20<t19)) then if 0≤t20 then(t18[(Int.toNat t20)]?).bind fun y1=>g77 y1 fun r2=>bif (r2 != 0) then k0 r2 dba else if 0≤t20 then if t20<(dba.length:Int) then(dba[(Int.toNat t20)]?).bind fun y3=>bif (!(cY aa y1.1.2.1 y3)) then k0 9 dba else g47 y1.1 fun r4=>if (dba.length+1)*32≤140737488355328 then r (IntKind.wrap .i64 (t20+1)) (dba++[r4]) else none else none else none else none else k1 dba
def pB(g77:rr A)(g47:fu A)(n:Nat)(t18:ry)(t19:Int)(t4:Om)(da:ry)(dbb:Unit)(k0:dz A)(k1:bx A):Nat→(dz A)|0=>fun _ _=>none|f+1=>BN g77 g47 n t18 t19 t4 da dbb k0 k1 (pB g77 g47 n t18 t19 t4 da dbb k0 k1 f)
def KD(g77:rr A)(g47:fu A)(n:Nat)(a0:List Int)(a1:ry)(k:Ol A):Option A:=bif (decide ((a1.length:Int)>512)) then k ([],([],())) 4 else pB g77 g47 n a1 (a1.length:Int) ([],([],())) a1 () (fun y5 y6=>k ([],([],())) y5) (fun y7=>k (a1,(y7,())) 0) n 0 [a0]
def vy(n:Nat):k8 A:=KD (vG n) (mw n) n
abbrev xw(A:Type):=Int→Int→Int→(ae A)→Option A
def SI(g75:gw A)(n:Nat)(most fails:Int)(k0 k1:ae A)(r:(cq A))(d_ i:Int):Option A:=bif (decide (i<fails)) then bif (decide (d_≥most)) then k0 d_ else r (IntKind.wrap .i64 (d_+d_)) (IntKind.wrap .i64 (i+1)) else k1 d_
def AW(g75:gw A)(n:Nat)(most fails:Int)(k0 k1:ae A):Nat→(cq A)|0=>fun _ _=>none|f+1=>SI g75 n most fails k0 k1 (AW g75 n most fails k0 k1 f)
def SK(g75:gw A)(n:Nat)(a0 a1 a2:Int)(k:ae A):Option A:=g75 a0 a1 fun r1=>bif (!r1) then k 0 else bif (decide (a2<1)) then k 0 else AW g75 n a1 a2 (fun y2=>k a1) (fun y3=>bif (decide (y3>a1)) then k a1 else k y3) n a0 1
def SJ(n:Nat):xw A:=SK (sQ n) n
abbrev xf(A:Type):=i4→Int→(xR A)→Option A
def RE(g232:xw A)(n:Nat)(a0:tI)(a1:Int)(k:xR A):Option A:=g232 a0.1 a0.2.1 (IntKind.wrap .i64 (a0.2.2.2.2.2.2.1+1)) fun r1=>k (a0.1,(a0.2.1,(a0.2.2.1,(a0.2.2.2.1,(a0.2.2.2.2.1,(a0.2.2.2.2.2.1,((IntKind.wrap .i64 (a0.2.2.2.2.2.2.1+1)),((IntKind.wrap .i64 (a1+r1)),a0.2.2.2.2.2.2.2.2))))))))
def RD(n:Nat):xf A:=RE (SJ n) n
abbrev xg(A:Type):=i4→(xR A)→Option A
def RG(n:Nat)(a0:tI)(k:xR A):Option A:=k (a0.1,(a0.2.1,(false,((0,((List.replicate 32 (0:Int)),(0,()))),(0,a0.2.2.2.2.2)))))
def RF(n:Nat):xg A:=RG n
abbrev qq(A:Type):=i4→Int→(On A)→Option A
def E9(g168:xg A)(g167:xf A)(n:Nat)(a0:tI)(a1:Int)(k:On A):Option A:=bif (!a0.2.2.1) then k a0 (0,((List.replicate 32 (0:Int)),(0,()))) false else bif (decide (a1<a0.2.2.2.2.1)) then k a0 (0,((List.replicate 32 (0:Int)),(0,()))) false else if (0+a0.2.2.2.2.2.1.length)*48≤140737488355328 then if (a0.2.2.2.2.2.1.length+1)*48≤140737488355328 then g168 (a0.1,(a0.2.1,(a0.2.2.1,(a0.2.2.2.1,(a0.2.2.2.2.1,((a0.2.2.2.2.2.1++[a0.2.2.2.1]),a0.2.2.2.2.2.2)))))) fun r1=>g167 r1 a1 fun r2=>k r2 a0.2.2.2.1 true else none else none
def uq(n:Nat):qq A:=E9 (RF n) (RD n) n
abbrev iL(A:Type):=eO→Int→ye→(yf A)→Option A
def Fd(n:Nat)(a0:fy)(a1:Int)(a2:Dq)(k:yf A):Option A:=if (0+a0.2.2.2.1.length)*232≤140737488355328 then if 0≤a1 then if a1<(a0.2.2.2.1.length:Int) then if (Int.toNat a1)<a0.2.2.2.1.length then k (a0.1,(a0.2.1,(a0.2.2.1,((a0.2.2.2.1.set (Int.toNat a1) a2),a0.2.2.2.2)))) else none else none else none else none
def sm(n:Nat):iL A:=Fd n
abbrev kC(A:Type):=i4→Int→(aW A)→Option A
def GB(n:Nat)(a0:tI)(a1:Int)(k:aW A):Option A:=bif (!a0.2.2.2.2.2.2.2.2.2.1) then bif (!a0.2.2.1) then k (decide (a1≥a0.2.2.2.2.2.2.2.1)) else k false else k false
def uO(n:Nat):kC A:=GB n
abbrev qS(A:Type):=rM→(List Int)→(ae A)→Option A
def SM(n:Nat)(s:rz)(x:List Int)(k0:ae A)(k1:Option A)(r:(ae A))(i:Int):Option A:=bif (decide (i<(s.2.1.length:Int))) then if 0≤i then(s.2.1[(Int.toNat i)]?).bind fun y1=>bif (cY aa y1.1 x) then k0 i else r (IntKind.wrap .i64 (i+1)) else none else k1
def AX(n:Nat)(s:rz)(x:List Int)(k0:ae A)(k1:Option A):Nat→(ae A)|0=>fun _=>none|f+1=>SM n s x k0 k1 (AX n s x k0 k1 f)
def SO(n:Nat)(a0:rz)(a1:List Int)(k:ae A):Option A:=AX n a0 a1 (fun y2=>k y2) ( k (-1)) n 0
def SN(n:Nat):qS A:=SO n
abbrev qE(A:Type):=rM→(List (List Int))→(xS A)→Option A
def RJ(g233:qS A)(n:Nat)(line:List (List Int))(s:rz)(t4:ec)(k0:rA A)(k1:Option A)(r:(ae A))(i:Int):Option A:=bif (decide (i<(line.length:Int))) then if 0≤i then(line[(Int.toNat i)]?).bind fun y1=>g233 s y1 fun r2=>bif (decide (r2<0)) then if 0≤i then(line[(Int.toNat i)]?).bind fun y3=>k0 (3,(y3,(0,()))) else none else if 0≤r2 then(s.2.1[(Int.toNat r2)]?).bind fun y4=>bif (decide ((y4.2.1.length:Int)>0)) then if 0≤i then(line[(Int.toNat i)]?).bind fun y5=>if 0≤r2 then(s.2.1[(Int.toNat r2)]?).bind fun y6=>(y6.2.1[0]?).bind fun y7=>k0 (5,(y5,(y7,()))) else none else none else r (IntKind.wrap .i64 (i+1)) else none else none else k1
def zT(g233:qS A)(n:Nat)(line:List (List Int))(s:rz)(t4:ec)(k0:rA A)(k1:Option A):Nat→(ae A)|0=>fun _=>none|f+1=>RJ g233 n line s t4 k0 k1 (zT g233 n line s t4 k0 k1 f)
def GD(g233:qS A)(n:Nat)(a0:rz)(a1:List (List Int))(k:xS A):Option A:=bif (a0.1==0) then k (0,((List.replicate 32 (0:Int)),(0,()))) false else zT g233 n a1 a0 (0,((List.replicate 32 (0:Int)),(0,()))) (fun y8=>k y8 true) ( k (0,((List.replicate 32 (0:Int)),(0,()))) false) n 1
def zS(n:Nat):qE A:=GD (SN n) n
def SQ(g_f234:dt→Int→(ah A)→Option A)(n:Nat)(a0:dt)(a1:Int)(k:(List Int)→Option A):Option A:=bif (decide (a1<0)) then k [] else if 0≤a1 then(a0.2.1[(Int.toNat a1)]?).bind fun y1=>g_f234 a0 y1.2.1 fun r2=>if (r2.length+1)*8≤140737488355328 then k (r2++[a1]) else none else none
def fH:(n:Nat)→dt→Int→(ah A)→Option A|0=>fun _ _ _=>none|n+1=>fun a0 a1 k=>SQ (fH n) n a0 a1 k
abbrev qF(A:Type):=dt→Int→(bx A)→Option A
def RM(g234:xT A)(n:Nat)(t11:Int)(t:eb)(t10:List Int)(k0:bx A)(r:(dz A))(t12:Int)(out:List (List Int)):Option A:=bif (decide (t12<t11)) then if 0≤t12 then if t12<(t10.length:Int) then(t10[(Int.toNat t12)]?).bind fun y2=>if 0≤y2 then(t.2.1[(Int.toNat y2)]?).bind fun y3=>if (out.length+1)*32≤140737488355328 then r (IntKind.wrap .i64 (t12+1)) (out++[y3.1.2.1]) else none else none else none else none else k0 out
def zV(g234:xT A)(n:Nat)(t11:Int)(t:eb)(t10:List Int)(k0:bx A):Nat→(dz A)|0=>fun _ _=>none|f+1=>RM g234 n t11 t t10 k0 (zV g234 n t11 t t10 k0 f)
def GG(g234:xT A)(n:Nat)(a0:eb)(a1:Int)(k:bx A):Option A:=g234 a0 a1 fun r1=>zV g234 n (r1.length:Int) a0 r1 (fun y4=>k y4) n 0 []
def zU(n:Nat):qF A:=GG (fH n) n
abbrev qG(A:Type):=dt→(ae A)→Option A
def zX(g109:dV A)(n:Nat)(t:eb)(k0:ae A)(r:(cq A))(best i:Int):Option A:=bif (decide (i<(t.2.1.length:Int))) then if 0≤best then(t.2.1[(Int.toNat best)]?).bind fun y1=>if 0≤i then(t.2.1[(Int.toNat i)]?).bind fun y2=>g109 y1.2.2.1 y2.2.2.1 fun r3=>bif r3 then r i (IntKind.wrap .i64 (i+1)) else r best (IntKind.wrap .i64 (i+1)) else none else none else k0 best
def sx(g109:dV A)(n:Nat)(t:eb)(k0:ae A):Nat→(cq A)|0=>fun _ _=>none|f+1=>zX g109 n t k0 (sx g109 n t k0 f)
def GJ(g109:dV A)(n:Nat)(a0:eb)(k:ae A):Option A:=sx g109 n a0 (fun y4=>k y4) n 0 0
def zY(n:Nat):qG A:=GJ (jb n) n
abbrev qH(A:Type):=dt→(List Int)→(ae A)→Option A
def RQ(n:Nat)(t:eb)(x:List Int)(k0:ae A)(k1:Option A)(r:(ae A))(i:Int):Option A:=bif (decide (i<(t.2.1.length:Int))) then if 0≤i then(t.2.1[(Int.toNat i)]?).bind fun y1=>bif (cY aa y1.1.2.1 x) then k0 i else r (IntKind.wrap .i64 (i+1)) else none else k1
def zZ(n:Nat)(t:eb)(x:List Int)(k0:ae A)(k1:Option A):Nat→(ae A)|0=>fun _=>none|f+1=>RQ n t x k0 k1 (zZ n t x k0 k1 f)
def RT(n:Nat)(a0:eb)(a1:List Int)(k:ae A):Option A:=zZ n a0 a1 (fun y2=>k y2) ( k (-1)) n 0
def RR(n:Nat):qH A:=RT n
abbrev qI(A:Type):=Int→(ah A)→Option A
def RW(n:Nat)(k0:ah A)(r:(fB A))(at_ step:Int)(out:List Int):Option A:=bif (decide ((out.length:Int)≥10)) then bif (decide (at_>0)) then if (out.length+1)*8≤140737488355328 then r (IntKind.wrap .i64 (at_-(IntKind.wrap .i64 (step*2)))) (IntKind.wrap .i64 (step*2)) (out++[at_]) else none else k0 out else k0 out
def uP(n:Nat)(k0:ah A):Nat→(fB A)|0=>fun _ _ _=>none|f+1=>RW n k0 (uP n k0 f)
def RU(n:Nat)(k0:bt A)(r:(fB A))(at_ i:Int)(out:List Int):Option A:=bif (decide (i<10)) then bif (decide (at_>0)) then if (out.length+1)*8≤140737488355328 then r (IntKind.wrap .i64 (at_-1)) (IntKind.wrap .i64 (i+1)) (out++[at_]) else none else k0 at_ out else k0 at_ out
def Aa(n:Nat)(k0:bt A):Nat→(fB A)|0=>fun _ _ _=>none|f+1=>RU n k0 (Aa n k0 f)
def RX(n:Nat)(a0:Int)(k:ah A):Option A:=bif (a0==0) then k [] else Aa n (fun y1 y2=>bif (decide ((y2.length:Int)>0)) then if 0≤(IntKind.wrap .i64 ((y2.length:Int)-1)) then if (IntKind.wrap .i64 ((y2.length:Int)-1))<(y2.length:Int) then(y2[(Int.toNat (IntKind.wrap .i64 ((y2.length:Int)-1)))]?).bind fun y3=>uP n (fun y4=>if (y4.length+1)*8≤140737488355328 then k (y4++[0]) else none) n (IntKind.wrap .i64 (y3-2)) 2 y2 else none else none else uP n (fun y5=>if (y5.length+1)*8≤140737488355328 then k (y5++[0]) else none) n y1 2 y2) n (IntKind.wrap .i64 (a0-1)) 0 []
def GQ(n:Nat):qI A:=RX n
abbrev qJ(A:Type):=i4→cP→Int→(Oo A)→Option A
def GU(g169:kC A)(n:Nat)(a0:tI)(a1:ec)(a2:Int)(k:Oo A):Option A:=bif (decide (a2<0)) then k a0 5 else bif (decide (a2>1099511627776)) then k a0 5 else g169 a0 a2 fun r1=>bif (!r1) then k a0 16 else k (a0.1,(a0.2.1,(true,(a1,((IntKind.wrap .i64 (a2+a0.1)),a0.2.2.2.2.2))))) 0
def Ab(n:Nat):qJ A:=GU (uO n) n
abbrev kY(A:Type):=Int→(cJ A)→Option A
def TT(n:Nat)(a0:Int)(k:cJ A):Option A:=bif (decide (a0<1)) then k ByteArray.empty else bif (decide (a0>9)) then k ByteArray.empty else if 0≤a0 then if a0<10 then((((((((((((List.replicate 10 (ByteArray.empty:ByteArray)).set 0 ByteArray.empty).set 1 fP).set 2 amR).set 3 amS).set 4 amT).set 5 amU).set 6 amV).set 7 XF).set 8 XF).set 9 amH)[(Int.toNat a0)]?).bind fun y1=>k y1 else none else none
def BG(n:Nat):kY A:=TT n
abbrev kM(A:Type):=ByteArray→Int→(aW A)→Option A
def ST(n:Nat)(s:ByteArray)(f_:Int)(k0 k1:Option A)(r:(ae A))(i:Int):Option A:=bif (decide (i<(s.size:Int))) then if 0≤i then((bd s)[(Int.toNat i)]?).bind fun y1=>bif (y1==f_) then k0 else r (IntKind.wrap .i64 (i+1)) else none else k1
def AY(n:Nat)(s:ByteArray)(f_:Int)(k0 k1:Option A):Nat→(ae A)|0=>fun _=>none|f+1=>ST n s f_ k0 k1 (AY n s f_ k0 k1 f)
def SU(n:Nat)(a0:ByteArray)(a1:Int)(k:aW A):Option A:=AY n a0 a1 ( k true) ( k false) n 0
def IJ(n:Nat):kM A:=SU n
abbrev kN(A:Type):=no→Int→(aW A)→Option A
def SV(n:Nat)(a0:lG)(a1:Int)(k:aW A):Option A:=bif (a1==108) then k ((a0.2.1.length:Int)==0) else bif (a1==115) then k (cY aa a0.2.2.1 (List.replicate 32 (0:Int))) else bif (a1==104) then k ((a0.2.2.2.1.length:Int)==0) else bif (a1==98) then k (cY aa a0.2.2.2.2.1 (List.replicate 32 (0:Int))) else bif (a1==105) then k (a0.2.2.2.2.2.1.toList==ByteArray.empty.toList) else bif (a1==100) then k (a0.2.2.2.2.2.2.1.toList==ByteArray.empty.toList) else bif (a1==101) then k ((a0.2.2.2.2.2.2.2.1.length:Int)==0) else bif (a1==110) then k (a0.2.2.2.2.2.2.2.2.1==0) else bif (a1==111) then k (a0.2.2.2.2.2.2.2.2.2.1==0) else k (a0.2.2.2.2.2.2.2.2.2.2.1==0)
def IM(n:Nat):kN A:=SV n
abbrev kO(A:Type):=no→Int→(aW A)→Option A
def SX(n:Nat)(t60:rC)(t61:Int)(k0 k1:Option A)(r:(ae A))(t62:Int):Option A:=bif (decide (t62<t61)) then if 0≤t62 then(t60[(Int.toNat t62)]?).bind fun y1=>bif (decide ((y1.1.size:Int)>700)) then k0 else bif (decide (y1.2.1.1<0)) then k0 else bif (decide (y1.2.1.1>65536)) then k0 else bif (decide (y1.2.1.2.1<0)) then k0 else bif (decide (y1.2.1.2.1>65536)) then k0 else bif (decide ((y1.2.1.2.2.1.length:Int)>16)) then k0 else r (IntKind.wrap .i64 (t62+1)) else none else k1
def AZ(n:Nat)(t60:rC)(t61:Int)(k0 k1:Option A):Nat→(ae A)|0=>fun _=>none|f+1=>SX n t60 t61 k0 k1 (AZ n t60 t61 k0 k1 f)
def SY(n:Nat)(a0:lG)(a1:Int)(k:aW A):Option A:=bif (a1==108) then k (decide ((a0.2.1.length:Int)≤64)) else bif (a1==104) then k (decide ((a0.2.2.2.1.length:Int)≤2000)) else bif (a1==105) then k (decide ((a0.2.2.2.2.2.1.size:Int)≤64)) else bif (a1==100) then k (decide ((a0.2.2.2.2.2.2.1.size:Int)≤2048)) else bif (a1==111) then bif (decide (a0.2.2.2.2.2.2.2.2.2.1≥0)) then k (decide (a0.2.2.2.2.2.2.2.2.2.1≤255)) else k false else bif (a1==99) then bif (decide (a0.2.2.2.2.2.2.2.2.2.2.1≥0)) then k (decide (a0.2.2.2.2.2.2.2.2.2.2.1≤255)) else k false else bif (a1==101) then bif (decide ((a0.2.2.2.2.2.2.2.1.length:Int)>16)) then k false else AZ n a0.2.2.2.2.2.2.2.1 (a0.2.2.2.2.2.2.2.1.length:Int) ( k false) ( k true) n 0 else k true
def jg(n:Nat):kO A:=SY n
abbrev kQ(A:Type):=(List (List Int))→(cJ A)→Option A
def Tp(g105:eE A)(n:Nat)(t10:List (List Int))(t11:Int)(k0:cJ A)(r:(iW A))(out:ByteArray)(t12:Int):Option A:=bif (decide (t12<t11)) then if 0≤t12 then(t10[(Int.toNat t12)]?).bind fun y2=>if out.size+(am ((y2.drop 0).take 32)).size≤9223372036854775807 then r (out++(am ((y2.drop 0).take 32))) (IntKind.wrap .i64 (t12+1)) else none else none else k0 out
def Br(g105:eE A)(n:Nat)(t10:List (List Int))(t11:Int)(k0:cJ A):Nat→(iW A)|0=>fun _ _=>none|f+1=>Tp g105 n t10 t11 k0 (Br g105 n t10 t11 k0 f)
def Tq(g105:eE A)(n:Nat)(a0:List (List Int))(k:cJ A):Option A:=g105 (IntKind.wrap .u64 (a0.length:Int)) fun r1=>Br g105 n a0 (a0.length:Int) (fun y3=>k y3) n r1 0
def pe(n:Nat):kQ A:=Tq (jH n) n
abbrev kR(A:Type):=ByteArray→(cJ A)→Option A
def Ts(g105:eE A)(n:Nat)(a0:ByteArray)(k:cJ A):Option A:=g105 (IntKind.wrap .u64 (a0.size:Int)) fun r1=>if r1.size+a0.size≤9223372036854775807 then k (r1++a0) else none
def Tr(n:Nat):kR A:=Ts (jH n) n
abbrev kP(A:Type):=no→Int→(cJ A)→Option A
def S0(g277:kQ A)(g105:eE A)(g79:iU A)(g278:kR A)(g115:gk A)(n:Nat)(t65:rC)(t66:Int)(k0:cJ A)(r:(iW A))(out:ByteArray)(t67:Int):Option A:=bif (decide (t67<t66)) then if 0≤t67 then(t65[(Int.toNat t67)]?).bind fun y9=>g278 y9.1 fun r10=>g105 (IntKind.wrap .u64 y9.2.1.1) fun r11=>if r10.size+r11.size≤9223372036854775807 then g105 (IntKind.wrap .u64 y9.2.1.2.1) fun r12=>if (r10++r11).size+r12.size≤9223372036854775807 then g277 y9.2.1.2.2.1 fun r13=>if ((r10++r11)++r12).size+r13.size≤9223372036854775807 then if out.size+(((r10++r11)++r12)++r13).size≤9223372036854775807 then r (out++(((r10++r11)++r12)++r13)) (IntKind.wrap .i64 (t67+1)) else none else none else none else none else none else k0 out
def A1(g277:kQ A)(g105:eE A)(g79:iU A)(g278:kR A)(g115:gk A)(n:Nat)(t65:rC)(t66:Int)(k0:cJ A):Nat→(iW A)|0=>fun _ _=>none|f+1=>S0 g277 g105 g79 g278 g115 n t65 t66 k0 (A1 g277 g105 g79 g278 g115 n t65 t66 k0 f)
def SZ(g277:kQ A)(g105:eE A)(g79:iU A)(g278:kR A)(g115:gk A)(n:Nat)(t30:rD)(t31:Int)(k0:cJ A)(r:(iW A))(out:ByteArray)(t32:Int):Option A:=bif (decide (t32<t31)) then if 0≤t32 then(t30[(Int.toNat t32)]?).bind fun y3=>g79 y3 fun r4=>if out.size+r4.size≤9223372036854775807 then r (out++r4) (IntKind.wrap .i64 (t32+1)) else none else none else k0 out
def A0(g277:kQ A)(g105:eE A)(g79:iU A)(g278:kR A)(g115:gk A)(n:Nat)(t30:rD)(t31:Int)(k0:cJ A):Nat→(iW A)|0=>fun _ _=>none|f+1=>SZ g277 g105 g79 g278 g115 n t30 t31 k0 (A0 g277 g105 g79 g278 g115 n t30 t31 k0 f)
def IS(g277:kQ A)(g105:eE A)(g79:iU A)(g278:kR A)(g115:gk A)(n:Nat)(a0:lG)(a1:Int)(k:cJ A):Option A:=bif (a1==108) then g277 a0.2.1 fun r1=>k r1 else bif (a1==115) then k (am ((a0.2.2.1.drop 0).take 32)) else bif (a1==104) then g105 (IntKind.wrap .u64 (a0.2.2.2.1.length:Int)) fun r2=>A0 g277 g105 g79 g278 g115 n a0.2.2.2.1 (a0.2.2.2.1.length:Int) (fun y5=>k y5) n r2 0 else bif (a1==98) then k (am ((a0.2.2.2.2.1.drop 0).take 32)) else bif (a1==105) then g278 a0.2.2.2.2.2.1 fun r6=>k r6 else bif (a1==100) then g278 a0.2.2.2.2.2.2.1 fun r7=>k r7 else bif (a1==101) then g105 (IntKind.wrap .u64 (a0.2.2.2.2.2.2.2.1.length:Int)) fun r8=>A1 g277 g105 g79 g278 g115 n a0.2.2.2.2.2.2.2.1 (a0.2.2.2.2.2.2.2.1.length:Int) (fun y14=>k y14) n r8 0 else bif (a1==110) then g115 a0.2.2.2.2.2.2.2.2.1 8 fun aM=>k aM else bif (a1==111) then g115 (IntKind.wrap .u64 a0.2.2.2.2.2.2.2.2.2.1) 1 fun r16=>k r16 else g115 (IntKind.wrap .u64 a0.2.2.2.2.2.2.2.2.2.2.1) 1 fun r17=>k r17
def iw(n:Nat):kP A:=IS (pe n) (jH n) (vI n) (Tr n) (jc n) n
abbrev qK(A:Type):=no→(iW A)→Option A
def Ac(g39:kY A)(g235:kM A)(g236:kN A)(g237:kO A)(g238:kP A)(n:Nat)(uses:ByteArray)(m:lG)(k0 k1:cJ A)(r:(iW A))(out:ByteArray)(i:Int):Option A:=bif (decide (i<(uses.size:Int))) then if 0≤i then((bd uses)[(Int.toNat i)]?).bind fun y6=>g237 m y6 fun r7=>bif (!r7) then k0 out else if 0≤i then((bd uses)[(Int.toNat i)]?).bind fun y8=>g238 m y8 fun r9=>if out.size+r9.size≤9223372036854775807 then r (out++r9) (IntKind.wrap .i64 (i+1)) else none else none else none else k1 out
def jL(g39:kY A)(g235:kM A)(g236:kN A)(g237:kO A)(g238:kP A)(n:Nat)(uses:ByteArray)(m:lG)(k0 k1:cJ A):Nat→(iW A)|0=>fun _ _=>none|f+1=>Ac g39 g235 g236 g237 g238 n uses m k0 k1 (jL g39 g235 g236 g237 g238 n uses m k0 k1 f)
def RY(g39:kY A)(g235:kM A)(g236:kN A)(g237:kO A)(g238:kP A)(n:Nat)(uses all:ByteArray)(m:lG)(k0 k1:Option A)(r:(ae A))(i:Int):Option A:=bif (decide (i<(all.size:Int))) then if 0≤i then((bd all)[(Int.toNat i)]?).bind fun y2=>g235 uses y2 fun r3=>bif (!r3) then if 0≤i then((bd all)[(Int.toNat i)]?).bind fun y4=>g236 m y4 fun r5=>bif (!r5) then k0 else r (IntKind.wrap .i64 (i+1)) else none else r (IntKind.wrap .i64 (i+1)) else none else k1
def uQ(g39:kY A)(g235:kM A)(g236:kN A)(g237:kO A)(g238:kP A)(n:Nat)(uses all:ByteArray)(m:lG)(k0 k1:Option A):Nat→(ae A)|0=>fun _=>none|f+1=>RY g39 g235 g236 g237 g238 n uses all m k0 k1 (uQ g39 g235 g236 g237 g238 n uses all m k0 k1 f)
def GX(g39:kY A)(g235:kM A)(g236:kN A)(g237:kO A)(g238:kP A)(n:Nat)(a0:lG)(k:iW A):Option A:=g39 a0.1 fun r1=>bif (r1.toList==ByteArray.empty.toList) then k ByteArray.empty 3 else uQ g39 g235 g236 g237 g238 n r1 XE a0 ( k ByteArray.empty 3) ( jL g39 g235 g236 g237 g238 n r1 a0 (fun y10=>k ByteArray.empty 4) (fun y11=>k y11 0) n (am [(IntKind.wrap .u8 a0.1)]) 0) n 0
def Ad(n:Nat):qK A:=GX (BG n) (IJ n) (IM n) (jg n) (iw n) n
end Go.Ev
