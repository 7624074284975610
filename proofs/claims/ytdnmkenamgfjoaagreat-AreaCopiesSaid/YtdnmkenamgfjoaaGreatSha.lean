/-
 Contracts.
-/
import Derived.Test.YtdnmkenamgfjoaaGreatLin1
import Derived.IntWalk
import Derived.KernelRfl
set_option linter.unusedSimpArgs false
set_option linter.unusedVariables false
set_option linter.unusedSectionVars false
namespace Go.Proofs.YtdnmkenamgfjoaaGreat.sha
open Go Go.Ab Go.Proofs Go.RowKit str vers lin1
variable [Inhabited TabBox]
variable [Nonempty GF]
variable [Nonempty GE]
set_option maxRecDepth 100000
def c130 : AC := sO [oP 0 (.alloc (zl .u32 8))] (sO [oP 1 (.build (zl .u32 8) [(0,1,.const (.int .u32 1779033703)),(1,1,.const (.int .u32 3144134277)),(2,1,.const (.int .u32 1013904242)),(3,1,.const (.int .u32 2773480762)),(4,1,.const (.int .u32 1359893119)),(5,1,.const (.int .u32 2600822924)),(6,1,.const (.int .u32 528734635)),(7,1,.const (.int .u32 1541459225))]),nP (.store 8 (tP 0) (tP 1))] .ret)
theorem k130 : compR Tryz.prog Tryz.f130 = some (c130,[.c 0 (some 8)]) := by kernel_rfl
theorem n130 : Tryz.f130.ntmps = 2 := by kernel_rfl
def c186 : AC := sO [oP 4 (.mv (.const (.int .u32 0)))] (sO [mV 6 1,oP 7 (.toInt .u64 (tP 6)),oP 8 (.bin .and (tP 7) (.const (.int .u64 31))),mV 5 8] (sO [mV 9 0,mV 10 5,oP 11 (bT .shl 9 10),mV 12 0,mV 13 5,oP 14 (.bin .sub (.const (.int .u64 32)) (tP 13)),oP 15 (bT .shr 12 14),oP 16 (bT .or 11 15),mV 4 16] .ret))
theorem k186 : compF Tryz.prog Tryz.f186 = some (c186,[4]) := by kernel_rfl
theorem n186 : Tryz.f186.ntmps = 17 := by kernel_rfl
def c158 : AC := sO [oP 4 (.mv (.const (.int .u32 0)))] (sO [mV 5 0,mV 6 1,oP 7 (.un .neg (tP 6)),oP 8 (.call 186 [tP 5,tP 7]),mV 4 8] .ret)
theorem k158 : compF Tryz.prog Tryz.f158 = some (c158,[4]) := by kernel_rfl
theorem n158 : Tryz.f158.ntmps = 9 := by kernel_rfl
def c156 : AC := sO [oP 2 (.alloc (zl .u32 64))] (sO [oP 3 (.alloc (zl .u32 64))] (.seq (sO [oP 7 (.mv (kI 0))] (.block 0 (.loop (sO [oP 8 (bK .lss 7 64)] (.seq (cT 8 .skip (.exit 0)) (.seq (.block 1 (sO [mV 9 7,mV 4 9] (.seq (sO [mV 10 4,oP 11 (bK .lss 10 16)] (cT 11 (.seq (.draw [([mV 12 4,mV 13 0,mV 14 4,oP 15 (.bin .mul (kI 4) (tP 14)),oP 16 (iA 1 13 15),oP 17 (lN 16),oP 18 (.toInt .u32 (tP 17)),oP 19 (.bin .shl (tP 18) (.const (.int .u64 24))),mV 20 0,mV 21 4,oP 22 (.bin .mul (kI 4) (tP 21)),oP 23 (bK .add 22 1),oP 24 (iA 1 20 23),oP 25 (lN 24),oP 26 (.toInt .u32 (tP 25)),oP 27 (.bin .shl (tP 26) (.const (.int .u64 16))),oP 28 (bT .or 19 27),mV 29 0,mV 30 4,oP 31 (.bin .mul (kI 4) (tP 30)),oP 32 (bK .add 31 2),oP 33 (iA 1 29 32),oP 34 (lN 33),oP 35 (.toInt .u32 (tP 34)),oP 36 (.bin .shl (tP 35) (.const (.int .u64 8))),oP 37 (bT .or 28 36),mV 38 0,mV 39 4,oP 40 (.bin .mul (kI 4) (tP 39)),oP 41 (bK .add 40 3),oP 42 (iA 1 38 41),oP 43 (lN 42),oP 44 (.toInt .u32 (tP 43)),oP 45 (bT .or 37 44),oP 46 (.iAddrA 64 1 (tP 3) (tP 12))],[nP (.store 1 (tP 46) (tP 45))],[]),([],[],[])]) (.exit 1)) .skip)) (.seq (.draw [([mV 47 4,oP 48 (bK .sub 47 15),oP 49 (.iAddrA 64 1 (tP 3) (tP 48)),oP 50 (lN 49),mV 51 4,oP 52 (bK .sub 51 2),oP 53 (.iAddrA 64 1 (tP 3) (tP 52)),oP 54 (lN 53),mV 5 50,mV 6 54],[],[])]) (.draw [([mV 55 4,mV 56 6,mV 58 6,mV 61 6,oP 62 (.bin .shr (tP 61) (.const (.int .u64 10))),mV 64 4,oP 65 (bK .sub 64 7),oP 66 (.iAddrA 64 1 (tP 3) (tP 65)),oP 67 (lN 66),mV 69 5,mV 71 5,mV 74 5,oP 75 (.bin .shr (tP 74) (.const (.int .u64 3))),mV 78 4,oP 79 (bK .sub 78 16),oP 80 (.iAddrA 64 1 (tP 3) (tP 79)),oP 81 (lN 80)],[oP 57 (.call 158 [tP 56,.const (.int .i64 17)])],[oP 67 (lN 66),oP 81 (lN 80)]),([],[oP 59 (.call 158 [tP 58,.const (.int .i64 19)])],[oP 67 (lN 66),oP 81 (lN 80)]),([oP 60 (bT .xor 57 59),oP 63 (bT .xor 60 62),oP 68 (bT .add 63 67)],[oP 70 (.call 158 [tP 69,.const (.int .i64 7)])],[oP 67 (lN 66),oP 81 (lN 80)]),([],[oP 72 (.call 158 [tP 71,.const (.int .i64 18)])],[oP 67 (lN 66),oP 81 (lN 80)]),([oP 73 (bT .xor 70 72),oP 76 (bT .xor 73 75),oP 77 (bT .add 68 76),oP 82 (bT .add 77 81),oP 83 (.iAddrA 64 1 (tP 3) (tP 55))],[nP (.store 1 (tP 83) (tP 82))],[]),([],[],[])]))))) (.ops [oP 84 (bK .add 7 1),mV 7 84]))))))) (sO [oP 85 (.load (some 64) (tP 3)),nP (.store 64 (tP 2) (tP 85))] .ret)))
theorem k156 : compR Tryz.prog Tryz.f156 = some (c156,[.c 2 (some 64)]) := by kernel_rfl
theorem n156 : Tryz.f156.ntmps = 86 := by kernel_rfl
def c157 : AC := sO [oP 0 (.alloc (zl .u32 64))] (sO [oP 1 (.build (zl .u32 64) [(0,1,.const (.int .u32 1116352408)),(1,1,.const (.int .u32 1899447441)),(2,1,.const (.int .u32 3049323471)),(3,1,.const (.int .u32 3921009573)),(4,1,.const (.int .u32 961987163)),(5,1,.const (.int .u32 1508970993)),(6,1,.const (.int .u32 2453635748)),(7,1,.const (.int .u32 2870763221)),(8,1,.const (.int .u32 3624381080)),(9,1,.const (.int .u32 310598401)),(10,1,.const (.int .u32 607225278)),(11,1,.const (.int .u32 1426881987)),(12,1,.const (.int .u32 1925078388)),(13,1,.const (.int .u32 2162078206)),(14,1,.const (.int .u32 2614888103)),(15,1,.const (.int .u32 3248222580)),(16,1,.const (.int .u32 3835390401)),(17,1,.const (.int .u32 4022224774)),(18,1,.const (.int .u32 264347078)),(19,1,.const (.int .u32 604807628)),(20,1,.const (.int .u32 770255983)),(21,1,.const (.int .u32 1249150122)),(22,1,.const (.int .u32 1555081692)),(23,1,.const (.int .u32 1996064986)),(24,1,.const (.int .u32 2554220882)),(25,1,.const (.int .u32 2821834349)),(26,1,.const (.int .u32 2952996808)),(27,1,.const (.int .u32 3210313671)),(28,1,.const (.int .u32 3336571891)),(29,1,.const (.int .u32 3584528711)),(30,1,.const (.int .u32 113926993)),(31,1,.const (.int .u32 338241895)),(32,1,.const (.int .u32 666307205)),(33,1,.const (.int .u32 773529912)),(34,1,.const (.int .u32 1294757372)),(35,1,.const (.int .u32 1396182291)),(36,1,.const (.int .u32 1695183700)),(37,1,.const (.int .u32 1986661051)),(38,1,.const (.int .u32 2177026350)),(39,1,.const (.int .u32 2456956037)),(40,1,.const (.int .u32 2730485921)),(41,1,.const (.int .u32 2820302411)),(42,1,.const (.int .u32 3259730800)),(43,1,.const (.int .u32 3345764771)),(44,1,.const (.int .u32 3516065817)),(45,1,.const (.int .u32 3600352804)),(46,1,.const (.int .u32 4094571909)),(47,1,.const (.int .u32 275423344)),(48,1,.const (.int .u32 430227734)),(49,1,.const (.int .u32 506948616)),(50,1,.const (.int .u32 659060556)),(51,1,.const (.int .u32 883997877)),(52,1,.const (.int .u32 958139571)),(53,1,.const (.int .u32 1322822218)),(54,1,.const (.int .u32 1537002063)),(55,1,.const (.int .u32 1747873779)),(56,1,.const (.int .u32 1955562222)),(57,1,.const (.int .u32 2024104815)),(58,1,.const (.int .u32 2227730452)),(59,1,.const (.int .u32 2361852424)),(60,1,.const (.int .u32 2428436474)),(61,1,.const (.int .u32 2756734187)),(62,1,.const (.int .u32 3204031479)),(63,1,.const (.int .u32 3329325298))]),nP (.store 64 (tP 0) (tP 1))] .ret)
theorem k157 : compR Tryz.prog Tryz.f157 = some (c157,[.c 0 (some 64)]) := by kernel_rfl
theorem n157 : Tryz.f157.ntmps = 2 := by kernel_rfl
def c131 : AC := sO [mV 13 0,oP 14 (nC 13),oP 15 (.load (some 8) (tP 14)),oP 4 (.alloc (zl .u32 8)),nP (.store 8 (tP 4) (tP 15))] (sO [mV 16 1,oP 17 (.call 156 [tP 16]),oP 18 (.call 157 []),oP 5 (.alloc (zl .u32 64)),oP 6 (.alloc (zl .u32 64)),nP (.store 64 (tP 5) (tP 17)),nP (.store 64 (tP 6) (tP 18))] (.seq (sO [oP 19 (.mv (kI 0))] (.block 0 (.loop (sO [oP 20 (bK .lss 19 64)] (.seq (cT 20 .skip (.exit 0)) (.seq (.block 1 (sO [mV 21 19,mV 7 21] (.seq (.draw [([oP 22 (.iAddrA 8 1 (tP 4) (kI 4)),oP 23 (lN 22),oP 24 (.iAddrA 8 1 (tP 4) (kI 0)),oP 25 (lN 24),mV 8 23,mV 9 25],[],[])]) (.seq (.draw [([oP 26 (.iAddrA 8 1 (tP 4) (kI 7)),oP 27 (lN 26),mV 28 8,mV 30 8,mV 33 8,mV 37 8,oP 38 (.iAddrA 8 1 (tP 4) (kI 5)),oP 39 (lN 38),oP 40 (bT .and 37 39),mV 41 8,oP 42 (.un .xor (tP 41)),oP 43 (.iAddrA 8 1 (tP 4) (kI 6)),oP 44 (lN 43),oP 45 (bT .and 42 44),oP 46 (bT .xor 40 45),mV 48 7,oP 49 (.iAddrA 64 1 (tP 6) (tP 48)),oP 50 (lN 49),mV 52 7,oP 53 (.iAddrA 64 1 (tP 5) (tP 52)),oP 54 (lN 53)],[oP 29 (.call 158 [tP 28,.const (.int .i64 6)])],[oP 27 (lN 26),oP 39 (lN 38),oP 44 (lN 43),oP 50 (lN 49),oP 54 (lN 53)]),([],[oP 31 (.call 158 [tP 30,.const (.int .i64 11)])],[oP 27 (lN 26),oP 39 (lN 38),oP 44 (lN 43),oP 50 (lN 49),oP 54 (lN 53)]),([oP 32 (bT .xor 29 31)],[oP 34 (.call 158 [tP 33,.const (.int .i64 25)])],[oP 27 (lN 26),oP 39 (lN 38),oP 44 (lN 43),oP 50 (lN 49),oP 54 (lN 53)]),([oP 35 (bT .xor 32 34),oP 36 (bT .add 27 35),oP 47 (bT .add 36 46),oP 51 (bT .add 47 50),oP 55 (bT .add 51 54),mV 10 55],[],[])]) (.seq (.draw [([mV 56 9,mV 58 9,mV 61 9,mV 64 9,oP 65 (.iAddrA 8 1 (tP 4) (kI 1)),oP 66 (lN 65),oP 67 (bT .and 64 66),mV 68 9,oP 69 (.iAddrA 8 1 (tP 4) (kI 2)),oP 70 (lN 69),oP 71 (bT .and 68 70),oP 72 (bT .xor 67 71),oP 73 (.iAddrA 8 1 (tP 4) (kI 1)),oP 74 (lN 73),oP 75 (.iAddrA 8 1 (tP 4) (kI 2)),oP 76 (lN 75),oP 77 (bT .and 74 76),oP 78 (bT .xor 72 77)],[oP 57 (.call 158 [tP 56,.const (.int .i64 2)])],[oP 66 (lN 65),oP 70 (lN 69),oP 74 (lN 73),oP 76 (lN 75)]),([],[oP 59 (.call 158 [tP 58,.const (.int .i64 13)])],[oP 66 (lN 65),oP 70 (lN 69),oP 74 (lN 73),oP 76 (lN 75)]),([oP 60 (bT .xor 57 59)],[oP 62 (.call 158 [tP 61,.const (.int .i64 22)])],[oP 66 (lN 65),oP 70 (lN 69),oP 74 (lN 73),oP 76 (lN 75)]),([oP 63 (bT .xor 60 62),oP 79 (bT .add 63 78),mV 11 79],[],[])]) (.ops [mV 80 10,mV 81 11,oP 82 (bT .add 80 81),mV 83 9,oP 84 (.iAddrA 8 1 (tP 4) (kI 1)),oP 85 (lN 84),oP 86 (.iAddrA 8 1 (tP 4) (kI 2)),oP 87 (lN 86),oP 88 (.iAddrA 8 1 (tP 4) (kI 3)),oP 89 (lN 88),mV 90 10,oP 91 (bT .add 89 90),mV 92 8,oP 93 (.iAddrA 8 1 (tP 4) (kI 5)),oP 94 (lN 93),oP 95 (.iAddrA 8 1 (tP 4) (kI 6)),oP 96 (lN 95),oP 97 (.build (zl .u32 8) [(0,1,.tmp 82),(1,1,.tmp 83),(2,1,.tmp 85),(3,1,.tmp 87),(4,1,.tmp 91),(5,1,.tmp 92),(6,1,.tmp 94),(7,1,.tmp 96)]),nP (.store 8 (tP 4) (tP 97))])))))) (.ops [oP 98 (bK .add 19 1),mV 19 98]))))))) (sO [oP 99 (.mv (kI 0))] (.block 2 (.loop (sO [oP 100 (bK .lss 99 8)] (.seq (cT 100 .skip (.exit 2)) (.seq (.block 3 (sO [mV 101 99,mV 12 101] (.draw [([mV 102 0,mV 103 12,oP 104 (nC 102),oP 105 (.iAddrA 8 1 (tP 104) (tP 103)),oP 106 (lN 105),mV 107 12,oP 108 (.iAddrA 8 1 (tP 4) (tP 107)),oP 109 (lN 108),oP 110 (bT .add 106 109),oP 111 (nC 102),oP 112 (.iAddrA 8 1 (tP 111) (tP 103))],[nP (.store 1 (tP 112) (tP 110))],[]),([],[],[])]))) (.ops [oP 113 (bK .add 99 1),mV 99 113])))))))))
theorem k131 : compF Tryz.prog Tryz.f131 = some (c131,[]) := by kernel_rfl
theorem n131 : Tryz.f131.ntmps = 114 := by kernel_rfl
def c133 : AC := sO [oP 2 (.alloc (zl .u8 32))] (sO [oP 3 (.alloc (zl .u8 32))] (.seq (sO [mV 6 0,oP 7 (.mv (kI 0))] (.block 0 (.loop (sO [oP 8 (bK .lss 7 8)] (.seq (cT 8 .skip (.exit 0)) (.seq (.block 1 (.seq (.draw [([mV 9 7,oP 10 (nC 6),oP 11 (.iAddrA 8 1 (tP 10) (tP 7)),oP 12 (lN 11),mV 4 9,mV 5 12],[],[])]) (.ops [mV 13 4,oP 14 (.bin .mul (kI 4) (tP 13)),mV 15 4,oP 16 (.bin .mul (kI 4) (tP 15)),oP 17 (bK .add 16 1),mV 18 4,oP 19 (.bin .mul (kI 4) (tP 18)),oP 20 (bK .add 19 2),mV 21 4,oP 22 (.bin .mul (kI 4) (tP 21)),oP 23 (bK .add 22 3),mV 24 5,oP 25 (.bin .shr (tP 24) (.const (.int .u64 24))),oP 26 (.toInt .u8 (tP 25)),mV 27 5,oP 28 (.bin .shr (tP 27) (.const (.int .u64 16))),oP 29 (.toInt .u8 (tP 28)),mV 30 5,oP 31 (.bin .shr (tP 30) (.const (.int .u64 8))),oP 32 (.toInt .u8 (tP 31)),mV 33 5,oP 34 (.toInt .u8 (tP 33)),oP 35 (.iAddrA 32 1 (tP 3) (tP 14)),nP (.store 1 (tP 35) (tP 26)),oP 36 (.iAddrA 32 1 (tP 3) (tP 17)),nP (.store 1 (tP 36) (tP 29)),oP 37 (.iAddrA 32 1 (tP 3) (tP 20)),nP (.store 1 (tP 37) (tP 32)),oP 38 (.iAddrA 32 1 (tP 3) (tP 23)),nP (.store 1 (tP 38) (tP 34))]))) (.ops [oP 39 (bK .add 7 1),mV 7 39]))))))) (sO [oP 40 (.load (some 32) (tP 3)),nP (.store 32 (tP 2) (tP 40))] .ret)))
theorem k133 : compR Tryz.prog Tryz.f133 = some (c133,[.c 2 (some 32)]) := by kernel_rfl
theorem n133 : Tryz.f133.ntmps = 41 := by kernel_rfl
def c99 : AC := sO [oP 0 (.mv (.const (.pointer none)))] (sO [oP 1 (.call 130 []),oP 2 (.build [.int .u32 0,.int .u32 0,.int .u32 0,.int .u32 0,.int .u32 0,.int .u32 0,.int .u32 0,.int .u32 0,.slice none 0 0,.int .i64 0] [(0,8,.tmp 1)]),oP 3 (.box (tP 2)),mV 0 3] .ret)
theorem k99 : compF Tryz.prog Tryz.f99 = some (c99,[0]) := by kernel_rfl
theorem n99 : Tryz.f99.ntmps = 4 := by kernel_rfl
def c100 : AC := .seq (sO [mV 6 0,oP 7 (.eqv false .ptr (tP 6) (.const (.pointer none)))] (cT 7 .ret .skip)) (sO [mV 8 1,oP 9 (lS 8),oP 10 (.mv (kI 0))] (.block 0 (.loop (sO [oP 11 (bT .lss 10 9)] (.seq (cT 11 .skip (.exit 0)) (.seq (.block 1 (sO [oP 12 (iA 1 8 10),oP 13 (lN 12),mV 5 13] (sO [mV 14 0,oP 15 (nC 14),oP 16 (fA 9 15),oP 17 (lN 16),mV 18 5,oP 19 (.lenS true (tP 18)),oP 20 (bT .add 17 19),oP 21 (nC 14),oP 22 (fA 9 21),nP (.store 1 (tP 22) (tP 20))] (sO [mV 23 0,mV 24 0,oP 25 (nC 24),oP 26 (fA 8 25),oP 27 (lN 26),mV 28 5,oP 29 (.app 1 1 5 (tP 27) (tP 28)),oP 30 (nC 23),oP 31 (fA 8 30),nP (.store 1 (tP 31) (tP 29))] (.block 2 (.loop (.seq (sO [mV 32 0,oP 33 (nC 32),oP 34 (fA 8 33),oP 35 (lN 34),oP 36 (lS 35),oP 37 (bK .geq 36 64)] (cT 37 .skip (.exit 2))) (.block 3 (.seq (.draw [([mV 38 0,oP 39 (nC 38),oP 40 (fA 0 39),mV 41 0,oP 42 (nC 41),oP 43 (fA 8 42),oP 44 (lN 43),oP 45 (.slV 1 (tP 44) none (some (kI 64)) none)],[oP 46 (.call 131 [tP 40,tP 45])],[]),([],[],[])]) (.ops [mV 47 0,mV 48 0,oP 49 (nC 48),oP 50 (fA 8 49),oP 51 (lN 50),oP 52 (.slV 1 (tP 51) (some (kI 64)) none none),oP 53 (nC 47),oP 54 (fA 8 53),nP (.store 1 (tP 54) (tP 52))])))))))))) (.ops [oP 55 (bK .add 10 1),mV 10 55])))))))
theorem k100 : compF Tryz.prog Tryz.f100 = some (c100,[]) := by kernel_rfl
theorem n100 : Tryz.f100.ntmps = 56 := by kernel_rfl
def c132 : AC := sO [oP 2 (.mv (.const (.slice none 0 0)))] (sO [oP 5 (.buildS 0 [] []),mV 6 0,oP 7 (nC 6),oP 8 (fA 8 7),oP 9 (lN 8),oP 10 (.app 1 1 5 (tP 5) (tP 9)),mV 3 10] (sO [mV 11 3,oP 12 (.buildS 1 [.int .u8 0] [(0,1,.const (.int .u8 128))]),oP 13 (.app 1 1 5 (tP 11) (tP 12)),mV 3 13] (.seq (.block 0 (.loop (.seq (sO [mV 14 3,oP 15 (lS 14),oP 16 (bK .rem 15 64),oP 17 (bK .neq 16 56)] (cT 17 .skip (.exit 0))) (.block 1 (.ops [mV 18 3,oP 19 (.buildS 1 [.int .u8 0] [(0,1,.const (.int .u8 0))]),oP 20 (.app 1 1 5 (tP 18) (tP 19)),mV 3 20]))))) (.seq (sO [oP 21 (.mv (kI 0))] (.block 2 (.loop (sO [oP 22 (bK .lss 21 8)] (.seq (cT 22 .skip (.exit 2)) (.seq (.block 3 (sO [mV 23 21,mV 4 23] (.ops [mV 24 3,mV 25 0,oP 26 (nC 25),oP 27 (fA 9 26),oP 28 (lN 27),oP 29 (.toInt .u64 (tP 28)),oP 30 (.bin .mul (tP 29) (.const (.int .u64 8))),mV 31 4,oP 32 (.bin .sub (kI 7) (tP 31)),oP 33 (.bin .mul (kI 8) (tP 32)),oP 34 (bT .shr 30 33),oP 35 (.toInt .u8 (tP 34)),oP 36 (.buildS 1 [.int .u8 0] [(0,1,.tmp 35)]),oP 37 (.app 1 1 5 (tP 24) (tP 36)),mV 3 37]))) (.ops [oP 38 (bK .add 21 1),mV 21 38]))))))) (sO [mV 39 3,mV 2 39] .ret)))))
theorem k132 : compF Tryz.prog Tryz.f132 = some (c132,[2]) := by kernel_rfl
theorem n132 : Tryz.f132.ntmps = 40 := by kernel_rfl
def c101 : AC := sO [oP 2 (.alloc (zl .u8 32))] (.seq (sO [mV 5 0,oP 6 (.eqv false .ptr (tP 5) (.const (.pointer none)))] (cT 6 (sO [oP 7 (.call 64 [.const (.slice none 0 0)]),nP (.store 32 (tP 2) (tP 7))] .ret) .skip)) (sO [mV 8 0,oP 9 (nC 8),oP 10 (fA 0 9),oP 11 (.load (some 8) (tP 10)),oP 3 (.alloc (zl .u32 8)),nP (.store 8 (tP 3) (tP 11))] (.seq (sO [mV 12 0,oP 13 (.call 132 [tP 12]),mV 4 13] (.block 0 (.loop (.seq (sO [mV 14 4,oP 15 (lS 14),oP 16 (bK .gtr 15 0)] (cT 16 .skip (.exit 0))) (.seq (.block 1 (.ops [mV 19 4,oP 20 (.slV 1 (tP 19) none (some (kI 64)) none),oP 21 (.call 131 [tP 3,tP 20])])) (.ops [mV 17 4,oP 18 (.slV 1 (tP 17) (some (kI 64)) none none),mV 4 18])))))) (sO [oP 22 (.call 133 [tP 3]),nP (.store 32 (tP 2) (tP 22))] .ret))))
theorem k101 : compR Tryz.prog Tryz.f101 = some (c101,[.c 2 (some 32)]) := by kernel_rfl
theorem n101 : Tryz.f101.ntmps = 23 := by kernel_rfl
def c64 : AC := sO [oP 2 (.alloc (zl .u8 32))] (sO [oP 4 (.call 99 []),mV 3 4] (sO [mV 5 3,mV 6 0,oP 7 (.call 100 [tP 5,tP 6])] (sO [mV 8 3,oP 9 (.call 101 [tP 8]),nP (.store 32 (tP 2) (tP 9))] .ret)))
theorem k64 : compR Tryz.prog Tryz.f64 = some (c64,[.c 2 (some 32)]) := by kernel_rfl
theorem n64 : Tryz.f64.ntmps = 10 := by kernel_rfl
theorem i64_small {n : Int} (h0 : 0 ≤ n) (h1 : n < 9223372036854775808) : IntKind.i64.wrap n = n := IntWalk.i64_in _ (by omega)
theorem cellsOf_push {h : Heap} (hc : h.Closed) {o : AObj} {b : Nat} {x} (e : h.cellsOf b = some x) : (h.push o).cellsOf b = some x :=
 cellsOf_keep (fun b o e => by rw [push_m,if_neg (by have := (hc b o e).1; omega)]; exact e) e
theorem push_set {h : Heap} {b : Nat} (hb : b < h.n) (o o' : AObj) : (h.push o).set b o' = (h.set b o').push o := by
 unfold Heap.set Heap.push
 congr 1
 funext b'
 by_cases h1 : b' = b
 ·have : ¬ b = h.n := by omega
  simp [h1,this]
 ·simp [h1]
theorem cellsOf_set_ne {h : Heap} {o : AObj} {b b' : Nat} (hb : ¬ b' = b) : (h.set b o).cellsOf b' = h.cellsOf b' := by
 unfold Heap.cellsOf
 rw [set_m,if_neg hb]
theorem set_push' (h : Heap) (o o' : AObj) : (h.push o).set h.n o' = h.push o' := by
 unfold Heap.set Heap.push
 congr 1
 funext b
 by_cases hb : b = h.n
 ·simp [hb]
 ·simp [hb]
theorem cellsOf_at {h : Heap} {b : Nat} (hb : b = h.n) (c : List Value) (m : BMode) (e : Nat) : (h.push (.cells c m e)).cellsOf b = some (c,m,e) := by rw [hb]; exact cellsOf_new _ _ _ _
theorem set_at {h : Heap} {b : Nat} (hb : b = h.n) (o o' : AObj) : (h.push o).set b o' = h.push o' := by rw [hb]; exact set_push' _ _ _
theorem Heap.Ext.setNew {a c : Heap} (e : a.Ext c) (hc : a.Closed) {b : Nat} (hb : a.n ≤ b) (o : AObj) : a.Ext (c.set b o) :=
 ⟨e.n,fun x ob q => by
  have := (hc x ob q).1
  rw [set_m,if_neg (by omega)]
  exact e.m x ob q⟩
abbrev W32 := BitVec 32
def w32v (w : W32) : Value := .int .u32 (w.toNat : Int)
theorem wrap_nat (n : Nat) : IntKind.u32.wrap (n : Int) = (((BitVec.ofNat 32 n).toNat : Nat) : Int) := by
 unfold IntKind.wrap
 simp [IntKind.bits,IntKind.signed]
theorem ofInt_nat (w : W32) : BitVec.ofInt 32 (w.toNat : Int) = w := by simp
theorem w_add (a b : W32) : IntKind.u32.wrap ((a.toNat : Int) + (b.toNat : Int)) = ((a + b).toNat : Int) := by
 rw [← Int.natCast_add,wrap_nat]
 simp
theorem w_bits (op : W32 → W32 → W32) (a b : W32) : IntKind.u32.wrap ((op a b).toNat : Int) = ((op a b).toNat : Int) := by
 rw [wrap_nat]
 simp
theorem w_and (a b : W32) : abits .and .u32 (a.toNat : Int) (b.toNat : Int) = ((a &&& b).toNat : Int) := by
 unfold abits
 simp only [IntKind.bits,ofInt_nat]
 exact w_bits (· &&& ·) a b
theorem w_or (a b : W32) : abits .or .u32 (a.toNat : Int) (b.toNat : Int) = ((a ||| b).toNat : Int) := by
 unfold abits
 simp only [IntKind.bits,ofInt_nat]
 exact w_bits (· ||| ·) a b
theorem w_xor (a b : W32) : abits .xor .u32 (a.toNat : Int) (b.toNat : Int) = ((a ^^^ b).toNat : Int) := by
 unfold abits
 simp only [IntKind.bits,ofInt_nat]
 exact w_bits (· ^^^ ·) a b
theorem w_not (a : W32) : aun .xor (w32v a) = some (w32v (~~~a)) := by
 have e : (4294967295 : Int) = ((BitVec.allOnes 32).toNat : Int) := by decide
 show some (Value.int .u32 (abits .xor .u32 4294967295 (a.toNat : Int))) = _
 rw [e,w_xor,BitVec.allOnes_xor]
 rfl
theorem w_shr (a : W32) (k : Nat) (hk : k < 32) : (a.toNat : Int).fdiv (2 ^ min ((k : Nat) : Int).toNat 32) = ((a >>> k).toNat : Int) := by
 rw [Int.toNat_natCast,Nat.min_eq_left (by omega),BitVec.toNat_ushiftRight,Nat.shiftRight_eq_div_pow,Int.fdiv_eq_ediv_of_nonneg _ (by exact_mod_cast Nat.zero_le (2 ^ k))]
 norm_cast
theorem w_shl (a : W32) (k : Nat) (hk : k < 32) : IntKind.u32.wrap ((a.toNat : Int) * 2 ^ min ((k : Nat) : Int).toNat 32) = ((a <<< k).toNat : Int) := by
 rw [Int.toNat_natCast,Nat.min_eq_left (by omega)]
 have : (a.toNat : Int) * 2 ^ k = ((a.toNat * 2 ^ k : Nat) : Int) := by norm_cast
 rw [this,wrap_nat,BitVec.toNat_shiftLeft,Nat.shiftLeft_eq]
 simp
def tn (w : W32) : Int := (w.toNat : Int)
theorem t_add (a b : W32) : IntKind.u32.wrap (tn a + tn b) = tn (a + b) := w_add a b
theorem t_and (a b : W32) : abits .and .u32 (tn a) (tn b) = tn (a &&& b) := w_and a b
theorem t_or (a b : W32) : abits .or .u32 (tn a) (tn b) = tn (a ||| b) := w_or a b
theorem t_xor (a b : W32) : abits .xor .u32 (tn a) (tn b) = tn (a ^^^ b) := w_xor a b
theorem t_not (a : W32) : aun .xor (.int .u32 (tn a)) = some (.int .u32 (tn (~~~a))) := w_not a
theorem b32 : IntKind.u32.bits = 32 := rfl
theorem t_shr24 (a : W32) : (tn a).fdiv 16777216 = tn (a >>> 24) := w_shr a 24 (by omega)
theorem t_shr16 (a : W32) : (tn a).fdiv 65536 = tn (a >>> 16) := w_shr a 16 (by omega)
theorem t_shr10 (a : W32) : (tn a).fdiv 1024 = tn (a >>> 10) := w_shr a 10 (by omega)
theorem t_shr8 (a : W32) : (tn a).fdiv 256 = tn (a >>> 8) := w_shr a 8 (by omega)
theorem t_shr3 (a : W32) : (tn a).fdiv 8 = tn (a >>> 3) := w_shr a 3 (by omega)
theorem t_shl24 (a : W32) : IntKind.u32.wrap (tn a * 16777216) = tn (a <<< 24) := w_shl a 24 (by omega)
theorem t_shl16 (a : W32) : IntKind.u32.wrap (tn a * 65536) = tn (a <<< 16) := w_shl a 16 (by omega)
theorem t_shl8 (a : W32) : IntKind.u32.wrap (tn a * 256) = tn (a <<< 8) := w_shl a 8 (by omega)
def ext (c : UInt8) : W32 := BitVec.ofNat 32 c.toNat
theorem t_ext (c : UInt8) : IntKind.u32.wrap (c.toNat : Int) = tn (ext c) := wrap_nat _
def rot (n : Nat) (x : W32) : W32 := (x <<< (32 - n)) ||| (x >>> n)
theorem right_ok (x : W32) (n : Nat) (hn : 1 ≤ n ∧ n ≤ 31) (h : Heap) : ACalls Tryz.prog 158 [.int .u32 (tn x),.int .i64 (n : Int)] h fun v h' => v = .int .u32 (tn (rot n x)) ∧ h' = h := by
 have rl : ∀ (s : Int),s = ((32 - n : Nat) : Int) - 32 → ACalls Tryz.prog 186 [.int .u32 (tn x),.int .i64 s] h fun v h' => v = .int .u32 (tn (rot n x)) ∧ h' = h := by
  intro s hs
  refine ACalls.same .int (acalls_of mix Tryz.func186 k186 n186 (by simp) fun hcl hb => ?_)
  have e1 : abits .and .u64 (IntKind.u64.wrap s) 31 = ((32 - n : Nat) : Int) := by
   rw [hs]
   have : ∀ m : Fin 32,1 ≤ m.val → abits .and .u64 (IntKind.u64.wrap ((m.val : Int) - 32)) 31 = (m.val : Int) := by decide +kernel
   exact this ⟨32 - n,by omega⟩ (by show 1 ≤ 32 - n; omega)
  have e2 : IntKind.u64.wrap (32 - ((32 - n : Nat) : Int)) = (n : Int) := by
   rw [show (32 : Int) - ((32 - n : Nat) : Int) = (n : Int) by omega]
   unfold IntKind.wrap
   simp [IntKind.bits,IntKind.signed]
   omega
  have b32 : IntKind.u32.bits = 32 := rfl
  have e3 : (0 : Int) ≤ ((32 - n : Nat) : Int) := by omega
  have e4 : (0 : Int) ≤ (n : Int) := by omega
  simp only [c186,s_seq,s_ops]
  simp [e1,e2,e3,e4,b32]
  have q1 := w_shl x (32 - n) (by omega)
  have q2 := w_shr x n (by omega)
  rw [Int.toNat_natCast,Nat.min_eq_left (by omega)] at q1 q2
  unfold tn
  rw [Nat.min_eq_left (by omega : n ≤ 32),q1,q2,w_or]
  exact ⟨rfl,Heap.Ext.refl _⟩
 refine ACalls.same .int (acalls_of mix Tryz.func158 k158 n158 (by simp) fun hcl hb => ?_)
 have e : IntKind.i64.wrap (-(n : Int)) = ((32 - n : Nat) : Int) - 32 := by
  have : ∀ m : Fin 32,1 ≤ m.val → IntKind.i64.wrap (-(m.val : Int)) = ((32 - m.val : Nat) : Int) - 32 := by decide +kernel
  exact this ⟨n,by omega⟩ hn.1
 simp [c158,aun]
 refine (rl _ e).mono ?_
 rintro v h1 ⟨rfl,rfl⟩
 simp
 exact Heap.Ext.refl _
structure S8 where
 a : W32
 b : W32
 c : W32
 d : W32
 e : W32
 f : W32
 g : W32
 h : W32
 deriving DecidableEq
def S8.l (s : S8) : List W32 := [s.a,s.b,s.c,s.d,s.e,s.f,s.g,s.h]
def wl (l : List W32) : List Value := l.map w32v
theorem wl_len (l : List W32) : (wl l).length = l.length := List.length_map _
theorem wl_app (a b : List W32) : wl (a ++ b) = wl a ++ wl b := List.map_append
def s0 : S8 := ⟨1779033703,3144134277,1013904242,2773480762,1359893119,2600822924,528734635,1541459225⟩
def kK : List W32 := [1116352408,1899447441,3049323471,3921009573,961987163,1508970993,2453635748,2870763221,3624381080,310598401,607225278,1426881987,1925078388,2162078206,2614888103,3248222580,3835390401,4022224774,264347078,604807628,770255983,1249150122,1555081692,1996064986,2554220882,2821834349,2952996808,3210313671,3336571891,3584528711,113926993,338241895,666307205,773529912,1294757372,1396182291,1695183700,1986661051,2177026350,2456956037,2730485921,2820302411,3259730800,3345764771,3516065817,3600352804,4094571909,275423344,430227734,506948616,659060556,883997877,958139571,1322822218,1537002063,1747873779,1955562222,2024104815,2227730452,2361852424,2428436474,2756734187,3204031479,3329325298]
theorem wl_below {n : Nat} {l : List W32} : VBelow n (.agg (wl l).toArray) := .agg fun i hi => by
 have : ∀ v ∈ wl l,VBelow n v := fun v hv => by obtain ⟨y,_,rfl⟩ := List.mem_map.1 hv; exact .int
 rw [toArray_getD]
 have hi' : i < (wl l).length := by simpa using hi
 simp only [List.getD, List.getElem?_eq_getElem hi', Option.getD_some]
 exact this _ (List.getElem_mem hi')
theorem wl_bel {n : Nat} {l : List W32} : ∀ x ∈ wl l,VBelow n x := fun x hx => by obtain ⟨y,_,rfl⟩ := List.mem_map.1 hx; exact .int
theorem m_wl (l : List W32) : mcells (.agg (wl l).toArray) = some (wl l) := by simp [mcells]
theorem aput_all (l l' : List Value) (h : l.length = l'.length) : aput l 0 l' = l' := by
 unfold aput
 simp [h]
theorem start_ok (h : Heap) : ACalls Tryz.prog 130 [] h fun v h' => v = .agg (wl s0.l).toArray ∧ h' = h := by
 refine ACalls.same wl_below (acalls_ofR mix Tryz.func130 k130 n130 (by simp) fun hcl hb => ?_)
 have e : afill (zl .u32 8) [(0,1,.int .u32 1779033703),(1,1,.int .u32 3144134277),(2,1,.int .u32 1013904242),(3,1,.int .u32 2773480762),(4,1,.int .u32 1359893119),(5,1,.int .u32 2600822924),(6,1,.int .u32 528734635),(7,1,.int .u32 1541459225)] = some (wl s0.l) := by rfl
 have hl : (wl s0.l).length = 8 := rfl
 have ha := acut_full hl
 have hp : aput (zl .u32 8) 0 (wl s0.l) = wl s0.l := aput_all _ _ rfl
 have hz := zl_len
 simp [c130,e,apart,ha,m_wl,hl,hp,hz,set_at,cellsOf_at]
 exact (Heap.Ext.refl h).push hcl _
theorem keys_ok (h : Heap) : ACalls Tryz.prog 157 [] h fun v h' => v = .agg (wl kK).toArray ∧ h' = h := by
 refine ACalls.same wl_below (acalls_ofR mix Tryz.func157 k157 n157 (by simp) fun hcl hb => ?_)
 have e : afill (zl .u32 64) [(0,1,.int .u32 1116352408),(1,1,.int .u32 1899447441),(2,1,.int .u32 3049323471),(3,1,.int .u32 3921009573),(4,1,.int .u32 961987163),(5,1,.int .u32 1508970993),(6,1,.int .u32 2453635748),(7,1,.int .u32 2870763221),(8,1,.int .u32 3624381080),(9,1,.int .u32 310598401),(10,1,.int .u32 607225278),(11,1,.int .u32 1426881987),(12,1,.int .u32 1925078388),(13,1,.int .u32 2162078206),(14,1,.int .u32 2614888103),(15,1,.int .u32 3248222580),(16,1,.int .u32 3835390401),(17,1,.int .u32 4022224774),(18,1,.int .u32 264347078),(19,1,.int .u32 604807628),(20,1,.int .u32 770255983),(21,1,.int .u32 1249150122),(22,1,.int .u32 1555081692),(23,1,.int .u32 1996064986),(24,1,.int .u32 2554220882),(25,1,.int .u32 2821834349),(26,1,.int .u32 2952996808),(27,1,.int .u32 3210313671),(28,1,.int .u32 3336571891),(29,1,.int .u32 3584528711),(30,1,.int .u32 113926993),(31,1,.int .u32 338241895),(32,1,.int .u32 666307205),(33,1,.int .u32 773529912),(34,1,.int .u32 1294757372),(35,1,.int .u32 1396182291),(36,1,.int .u32 1695183700),(37,1,.int .u32 1986661051),(38,1,.int .u32 2177026350),(39,1,.int .u32 2456956037),(40,1,.int .u32 2730485921),(41,1,.int .u32 2820302411),(42,1,.int .u32 3259730800),(43,1,.int .u32 3345764771),(44,1,.int .u32 3516065817),(45,1,.int .u32 3600352804),(46,1,.int .u32 4094571909),(47,1,.int .u32 275423344),(48,1,.int .u32 430227734),(49,1,.int .u32 506948616),(50,1,.int .u32 659060556),(51,1,.int .u32 883997877),(52,1,.int .u32 958139571),(53,1,.int .u32 1322822218),(54,1,.int .u32 1537002063),(55,1,.int .u32 1747873779),(56,1,.int .u32 1955562222),(57,1,.int .u32 2024104815),(58,1,.int .u32 2227730452),(59,1,.int .u32 2361852424),(60,1,.int .u32 2428436474),(61,1,.int .u32 2756734187),(62,1,.int .u32 3204031479),(63,1,.int .u32 3329325298)] = some (wl kK) := by rfl
 have hl : (wl kK).length = 64 := rfl
 have ha := acut_full hl
 have hp : aput (zl .u32 64) 0 (wl kK) = wl kK := aput_all _ _ rfl
 have hz := zl_len
 simp [c157,e,apart,ha,m_wl,hl,hp,hz,set_at,cellsOf_at]
 exact (Heap.Ext.refl h).push hcl _
def SlB (h : Heap) (v : Value) (l : List UInt8) : Prop := Sl eb h v l
def sg0 (x : W32) : W32 := rot 7 x ^^^ rot 18 x ^^^ (x >>> 3)
def sg1 (y : W32) : W32 := rot 17 y ^^^ rot 19 y ^^^ (y >>> 10)
def be4 (b : List UInt8) (i : Nat) : W32 := (((ext (b.getD (4 * i) 0)) <<< 24 ||| (ext (b.getD (4 * i + 1) 0)) <<< 16) ||| (ext (b.getD (4 * i + 2) 0)) <<< 8) ||| ext (b.getD (4 * i + 3) 0)
def nextW (b : List UInt8) (w : List W32) (i : Nat) : W32 := if i < 16 then be4 b i else ((sg1 (w.getD (i - 2) 0) + w.getD (i - 7) 0) + sg0 (w.getD (i - 15) 0)) + w.getD (i - 16) 0
def spreadL (b : List UInt8) : Nat → List W32
 | 0 => []
 | i + 1 => spreadL b i ++ [nextW b (spreadL b i) i]
theorem spreadL_len (b : List UInt8) (i : Nat) : (spreadL b i).length = i := by
 induction i with
 | zero => rfl
 | succ i ih => simp [spreadL,ih]
def wz (l : List W32) (n : Nat) : List Value := wl l ++ zl .u32 (n - l.length)
theorem wz_len {l : List W32} {n : Nat} (h : l.length ≤ n) : (wz l n).length = n := by simp [wz,wl_len,zl_len]; omega
theorem wz_get {l : List W32} {n i : Nat} (h : i < l.length) : (wz l n)[i]? = some (.int .u32 (tn (l.getD i 0))) := by
 unfold wz
 rw [List.getElem?_append_left (by rw [wl_len]; exact h)]
 unfold wl
 simp only [List.getElem?_map,List.getD,List.getElem?_eq_getElem h]
 rfl
theorem wz_put {l : List W32} {n : Nat} (h : l.length < n) (w : W32) : aput (wz l n) l.length [.int .u32 (tn w)] = wz (l ++ [w]) n := by
 unfold aput wz
 have e : (wl l).length = l.length := wl_len l
 rw [← e, List.take_left', List.drop_append, List.drop_of_length_le (by simp)]
 ·rw [wl_app,e]
  simp only [List.length_append,List.length_singleton]
  have : zl .u32 (n - l.length) = .int .u32 0 :: zl .u32 (n - (l.length + 1)) := by
   unfold zl
   rw [show n - l.length = (n - (l.length + 1)) + 1 by omega,List.replicate_succ]
  rw [this]
  simp [wl]
  rfl
 ·rfl
theorem wz_nil (n : Nat) : zl .u32 n = wz [] n := by simp [wz,wl]
theorem wz_all {l : List W32} {n : Nat} (h : l.length = n) : wz l n = wl l := by simp [wz,h,zl]
theorem wz_bel {n m : Nat} {l : List W32} : ∀ x ∈ wz l n,VBelow m x := fun x hx => by
 rcases List.mem_append.1 hx with hx | hx
 ·exact wl_bel x hx
 ·rw [List.eq_of_mem_replicate hx]; exact .int
theorem spread_ok (b : List UInt8) (hb64 : b.length = 64) (v : Value) (h : Heap) (hl : SlB h v b) : ACalls Tryz.prog 156 [v] h fun r h' => r = .agg (wl (spreadL b 64)).toArray ∧ h' = h := by
 refine ACalls.same wl_below (acalls_ofR mix Tryz.func156 k156 n156 (by simp) fun hcl hb => ?_)
 have bl := Sl.below hl hcl
 obtain ⟨b1,o1,c,cs1,m1,e1,rfl,g1,hget⟩ : ∃ b1 o1 c cs1 m1 e1,v = .slice (some ⟨b1,o1,none⟩) b.length c ∧ h.cellsOf b1 = some (cs1,m1,e1) ∧ ∀ i,i < 64 → cs1[o1 + i]? = some (.int .u8 ((b.getD i 0).toNat : Int)) := by
  rcases hl with ⟨c,h1,rfl⟩ | ⟨b1,o1,cap,cs1,m1,e1,hv,hc1,_,_,hg⟩
  ·simp at hb64
  ·refine ⟨b1,o1,cap,cs1,m1,e1,hv,hc1,fun i hi => ?_⟩
   rw [hg i (by omega),List.getD,List.getElem?_eq_getElem (by omega)]
   rfl
 have hz := zl_len
 have hcZ : (h.push (.cells (zl .u32 64) .ex 1)).Closed := closed_push hcl (fun x hx => by rw [List.eq_of_mem_replicate hx]; exact .int)
 have hextZ := (Heap.Ext.refl h).push hcl (.cells (zl .u32 64) .ex 1)
 simp only [c156,s_seq,s_ops]
 simp
 generalize hZ : h.push (.cells (zl .u32 64) .ex 1) = Z at *
 have hZn : Z.n = h.n + 1 := by rw [← hZ]; rfl
 have fZ : Z.cellsOf h.n = some (zl .u32 64,.ex,1) := by rw [← hZ]; exact cellsOf_new _ _ _ _
 have hcW : ∀ l,(Z.push (.cells (wz l 64) .ex 1)).Closed := fun l => closed_push hcZ wz_bel
 refine awp_loop_of (α := Nat) (fun i => i ≤ 64) (fun i => [(0,.slice (some ⟨b1,o1,none⟩) b.length c),(2,.pointer (some ⟨h.n,0,none⟩)),(3,.pointer (some ⟨Z.n,0,none⟩)),(7,.int .i64 i)]) (fun i => Z.push (.cells (wz (spreadL b i) 64) .ex 1)) (fun i => 64 - i) 0
  (by show 0 ≤ 64; omega) ⟨by show h.n ≤ Z.n + 1; omega,Nat.le_refl _,fun x o e => by rw [wz_nil]; exact e,hcW _⟩ (by simp; exact ⟨bl.mono (by omega),.ptr (by show h.n < Z.n + 1; omega),.ptr (Nat.lt_succ_self _),.int⟩) ?_
 intro i hi
 have hsl := spreadL_len b i
 by_cases hi64 : i < 64
 ·have hi' : (i : Int) < 64 := by omega
  have hw : IntKind.i64.wrap ((i : Int) + 1) = ((i + 1 : Nat) : Int) := by rw [i64_small (by omega) (by omega)]; omega
  have fin : ∀ {H : Heap},H = Z.push (.cells (wz (spreadL b (i + 1)) 64) .ex 1) → ∃ y,64 - y < 64 - i ∧ y ≤ 64 ∧ (Z.push (.cells (wz (spreadL b y) 64) .ex 1)).Sub h.n H ∧ VBelow (Z.n + 1) (.slice (some ⟨b1,o1,none⟩) b.length c) ∧ VBelow (Z.n + 1) (.pointer (some ⟨h.n,0,none⟩)) ∧ VBelow (Z.n + 1) (.pointer (some ⟨Z.n,0,none⟩)) ∧ IntKind.i64.wrap ((i : Int) + 1) = ((y : Nat) : Int) ∧ VBelow (Z.n + 1) (.int .i64 (y : Nat)) := fun e =>
   ⟨i + 1,by omega,by omega,by rw [e]; exact ⟨by show h.n ≤ Z.n + 1; omega,Nat.le_refl _,fun x o e => e,hcW _⟩,bl.mono (by omega),.ptr (by show h.n < Z.n + 1; omega),.ptr (Nat.lt_succ_self _),hw,.int⟩
  by_cases h16 : i < 16
  ·have h16' : (i : Int) < 16 := by omega
   have fB : ∀ l,(Z.push (.cells (wz l 64) .ex 1)).cellsOf b1 = some (cs1,m1,e1) := fun l => cellsOf_push hcZ (by rw [← hZ]; exact cellsOf_push hcl g1)
   have w4 : IntKind.i64.wrap (4 * (i : Int)) = 4 * (i : Int) := i64_small (by omega) (by omega)
   have w41 : IntKind.i64.wrap (4 * (i : Int) + 1) = 4 * (i : Int) + 1 := i64_small (by omega) (by omega)
   have w42 : IntKind.i64.wrap (4 * (i : Int) + 2) = 4 * (i : Int) + 2 := i64_small (by omega) (by omega)
   have w43 : IntKind.i64.wrap (4 * (i : Int) + 3) = 4 * (i : Int) + 3 := i64_small (by omega) (by omega)
   have a0 : aidx (.int .i64 (4 * (i : Int))) 64 = some (4 * i) := by have := aidx_of (k := .i64) (show 4 * i < 64 by omega); exact_mod_cast this
   have a1 : aidx (.int .i64 (4 * (i : Int) + 1)) 64 = some (4 * i + 1) := by have := aidx_of (k := .i64) (show 4 * i + 1 < 64 by omega); exact_mod_cast this
   have a2 : aidx (.int .i64 (4 * (i : Int) + 2)) 64 = some (4 * i + 2) := by have := aidx_of (k := .i64) (show 4 * i + 2 < 64 by omega); exact_mod_cast this
   have a3 : aidx (.int .i64 (4 * (i : Int) + 3)) 64 = some (4 * i + 3) := by have := aidx_of (k := .i64) (show 4 * i + 3 < 64 by omega); exact_mod_cast this
   have g0 := hget (4 * i) (by omega)
   have g1 := hget (4 * i + 1) (by omega)
   have g2 := hget (4 * i + 2) (by omega)
   have g3 := hget (4 * i + 3) (by omega)
   have hn : nextW b (spreadL b i) i = be4 b i := by unfold nextW; rw [if_pos h16]
   have hput := wz_put (n := 64) (l := spreadL b i) (by omega) (be4 b i)
   have hlen : (wz (spreadL b i) 64).length = 64 := wz_len (by omega)
   rw [hsl] at hput
   simp only [be4,List.getD_eq_getElem?_getD] at hput
   have h63 : i ≤ 63 := by omega
   have hfin := fin (H := Z.push (.cells (wz (spreadL b (i + 1)) 64) .ex 1)) rfl
   have hnx : spreadL b (i + 1) = spreadL b i ++ [be4 b i] := by rw [← hn]; rfl
   rw [hnx] at hfin
   simp only [be4,List.getD_eq_getElem?_getD] at hfin
   simp [hi', h16', w4, w41, w42, w43, hb64, a0, a1, a2, a3, fB, apart, g0, g1, g2, g3, t_ext, b32, t_shl24, t_shl16, t_shl8, t_or, aidx_of hi64, cellsOf_at, mcells, hlen, h63, set_at, hput]
   rw [hb64] at hfin
   exact hfin
  ·have h16' : ¬ (i : Int) < 16 := by omega
   have w15 : IntKind.i64.wrap ((i : Int) - 15) = ((i - 15 : Nat) : Int) := by rw [i64_small (by omega) (by omega)]; omega
   have w2 : IntKind.i64.wrap ((i : Int) - 2) = ((i - 2 : Nat) : Int) := by rw [i64_small (by omega) (by omega)]; omega
   have w7 : IntKind.i64.wrap ((i : Int) - 7) = ((i - 7 : Nat) : Int) := by rw [i64_small (by omega) (by omega)]; omega
   have w16 : IntKind.i64.wrap ((i : Int) - 16) = ((i - 16 : Nat) : Int) := by rw [i64_small (by omega) (by omega)]; omega
   have a15 : aidx (.int .i64 ((i - 15 : Nat) : Int)) 64 = some (i - 15) := aidx_of (by omega)
   have a2 : aidx (.int .i64 ((i - 2 : Nat) : Int)) 64 = some (i - 2) := aidx_of (by omega)
   have a7 : aidx (.int .i64 ((i - 7 : Nat) : Int)) 64 = some (i - 7) := aidx_of (by omega)
   have a16 : aidx (.int .i64 ((i - 16 : Nat) : Int)) 64 = some (i - 16) := aidx_of (by omega)
   have hn : nextW b (spreadL b i) i = ((sg1 ((spreadL b i).getD (i - 2) 0) + (spreadL b i).getD (i - 7) 0) + sg0 ((spreadL b i).getD (i - 15) 0)) + (spreadL b i).getD (i - 16) 0 := by unfold nextW; rw [if_neg h16]
   have hnx : spreadL b (i + 1) = spreadL b i ++ [nextW b (spreadL b i) i] := rfl
   have hfin := fin (H := Z.push (.cells (wz (spreadL b (i + 1)) 64) .ex 1)) rfl
   rw [hnx,hn] at hfin
   have hput := fun w => wz_put (n := 64) (l := spreadL b i) (by omega) w
   rw [hsl] at hput
   have g15 := wz_get (n := 64) (l := spreadL b i) (i := i - 15) (by omega)
   have g2 := wz_get (n := 64) (l := spreadL b i) (i := i - 2) (by omega)
   have g7 := wz_get (n := 64) (l := spreadL b i) (i := i - 7) (by omega)
   have g16 := wz_get (n := 64) (l := spreadL b i) (i := i - 16) (by omega)
   generalize (spreadL b i).getD (i - 15) 0 = x15 at *
   generalize (spreadL b i).getD (i - 2) 0 = x2 at *
   generalize (spreadL b i).getD (i - 7) 0 = x7 at *
   generalize (spreadL b i).getD (i - 16) 0 = x16 at *
   have hlen : (wz (spreadL b i) 64).length = 64 := wz_len (by omega)
   have h63 : i ≤ 63 := by omega
   simp [hi', h16', w15, w2, w7, w16, a15, a2, a7, a16, g15, g2, g7, g16, cellsOf_at, apart, b32, t_shr10, t_shr3]
   have call := fun (x : W32) (n : Nat) (hn : 1 ≤ n ∧ n ≤ 31) => right_ok x n hn (Z.push (.cells (wz (spreadL b i) 64) .ex 1))
   refine (call x2 17 (by omega)).mono ?_
   rintro _ _ ⟨rfl,rfl⟩
   simp [g7,g16,cellsOf_at,apart]
   refine (call x2 19 (by omega)).mono ?_
   rintro _ _ ⟨rfl,rfl⟩
   simp [g7,g16,cellsOf_at,apart,t_xor,t_add]
   refine (call x15 7 (by omega)).mono ?_
   rintro _ _ ⟨rfl,rfl⟩
   simp [g7,g16,cellsOf_at,apart,t_xor,t_add]
   refine (call x15 18 (by omega)).mono ?_
   rintro _ _ ⟨rfl,rfl⟩
   simp [g7,g16,cellsOf_at,apart,t_xor,t_add,aidx_of hi64,mcells,hlen,h63,set_at,hput]
   exact hfin
 ·have hie : i = 64 := by omega
  subst hie
  have hl64 : (wl (spreadL b 64)).length = 64 := by rw [wl_len,hsl]
  have ha := acut_full hl64
  have hp : aput (zl .u32 64) 0 (wl (spreadL b 64)) = wl (spreadL b 64) := aput_all _ _ (by rw [hl64,zl_len])
  rw [wz_all hsl]
  have n1 : ¬ h.n = Z.n := by omega
  have l1 : h.n < Z.n := by omega
  simp [cellsOf_at,apart,ha,m_wl,hl64,hp,hz,set_at,fZ,cellsOf_ne,n1,l1,push_set,cellsOf_set]
  exact (Heap.Ext.setNew hextZ hcl (Nat.le_refl _) _).push hcl _
def round (s : S8) (k w : W32) : S8 :=
 let t1 := (((s.h + (rot 6 s.e ^^^ rot 11 s.e ^^^ rot 25 s.e)) + ((s.e &&& s.f) ^^^ (~~~s.e &&& s.g))) + k) + w
 let t2 := (rot 2 s.a ^^^ rot 13 s.a ^^^ rot 22 s.a) + ((s.a &&& s.b) ^^^ (s.a &&& s.c) ^^^ (s.b &&& s.c))
 ⟨t1 + t2,s.a,s.b,s.c,s.d + t1,s.e,s.f,s.g⟩
def roundsF (k w : List W32) (s : S8) : Nat → S8
 | 0 => s
 | i + 1 => round (roundsF k w s i) (k.getD i 0) (w.getD i 0)
def add8 (s x : S8) : S8 := ⟨s.a + x.a,s.b + x.b,s.c + x.c,s.d + x.d,s.e + x.e,s.f + x.f,s.g + x.g,s.h + x.h⟩
def takeF (s : S8) (b : List UInt8) : S8 := add8 s (roundsF kK (spreadL b 64) s 64)
def part (s x : S8) (i : Nat) : List W32 := (add8 s x).l.take i ++ s.l.drop i
theorem ACalls.turned2 {P : Program} {g : FuncId} {args : List Value} {h : Heap} {v0 : Value} {b : Nat} {c : List Value} (hv : VBelow h.n v0) (hb : b < h.n) (hc : ∀ x ∈ c,VBelow h.n x)
  (hh : ACalls P g args h fun v h' => v = v0 ∧ (h.set b (.cells c .ex 1)).Ext h') : ACalls P g args h fun v h' => v = v0 ∧ h' = h.set b (.cells c .ex 1) :=
 ACalls.closed fun hcl => hh.drop fun v h' q => ⟨_,q.2.sub (closed_set hcl hb hc),by rw [q.1]; exact hv,q.1,rfl⟩
theorem wl_get {l : List W32} {i : Nat} (h : i < l.length) : (wl l)[i]? = some (.int .u32 (tn (l.getD i 0))) := by
 unfold wl
 simp only [List.getElem?_map,List.getD,List.getElem?_eq_getElem h]
 rfl
def tk (h : Heap) (W : List W32) (x : S8) : Heap := ((h.push (.cells (wl x.l) .ex 1)).push (.cells (wl W) .ex 1)).push (.cells (wl kK) .ex 1)
theorem tk_n (h : Heap) (W : List W32) (x : S8) : (tk h W x).n = h.n + 1 + 1 + 1 := rfl
theorem tk_X (h : Heap) (W : List W32) (x : S8) : (tk h W x).cellsOf h.n = some (wl x.l,.ex,1) := by
 unfold tk
 rw [cellsOf_ne (by show ¬ h.n = h.n + 1 + 1; omega),cellsOf_ne (by show ¬ h.n = h.n + 1; omega),cellsOf_new]
theorem tk_W (h : Heap) (W : List W32) (x : S8) : (tk h W x).cellsOf (h.n + 1) = some (wl W,.ex,1) := by
 unfold tk
 rw [cellsOf_ne (by show ¬ h.n + 1 = h.n + 1 + 1; omega)]
 exact cellsOf_new _ _ _ _
theorem tk_K (h : Heap) (W : List W32) (x : S8) : (tk h W x).cellsOf (h.n + 1 + 1) = some (wl kK,.ex,1) := cellsOf_new _ _ _ _
theorem tk_set (h : Heap) (W : List W32) (x y : S8) : (tk h W x).set h.n (.cells (wl y.l) .ex 1) = tk h W y := by
 unfold tk
 rw [push_set (by show h.n < h.n + 1 + 1; omega),push_set (by show h.n < h.n + 1; omega),set_push']
theorem tk_old {h : Heap} {W : List W32} {x : S8} {p : Nat} (hp : p < h.n) : (tk h W x).cellsOf p = h.cellsOf p := by
 unfold tk
 rw [cellsOf_ne (by show ¬ p = h.n + 1 + 1; omega),cellsOf_ne (by show ¬ p = h.n + 1; omega),cellsOf_ne (by omega)]
theorem tk_pset {h : Heap} {W : List W32} {x : S8} {p : Nat} (hp : p < h.n) (o : AObj) : (tk h W x).set p o = tk (h.set p o) W x := by
 unfold tk
 rw [push_set (by show p < h.n + 1 + 1; omega),push_set (by show p < h.n + 1; omega),push_set hp]
theorem tk_closed {h : Heap} (hc : h.Closed) (W : List W32) (x : S8) : (tk h W x).Closed := closed_push (closed_push (closed_push hc wl_bel) wl_bel) wl_bel
theorem tk_ext {h : Heap} (hc : h.Closed) (W : List W32) (x : S8) : h.Ext (tk h W x) := (((Heap.Ext.refl h).push hc _).push hc _).push hc _
theorem af8 (a b c d e f g k : W32) : afill (zl .u32 8) [(0,1,.int .u32 (tn a)),(1,1,.int .u32 (tn b)),(2,1,.int .u32 (tn c)),(3,1,.int .u32 (tn d)),(4,1,.int .u32 (tn e)),(5,1,.int .u32 (tn f)),(6,1,.int .u32 (tn g)),(7,1,.int .u32 (tn k))] = some (wl (⟨a,b,c,d,e,f,g,k⟩ : S8).l) := rfl
theorem part_get (s x : S8) (rest : List Value) : ∀ i : Nat,i < 8 → (wl (part s x i) ++ rest)[i]? = some (.int .u32 (tn (s.l.getD i 0)))
 | 0,_ => rfl
 | 1,_ => rfl
 | 2,_ => rfl
 | 3,_ => rfl
 | 4,_ => rfl
 | 5,_ => rfl
 | 6,_ => rfl
 | 7,_ => rfl
theorem part_put (s x : S8) (rest : List Value) : ∀ i : Nat,i < 8 → aput (wl (part s x i) ++ rest) i [.int .u32 (tn (s.l.getD i 0 + x.l.getD i 0))] = wl (part s x (i + 1)) ++ rest
 | 0,_ => rfl
 | 1,_ => rfl
 | 2,_ => rfl
 | 3,_ => rfl
 | 4,_ => rfl
 | 5,_ => rfl
 | 6,_ => rfl
 | 7,_ => rfl
theorem part_len (s x : S8) (rest : List Value) : ∀ i : Nat,i ≤ 8 → (wl (part s x i) ++ rest).length = 8 + rest.length := fun i hi => by
 rw [List.length_append,wl_len]
 congr 1
 unfold part
 rw [List.length_append,List.length_take,List.length_drop]
 have h1 : (add8 s x).l.length = 8 := rfl
 have h2 : s.l.length = 8 := rfl
 omega
theorem take_ok2 (s : S8) (b : List UInt8) (hb64 : b.length = 64) (v : Value) (p : Nat) (rest : List Value) (h : Heap) (hp : h.cellsOf p = some (wl s.l ++ rest,.ex,1)) (hl : SlB h v b) :
  ACalls Tryz.prog 131 [.pointer (some ⟨p,0,none⟩),v] h fun r h' => r = .tuple #[] ∧ h' = h.set p (.cells (wl (takeF s b).l ++ rest) .ex 1) := by
 refine ACalls.closed fun hcl0 => ?_
 have hpn : p < h.n := cellsOf_lt hcl0 hp
 have hrest : ∀ x ∈ rest,VBelow h.n x := fun x hx => (hcl0 p _ (m_of_cells hp)).2 x (by simp [hx])
 have hcb : ∀ l : List W32,∀ x ∈ wl l ++ rest,VBelow h.n x := fun l x hx => by
  rcases List.mem_append.1 hx with hx | hx
  ·exact wl_bel x hx
  ·exact hrest x hx
 refine ACalls.turned2 (.tuple fun i hi => by simp at hi) hpn (hcb _) (acalls_of mix Tryz.func131 k131 n131 (by simp) fun hcl hb => ?_)
 have bl := Sl.below hl hcl
 have hz := zl_len
 have q8 : acut (wl s.l ++ rest) 0 8 = some (wl s.l) := by
  unfold acut
  rw [if_pos (by simp [wl,S8.l]),List.drop_zero,show (8 : Nat) = (wl s.l).length by rfl,List.take_left']
  rfl
 have hl8 : ∀ s : S8,(wl s.l).length = 8 := fun _ => rfl
 have hp8 : ∀ s : S8,aput (zl .u32 8) 0 (wl s.l) = wl s.l := fun s => aput_all _ _ rfl
 have hlW : (wl (spreadL b 64)).length = 64 := by rw [wl_len,spreadL_len]
 have hpW : aput (zl .u32 64) 0 (wl (spreadL b 64)) = wl (spreadL b 64) := aput_all _ _ (by rw [hlW,zl_len])
 have hlK : (wl kK).length = 64 := rfl
 have hpK : aput (zl .u32 64) 0 (wl kK) = wl kK := aput_all _ _ (by rw [hlK,zl_len])
 simp only [c131,s_seq,s_ops]
 simp [hp,apart,q8,m_wl,hl8,hp8,set_at,cellsOf_at,hz]
 refine (spread_ok b hb64 v _ ?_).mono ?_
 ·exact Sl.keep hl (fun x ob e => by rw [push_m,if_neg (by have := (hcl x ob e).1; omega)]; exact e)
 rintro _ _ ⟨rfl,rfl⟩
 simp
 refine (keys_ok _).mono ?_
 rintro _ _ ⟨rfl,rfl⟩
 simp [m_wl,hlW,hlK,hpW,hpK,cellsOf_at,cellsOf_ne,set_at,push_set,hz]
 have hW64 : (spreadL b 64).length = 64 := spreadL_len b 64
 have hT : takeF s b = add8 s (roundsF kK (spreadL b 64) s 64) := rfl
 rw [hT]
 generalize spreadL b 64 = W at *
 have htk : ((h.push (.cells (wl s.l) .ex 1)).push (.cells (wl W) .ex 1)).push (.cells (wl kK) .ex 1) = tk h W s := rfl
 rw [htk]
 have x0 : ∀ x : S8,(wl x.l)[0]? = some (.int .u32 (tn x.a)) := fun _ => rfl
 have x1 : ∀ x : S8,(wl x.l)[1]? = some (.int .u32 (tn x.b)) := fun _ => rfl
 have x2 : ∀ x : S8,(wl x.l)[2]? = some (.int .u32 (tn x.c)) := fun _ => rfl
 have x3 : ∀ x : S8,(wl x.l)[3]? = some (.int .u32 (tn x.d)) := fun _ => rfl
 have x4 : ∀ x : S8,(wl x.l)[4]? = some (.int .u32 (tn x.e)) := fun _ => rfl
 have x5 : ∀ x : S8,(wl x.l)[5]? = some (.int .u32 (tn x.f)) := fun _ => rfl
 have x6 : ∀ x : S8,(wl x.l)[6]? = some (.int .u32 (tn x.g)) := fun _ => rfl
 have x7 : ∀ x : S8,(wl x.l)[7]? = some (.int .u32 (tn x.h)) := fun _ => rfl
 have z0 : ∀ (x : S8) (hx : 0 < (wl x.l).length),(wl x.l)[0] = .int .u32 (tn x.a) := fun _ _ => rfl
 have z1 : ∀ (x : S8) (hx : 1 < (wl x.l).length),(wl x.l)[1] = .int .u32 (tn x.b) := fun _ _ => rfl
 have z2 : ∀ (x : S8) (hx : 2 < (wl x.l).length),(wl x.l)[2] = .int .u32 (tn x.c) := fun _ _ => rfl
 have z3 : ∀ (x : S8) (hx : 3 < (wl x.l).length),(wl x.l)[3] = .int .u32 (tn x.d) := fun _ _ => rfl
 have z4 : ∀ (x : S8) (hx : 4 < (wl x.l).length),(wl x.l)[4] = .int .u32 (tn x.e) := fun _ _ => rfl
 have z5 : ∀ (x : S8) (hx : 5 < (wl x.l).length),(wl x.l)[5] = .int .u32 (tn x.f) := fun _ _ => rfl
 have z6 : ∀ (x : S8) (hx : 6 < (wl x.l).length),(wl x.l)[6] = .int .u32 (tn x.g) := fun _ _ => rfl
 have z7 : ∀ (x : S8) (hx : 7 < (wl x.l).length),(wl x.l)[7] = .int .u32 (tn x.h) := fun _ _ => rfl
 have y0 : aidx (.int .i64 0) 8 = some 0 := rfl
 have y1 : aidx (.int .i64 1) 8 = some 1 := rfl
 have y2 : aidx (.int .i64 2) 8 = some 2 := rfl
 have y3 : aidx (.int .i64 3) 8 = some 3 := rfl
 have y4 : aidx (.int .i64 4) 8 = some 4 := rfl
 have y5 : aidx (.int .i64 5) 8 = some 5 := rfl
 have y6 : aidx (.int .i64 6) 8 = some 6 := rfl
 have y7 : aidx (.int .i64 7) 8 = some 7 := rfl
 have hK64 : kK.length = 64 := rfl
 have hpp : ∀ x y : S8,aput (wl x.l) 0 (wl y.l) = wl y.l := fun x y => aput_all _ _ rfl
 refine awp_loop_of (α := Nat) (fun i => i ≤ 64) (fun i => [(0,.pointer (some ⟨p,0,none⟩)),(4,.pointer (some ⟨h.n,0,none⟩)),(5,.pointer (some ⟨h.n + 1,0,none⟩)),(6,.pointer (some ⟨h.n + 1 + 1,0,none⟩)),(19,.int .i64 i)])
  (fun i => tk h W (roundsF kK W s i)) (fun i => 64 - i) 0 (by show 0 ≤ 64; omega) ⟨by show h.n ≤ h.n + 1 + 1 + 1; omega,Nat.le_refl _,fun x o e => e,tk_closed hcl _ _⟩
  (by simp [tk_n]; exact ⟨.ptr (by show p < h.n + 1 + 1 + 1; omega),.ptr (by show h.n < h.n + 1 + 1 + 1; omega),.ptr (by show h.n + 1 < h.n + 1 + 1 + 1; omega),.ptr (by show h.n + 1 + 1 < h.n + 1 + 1 + 1; omega),.int⟩) ?_
 intro i hi
 have eR : roundsF kK W s (i + 1) = round (roundsF kK W s i) (kK.getD i 0) (W.getD i 0) := rfl
 generalize hX : roundsF kK W s i = X at *
 by_cases hi64 : i < 64
 ·have hi' : (i : Int) < 64 := by omega
  have hw : IntKind.i64.wrap ((i : Int) + 1) = ((i + 1 : Nat) : Int) := by rw [i64_small (by omega) (by omega)]; omega
  have gW := wl_get (l := W) (i := i) (by omega)
  have gK := wl_get (l := kK) (i := i) (by omega)
  generalize W.getD i 0 = wi at *
  generalize kK.getD i 0 = ki at *
  simp [hi', tk_X, tk_W, tk_K, apart, aidx_of hi64, x0, x1, x2, x3, x4, x5, x6, x7, y0, y1, y2, y3, y4, y5, y6, y7, gW, gK, t_and, t_xor, t_add, t_not]
  have call := fun (x : W32) (n : Nat) (hn : 1 ≤ n ∧ n ≤ 31) => right_ok x n hn (tk h W X)
  refine (call X.e 6 (by omega)).mono ?_
  rintro _ _ ⟨rfl,rfl⟩
  simp [tk_X,tk_W,tk_K,apart,x0,x1,x2,x3,x4,x5,x6,x7,gW,gK]
  refine (call X.e 11 (by omega)).mono ?_
  rintro _ _ ⟨rfl,rfl⟩
  simp [tk_X,tk_W,tk_K,apart,x0,x1,x2,x3,x4,x5,x6,x7,gW,gK,t_xor]
  refine (call X.e 25 (by omega)).mono ?_
  rintro _ _ ⟨rfl,rfl⟩
  simp [tk_X,tk_W,tk_K,apart,x0,x1,x2,x3,x4,x5,x6,x7,y0,y1,y2,y3,y4,y5,y6,y7,gW,gK,t_and,t_xor,t_add,t_not]
  refine (call X.a 2 (by omega)).mono ?_
  rintro _ _ ⟨rfl,rfl⟩
  simp [tk_X,tk_W,tk_K,apart,x0,x1,x2,x3,x4,x5,x6,x7,gW,gK]
  refine (call X.a 13 (by omega)).mono ?_
  rintro _ _ ⟨rfl,rfl⟩
  simp [tk_X,tk_W,tk_K,apart,x0,x1,x2,x3,x4,x5,x6,x7,gW,gK,t_xor]
  refine (call X.a 22 (by omega)).mono ?_
  rintro _ _ ⟨rfl,rfl⟩
  simp [tk_X,tk_W,tk_K,apart,x0,x1,x2,x3,x4,x5,x6,x7,z0,z1,z2,z3,z4,z5,z6,z7,y0,y1,y2,y3,y4,y5,y6,y7,gW,gK,t_and,t_xor,t_add,t_not,af8,m_wl,hl8,hpp,tk_set]
  refine ⟨i + 1,by omega,by omega,?_,.ptr (by show p < h.n + 1 + 1 + 1; omega),.ptr (by show h.n < h.n + 1 + 1 + 1; omega),.ptr (by show h.n + 1 < h.n + 1 + 1 + 1; omega),.ptr (by show h.n + 1 + 1 < h.n + 1 + 1 + 1; omega),hw,.int⟩
  rw [eR]
  exact ⟨by show h.n ≤ h.n + 1 + 1 + 1; omega,Nat.le_refl _,fun x o e => e,tk_closed hcl _ _⟩
 ·have hie : i = 64 := by omega
  subst hie
  simp
  rw [hX]
  have hTp : (tk h W X).cellsOf p = some (wl s.l ++ rest,.ex,1) := by rw [tk_old hpn]; exact hp
  have hTX := tk_X h W X
  have hTn := tk_n h W X
  have hTc := tk_closed hcl W X
  have hTe : ∀ o,(tk h W X).set p o = tk (h.set p o) W X := fun o => tk_pset hpn o
  have hpX : ¬ h.n = p := by omega
  have hcS : ∀ l : List W32,((tk h W X).set p (.cells (wl l ++ rest) .ex 1)).Closed := fun l => closed_set hTc (by rw [hTn]; omega) (fun x hx => (hcb l x hx).mono (by rw [hTn]; omega))
  have e0 : wl (part s X 0) ++ rest = wl s.l ++ rest := rfl
  have e8 : wl (part s X 8) ++ rest = wl (add8 s X).l ++ rest := rfl
  generalize hT' : tk h W X = T at *
  refine awp_loop_of (α := Nat) (fun i => i ≤ 8) (fun i => [(0,.pointer (some ⟨p,0,none⟩)),(4,.pointer (some ⟨h.n,0,none⟩)),(99,.int .i64 i)])
   (fun i => T.set p (.cells (wl (part s X i) ++ rest) .ex 1)) (fun i => 8 - i) 0 (by show 0 ≤ 8; omega) ⟨by show h.n ≤ T.n; omega,Nat.le_refl _,fun x o e => by rw [e0,set_same (m_of_cells hTp)] at e; exact e,hcS _⟩
   (by simp; exact ⟨.ptr (by show p < T.n; omega),.ptr (by show h.n < T.n; omega),.int⟩) ?_
  intro i hi
  have fp : ∀ c,(T.set p (.cells c .ex 1)).cellsOf p = some (c,.ex,1) := fun c => cellsOf_set _ _ _ _ _
  have fX : ∀ c,(T.set p (.cells c .ex 1)).cellsOf h.n = some (wl X.l,.ex,1) := fun c => by rw [cellsOf_set_ne hpX]; exact hTX
  by_cases hi8 : i < 8
  ·have hi' : (i : Int) < 8 := by omega
   have hw : IntKind.i64.wrap ((i : Int) + 1) = ((i + 1 : Nat) : Int) := by rw [i64_small (by omega) (by omega)]; omega
   have gC := part_get s X rest i hi8
   have pC := part_put s X rest i hi8
   have lC : i < (wl (part s X i) ++ rest).length := by rw [part_len s X rest i (by omega)]; omega
   have gX := wl_get (l := X.l) (i := i) hi8
   have hcN := hcS (part s X (i + 1))
   generalize wl (part s X i) ++ rest = C at *
   generalize s.l.getD i 0 = si at *
   generalize X.l.getD i 0 = xi at *
   have lC' : i + 1 ≤ C.length := lC
   simp [hi', fp, fX, apart, aidx_of hi8, gC, gX, t_add, mcells, lC', set_set, pC]
   exact ⟨i + 1,by omega,by omega,⟨by show h.n ≤ T.n; omega,Nat.le_refl _,fun x o e => e,hcN⟩,.ptr (by show p < T.n; omega),.ptr (by show h.n < T.n; omega),hw,.int⟩
  ·have hie : i = 8 := by omega
   subst hie
   simp
   rw [e8,hTe]
   exact tk_ext (closed_set hcl hpn (show AObj.Below h.n (.cells (wl (add8 s X).l ++ rest) .ex 1) from hcb _)) _ _
def byt (w : W32) : UInt8 := UInt8.ofNat w.toNat
theorem t_byt (w : W32) : IntKind.u8.wrap (tn w) = ((byt w).toNat : Int) := by
 unfold IntKind.wrap tn byt
 simp [IntKind.bits,IntKind.signed]
def be (w : W32) : List UInt8 := [byt (w >>> 24),byt (w >>> 16),byt (w >>> 8),byt w]
def hashB (s : S8) : List UInt8 := s.l.flatMap be
theorem be_len0 : ∀ l : List W32,(l.flatMap be).length = 4 * l.length
 | [] => rfl
 | w :: l => by rw [List.flatMap_cons,List.length_append,be_len0 l,List.length_cons]; show 4 + _ = _; omega
theorem hashB_len (s : S8) : (hashB s).length = 32 := be_len0 s.l
def bz (l : List UInt8) (n : Nat) : List Value := ubs l ++ zl .u8 (n - l.length)
theorem bz_put {l : List UInt8} {n : Nat} (h : l.length < n) (w : UInt8) : aput (bz l n) l.length [eb w] = bz (l ++ [w]) n := by
 unfold aput bz
 have e : (ubs l).length = l.length := ubs_len l
 rw [← e, List.take_left', List.drop_append, List.drop_of_length_le (by simp)]
 ·rw [ubs_app,e]
  simp only [List.length_append,List.length_singleton]
  have : zl .u8 (n - l.length) = .int .u8 0 :: zl .u8 (n - (l.length + 1)) := by
   unfold zl
   rw [show n - l.length = (n - (l.length + 1)) + 1 by omega,List.replicate_succ]
  rw [this]
  simp [ubs]
 ·rfl
theorem bz_len {l : List UInt8} {n : Nat} (h : l.length ≤ n) : (bz l n).length = n := by simp [bz,ubs_len,zl_len]; omega
def hz (s : S8) (i : Nat) : List Value := bz ((s.l.take i).flatMap be) 32
theorem be_len : ∀ l : List W32,(l.flatMap be).length = 4 * l.length
 | [] => rfl
 | w :: l => by rw [List.flatMap_cons,List.length_append,be_len l,List.length_cons]; show 4 + _ = _; omega
theorem hz_put (s : S8) (i : Nat) (hi : i < 8) : aput (aput (aput (aput (hz s i) (4 * i) [eb (byt (s.l.getD i 0 >>> 24))]) (4 * i + 1) [eb (byt (s.l.getD i 0 >>> 16))]) (4 * i + 2) [eb (byt (s.l.getD i 0 >>> 8))]) (4 * i + 3) [eb (byt (s.l.getD i 0))] = hz s (i + 1) := by
 have hl8 : s.l.length = 8 := rfl
 have hL : ((s.l.take i).flatMap be).length = 4 * i := by rw [be_len,List.length_take,hl8,Nat.min_eq_left (by omega)]
 have hN : (s.l.take (i + 1)).flatMap be = (((((s.l.take i).flatMap be) ++ [byt (s.l.getD i 0 >>> 24)]) ++ [byt (s.l.getD i 0 >>> 16)]) ++ [byt (s.l.getD i 0 >>> 8)]) ++ [byt (s.l.getD i 0)] := by
  rw [List.take_succ_eq_append_getElem (by omega),List.flatMap_append,List.getD,List.getElem?_eq_getElem (by omega)]
  simp [be]
 unfold hz
 rw [hN]
 generalize (s.l.take i).flatMap be = L at *
 generalize s.l.getD i 0 = x at *
 have p1 := bz_put (l := L) (n := 32) (by omega) (byt (x >>> 24))
 have p2 := bz_put (l := L ++ [byt (x >>> 24)]) (n := 32) (by simp; omega) (byt (x >>> 16))
 have p3 := bz_put (l := L ++ [byt (x >>> 24)] ++ [byt (x >>> 16)]) (n := 32) (by simp; omega) (byt (x >>> 8))
 have p4 := bz_put (l := L ++ [byt (x >>> 24)] ++ [byt (x >>> 16)] ++ [byt (x >>> 8)]) (n := 32) (by simp; omega) (byt x)
 simp only [List.length_append,List.length_singleton,hL] at p1 p2 p3 p4
 rw [p1,p2,p3,p4]
theorem hz_len (s : S8) (i : Nat) (hi : i ≤ 8) : (hz s i).length = 32 := by
 unfold hz
 have hl8 : s.l.length = 8 := rfl
 exact bz_len (by rw [be_len,List.length_take]; omega)
theorem hz_bel {n i : Nat} {s : S8} : ∀ x ∈ hz s i,VBelow n x := fun x hx => by
 rcases List.mem_append.1 hx with hx | hx
 ·exact ubs_bel x hx
 ·rw [List.eq_of_mem_replicate hx]; exact .int
theorem ubs_below {n : Nat} {l : List UInt8} : VBelow n (.agg (ubs l).toArray) := .agg fun i hi => by
 rw [toArray_getD]
 have hi' : i < (ubs l).length := by simpa using hi
 simp only [List.getD, List.getElem?_eq_getElem hi', Option.getD_some]
 exact ubs_bel _ (List.getElem_mem hi')
theorem m_ubs (l : List UInt8) : mcells (.agg (ubs l).toArray) = some (ubs l) := by simp [mcells]
theorem wl_get_app {l : List W32} {rest : List Value} {i : Nat} (h : i < l.length) : (wl l ++ rest)[i]? = some (.int .u32 (tn (l.getD i 0))) := by
 rw [List.getElem?_append_left (by rw [wl_len]; exact h)]
 exact wl_get h
theorem hash_ok (s : S8) (p : Nat) (rest : List Value) (h : Heap) (hp : h.cellsOf p = some (wl s.l ++ rest,.ex,1)) :
  ACalls Tryz.prog 133 [.pointer (some ⟨p,0,none⟩)] h fun r h' => r = .agg (ubs (hashB s)).toArray ∧ h' = h := by
 refine ACalls.same ubs_below (acalls_ofR mix Tryz.func133 k133 n133 (by simp) fun hcl hb => ?_)
 have hpn : p < h.n := cellsOf_lt hcl hp
 have hz' := zl_len
 have hcZ : (h.push (.cells (zl .u8 32) .ex 1)).Closed := closed_push hcl (fun x hx => by rw [List.eq_of_mem_replicate hx]; exact .int)
 have hextZ := (Heap.Ext.refl h).push hcl (.cells (zl .u8 32) .ex 1)
 simp only [c133,s_seq,s_ops]
 simp
 generalize hZ : h.push (.cells (zl .u8 32) .ex 1) = Z at *
 have hZn : Z.n = h.n + 1 := by rw [← hZ]; rfl
 have fZ : Z.cellsOf h.n = some (zl .u8 32,.ex,1) := by rw [← hZ]; exact cellsOf_new _ _ _ _
 have fp : Z.cellsOf p = some (wl s.l ++ rest,.ex,1) := by rw [← hZ]; exact cellsOf_push hcl hp
 have hcW : ∀ i,(Z.push (.cells (hz s i) .ex 1)).Closed := fun l => closed_push hcZ hz_bel
 have e0 : zl .u8 32 = hz s 0 := by simp [hz,bz,ubs]
 refine awp_loop_of (α := Nat) (fun i => i ≤ 8) (fun i => [(2,.pointer (some ⟨h.n,0,none⟩)),(3,.pointer (some ⟨Z.n,0,none⟩)),(6,.pointer (some ⟨p,0,none⟩)),(7,.int .i64 i)]) (fun i => Z.push (.cells (hz s i) .ex 1)) (fun i => 8 - i) 0
  (by show 0 ≤ 8; omega) ⟨by show h.n ≤ Z.n + 1; omega,Nat.le_refl _,fun x o e => by rw [e0]; exact e,hcW _⟩ (by simp; exact ⟨.ptr (by show h.n < Z.n + 1; omega),.ptr (Nat.lt_succ_self _),.ptr (by show p < Z.n + 1; omega),.int⟩) ?_
 intro i hi
 have n1 : ¬ h.n = Z.n := by omega
 have n2 : ¬ p = Z.n := by omega
 have l1 : h.n < Z.n := by omega
 by_cases hi8 : i < 8
 ·have hi' : (i : Int) < 8 := by omega
  have hw : IntKind.i64.wrap ((i : Int) + 1) = ((i + 1 : Nat) : Int) := by rw [i64_small (by omega) (by omega)]; omega
  have w4 : IntKind.i64.wrap (4 * (i : Int)) = 4 * (i : Int) := i64_small (by omega) (by omega)
  have w41 : IntKind.i64.wrap (4 * (i : Int) + 1) = 4 * (i : Int) + 1 := i64_small (by omega) (by omega)
  have w42 : IntKind.i64.wrap (4 * (i : Int) + 2) = 4 * (i : Int) + 2 := i64_small (by omega) (by omega)
  have w43 : IntKind.i64.wrap (4 * (i : Int) + 3) = 4 * (i : Int) + 3 := i64_small (by omega) (by omega)
  have a0 : aidx (.int .i64 (4 * (i : Int))) 32 = some (4 * i) := by have := aidx_of (k := .i64) (show 4 * i < 32 by omega); exact_mod_cast this
  have a1 : aidx (.int .i64 (4 * (i : Int) + 1)) 32 = some (4 * i + 1) := by have := aidx_of (k := .i64) (show 4 * i + 1 < 32 by omega); exact_mod_cast this
  have a2 : aidx (.int .i64 (4 * (i : Int) + 2)) 32 = some (4 * i + 2) := by have := aidx_of (k := .i64) (show 4 * i + 2 < 32 by omega); exact_mod_cast this
  have a3 : aidx (.int .i64 (4 * (i : Int) + 3)) 32 = some (4 * i + 3) := by have := aidx_of (k := .i64) (show 4 * i + 3 < 32 by omega); exact_mod_cast this
  have gs := wl_get_app (l := s.l) (rest := rest) (i := i) hi8
  have hput := hz_put s i hi8
  have hC0 := hz_len s i (by omega)
  have hcN := hcW (i + 1)
  generalize s.l.getD i 0 = x at *
  generalize hz s i = C0 at *
  have hC1 : (aput C0 (4 * i) [eb (byt (x >>> 24))]).length = 32 := by rw [aput_len (by rw [hC0]; simp; omega)]; exact hC0
  have hC2 : (aput (aput C0 (4 * i) [eb (byt (x >>> 24))]) (4 * i + 1) [eb (byt (x >>> 16))]).length = 32 := by rw [aput_len (by rw [hC1]; simp; omega)]; exact hC1
  have hC3 : (aput (aput (aput C0 (4 * i) [eb (byt (x >>> 24))]) (4 * i + 1) [eb (byt (x >>> 16))]) (4 * i + 2) [eb (byt (x >>> 8))]).length = 32 := by rw [aput_len (by rw [hC2]; simp; omega)]; exact hC2
  have b0 : 4 * i + 1 ≤ 32 := by omega
  have b1 : 4 * i + 1 + 1 ≤ 32 := by omega
  have b2 : 4 * i + 2 + 1 ≤ 32 := by omega
  have b3 : 4 * i + 3 + 1 ≤ 32 := by omega
  have heb : ∀ c : UInt8,Value.int .u8 (c.toNat : Int) = eb c := fun _ => rfl
  have meb : ∀ c : UInt8,mcells (eb c) = some [eb c] := fun _ => rfl
  simp [hi', w4, w41, w42, w43, a0, a1, a2, a3, aidx_of hi8, gs, fp, apart, b32, t_shr24, t_shr16, t_shr8, t_byt, heb, meb, cellsOf_at, cellsOf_ne, n1, n2, hC0, hC1, hC2, hC3, b0, b1, b2, b3, set_at]
  refine ⟨i + 1,by omega,by omega,?_,.ptr (by show h.n < Z.n + 1; omega),.ptr (Nat.lt_succ_self _),.ptr (by show p < Z.n + 1; omega),hw,.int⟩
  rw [hput]
  exact ⟨by show h.n ≤ Z.n + 1; omega,Nat.le_refl _,fun x o e => e,hcN⟩
 ·have hie : i = 8 := by omega
  subst hie
  have e8 : hz s 8 = ubs (hashB s) := by
   have h1 : s.l.take 8 = s.l := rfl
   unfold hz bz hashB
   rw [h1,be_len]
   simp [zl,S8.l]
  have hl32 : (ubs (hashB s)).length = 32 := by rw [ubs_len,hashB_len]
  have ha := acut_full hl32
  have hp : aput (zl .u8 32) 0 (ubs (hashB s)) = ubs (hashB s) := aput_all _ _ (by rw [hl32,zl_len])
  rw [e8]
  simp [cellsOf_at, apart, ha, m_ubs, hl32, hp, hz', set_at, fZ, cellsOf_ne, n1, l1, push_set, cellsOf_set]
  exact (Heap.Ext.setNew hextZ hcl (Nat.le_refl _) _).push hcl _
theorem own_app2 {h0 H H' : Heap} {t esz bytes len k : Nat} {cells new : List Value} {v : Value} (o : Own h0 esz len cells v H) (hc : h0.Closed)
  (hle : H.n ≤ H'.n) (hext : ∀ b ob,H.m b = some ob → H'.m b = some ob) (hk : 0 < k) (hnew : new.length = k * esz) (hsm : (len + k) * (bytes + 1) ≤ 1099511627776) :
  ∃ a c,v = .slice a len c ∧ ∃ v2 H2 H3,aapp H' t esz bytes a len c new k = some (v2,H2) ∧ Own h0 esz (len + k) (cells ++ new) v2 H3 ∧ H3.n = H2.n ∧ (∀ b o,H3.m b = some o → H2.m b = some o) ∧ (∀ b ob,H.m b = none → b < H'.n → H'.m b = some ob → H2.m b = some ob) ∧ H'.n ≤ H2.n ∧ (∀ b,b < H'.n → H.m b = none → H3.m b = none) := by
 obtain ⟨hn,⟨rfl,rfl,rfl,hH⟩ | ⟨nm,md,e,h1,h2,rfl,hcl,hmd,hH⟩⟩ := o
 ·have hold : ∀ b ob,h0.m b = some ob → H'.m b = some ob := fun b ob e => hext b ob (by rw [hH]; exact e)
  refine ⟨none,0,rfl,.slice (some ⟨H'.n,0,none⟩) k k,H'.push (.cells new (.loose t) esz),h0.with1 H'.n (.cells new (.loose t) esz) (H'.n + 1),?_,⟨by show h0.n ≤ H'.n + 1; omega,.inr ⟨H'.n,.loose t,esz,by omega,by show H'.n < H'.n + 1; omega,by simp,by simpa using hnew,fun _ => rfl,by simp⟩⟩,by simp,fun b ob e => ?_,fun b ob hb1 hb2 e => ?_,Nat.le_succ _,fun b hb1 hb2 => ?_⟩
  ·simp only [Nat.zero_add] at hsm
   unfold aapp
   simp only [Nat.zero_add]
   rw [if_pos ⟨hsm,hnew⟩]
   simp [show k ≠ 0 by omega]
  ·rw [with1_m] at e
   rw [push_m]
   split at e
   ·rename_i hb; rw [if_pos hb]; exact e
   ·rename_i hb
    rw [if_neg hb]
    exact hold b ob e
  ·rw [push_m,if_neg (by omega)]; exact e
  ·rw [hH] at hb2; rw [with1_m,if_neg (by omega)]; exact hb2
 ·have hown : H'.m nm = some (.cells cells md e) := hext nm _ (by rw [hH,with1_m,if_pos rfl])
  have hcell : H'.cellsOf nm = some (cells,md,e) := by
   unfold Heap.cellsOf
   rw [hown]
  have hcut : acut cells 0 (len * esz) = some cells := by
   unfold acut
   rw [if_pos (by omega)]
   simp [← hcl]
  have hold : ∀ b ob,h0.m b = some ob → H'.m b = some ob := fun b ob e => by
   have := (hc b ob e).1
   exact hext b ob (by rw [hH,with1_m,if_neg (by omega)]; exact e)
  by_cases hloose : md.isLoose = true
  ·have hgl : (md.grown t).isLoose = true := by unfold BMode.grown; split <;> (try split) <;> rfl
   obtain rfl := hmd hloose
   refine ⟨some ⟨nm,0,none⟩,len,rfl,.slice (some ⟨H'.n,0,none⟩) (len + k) (len + k),(H'.kill nm).push (.cells (cells ++ new) (md.grown t) e),h0.with1 H'.n (.cells (cells ++ new) (md.grown t) e) (H'.n + 1),?_,
    ⟨by show h0.n ≤ H'.n + 1; omega,.inr ⟨H'.n,md.grown t,e,by omega,by show H'.n < H'.n + 1; omega,rfl,by simp [hcl,hnew,Nat.add_mul],fun _ => rfl,rfl⟩⟩,by simp,fun b ob eb => ?_,fun b ob hb1 hb2 eb => ?_,Nat.le_succ _,fun b hb1 hb2 => ?_⟩
   ·unfold aapp
    dsimp only
    rw [if_pos ⟨hsm,hnew⟩,hcell]
    simp only [if_true]
    rw [hcut]
    simp only [hloose,if_true]
    rw [if_neg (by omega),if_pos (by omega)]
   ·rw [with1_m] at eb
    rw [push_m,kill_n]
    split at eb
    ·rename_i hb; rw [if_pos hb]; exact eb
    ·rename_i hb
     rw [if_neg hb,kill_m]
     have := (hc b ob eb).1
     rw [if_neg (by omega)]
     exact hold b ob eb
   ·have hbn : b ≠ nm := fun q => by rw [q,hH,with1_m,if_pos rfl] at hb1; cases hb1
    rw [push_m,kill_n,if_neg (by omega),kill_m,if_neg hbn]; exact eb
   ·rw [hH,with1_m] at hb2; split at hb2; cases hb2; rw [with1_m,if_neg (by omega)]; exact hb2
  ·refine ⟨some ⟨nm,0,none⟩,len,rfl,.slice (some ⟨H'.n,0,none⟩) (len + k) (len + k),H'.push (.cells (cells ++ new) (.loose t) esz),h0.with1 H'.n (.cells (cells ++ new) (.loose t) esz) (H'.n + 1),?_,
    ⟨by show h0.n ≤ H'.n + 1; omega,.inr ⟨H'.n,.loose t,esz,by omega,by show H'.n < H'.n + 1; omega,rfl,by simp [hcl,hnew,Nat.add_mul],fun _ => rfl,rfl⟩⟩,by simp,fun b ob eb => ?_,fun b ob hb1 hb2 eb => ?_,Nat.le_succ _,fun b hb1 hb2 => ?_⟩
   ·unfold aapp
    dsimp only
    rw [if_pos ⟨hsm,hnew⟩,hcell]
    simp only [if_true]
    rw [hcut]
    simp only
    rw [if_neg hloose,if_neg (by omega)]
   ·rw [with1_m] at eb
    rw [push_m]
    split at eb
    ·rename_i hb; rw [if_pos hb]; exact eb
    ·rename_i hb
     rw [if_neg hb]
     exact hold b ob eb
   ·rw [push_m,if_neg (by omega)]; exact eb
   ·rw [hH,with1_m] at hb2; split at hb2; cases hb2; rw [with1_m,if_neg (by omega)]; exact hb2
theorem own_bytes {h0 H H' : Heap} {l new : List UInt8} {v : Value} (o : Own h0 1 l.length (ubs l) v H) (hc : h0.Closed) (hle : H.n ≤ H'.n) (hext : ∀ b ob,H.m b = some ob → H'.m b = some ob) (hk : 0 < new.length) (hn : l.length + new.length ≤ 100000000) :
  ∃ a c,v = .slice a l.length c ∧ ∃ v2 H2 H3,aapp H' 5 1 1 a l.length c (ubs new) new.length = some (v2,H2) ∧ Own h0 1 (l ++ new).length (ubs (l ++ new)) v2 H3 ∧ H3.n = H2.n ∧ (∀ b o,H3.m b = some o → H2.m b = some o) := by
 obtain ⟨a,c,e,v2,H2,H3,h1,h2,h3,h4,_⟩ := own_app2 (bytes := 1) o hc hle hext hk (show (ubs new).length = new.length * 1 by rw [ubs_len]; omega) (by omega)
 refine ⟨a,c,e,v2,H2,H3,h1,?_,h3,h4⟩
 rw [ubs_app,List.length_append]
 exact h2
theorem own_byte {h0 H H' : Heap} {l : List UInt8} {w : UInt8} {v : Value} (o : Own h0 1 l.length (ubs l) v H) (hc : h0.Closed) (hle : H.n ≤ H'.n) (hext : ∀ b ob,H.m b = some ob → H'.m b = some ob) (hn : l.length ≤ 90000000) :
  ∃ a c,v = .slice a l.length c ∧ ∃ v2 H2 H3,aapp H' 5 1 1 a l.length c [eb w] 1 = some (v2,H2) ∧ Own h0 1 (l ++ [w]).length (ubs (l ++ [w])) v2 H3 ∧ H3.n = H2.n ∧ (∀ b o,H3.m b = some o → H2.m b = some o) :=
 own_bytes (new := [w]) o hc hle hext Nat.one_pos (by simp; omega)
theorem first1 (H : Heap) (c : Value) : afirst (H.push (.cells [c] .ex 1)) 1 1 (.slice (some ⟨H.n,0,none⟩) 1 1) = some [c] := by simp [afirst,cellsOf_new,acut]
theorem fill1 (x : Int) : afill [.int .u8 0] [(0,1,.int .u8 x)] = some [.int .u8 x] := rfl
theorem in_push {H H' : Heap} (hc : ∀ b ob,H.m b = some ob → b < H'.n) (hs : ∀ b ob,H.m b = some ob → H'.m b = some ob) (o : AObj) : ∀ b ob,H.m b = some ob → (H'.push o).m b = some ob := fun b ob e => by
 rw [push_m,if_neg (by have := hc b ob e; omega)]; exact hs b ob e
def RestAt (h : Heap) (nm : Option Nat) (rv : Value) (R : List UInt8) : Prop :=
 (nm = none ∧ rv = .slice none 0 0 ∧ R = []) ∨ ∃ x o cap c,nm = some x ∧ rv = .slice (some ⟨x,o,none⟩) R.length cap ∧ h.cellsOf x = some (c,.loose 5,1) ∧ o + cap = c.length ∧ R.length ≤ cap ∧ acut c o R.length = some (ubs R)
theorem RestAt.form {h : Heap} {nm : Option Nat} {rv : Value} {R : List UInt8} (r : RestAt h nm rv R) : ∃ a c,rv = .slice a R.length c := by
 rcases r with ⟨_,rfl,rfl⟩ | ⟨x,o,cap,c,_,rfl,_⟩
 ·exact ⟨_,_,rfl⟩
 ·exact ⟨_,_,rfl⟩
theorem RestAt.keep {h h' : Heap} {nm : Option Nat} {rv : Value} {R : List UInt8} (r : RestAt h nm rv R) (hk : ∀ x,nm = some x → h'.m x = h.m x) : RestAt h' nm rv R := by
 rcases r with ⟨h1,h2,h3⟩ | ⟨x,o,cap,c,e,h2,h3,h4⟩
 ·exact .inl ⟨h1,h2,h3⟩
 ·refine .inr ⟨x,o,cap,c,e,h2,?_,h4⟩
  unfold Heap.cellsOf at h3 ⊢
  rw [hk x e]
  exact h3
theorem RestAt.first {h : Heap} {nm : Option Nat} {rv : Value} {R : List UInt8} (r : RestAt h nm rv R) : afirst h 1 R.length rv = some (ubs R) := by
 rcases r with ⟨_,rfl,rfl⟩ | ⟨x,o,cap,c,_,rfl,h3,h4,h5,h6⟩
 ·rfl
 ·simp only [afirst,h3,if_true,Nat.mul_one]
  exact h6
def zc (n : Nat) : Nat := (120 - (n + 1) % 64) % 64
def lenB (n : Nat) : List UInt8 := (List.range 8).map fun i => UInt8.ofNat (8 * n / 2 ^ (8 * (7 - i)))
def padB (n : Nat) : List UInt8 := [128] ++ List.replicate (zc n) 0 ++ lenB n
def BufAt (n0 : Nat) (h : Heap) (v : Value) (L : List UInt8) : Prop := ∃ x o cap c md e,n0 ≤ x ∧ v = .slice (some ⟨x,o,none⟩) L.length cap ∧ h.cellsOf x = some (c,md,e) ∧ (md.isLoose = true → e = 1) ∧ L.length ≤ cap ∧ acut c o L.length = some (ubs L)
theorem buf_own {h0 H : Heap} {l : List UInt8} {v : Value} (o : Own h0 1 l.length (ubs l) v H) (hl : l ≠ []) : BufAt h0.n H v l := by
 obtain ⟨hn,⟨rfl,h1,h2,hH⟩ | ⟨nm,md,e,h1,h2,rfl,h3,hm,hH⟩⟩ := o
 ·exact absurd (List.eq_nil_of_length_eq_zero h2) hl
 ·have hc : H.cellsOf nm = some (ubs l,md,e) := by unfold Heap.cellsOf; rw [hH,with1_m,if_pos rfl]
  have := acut_all (ubs l)
  rw [ubs_len] at this
  exact ⟨nm,0,l.length,ubs l,md,e,h1,rfl,hc,hm,Nat.le_refl _,this⟩
theorem own_empty {h0 H H' : Heap} {v : Value} (o : Own h0 1 0 [] v H) (hx : ∃ nm,v = .slice (some ⟨nm,0,none⟩) 0 0 ∧ H'.m nm = some (.cells [] .ex 1)) : ∃ a c,v = .slice a 0 c ∧ aapp H' 5 1 1 a 0 c [] 0 = some (v,H') := by
 obtain ⟨nm,rfl,hm⟩ := hx
 refine ⟨_,_,rfl,?_⟩
 have hc : H'.cellsOf nm = some ([],.ex,1) := by unfold Heap.cellsOf; rw [hm]
 have hs : H'.set nm (.cells [] .ex 1) = H' := set_same hm
 simp [aapp,hc,acut,aput,hs]
theorem tail_ok (R : List UInt8) (n : Nat) (hR : R.length < 64) (hmod : n % 64 = R.length) (hn : n ≤ 100000000) (p : Nat) (S : List W32) (hS : S.length = 8) (rv : Value) (nm : Option Nat) (h : Heap)
  (hp : h.cellsOf p = some (wl S ++ [rv,.int .i64 (n : Int)],.ex,1)) (hr : RestAt h nm rv R) :
  ACalls Tryz.prog 132 [.pointer (some ⟨p,0,none⟩)] h fun v h' => BufAt h.n h' v (R ++ padB n) ∧ h.Sub h.n h' := by
 refine acalls_of mix Tryz.func132 k132 n132 (by simp) fun hcl hb => ?_
 have hpn : p < h.n := cellsOf_lt hcl hp
 obtain ⟨ra,rc,rfl⟩ := hr.form
 have g8 : ∀ rv nv,(wl S ++ [rv,nv])[8]? = some rv := fun rv nv => by rw [List.getElem?_append_right (by rw [wl_len]; omega),wl_len,hS]; rfl
 have g9 : ∀ rv nv,(wl S ++ [rv,nv])[9]? = some nv := fun rv nv => by rw [List.getElem?_append_right (by rw [wl_len]; omega),wl_len,hS]; rfl
 have hcM : (h.push (.cells [] .ex 1)).Closed := closed_push hcl (fun x hx => by cases hx)
 have fpM : (h.push (.cells [] .ex 1)).cellsOf p = some (wl S ++ [.slice ra R.length rc,.int .i64 (n : Int)],.ex,1) := cellsOf_push hcl hp
 have hfr : afirst (h.push (.cells [] .ex 1)) 1 R.length (.slice ra R.length rc) = some (ubs R) := by
  refine (hr.keep (h' := h.push (.cells [] .ex 1)) fun x e => ?_).first
  rcases hr with ⟨q, _⟩ | ⟨x', o, cap, c, q, _, h3, _⟩
  ·rw [q] at e; cases e
  ·rw [q] at e
   cases e
   rw [push_m,if_neg (by have := cellsOf_lt hcl h3; omega)]
 have mk := Own.made h 1
 have hold : ∀ {k l v H},Own h 1 k l v H → H.cellsOf p = some (wl S ++ [.slice ra R.length rc,.int .i64 (n : Int)],.ex,1) := fun o => by
  have := o.old (b := p) hpn
  unfold Heap.cellsOf at hp ⊢
  rw [this]; exact hp
 have hsub : ∀ {l : List UInt8} {v H},Own h 1 l.length (ubs l) v H → H.Sub h.n H := fun o => ⟨o.1,Nat.le_refl _,fun _ _ e => e,o.closed hcl ubs_bel⟩
 simp only [c132,s_seq,s_ops]
 obtain ⟨v1,H2,H3,happ1,ho,hn3,hin3⟩ : ∃ v1 H2 H3,aapp (h.push (.cells [] .ex 1)) 5 1 1 (some ⟨h.n,0,none⟩) 0 0 (ubs R) R.length = some (v1,H2) ∧ Own h 1 R.length (ubs R) v1 H3 ∧ H3.n = H2.n ∧ (∀ b o,H3.m b = some o → H2.m b = some o) := by
  rcases Nat.eq_zero_or_pos R.length with q | q
  ·have hR0 : R = [] := List.eq_nil_of_length_eq_zero q
   subst hR0
   obtain ⟨a,c,e,e2⟩ := own_empty (H' := h.push (.cells [] .ex 1)) mk ⟨h.n,rfl,by rw [push_m,if_pos rfl]⟩
   cases e
   exact ⟨_,_,_,e2,mk,rfl,fun _ _ e => e⟩
  ·obtain ⟨a,c,e,v2,H2,H3,h1,h2,h3,h4⟩ := own_bytes (l := []) (new := R) (H' := h.push (.cells [] .ex 1)) mk hcl (Nat.le_refl _) (fun _ _ e => e) q (by simp; omega)
   cases e
   exact ⟨v2,H2,H3,h1,h2,h3,h4⟩
 have hub : (ubs R).length = R.length := ubs_len R
 have hcl3 := ho.closed hcl ubs_bel
 obtain ⟨a,c,rfl,v2,H4,H5,happ2,ho2,hn5,hin5⟩ := own_byte (w := 128) ho hcl (H' := H2.push (.cells [.int .u8 128] .ex 1)) (by show H3.n ≤ H2.n + 1; omega) (in_push (fun b ob e => by have := (hcl3 b ob e).1; omega) hin3 _) (by omega)
 have e128 : eb 128 = .int .u8 128 := rfl
 rw [e128] at happ2
 have fill0 : afill [] [] = some [] := rfl
 simp [hp,fpM,apart,g8,alen,hfr,happ1,happ2,fill0,fill1,first1]
 clear happ1 happ2 hin3 hn3
 have fpo : ∀ {k l v H},Own h 1 k l v H → ∀ o,H.n ≤ H.n → (H.push o).cellsOf p = some (wl S ++ [.slice ra R.length rc,.int .i64 (n : Int)],.ex,1) := fun o _ _ => by rw [cellsOf_ne (by have := o.1; omega)]; exact hold o
 have bpt : ∀ {k l v H},Own h 1 k l v H → VBelow H.n (.pointer (some ⟨p,0,none⟩)) := fun o => .ptr (by have := o.1; show p < _; omega)
 refine awp_loop_of (α := Nat × Value × Heap) (fun x => x.1 ≤ zc n ∧ Own h 1 (R ++ [128] ++ List.replicate x.1 0).length (ubs (R ++ [128] ++ List.replicate x.1 0)) x.2.1 x.2.2)
  (fun x => [(0,.pointer (some ⟨p,0,none⟩)),(3,x.2.1)]) (fun x => x.2.2) (fun x => zc n - x.1) (0,v2,H5) ⟨Nat.zero_le _,by simpa using ho2⟩ ⟨ho2.1,by show H5.n ≤ H4.n; omega,hin5,ho2.closed hcl ubs_bel⟩
  (by simp; exact ⟨bpt ho2,ho2.below⟩) ?_
 clear ho2 hin5 hn5
 rintro ⟨k,v,H⟩ ⟨hk,ho⟩
 dsimp only at hk ho
 have hlen : (R ++ [128] ++ List.replicate k (0 : UInt8)).length = R.length + 1 + k := by rw [List.length_append,List.length_append,List.length_replicate]; rfl
 have hclH := ho.closed hcl ubs_bel
 have hzc : zc n = (120 - (n + 1) % 64) % 64 := rfl
 obtain ⟨a,c,rfl,v2,H4,H5,happ2,ho2,hn5,hin5⟩ := own_byte (w := 0) ho hcl (H' := H.push (.cells [.int .u8 0] .ex 1)) (Nat.le_succ _) (in_push (fun b ob e => (hclH b ob e).1) (fun _ _ e => e) _) (by rw [hlen]; omega)
 have hnx : R ++ [128] ++ List.replicate k (0 : UInt8) ++ [0] = R ++ [128] ++ List.replicate (k + 1) (0 : UInt8) := by
  rw [List.append_assoc,← List.replicate_succ']
 rw [hnx] at ho2
 have tm : ∀ a : Nat,((a : Nat) : Int).tmod 64 = ((a % 64 : Nat) : Int) := fun a => (Int.ofNat_tmod a 64).symm
 have e0 : eb 0 = .int .u8 0 := rfl
 rw [e0] at happ2
 rw [hlen] at happ2 ⊢
 by_cases hkz : k = zc n
 ·subst hkz
  have hm : (R.length + 1 + zc n) % 64 = 56 := by omega
  have hm2 : ((R.length + 1 + zc n : Nat) : Int).tmod 64 = 56 := by rw [tm,hm]; rfl
  generalize hnn : R.length + 1 + zc n = nn at *
  simp [hm2]
  clear happ2 ho2 hn5 hin5 hnx
  have hLp : R ++ padB n = R ++ [128] ++ List.replicate (zc n) (0 : UInt8) ++ (lenB n).take 8 := by
   unfold padB
   rw [List.take_of_length_le (by simp [lenB])]
   simp
  rw [hLp]
  have hne : R ++ [128] ++ List.replicate (zc n) (0 : UInt8) ++ (lenB n).take 8 ≠ [] := by simp
  generalize hL : R ++ [128] ++ List.replicate (zc n) (0 : UInt8) = L at *
  rw [← hlen]
  have hLn : L.length ≤ 200 := by omega
  refine awp_loop_of (α := Nat × Value × Heap) (fun x => x.1 ≤ 8 ∧ Own h 1 (L ++ (lenB n).take x.1).length (ubs (L ++ (lenB n).take x.1)) x.2.1 x.2.2)
   (fun x => [(0,.pointer (some ⟨p,0,none⟩)),(3,x.2.1),(21,.int .i64 x.1)]) (fun x => x.2.2) (fun x => 8 - x.1) (0,.slice a L.length c,H) ⟨by show 0 ≤ 8; omega,by simpa using ho⟩ (hsub ho)
   (by simp; exact ⟨bpt ho,ho.below,.int⟩) ?_
  clear ho hlen
  rintro ⟨k,v,H⟩ ⟨hk,ho⟩
  dsimp only at hk ho
  by_cases hk8 : k < 8
  ·have hk' : (k : Int) < 8 := by omega
   have hw : IntKind.i64.wrap ((k : Int) + 1) = ((k + 1 : Nat) : Int) := by rw [i64_small (by omega) (by omega)]; omega
   have w1 : IntKind.u64.wrap (n : Int) = n := by unfold IntKind.wrap; simp [IntKind.bits,IntKind.signed]; omega
   have w2 : IntKind.u64.wrap ((n : Int) * 8) = ((8 * n : Nat) : Int) := by unfold IntKind.wrap; simp [IntKind.bits,IntKind.signed]; omega
   have w3 : IntKind.i64.wrap (7 - (k : Int)) = ((7 - k : Nat) : Int) := by rw [i64_small (by omega) (by omega)]; omega
   have w4 : IntKind.i64.wrap (8 * ((7 - k : Nat) : Int)) = ((8 * (7 - k) : Nat) : Int) := by rw [i64_small (by omega) (by omega)]; omega
   have b64 : IntKind.u64.bits = 64 := rfl
   have hge : (0 : Int) ≤ ((8 * (7 - k) : Nat) : Int) := by omega
   have w5 : (((8 * n : Nat) : Int)).fdiv (2 ^ min (8 * (7 - k)) 64) = ((8 * n / 2 ^ (8 * (7 - k)) : Nat) : Int) := by
    rw [Nat.min_eq_left (by omega),Int.fdiv_eq_ediv_of_nonneg _ (by exact_mod_cast Nat.zero_le (2 ^ (8 * (7 - k))))]
    norm_cast
   have hx : (lenB n).take (k + 1) = (lenB n).take k ++ [UInt8.ofNat (8 * n / 2 ^ (8 * (7 - k)))] := by
    rw [List.take_succ_eq_append_getElem (by simp [lenB]; omega)]
    congr 2
    simp [lenB]
   have w6 : IntKind.u8.wrap (((8 * n / 2 ^ (8 * (7 - k)) : Nat) : Int)) = ((UInt8.ofNat (8 * n / 2 ^ (8 * (7 - k)))).toNat : Int) := by
    unfold IntKind.wrap
    simp [IntKind.bits,IntKind.signed]
   generalize UInt8.ofNat (8 * n / 2 ^ (8 * (7 - k))) = w at *
   generalize 8 * n / 2 ^ (8 * (7 - k)) = qq at *
   have hclH := ho.closed hcl ubs_bel
   have hlen : (L ++ (lenB n).take k).length ≤ 300 := by rw [List.length_append,List.length_take]; omega
   obtain ⟨a,c,rfl,v2,H4,H5,happ2,ho2,hn5,hin5⟩ := own_byte (w := w) ho hcl (H' := H.push (.cells [.int .u8 (w.toNat : Int)] .ex 1)) (Nat.le_succ _) (in_push (fun b ob e => (hclH b ob e).1) (fun _ _ e => e) _) (by omega)
   have hnx : L ++ (lenB n).take k ++ [w] = L ++ (lenB n).take (k + 1) := by rw [hx,List.append_assoc]
   rw [hnx] at ho2
   have fH := hold ho
   have hsb2 := hsub ho2
   generalize L ++ (lenB n).take k = LL at *
   have e0 : eb w = .int .u8 (w.toNat : Int) := rfl
   rw [e0] at happ2
   generalize 8 * n = n8 at *
   generalize hmk : 8 * (7 - k) = mk at *
   simp [hk', fH, apart, g9, w1, w2, w3, w4, b64, hge, w5, w6, fill1, first1, alen, happ2]
   exact ⟨k + 1,by omega,v2,H5,⟨by omega,by simpa using ho2⟩,⟨ho2.1,by omega,hin5,ho2.closed hcl ubs_bel⟩,bpt ho2,⟨rfl,ho2.below⟩,hw,.int⟩
  ·have hke : k = 8 := by omega
   subst hke
   simp
   exact ⟨buf_own ho hne,⟨Nat.le_refl _,ho.1,fun b ob e => by rw [ho.old ((hcl b ob e).1)]; exact e,hcl⟩⟩
 ·have hm : (R.length + 1 + k) % 64 ≠ 56 := by omega
  have hm2 : ((R.length + 1 + k : Nat) : Int).tmod 64 = (((R.length + 1 + k) % 64 : Nat) : Int) := tm _
  have hm3 : ¬ (((R.length + 1 + k) % 64 : Nat) : Int) = 56 := by omega
  generalize hmm : (R.length + 1 + k) % 64 = mm at *
  generalize hnn : R.length + 1 + k = nn at *
  simp [hm2,hm3,fill1,first1,alen,happ2]
  have := ho2.1
  exact ⟨k + 1,by omega,v2,H5,⟨by omega,by simpa using ho2⟩,⟨ho2.1,by omega,hin5,ho2.closed hcl ubs_bel⟩,bpt ho2,rfl,ho2.below⟩
def absK (T : List UInt8) : Nat → S8
 | 0 => s0
 | k + 1 => takeF (absK T k) ((T.drop (64 * k)).take 64)
theorem absK_app (T U : List UInt8) : ∀ k,64 * k ≤ T.length → absK (T ++ U) k = absK T k
 | 0,_ => rfl
 | k + 1,h => by
   unfold absK
   rw [absK_app T U k (by omega),List.drop_append,List.take_append_of_le_length (by rw [List.length_drop]; omega)]
def dcells (S : S8) (rv : Value) (n : Nat) : List Value := wl S.l ++ [rv,.int .i64 (n : Int)]
theorem dc_len (S : S8) (rv : Value) (n : Nat) : (dcells S rv n).length = 10 := rfl
theorem dc8 (S : S8) (rv : Value) (n : Nat) : (dcells S rv n)[8]? = some rv := rfl
theorem dc9 (S : S8) (rv : Value) (n : Nat) : (dcells S rv n)[9]? = some (.int .i64 (n : Int)) := rfl
theorem dp8 (S : S8) (rv rv' : Value) (n : Nat) : aput (dcells S rv n) 8 [rv'] = dcells S rv' n := rfl
theorem dp9 (S : S8) (rv : Value) (n n' : Nat) : aput (dcells S rv n) 9 [.int .i64 (n' : Int)] = dcells S rv n' := rfl
def DigK (h : Heap) (b : Nat) (nm : Option Nat) (T : List UInt8) (k : Nat) : Prop :=
 ∃ rv,h.cellsOf b = some (dcells (absK T k) rv T.length,.ex,1) ∧ RestAt h nm rv (T.drop (64 * k)) ∧ 64 * k ≤ T.length
theorem RestAt.ne {h : Heap} {nm : Option Nat} {rv : Value} {R : List UInt8} (r : RestAt h nm rv R) {b : Nat} {c : List Value} {e : Nat} (hb : h.cellsOf b = some (c,.ex,e)) : ∀ x,nm = some x → x ≠ b := by
 rcases r with ⟨q, _⟩ | ⟨x', o, cap, c', q, _, h3, _⟩
 ·intro x e; rw [q] at e; cases e
 ·intro x e hx
  rw [q] at e
  cases e
  rw [hx,hb] at h3
  simp at h3
theorem RestAt.below {h : Heap} {nm : Option Nat} {rv : Value} {R : List UInt8} (hc : h.Closed) (r : RestAt h nm rv R) : VBelow h.n rv := by
 rcases r with ⟨_, rfl, _⟩ | ⟨x', o, cap, c', q, rfl, h3, _⟩
 ·exact .snil
 ·exact .slice (cellsOf_lt hc h3)
theorem dc_bel {n : Nat} {S : S8} {rv : Value} {m : Nat} (h : VBelow n rv) : ∀ x ∈ dcells S rv m,VBelow n x := fun x hx => by
 rcases List.mem_append.1 hx with hx | hx
 ·exact wl_bel x hx
 ·simp at hx
  rcases hx with rfl | rfl
  ·exact h
  ·exact .int
theorem rest_app {h : Heap} {nm : Option Nat} {rv : Value} {R : List UInt8} (hc : h.Closed) (r : RestAt h nm rv R) (U : List UInt8) (hn : R.length + U.length ≤ 100000000) :
  ∃ a c,rv = .slice a R.length c ∧ ∃ rv2 H2 nm2,aapp h 5 1 1 a R.length c (ubs U) U.length = some (rv2,H2) ∧ RestAt H2 nm2 rv2 (R ++ U) ∧ (∀ y ob,h.m y = some ob → nm ≠ some y → H2.m y = some ob) ∧ h.n ≤ H2.n ∧ H2.Closed ∧ (nm2 = nm ∨ nm2 = some h.n) := by
 have hul := ubs_len U
 rcases r with ⟨rfl,rfl,rfl⟩ | ⟨x,o,cap,c,rfl,rfl,hx,hcap,hle,hcut⟩
 ·refine ⟨none,0,rfl,?_⟩
  rcases Nat.eq_zero_or_pos U.length with q | q
  ·have : U = [] := List.eq_nil_of_length_eq_zero q
   subst this
   exact ⟨.slice none 0 0,h,none,by simp [aapp,ubs],.inl ⟨rfl,rfl,rfl⟩,fun y ob e _ => e,Nat.le_refl _,hc,.inl rfl⟩
  ·refine ⟨.slice (some ⟨h.n,0,none⟩) U.length U.length,h.push (.cells (ubs U) (.loose 5) 1),some h.n,?_,.inr ⟨h.n,0,U.length,ubs U,rfl,by simp,cellsOf_new _ _ _ _,by rw [hul]; omega,by simp,?_⟩,fun y ob e _ => ?_,Nat.le_succ _,closed_push hc ubs_bel,.inr rfl⟩
   ·unfold aapp
    dsimp only
    rw [if_pos ⟨by simp at hn ⊢; omega,by rw [hul]; omega⟩]
    simp [show U.length ≠ 0 by omega]
   ·have := acut_all (ubs U)
    rw [hul] at this
    simpa using this
   ·rw [push_m,if_neg (by have := (hc y ob e).1; omega)]; exact e
 ·refine ⟨_,_,rfl,?_⟩
  have hxn := cellsOf_lt hc hx
  have hxm := m_of_cells hx
  have hco : o + R.length ≤ c.length := by omega
  have hcv : ∀ v ∈ c,VBelow h.n v := (hc x _ hxm).2
  by_cases hfit : R.length + U.length ≤ cap
  ·refine ⟨.slice (some ⟨x,o,none⟩) (R.length + U.length) cap,h.set x (.cells (aput c (o + R.length) (ubs U)) (.loose 5) 1),some x,?_,.inr ⟨x,o,cap,aput c (o + R.length) (ubs U),rfl,by rw [List.length_append],cellsOf_set _ _ _ _ _,?_,by rw [List.length_append]; exact hfit,?_⟩,fun y ob e hy => ?_,Nat.le_refl _,closed_set hc hxn ?_,.inl rfl⟩
   ·unfold aapp
    dsimp only
    rw [if_pos ⟨by omega,by rw [hul]; omega⟩,hx]
    simp only [if_true,Nat.mul_one]
    rw [hcut]
    simp only [show (BMode.loose 5).isLoose = true from rfl,if_true]
    rw [if_pos hfit,if_pos ⟨by decide,by omega⟩]
   ·rw [aput_len (by rw [hul]; omega)]; exact hcap
   ·unfold acut at hcut ⊢
    rw [if_pos (by omega)] at hcut
    rw [if_pos (by rw [aput_len (by rw [hul]; omega),List.length_append]; omega)]
    simp only [Option.some.injEq] at hcut ⊢
    rw [ubs_app,← hcut,List.length_append]
    unfold aput
    rw [List.append_assoc,List.drop_append,List.drop_take,show o + R.length - o = R.length by omega]
    rw [List.length_take,Nat.min_eq_left (by omega),show o - (o + R.length) = 0 by omega,List.drop_zero,List.take_append]
    rw [List.take_of_length_le (by rw [List.length_take,List.length_drop]; omega)]
    congr 1
    rw [List.length_take,List.length_drop,Nat.min_eq_left (by omega),show R.length + U.length - R.length = U.length by omega,← hul,List.take_left']
    rfl
   ·rw [set_m,if_neg (fun q => hy (by rw [q]))]; exact e
   ·intro v hv
    unfold aput at hv
    rcases List.mem_append.1 hv with hv | hv
    ·rcases List.mem_append.1 hv with hv | hv
     ·exact hcv v (List.mem_of_mem_take hv)
     ·exact ubs_bel v hv
    ·exact hcv v (List.mem_of_mem_drop hv)
  ·have hkc : (h.kill x).Closed := fun b ob e => by
    rw [kill_m] at e
    split at e
    ·cases e
    ·exact hc b ob e
   refine ⟨.slice (some ⟨h.n,0,none⟩) (R.length + U.length) (R.length + U.length),(h.kill x).push (.cells (ubs R ++ ubs U) (.loose 5) 1),some h.n,?_,.inr ⟨h.n,0,R.length + U.length,ubs R ++ ubs U,rfl,by rw [List.length_append],cellsOf_new (h.kill x) _ _ _,by rw [List.length_append,ubs_len,hul]; omega,by rw [List.length_append]; exact Nat.le_refl _,?_⟩,fun y ob e hy => ?_,Nat.le_succ _,closed_push hkc ?_,.inr rfl⟩
   ·unfold aapp
    dsimp only
    rw [if_pos ⟨by omega,by rw [hul]; omega⟩,hx]
    simp only [if_true,Nat.mul_one]
    rw [hcut]
    simp only [show (BMode.loose 5).isLoose = true from rfl,show (BMode.loose 5).grown 5 = .loose 5 from rfl,if_true]
    rw [if_neg hfit,if_pos hcap]
   ·rw [← ubs_app]
    have := acut_all (ubs (R ++ U))
    rw [ubs_len] at this
    exact this
   ·rw [push_m,kill_n,if_neg (by have := (hc y ob e).1; omega),kill_m,if_neg (fun q => hy (by rw [q]))]; exact e
   ·rw [← ubs_app]; exact ubs_bel
theorem digest_new_ok (h : Heap) : ACalls Tryz.prog 99 [] h fun v h' => ∃ b,v = .pointer (some ⟨b,0,none⟩) ∧ h.n ≤ b ∧ DigK h' b none [] 0 ∧ h.Sub h.n h' := by
 refine acalls_of mix Tryz.func99 k99 n99 (by simp) fun hcl hb => ?_
 simp only [c99,s_seq,s_ops]
 simp
 refine (start_ok _).mono ?_
 rintro _ h1 ⟨rfl,e⟩
 rw [e]
 clear e h1
 have hf : afill [.int .u32 0,.int .u32 0,.int .u32 0,.int .u32 0,.int .u32 0,.int .u32 0,.int .u32 0,.int .u32 0,.slice none 0 0,.int .i64 0] [(0,8,.agg (wl s0.l).toArray)] = some (dcells s0 (.slice none 0 0) 0) := by rfl
 have hm : mcells (.agg (dcells s0 (.slice none 0 0) 0).toArray) = some (dcells s0 (.slice none 0 0) 0) := by simp [mcells]
 simp [hf,hm]
 exact ⟨⟨_,cellsOf_new _ _ _ _,.inl ⟨rfl,rfl,rfl⟩,by simp⟩,((Heap.Ext.refl h).push hcl _).sub hcl⟩
def Fr (h : Heap) (b : Nat) (nm : Option Nat) (H : Heap) : Prop := h.n ≤ H.n ∧ ∀ y ob,h.m y = some ob → y ≠ b → nm ≠ some y → H.m y = some ob
def enS (s : List UInt8) : Value := .string (bs s)
theorem strFirst (H : Heap) (U : List UInt8) : afirst H 1 U.length (enS U) = some (ubs U) := by
 simp [afirst,enS,bs_data,ubs]
 intro a _; rfl
theorem absK_step (T : List UInt8) (k : Nat) : absK T (k + 1) = takeF (absK T k) ((T.drop (64 * k)).take 64) := rfl
theorem ab_hi {L c k : Nat} (h : k ≤ c) : abounds L c none (some (.int .i64 (k : Int))) none = some (0,k,c) := by
 have e1 : abound (.int .i64 (k : Int)) c = some k := by unfold abound; simp only; rw [if_pos ⟨by omega,by omega⟩]; rfl
 simp [abounds,e1]
theorem ab_lo {L c k : Nat} (h : k ≤ L) (hc : L ≤ c) : abounds L c (some (.int .i64 (k : Int))) none none = some (k,L,c) := by
 have e1 : abound (.int .i64 (k : Int)) L = some k := by unfold abound; simp only; rw [if_pos ⟨by omega,by omega⟩]; rfl
 simp [abounds,e1,hc]
theorem acut_get {c l : List Value} {o n : Nat} (h : acut c o n = some l) {i : Nat} (hi : i < n) : c[o + i]? = l[i]? := by
 unfold acut at h
 split at h
 ·simp only [Option.some.injEq] at h
  rw [← h,List.getElem?_take,if_pos hi,List.getElem?_drop]
 ·cases h
theorem RestAt.cut {h : Heap} {nm : Option Nat} {rv : Value} {R : List UInt8} (r : RestAt h nm rv R) (h64 : 64 ≤ R.length) :
  ∃ x o cap c md,rv = .slice (some ⟨x,o,none⟩) R.length cap ∧ h.cellsOf x = some (c,md,1) ∧ R.length ≤ cap ∧ SlB h (.slice (some ⟨x,o,none⟩) 64 cap) (R.take 64) ∧ RestAt h nm (.slice (some ⟨x,o + 64,none⟩) (R.length - 64) (cap - 64)) (R.drop 64) := by
 rcases r with ⟨_,_,rfl⟩ | ⟨x,o,cap,c,rfl,rfl,hx,hcap,hle,hcut⟩
 ·simp at h64
 ·have hl : (R.take 64).length = 64 := by rw [List.length_take]; omega
  refine ⟨x,o,cap,c,.loose 5,rfl,hx,hle,.inr ⟨x,o,cap,c,.loose 5,1,by rw [hl],hx,by omega,fun _ => by omega,fun i hi => ?_⟩,.inr ⟨x,o + 64,cap - 64,c,rfl,by rw [List.length_drop],hx,by omega,by rw [List.length_drop]; omega,?_⟩⟩
  ·rw [acut_get hcut (by omega)]
   unfold ubs
   rw [List.getElem?_map,List.getElem?_eq_getElem (by omega)]
   simp
  ·unfold acut at hcut ⊢
   rw [if_pos (by omega)] at hcut
   rw [if_pos (by rw [List.length_drop]; omega)]
   simp only [Option.some.injEq] at hcut ⊢
   have : ubs (R.drop 64) = (ubs R).drop 64 := by simp [ubs]
   rw [this,← hcut,List.drop_take,List.drop_drop,List.length_drop]
theorem write_ok (b : Nat) (nm : Option Nat) (T : List UInt8) (l : List (List UInt8)) (v : Value) (h : Heap) (hd : DigK h b nm T (T.length / 64)) (hl : ∀ H,Fr h b nm H → Sl enS H v l) (hn : T.length + l.flatten.length ≤ 50000000) (hln : l.length ≤ 1000000) :
  ACalls Tryz.prog 100 [.pointer (some ⟨b, 0, none⟩), v] h fun r h' => r = .tuple #[] ∧ ∃ nm', DigK h' b nm' (T ++ l.flatten) ((T ++ l.flatten).length / 64) ∧ Fr h b nm h' ∧ (nm' = nm ∨ ∃ y, nm' = some y ∧ h.n ≤ y) := by
 refine acalls_of mix Tryz.func100 k100 n100 (by simp) fun hcl hb => ?_
 have hl0 := hl h ⟨Nat.le_refl _,fun _ _ e _ _ => e⟩
 have bl := hl0.below hcl
 obtain ⟨a,c,rfl⟩ := hl0.form
 simp only [c100,s_seq,s_ops]
 have hbn : b < h.n := by obtain ⟨rv,e,_⟩ := hd; exact cellsOf_lt hcl e
 simp [aeq]
 refine awp_loop_of (α := Nat × Option Nat × Heap) (fun x => x.1 ≤ l.length ∧ DigK x.2.2 b x.2.1 (T ++ (l.take x.1).flatten) ((T ++ (l.take x.1).flatten).length / 64) ∧ Fr h b nm x.2.2 ∧ (x.2.1 = nm ∨ ∃ y,x.2.1 = some y ∧ h.n ≤ y) ∧ x.2.2.Closed)
  (fun x => [(0,.pointer (some ⟨b,0,none⟩)),(8,.slice a l.length c),(9,.int .i64 l.length),(10,.int .i64 x.1)]) (fun x => x.2.2) (fun x => l.length - x.1) (0,nm,h)
  ⟨Nat.zero_le _,by simpa using hd,⟨Nat.le_refl _,fun _ _ e _ _ => e⟩,.inl rfl,hcl⟩ ⟨Nat.le_refl _,Nat.le_refl _,fun _ _ e => e,hcl⟩ (by simp; exact ⟨.ptr hbn,bl,.int,.int⟩) ?_
 rintro ⟨i,nmi,H⟩ ⟨hi,hD,hF,hnm,hcH⟩
 dsimp only at hi hD hF hnm hcH
 by_cases hlt : i < l.length
 ·have hw : IntKind.i64.wrap ((i : Int) + 1) = ((i + 1 : Nat) : Int) := by rw [i64_small (by omega) (by omega)]; omega
  have hlt' : (i : Int) < l.length := by omega
  obtain ⟨b1,o1,cs1,m1,e1,rfl,_,g1,g1'⟩ := (hl H hF).at hlt
  obtain ⟨rv,hbc,hr,hk64⟩ := hD
  generalize hTi : T ++ (l.take i).flatten = Ti at *
  have hTn : T ++ (l.take (i + 1)).flatten = Ti ++ l[i] := by
   rw [← hTi,List.take_succ_eq_append_getElem hlt,List.flatten_append,List.append_assoc]
   simp
  have hsz : Ti.length + l[i].length ≤ 50000000 := by
   have h1 : (Ti ++ l[i]).length ≤ T.length + l.flatten.length := by
    rw [← hTn,List.length_append]
    have : (l.take (i + 1)).flatten.length ≤ l.flatten.length := by
     conv => rhs; rw [← List.take_append_drop (i + 1) l,List.flatten_append,List.length_append]
     omega
    omega
   rw [List.length_append] at h1
   omega
  generalize hU : l[i] = U at *
  have hbH : b < H.n := cellsOf_lt hcH hbc
  obtain ⟨N,hN⟩ : ∃ N,N = Ti.length + U.length := ⟨_,rfl⟩
  have hsw : IntKind.i64.wrap ((Ti.length : Int) + (U.length : Int)) = (N : Int) := by rw [i64_small (by omega) (by omega)]; omega
  have hr1 : RestAt (H.set b (.cells (dcells (absK Ti (Ti.length / 64)) rv (N)) .ex 1)) nmi rv (Ti.drop (64 * (Ti.length / 64))) := hr.keep fun x e => by rw [set_m,if_neg (hr.ne hbc x e)]
  have hc1 : (H.set b (.cells (dcells (absK Ti (Ti.length / 64)) rv (N)) .ex 1)).Closed := closed_set hcH hbH (dc_bel (hr.below hcH))
  have fb1 : (H.set b (.cells (dcells (absK Ti (Ti.length / 64)) rv (N)) .ex 1)).cellsOf b = some (dcells (absK Ti (Ti.length / 64)) rv (N),.ex,1) := cellsOf_set _ _ _ _ _
  have hF1 : Fr h b nm (H.set b (.cells (dcells (absK Ti (Ti.length / 64)) rv (N)) .ex 1)) := ⟨hF.1,fun y ob e hy hy2 => by rw [set_m,if_neg hy]; exact hF.2 y ob e hy hy2⟩
  have hn1 : (H.set b (.cells (dcells (absK Ti (Ti.length / 64)) rv (N)) .ex 1)).n = H.n := rfl
  obtain ⟨ra,rc,rfl,rv2,H2,nm2,happ,hr2,hfr2,hn2,hc2,hnm2⟩ := rest_app hc1 hr1 U (by rw [List.length_drop]; omega)
  have hbsz := bs_size U
  obtain ⟨ra2,rc2,e2⟩ := hr2.form
  generalize (Ti.drop (64 * (Ti.length / 64)) ++ U).length = L2 at e2
  subst e2
  have hsf := fun H => strFirst H U
  have hne : nmi ≠ some b := fun e => hr.ne hbc b e rfl
  have fb2 : H2.cellsOf b = some (dcells (absK Ti (Ti.length / 64)) (.slice ra (Ti.drop (64 * (Ti.length / 64))).length rc) (N),.ex,1) := by
   have := hfr2 b _ (m_of_cells fb1) hne
   unfold Heap.cellsOf
   rw [this]
  have halen : alen (enS U) = some U.length := by simp [alen,enS,hbsz]
  simp only [enS] at g1' halen hsf
  have hTN : (Ti ++ U).length = N := by rw [List.length_append,hN]
  generalize hrl : (Ti.drop (64 * (Ti.length / 64))).length = rl at *
  generalize hS0 : absK Ti (Ti.length / 64) = S0 at *
  simp [hlt, aidx_of hlt, g1, apart, g1', hbc, dc8, dc9, dp8, dp9, dc_len, mcells, hsw, fb1, fb2, happ, halen, hsf, hbsz]
  have hbH2 : b < H2.n := cellsOf_lt hc2 fb2
  have hk0 : absK (Ti ++ U) (Ti.length / 64) = S0 := by rw [absK_app _ _ _ (by omega),hS0]
  have hdr : Ti.drop (64 * (Ti.length / 64)) ++ U = (Ti ++ U).drop (64 * (Ti.length / 64)) := by rw [List.drop_append,show 64 * (Ti.length / 64) - Ti.length = 0 by omega,List.drop_zero]
  rw [hdr] at hr2
  have hnmi : ∀ y,nmi = some y → nm = some y ∨ h.n ≤ y := fun y e => by
   rcases hnm with q | ⟨z,q,hz⟩
   ·exact .inl (by rw [← q]; exact e)
   ·rw [q] at e; cases e; exact .inr hz
  have hF2 : Fr h b nm H2 := ⟨by have := hF.1; omega,fun y ob e hy hy2 => hfr2 y ob (hF1.2 y ob e hy hy2) (fun q => by
   rcases hnmi y q with w | w
   ·exact hy2 w
   ·have := (hcl y ob e).1; omega)⟩
  have hnm2' : nm2 = nm ∨ ∃ y,nm2 = some y ∧ h.n ≤ y := by
   rcases hnm2 with q | q
   ·rw [q]; exact hnm
   ·exact .inr ⟨_,q,by rw [hn1]; exact hF.1⟩
  generalize hTU : Ti ++ U = TU at *
  refine awp_loop_of (α := Nat × Heap) (fun x => DigK x.2 b nm2 TU x.1 ∧ Fr h b nm x.2 ∧ x.2.Closed)
   (fun x => [(0,.pointer (some ⟨b,0,none⟩)),(8,.slice (some ⟨b1,o1,none⟩) l.length c),(9,.int .i64 l.length),(10,.int .i64 i)]) (fun x => x.2) (fun x => TU.length - 64 * x.1)
   (Ti.length / 64,H2.set b (.cells (dcells S0 (.slice ra2 L2 rc2) N) .ex 1)) ⟨⟨_,by rw [cellsOf_set,hk0,hTN],hr2.keep fun x e => by rw [set_m,if_neg (hr2.ne fb2 x e)],by omega⟩,⟨hF2.1,fun y ob e hy hy2 => by rw [set_m,if_neg hy]; exact hF2.2 y ob e hy hy2⟩,closed_set hc2 hbH2 (dc_bel (hr2.below hc2))⟩ ⟨hF2.1,Nat.le_refl _,fun x o e => e,closed_set hc2 hbH2 (dc_bel (hr2.below hc2))⟩
   (by simp; exact ⟨.ptr hbH2,bl.mono hF2.1,.int,.int⟩) ?_
  clear hr2 happ fb2 hfr2 hF2 hbH2 hc2
  rintro ⟨k,Hx⟩ ⟨⟨rv,fb,hr,hk⟩,hFx,hcx⟩
  dsimp only at fb hr hk hFx hcx
  have hbx : b < Hx.n := cellsOf_lt hcx fb
  have hRl : (TU.drop (64 * k)).length = N - 64 * k := by rw [List.length_drop,hTN]
  have hkN : 64 * k ≤ N := by omega
  have hst := absK_step TU k
  have hdd : TU.drop (64 * (k + 1)) = (TU.drop (64 * k)).drop 64 := by rw [List.drop_drop]; congr 1
  generalize hRR : TU.drop (64 * k) = R at *
  by_cases h64 : 64 ≤ R.length
  ·obtain ⟨x,o,cap,cx,md,rfl,hx,hle,hsl,hr'⟩ := hr.cut h64
   have h64' : (64 : Int) ≤ (R.length : Int) := by omega
   have hxb : x ≠ b := by
    rcases hr with ⟨q, e, _⟩ | ⟨x', o', cap', c', q, e, hx', _⟩
    ·cases e
    ·cases e
     intro q2
     rw [q2,fb] at hx'
     simp at hx'
   have ah : abounds R.length cap none (some (.int .i64 64)) none = some (0,64,cap) := ab_hi (L := R.length) (show 64 ≤ cap by omega)
   have al : abounds R.length cap (some (.int .i64 64)) none none = some (64,R.length,cap) := ab_lo h64 hle
   have hl64 : (R.take 64).length = 64 := by rw [List.length_take]; omega
   have hmd : md.isLoose = true → (1 : Nat) = 1 := fun _ => rfl
   simp [h64', fb, apart, dc8, ah, hx]
   refine (take_ok2 (absK TU k) (R.take 64) hl64 _ b [.slice (some ⟨x,o,none⟩) R.length cap,.int .i64 (TU.length : Int)] Hx fb hsl).mono ?_
   rintro _ _ ⟨rfl,rfl⟩
   rw [← hst]
   have fb' : (Hx.set b (.cells (dcells (absK TU (k + 1)) (.slice (some ⟨x,o,none⟩) R.length cap) TU.length) .ex 1)).cellsOf b = some (dcells (absK TU (k + 1)) (.slice (some ⟨x,o,none⟩) R.length cap) TU.length,.ex,1) := cellsOf_set _ _ _ _ _
   have hx' : (Hx.set b (.cells (dcells (absK TU (k + 1)) (.slice (some ⟨x,o,none⟩) R.length cap) TU.length) .ex 1)).cellsOf x = some (cx,md,1) := by rw [cellsOf_set_ne hxb]; exact hx
   have hfold : wl (absK TU (k + 1)).l ++ [.slice (some ⟨x,o,none⟩) R.length cap,.int .i64 (TU.length : Int)] = dcells (absK TU (k + 1)) (.slice (some ⟨x,o,none⟩) R.length cap) TU.length := rfl
   rw [hfold]
   simp [fb', apart, dc8, al, hx', dc_len, mcells, dp8, set_set]
   have hbel : VBelow Hx.n (.slice (some ⟨x,o + 64,none⟩) (R.length - 64) (cap - 64)) := .slice (cellsOf_lt hcx hx)
   have hcN : (Hx.set b (.cells (dcells (absK TU (k + 1)) (.slice (some ⟨x,o + 64,none⟩) (R.length - 64) (cap - 64)) TU.length) .ex 1)).Closed := closed_set hcx hbx (dc_bel hbel)
   refine ⟨k + 1,by omega,_,⟨⟨_,cellsOf_set _ _ _ _ _,?_,by omega⟩,⟨hFx.1,fun y ob e hy hy2 => by rw [set_m,if_neg hy]; exact hFx.2 y ob e hy hy2⟩,hcN⟩,⟨hFx.1,Nat.le_refl _,fun x o e => e,hcN⟩,.ptr hbx,bl.mono hFx.1,.int,.int⟩
   rw [hdd]
   exact hr'.keep fun z e => by rw [set_m,if_neg (hr.ne fb z e)]
  ·have h64' : ¬ (64 : Int) ≤ (R.length : Int) := by omega
   obtain ⟨ra,rc,rfl⟩ := hr.form
   have hk2 : k = TU.length / 64 := by omega
   have hD2 : DigK Hx b nm2 TU (TU.length / 64) := by rw [← hk2]; exact ⟨_,fb,by rw [hRR]; exact hr,hk⟩
   simp [h64', fb, apart, dc8]
   refine ⟨i + 1, by omega, nm2, Hx, ⟨by omega, ?_, hFx, hnm2', hcx⟩, ⟨hFx.1, Nat.le_refl _, fun x o e => e, hcx⟩, .ptr hbx, bl.mono hFx.1, .int, hw, .int⟩
   rw [← hTn] at hD2
   simpa using hD2
 ·have hie : i = l.length := by omega
  subst hie
  simp
  rw [List.take_length] at hD
  exact ⟨nmi,by simpa using hD,hF,hnm⟩
def shaS (T : List UInt8) : S8 := absK (T ++ padB T.length) ((T ++ padB T.length).length / 64)
def shaB (T : List UInt8) : List UInt8 := hashB (shaS T)
theorem shaB_len (T : List UInt8) : (shaB T).length = 32 := hashB_len _
theorem BufAt.cut {n0 : Nat} {h : Heap} {v : Value} {R : List UInt8} (r : BufAt n0 h v R) (h64 : 64 ≤ R.length) :
  ∃ x o cap c md e,n0 ≤ x ∧ v = .slice (some ⟨x,o,none⟩) R.length cap ∧ h.cellsOf x = some (c,md,e) ∧ (md.isLoose = true → e = 1) ∧ R.length ≤ cap ∧ SlB h (.slice (some ⟨x,o,none⟩) 64 cap) (R.take 64) ∧ BufAt n0 h (.slice (some ⟨x,o + 64,none⟩) (R.length - 64) (cap - 64)) (R.drop 64) := by
 obtain ⟨x,o,cap,c,md,e,h0,rfl,hx,hm,hle,hcut⟩ := r
 have hl : (R.take 64).length = 64 := by rw [List.length_take]; omega
 have hoc : o + R.length ≤ c.length := by
  unfold acut at hcut
  split at hcut
  ·assumption
  ·cases hcut
 refine ⟨x,o,cap,c,md,e,h0,rfl,hx,hm,hle,.inr ⟨x,o,cap,c,md,e,by rw [hl],hx,by omega,fun _ => by omega,fun i hi => ?_⟩,⟨x,o + 64,cap - 64,c,md,e,h0,by rw [List.length_drop],hx,hm,by rw [List.length_drop]; omega,?_⟩⟩
 ·rw [acut_get hcut (by omega)]
  unfold ubs
  rw [List.getElem?_map,List.getElem?_eq_getElem (by omega)]
  simp
 ·unfold acut at hcut ⊢
  rw [if_pos (by omega)] at hcut
  rw [if_pos (by rw [List.length_drop]; omega)]
  simp only [Option.some.injEq] at hcut ⊢
  have : ubs (R.drop 64) = (ubs R).drop 64 := by simp [ubs]
  rw [this,← hcut,List.drop_take,List.drop_drop,List.length_drop]
theorem BufAt.keep {n0 : Nat} {h h' : Heap} {v : Value} {R : List UInt8} (r : BufAt n0 h v R) (hk : ∀ x,n0 ≤ x → h'.m x = h.m x) : BufAt n0 h' v R := by
 obtain ⟨x,o,cap,c,md,e,h0,rfl,hx,hm⟩ := r
 refine ⟨x,o,cap,c,md,e,h0,rfl,?_,hm⟩
 unfold Heap.cellsOf at hx ⊢
 rw [hk x h0]; exact hx
theorem BufAt.below {n0 : Nat} {h : Heap} {v : Value} {R : List UInt8} (r : BufAt n0 h v R) (hc : h.Closed) : VBelow h.n v := by
 obtain ⟨x,o,cap,c,md,e,h0,rfl,hx,hm⟩ := r
 exact .slice (cellsOf_lt hc hx)
theorem pad_len (n : Nat) : (padB n).length = 1 + zc n + 8 := by simp [padB,lenB]; omega
theorem pad_mod (n : Nat) : (n + (padB n).length) % 64 = 0 := by
 rw [pad_len]
 unfold zc
 omega
theorem dsum_ok (b : Nat) (nm : Option Nat) (T : List UInt8) (h : Heap) (hd : DigK h b nm T (T.length / 64)) (hn : T.length ≤ 90000000) :
  ACalls Tryz.prog 101 [.pointer (some ⟨b,0,none⟩)] h fun v h' => v = .agg (ubs (shaB T)).toArray ∧ h' = h := by
 refine ACalls.same ubs_below (acalls_ofR mix Tryz.func101 k101 n101 (by simp) fun hcl hb => ?_)
 obtain ⟨rv,hbc,hr,hk⟩ := hd
 have hbn := cellsOf_lt hcl hbc
 have hz := zl_len
 have q8 : ∀ (S : S8) rv n,acut (dcells S rv n) 0 8 = some (wl S.l) := fun _ _ _ => rfl
 have hl8 : ∀ s : S8,(wl s.l).length = 8 := fun _ => rfl
 have hp8 : ∀ s : S8,aput (zl .u32 8) 0 (wl s.l) = wl s.l := fun s => aput_all _ _ rfl
 have n1 : ¬ b = h.n := by omega
 have hP : T ++ padB T.length = T ++ padB T.length := rfl
 have hdr : T.drop (64 * (T.length / 64)) ++ padB T.length = (T ++ padB T.length).drop (64 * (T.length / 64)) := by rw [List.drop_append,show 64 * (T.length / 64) - T.length = 0 by omega,List.drop_zero]
 have hak : absK (T ++ padB T.length) (T.length / 64) = absK T (T.length / 64) := absK_app _ _ _ (by omega)
 have hmod : (T ++ padB T.length).length % 64 = 0 := by rw [List.length_append]; exact pad_mod _
 have hTk : T.length / 64 ≤ (T ++ padB T.length).length / 64 := by rw [List.length_append]; omega
 simp only [c101,s_seq,s_ops]
 simp [aeq,hbc,cellsOf_ne,n1,apart,q8,m_wl,hl8,hp8,set_at,cellsOf_at,hz]
 have hcZ : (h.push (.cells (zl .u8 32) .ex 1)).Closed := closed_push hcl (fun x hx => by rw [List.eq_of_mem_replicate hx]; exact .int)
 have hextZ := (Heap.Ext.refl h).push hcl (.cells (zl .u8 32) .ex 1)
 have hZn : (h.push (.cells (zl .u8 32) .ex 1)).n = h.n + 1 := rfl
 have fZ : (h.push (.cells (zl .u8 32) .ex 1)).cellsOf h.n = some (zl .u8 32,.ex,1) := cellsOf_new _ _ _ _
 have fb : (h.push (.cells (zl .u8 32) .ex 1)).cellsOf b = some (dcells (absK T (T.length / 64)) rv T.length,.ex,1) := cellsOf_push hcl hbc
 have hrZ : RestAt (h.push (.cells (zl .u8 32) .ex 1)) nm rv (T.drop (64 * (T.length / 64))) := hr.keep fun x e => by
  rcases hr with ⟨q, _⟩ | ⟨x', o, cap, c', q, _, h3, _⟩
  ·rw [q] at e; cases e
  ·rw [q] at e; cases e
   rw [push_m,if_neg (by have := cellsOf_lt hcl h3; omega)]
 generalize hZ : h.push (.cells (zl .u8 32) .ex 1) = Z at *
 have hcS : ∀ S : S8,(Z.push (.cells (wl S.l) .ex 1)).Closed := fun S => closed_push hcZ wl_bel
 have fb2 : ∀ S : S8,(Z.push (.cells (wl S.l) .ex 1)).cellsOf b = some (wl (absK T (T.length / 64)).l ++ [rv,.int .i64 (T.length : Int)],.ex,1) := fun S => cellsOf_push hcZ fb
 refine (tail_ok (T.drop (64 * (T.length / 64))) T.length (by rw [List.length_drop]; omega) (by rw [List.length_drop]; omega) (by omega) b _ rfl rv nm _ (fb2 _) (hrZ.keep fun x e => ?_)).mono' ?_
 ·rcases hrZ with ⟨q, _⟩ | ⟨x', o, cap, c', q, _, h3, _⟩
  ·rw [q] at e; cases e
  ·rw [q] at e; cases e
   rw [push_m,if_neg (by have := cellsOf_lt hcZ h3; omega)]
 rintro v H2 hcH2 bv ⟨hbuf,hsub2⟩
 rw [hdr] at hbuf
 have hm64 : (T ++ padB T.length).length = 64 * ((T ++ padB T.length).length / 64) := by omega
 have hsB : shaB T = hashB (absK (T ++ padB T.length) ((T ++ padB T.length).length / 64)) := rfl
 rw [hsB]
 rw [← hak] at hsub2 fb2
 have fS2 : H2.cellsOf (h.n + 1) = some (wl (absK (T ++ padB T.length) (T.length / 64)).l,.ex,1) := by
  have := cellsOf_keep hsub2.sub (cellsOf_new Z (wl (absK (T ++ padB T.length) (T.length / 64)).l) .ex 1)
  rw [hZn] at this; exact this
 have hZ2 : ∀ b ob,Z.m b = some ob → H2.m b = some ob := fun b ob e => hsub2.sub b ob (by rw [push_m,if_neg (by have := (hcZ b ob e).1; omega)]; exact e)
 have fZ2 : H2.cellsOf h.n = some (zl .u8 32,.ex,1) := cellsOf_keep hZ2 fZ
 have hn2 : h.n + 1 + 1 ≤ H2.n := by have := hsub2.hi; have q : Z.n + 1 ≤ H2.n := this; omega
 rw [show (Z.push (.cells (wl (absK T (T.length / 64)).l) .ex 1)).n = h.n + 1 + 1 by show Z.n + 1 = _; omega] at hbuf
 generalize T ++ padB T.length = P at *
 have hcX : ∀ S : S8,(H2.set (h.n + 1) (.cells (wl S.l) .ex 1)).Closed := fun S => closed_set hcH2 (by omega) wl_bel
 simp
 refine awp_loop_of (α := Nat × Value) (fun x => x.1 ≤ P.length / 64 ∧ BufAt (h.n + 1 + 1) H2 x.2 (P.drop (64 * x.1))) (fun x => [(2,.pointer (some ⟨h.n,0,none⟩)),(3,.pointer (some ⟨h.n + 1,0,none⟩)),(4,x.2)])
  (fun x => H2.set (h.n + 1) (.cells (wl (absK P x.1).l) .ex 1)) (fun x => P.length / 64 - x.1) (T.length / 64,v) ⟨hTk,hbuf⟩ ⟨by show h.n ≤ H2.n; omega,Nat.le_refl _,fun x o e => by rw [set_same (m_of_cells fS2)] at e; exact e,hcX _⟩
  (by simp; exact ⟨.ptr (by show h.n < H2.n; omega),.ptr (by show h.n + 1 < H2.n; omega),bv⟩) ?_
 rintro ⟨k,v⟩ ⟨hk,hbuf⟩
 dsimp only at hk hbuf
 have hst := absK_step P k
 have hdd : P.drop (64 * (k + 1)) = (P.drop (64 * k)).drop 64 := by rw [List.drop_drop]; congr 1
 have hRl : (P.drop (64 * k)).length = P.length - 64 * k := by rw [List.length_drop]
 generalize hRR : P.drop (64 * k) = R at *
 by_cases hlt : k < P.length / 64
 ·have h64 : 64 ≤ R.length := by omega
  obtain ⟨x,o,cap,cx,md,e,h0,rfl,hx,hmd,hle,hsl,hbuf'⟩ := hbuf.cut h64
  have h0' : (0 : Int) < (R.length : Int) := by omega
  have ah : abounds R.length cap none (some (.int .i64 64)) none = some (0,64,cap) := ab_hi (L := R.length) (show 64 ≤ cap by omega)
  have al : abounds R.length cap (some (.int .i64 64)) none none = some (64,R.length,cap) := ab_lo h64 hle
  have hl64 : (R.take 64).length = 64 := by rw [List.length_take]; omega
  have hxb : ¬ x = h.n + 1 := by omega
  have hx' : ∀ S : S8,(H2.set (h.n + 1) (.cells (wl S.l) .ex 1)).cellsOf x = some (cx,md,e) := fun S => by rw [cellsOf_set_ne hxb]; exact hx
  have hsl' : SlB (H2.set (h.n + 1) (.cells (wl (absK P k).l) .ex 1)) (.slice (some ⟨x,o,none⟩) 64 cap) (R.take 64) := by
   rcases hsl with ⟨c, h1, _⟩ | ⟨x', o', cap', c', m', e', h1, h2, h3⟩
   ·cases h1
   ·rw [hl64] at h1
    cases h1
    exact .inr ⟨x, o, cap, c', m', e', by rw [hl64], by rw [cellsOf_set_ne hxb]; exact h2, h3⟩
  have h0R : 0 < R.length := by omega
  simp [h0', h0R, ah, hx', if_pos hmd]
  refine (take_ok2 (absK P k) (R.take 64) hl64 _ (h.n + 1) [] _ (by rw [List.append_nil]; exact cellsOf_set _ _ _ _ _) hsl').mono ?_
  rintro _ _ ⟨rfl,rfl⟩
  rw [← hst,List.append_nil]
  simp [al, hx', if_pos hmd, set_set]
  refine ⟨k + 1,by omega,_,⟨by omega,?_⟩,⟨by show h.n ≤ H2.n; omega,Nat.le_refl _,fun x o e => e,hcX _⟩,.ptr (by show h.n < H2.n; omega),.ptr (by show h.n + 1 < H2.n; omega),rfl,hbuf'.below hcH2⟩
  rw [hdd]
  exact hbuf'
 ·have hke : k = P.length / 64 := by omega
  subst hke
  have hR0 : R.length = 0 := by omega
  obtain ⟨x,o,cap,cx,md,e,h0,rfl,hx,hmd,hle,_⟩ := hbuf
  simp [hR0]
  have hl32 : (ubs (hashB (absK P (P.length / 64)))).length = 32 := by rw [ubs_len,hashB_len]
  have hp : aput (zl .u8 32) 0 (ubs (hashB (absK P (P.length / 64)))) = ubs (hashB (absK P (P.length / 64))) := aput_all _ _ (by rw [hl32,zl_len])
  have ha := acut_full hl32
  refine (hash_ok (absK P (P.length / 64)) (h.n + 1) [] _ (by rw [List.append_nil]; exact cellsOf_set _ _ _ _ _)).mono ?_
  rintro _ _ ⟨rfl,rfl⟩
  have hne : ¬ h.n = h.n + 1 := by omega
  simp [m_ubs,hl32,cellsOf_set_ne,cellsOf_set,hne,fZ2,hz,hp,apart,ha]
  have hextH : h.Ext H2 := ⟨by omega,fun x ob e => hZ2 x ob (by rw [← hZ,push_m,if_neg (by have := (hcl x ob e).1; omega)]; exact e)⟩
  exact Heap.Ext.setNew (Heap.Ext.setNew hextH hcl (by omega) _) hcl (Nat.le_refl _) _
theorem sum_ok (l : List (List UInt8)) (v : Value) (h : Heap) (hl : Sl enS h v l) (hn : l.flatten.length ≤ 50000000) (hln : l.length ≤ 1000000) :
  ACalls Tryz.prog 64 [v] h fun r h' => r = .agg (ubs (shaB l.flatten)).toArray ∧ h' = h := by
 refine ACalls.same ubs_below (acalls_ofR mix Tryz.func64 k64 n64 (by simp) fun hcl hb => ?_)
 have hz := zl_len
 have hcZ : (h.push (.cells (zl .u8 32) .ex 1)).Closed := closed_push hcl (fun x hx => by rw [List.eq_of_mem_replicate hx]; exact .int)
 have hextZ := (Heap.Ext.refl h).push hcl (.cells (zl .u8 32) .ex 1)
 have hlZ : Sl enS (h.push (.cells (zl .u8 32) .ex 1)) v l := hl.keep hextZ.m
 have fZ : (h.push (.cells (zl .u8 32) .ex 1)).cellsOf h.n = some (zl .u8 32,.ex,1) := cellsOf_new _ _ _ _
 have hZn : (h.push (.cells (zl .u8 32) .ex 1)).n = h.n + 1 := rfl
 simp only [c64,s_seq,s_ops]
 simp
 generalize hZ : h.push (.cells (zl .u8 32) .ex 1) = Z at *
 refine (digest_new_ok Z).mono' ?_
 rintro _ H1 hc1 bv1 ⟨b,rfl,hb1,hD,hsub1⟩
 simp
 refine (write_ok b none [] l v H1 (by simpa using hD) (fun H hF => hlZ.keep fun y ob e => ?_) (by simpa using hn) hln).mono' ?_
 ·have hy := (hcZ y ob e).1
  exact hF.2 y ob (hsub1.sub y ob e) (by omega) (by simp)
 rintro _ H2 hc2 _ ⟨rfl, nm', hD2, hF2, hnm2⟩
 simp only [List.nil_append] at hD2
 simp
 refine (dsum_ok b nm' l.flatten H2 hD2 (by omega)).mono ?_
 rintro _ h9 ⟨rfl,e⟩
 rw [e]
 clear e h9
 have hl32 : (ubs (shaB l.flatten)).length = 32 := by rw [ubs_len,shaB_len]
 have hp : aput (zl .u8 32) 0 (ubs (shaB l.flatten)) = ubs (shaB l.flatten) := aput_all _ _ (by rw [hl32,zl_len])
 have ha := acut_full hl32
 have hZ2 : ∀ y ob,Z.m y = some ob → H2.m y = some ob := fun y ob e => hF2.2 y ob (hsub1.sub y ob e) (by have := (hcZ y ob e).1; omega) (by simp)
 have fZ2 : H2.cellsOf h.n = some (zl .u8 32,.ex,1) := cellsOf_keep hZ2 fZ
 simp [m_ubs,hl32,fZ2,hz,hp,apart,ha,cellsOf_set]
 have hextH : h.Ext H2 := ⟨by have := hsub1.hi; have := hF2.1; omega,fun x ob e => hZ2 x ob (hextZ.m x ob e)⟩
 exact Heap.Ext.setNew hextH hcl (Nat.le_refl _) _
structure HS where
 i : Nat
 nm : Option Nat
 H : Heap
def z32 : List UInt8 := List.replicate 32 0
theorem z32_len : z32.length = 32 := List.length_replicate
def pv (c : UInt8) : Int := firstIdx (bs digs) c
def pB (s : List UInt8) : Nat → List UInt8
 | 0 => []
 | i + 1 => pB s i ++ [UInt8.ofNat (16 * (pv (s.getD (2 * i) 0)).toNat + (pv (s.getD (2 * i + 1) 0)).toNat)]
def hexOk (s : List UInt8) : Prop := s.length = 64 ∧ ∀ i,i < 64 → 0 ≤ pv (s.getD i 0)
open Classical in
noncomputable def parseV (s : List UInt8) : List UInt8 × Bool := if hexOk s then (pB s 32,true) else (z32,false)
end Go.Proofs.YtdnmkenamgfjoaaGreat.sha
