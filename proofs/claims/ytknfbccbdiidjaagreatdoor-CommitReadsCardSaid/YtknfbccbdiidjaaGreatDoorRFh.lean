/- The digests of the commit's head: one leaf of 7 in its transfer's tree, in its asset's, in the tree of trees; the anchor is not all zero. -/
import Derived.Test.YtknfbccbdiidjaaGreatDoorWs
import Derived.Test.YtknfbccbdiidjaaGreatDoorRGr
import Derived.Test.YtknfbccbdiidjaaGreatDoorRLb2
import Derived.Test.YtknfbccbdiidjaaGreatDoorRLf3
namespace Go.Proofs.YtknfbccbdiidjaaGreatDoor
set_option linter.unusedVariables false
set_option linter.unusedSimpArgs false

theorem clm_lit {t : Lf} (ht : t.s < 18446744073709551616) {h : Nat} {X : List Nat} (hX : Clm t h X) (bs : List Bool) (hb : ∀ i, i < bs.length → bs.getD i false = decide (bitAt t.k (h + i) = 1)) {Y : List Nat} (hr : oneL (t.s / 4294967296) (t.s % 4294967296) bs X = Y) : Clm t (h + bs.length) Y := by
 have := clm_go t ht bs h X hX hb
 rw [hr] at this
 exact this
theorem clm_root {t : Lf} {h : Nat} {X : List Nat} (hX : Clm t h X) : partNd KS SS h [t] = ⟨(X.drop 8).flatMap (fun x => [x / 16777216, x / 65536 % 256, x / 256 % 256, x % 256]), t.s⟩ := by
 obtain ⟨e0, e1, e2, e3, e4, e5, e6, e7, v0, v1, v2, v3, v4, v5, v6, v7, rfl, _, h2⟩ := hX
 rw [h2]
 rfl
theorem clm_zero {t : Lf} (E V : List Wd) (hE : E.length = 8) (hV : V.length = 8) (h1 : digest KS SS (eight 0) = E.flatMap bytesOf) (h2 : digest KS SS (t.v ++ eight t.s) = V.flatMap bytesOf) : Clm t 0 (E.map BitVec.toNat ++ V.map BitVec.toNat) := by
 match E, hE, V, hV with
 | [e0, e1, e2, e3, e4, e5, e6, e7], _, [v0, v1, v2, v3, v4, v5, v6, v7], _ =>
  refine ⟨e0, e1, e2, e3, e4, e5, e6, e7, v0, v1, v2, v3, v4, v5, v6, v7, rfl, ?_, ?_⟩
  · show leafNd KS SS [] 0 = _
    unfold leafNd
    rw [List.nil_append, h1]
  · show leafNd KS SS t.v t.s = _
    unfold leafNd
    rw [h2]
def anS : ByteArray := { data := #[109, 111, 110, 101, 121, 101, 114, 47, 97, 110, 99, 104, 111, 114] }
def anchorK (K s0 : List Wd) (n : Nd) : List Nat := tagD K s0 anS (n.h ++ eight n.s)
def hZ : List Nat := List.replicate 32 0
def hA : LeafT := ⟨hZ, 7, hZ, 0, ⟨hZ, 0⟩⟩
def tP : Lf := ⟨[216, 117, 75, 94, 252, 85, 37, 234, 2, 154, 161, 134, 215, 58, 109, 194, 85, 222, 57, 103, 233, 87, 65, 67, 209, 142, 216, 243, 209, 62, 255, 6], hZ ++ hZ, 7⟩
def xP0 : List Nat := [2941612277, 2709588858, 4153192267, 3339347471, 234167874, 3136888141, 3853660813, 3773316604, 2289139900, 3968741354, 2150493087, 2721354708, 2588500371, 540644367, 866413899, 3611513379]
theorem way_p0 : Clm tP 0 xP0 := clm_zero [2941612277#32, 2709588858#32, 4153192267#32, 3339347471#32, 234167874#32, 3136888141#32, 3853660813#32, 3773316604#32] [2289139900#32, 3968741354#32, 2150493087#32, 2721354708#32, 2588500371#32, 540644367#32, 866413899#32, 3611513379#32] rfl rfl (by decide +kernel) (by decide +kernel)
def xP1 : List Nat := [208879366, 4140909696, 3831996763, 1573517774, 1910805831, 3116279899, 2682650095, 3654652600, 2585604679, 112581393, 1961796303, 73879754, 2609461667, 3822364276, 3877235320, 783238634]
theorem way_p1 : Clm tP 32 xP1 := clm_lit (by decide) way_p0 [false, true, true, false, false, false, false, false, true, true, true, true, true, true, true, true, false, true, true, true, true, true, false, false, true, false, false, false, true, false, true, true] (by decide +kernel) (by kernel_rfl)
def xP2 : List Nat := [1971395767, 2614590752, 102892842, 2568570480, 3562440682, 1087006390, 470909799, 649654843, 1720058885, 3939654332, 4139241626, 2905061501, 3548083800, 697200059, 1461090349, 303338385]
theorem way_p2 : Clm tP 64 xP2 := clm_lit (by decide) way_p1 [true, true, false, false, true, true, true, true, false, false, false, true, true, false, true, true, false, true, true, true, false, false, false, true, true, false, false, false, true, false, true, true] (by decide +kernel) (by kernel_rfl)
def xP3 : List Nat := [4236566059, 2681804153, 307520777, 1436930145, 4270826212, 3169459239, 1956509384, 1130893320, 2737218609, 3844295569, 1469344834, 841259270, 1762448309, 4202225799, 962919408, 3866862052]
theorem way_p3 : Clm tP 96 xP3 := clm_lit (by decide) way_p2 [true, true, false, false, false, false, true, false, true, false, false, false, false, false, true, false, true, true, true, false, true, false, true, false, true, false, false, true, false, true, true, true] (by decide +kernel) (by kernel_rfl)
def xP4 : List Nat := [1612280554, 2677105714, 2841539195, 3069015414, 1754419902, 1039355076, 1501796502, 851435222, 222950599, 4027996710, 2438113655, 2280838660, 4233553901, 4141321605, 2591552247, 1665469956]
theorem way_p4 : Clm tP 128 xP4 := clm_lit (by decide) way_p3 [true, true, true, false, false, true, true, false, true, false, false, true, true, true, false, false, false, true, true, true, true, false, true, true, true, false, true, false, true, false, true, false] (by decide +kernel) (by kernel_rfl)
def xP5 : List Nat := [1885116331, 1243248890, 1174264560, 285536171, 1840814251, 4049962279, 1122340624, 349305283, 404597971, 242927118, 3600338851, 3429580862, 469314429, 3155431528, 3210046104, 354872566]
theorem way_p5 : Clm tP 160 xP5 := clm_lit (by decide) way_p4 [false, true, false, false, false, false, true, true, true, false, true, true, false, true, true, false, false, true, false, true, true, true, false, false, true, true, true, false, true, false, true, true] (by decide +kernel) (by kernel_rfl)
def xP6 : List Nat := [1628100244, 3104769924, 3293246715, 611891231, 3019818246, 592674985, 4083282172, 2371521161, 60924359, 674217687, 703056295, 2826041040, 1650944635, 3829693306, 2625682543, 573658800]
theorem way_p6 : Clm tP 192 xP6 := clm_lit (by decide) way_p5 [false, true, true, false, false, false, false, true, true, false, false, false, false, true, false, true, false, true, false, true, true, false, false, true, false, true, false, false, false, false, false, false] (by decide +kernel) (by kernel_rfl)
def xP7 : List Nat := [3757193492, 2138643976, 4263338015, 2202752158, 3357981527, 2474618184, 197568832, 2330428621, 2833433930, 2180685504, 3259168428, 2701827564, 3814973621, 3988243056, 3300141107, 2930787598]
theorem way_p7 : Clm tP 224 xP7 := clm_lit (by decide) way_p6 [false, true, false, true, false, true, true, true, true, false, true, false, false, true, false, false, true, false, true, false, true, false, true, false, false, false, true, true, true, true, true, true] (by decide +kernel) (by kernel_rfl)
def xP8 : List Nat := [1343946694, 3199553166, 2965483008, 3675644939, 2775798746, 1869696994, 1295114084, 851353708, 1921657938, 3406892581, 4118811164, 4156750162, 3357257382, 2247261997, 3846357124, 1818506803]
theorem way_p8 : Clm tP 256 xP8 := clm_lit (by decide) way_p7 [false, true, true, true, true, false, true, false, true, true, false, true, false, false, true, false, true, false, true, false, true, true, true, false, false, false, false, true, true, false, true, true] (by decide +kernel) (by kernel_rfl)
def rP : List Nat := [114, 138, 44, 82, 203, 17, 14, 37, 245, 128, 18, 28, 247, 194, 249, 82, 200, 27, 174, 166, 133, 242, 127, 45, 229, 66, 192, 132, 108, 100, 54, 51]
theorem root_p : partNd KS SS 256 [tP] = ⟨rP, 7⟩ := by
 rw [clm_root way_p8]
 have e : (xP8.drop 8).flatMap (fun x => [x / 16777216, x / 65536 % 256, x / 256 % 256, x % 256]) = rP := by decide +kernel
 rw [e]
 rfl
theorem place_0 : placeK KS SS 0 = tP.k := by decide +kernel
theorem parts_h : partNd KS SS 256 [partL KS SS 0 hA] = ⟨rP, 7⟩ := by
 have e : partL KS SS 0 hA = tP := by unfold partL; rw [place_0]; rfl
 rw [e]
 exact root_p
def hL : LeafT := ⟨hZ, 7, hZ, 0, ⟨rP, 7⟩⟩
def tL : Lf := ⟨[6, 128, 59, 227, 51, 52, 83, 192, 155, 5, 31, 28, 176, 188, 169, 13, 140, 125, 182, 7, 139, 87, 50, 154, 208, 138, 87, 145, 126, 143, 91, 136], [0, 32, 0, 0, 0, 0, 0, 0, 0, 0, 0, 0, 0, 0, 0, 0, 0, 0, 0, 0, 0, 0, 0, 0, 0, 0, 0, 0, 0, 0, 0, 0, 0, 0, 2, 8, 0, 0, 0, 0, 0, 0, 0, 7, 4, 32, 0, 0, 0, 0, 0, 0, 0, 0, 0, 0, 0, 0, 0, 0, 0, 0, 0, 0, 0, 0, 0, 0, 0, 0, 0, 0, 0, 0, 0, 0, 0, 0, 6, 1, 0, 8, 40, 114, 138, 44, 82, 203, 17, 14, 37, 245, 128, 18, 28, 247, 194, 249, 82, 200, 27, 174, 166, 133, 242, 127, 45, 229, 66, 192, 132, 108, 100, 54, 51, 0, 0, 0, 0, 0, 0, 0, 7], 7⟩
def xL0 : List Nat := [2941612277, 2709588858, 4153192267, 3339347471, 234167874, 3136888141, 3853660813, 3773316604, 162395550, 1876519183, 3186805271, 2243118139, 2371837136, 669870811, 1605437323, 2279955810]
theorem way_l0 : Clm tL 0 xL0 := clm_zero [2941612277#32, 2709588858#32, 4153192267#32, 3339347471#32, 234167874#32, 3136888141#32, 3853660813#32, 3773316604#32] [162395550#32, 1876519183#32, 3186805271#32, 2243118139#32, 2371837136#32, 669870811#32, 1605437323#32, 2279955810#32] rfl rfl (by decide +kernel) (by decide +kernel)
def xL1 : List Nat := [208879366, 4140909696, 3831996763, 1573517774, 1910805831, 3116279899, 2682650095, 3654652600, 2277733787, 2530254541, 4225007844, 3105245760, 1807058712, 106857387, 1203755276, 1220377261]
theorem way_l1 : Clm tL 32 xL1 := clm_lit (by decide) way_l0 [false, false, false, true, false, false, false, true, true, true, false, true, true, false, true, false, true, true, true, true, false, false, false, true, false, true, true, true, true, true, true, false] (by decide +kernel) (by kernel_rfl)
def xL2 : List Nat := [1971395767, 2614590752, 102892842, 2568570480, 3562440682, 1087006390, 470909799, 649654843, 2532393255, 3781950224, 1991972003, 4087419220, 3583540662, 4215603926, 1639981244, 2693399964]
theorem way_l2 : Clm tL 64 xL2 := clm_lit (by decide) way_l1 [true, false, false, false, true, false, false, true, true, true, true, false, true, false, true, false, false, true, false, true, false, false, false, true, false, false, false, false, true, false, true, true] (by decide +kernel) (by kernel_rfl)
def xL3 : List Nat := [4236566059, 2681804153, 307520777, 1436930145, 4270826212, 3169459239, 1956509384, 1130893320, 461036345, 1544534045, 3056253307, 1803612011, 2050882574, 1195572684, 179806674, 1303392066]
theorem way_l3 : Clm tL 96 xL3 := clm_lit (by decide) way_l2 [false, true, false, true, true, false, false, true, false, true, false, false, true, true, false, false, true, true, true, false, true, false, true, false, true, true, false, true, false, false, false, true] (by decide +kernel) (by kernel_rfl)
def xL4 : List Nat := [1612280554, 2677105714, 2841539195, 3069015414, 1754419902, 1039355076, 1501796502, 851435222, 2503981959, 4011566167, 666285885, 3683180348, 605223114, 928132374, 967985889, 3716367152]
theorem way_l4 : Clm tL 128 xL4 := clm_lit (by decide) way_l3 [true, true, true, false, false, false, false, false, false, true, true, false, true, true, false, true, true, false, true, true, true, true, true, false, false, false, true, true, false, false, false, true] (by decide +kernel) (by kernel_rfl)
def xL5 : List Nat := [1885116331, 1243248890, 1174264560, 285536171, 1840814251, 4049962279, 1122340624, 349305283, 2972566412, 3516520327, 974305753, 2359412954, 1992965521, 306508531, 3267884285, 3264334956]
theorem way_l5 : Clm tL 160 xL5 := clm_lit (by decide) way_l4 [true, false, true, true, false, false, false, false, true, false, false, true, false, true, false, true, false, false, true, true, true, true, false, true, false, false, false, false, true, true, false, true] (by decide +kernel) (by kernel_rfl)
def xL6 : List Nat := [1628100244, 3104769924, 3293246715, 611891231, 3019818246, 592674985, 4083282172, 2371521161, 3615567901, 3948559154, 1228014011, 4169413185, 173115332, 1314464306, 2863808427, 1550130697]
theorem way_l6 : Clm tL 192 xL6 := clm_lit (by decide) way_l5 [false, false, true, true, true, false, false, false, true, true, true, true, true, false, false, false, true, false, true, false, false, false, false, false, true, true, false, true, true, false, false, true] (by decide +kernel) (by kernel_rfl)
def xL7 : List Nat := [3757193492, 2138643976, 4263338015, 2202752158, 3357981527, 2474618184, 197568832, 2330428621, 2867369546, 3319899372, 830736254, 2202789949, 3066597023, 1307584959, 2152851567, 4222600258]
theorem way_l7 : Clm tL 224 xL7 := clm_lit (by decide) way_l6 [false, false, false, false, false, false, true, true, true, true, false, false, true, false, true, false, false, false, true, false, true, true, false, false, true, true, false, false, true, true, false, false] (by decide +kernel) (by kernel_rfl)
def xL8 : List Nat := [1343946694, 3199553166, 2965483008, 3675644939, 2775798746, 1869696994, 1295114084, 851353708, 3423037388, 3667018736, 74070858, 4198202674, 3254361215, 3971845038, 2485865948, 3424827465]
theorem way_l8 : Clm tL 256 xL8 := clm_lit (by decide) way_l7 [true, true, false, false, false, true, true, true, true, true, false, true, true, true, false, false, false, false, false, false, false, false, false, true, false, true, true, false, false, false, false, false] (by decide +kernel) (by kernel_rfl)
def rL : List Nat := [204, 7, 103, 204, 218, 146, 67, 240, 4, 106, 59, 74, 250, 59, 125, 50, 193, 249, 156, 127, 236, 189, 139, 174, 148, 43, 77, 220, 204, 34, 184, 73]
theorem root_l : partNd KS SS 256 [tL] = ⟨rL, 7⟩ := by
 rw [clm_root way_l8]
 have e : (xL8.drop 8).flatMap (fun x => [x / 16777216, x / 65536 % 256, x / 256 % 256, x % 256]) = rL := by decide +kernel
 rw [e]
 rfl
theorem key_h : keyK KS SS hL = tL.k := by decide +kernel
theorem bytes_h : leafB hL = tL.v := by decide +kernel
theorem low_h : partNd KS SS 256 [⟨keyK KS SS hL, leafB hL, 7⟩] = ⟨rL, 7⟩ := by
 rw [key_h, bytes_h]
 exact root_l
def tH : Lf := ⟨hZ, rL, 7⟩
def xH0 : List Nat := [2941612277, 2709588858, 4153192267, 3339347471, 234167874, 3136888141, 3853660813, 3773316604, 2184562317, 960830975, 630954732, 4082452317, 3181166385, 1454554206, 4274666624, 2046466810]
theorem way_h0 : Clm tH 0 xH0 := clm_zero [2941612277#32, 2709588858#32, 4153192267#32, 3339347471#32, 234167874#32, 3136888141#32, 3853660813#32, 3773316604#32] [2184562317#32, 960830975#32, 630954732#32, 4082452317#32, 3181166385#32, 1454554206#32, 4274666624#32, 2046466810#32] rfl rfl (by decide +kernel) (by decide +kernel)
def xH1 : List Nat := [208879366, 4140909696, 3831996763, 1573517774, 1910805831, 3116279899, 2682650095, 3654652600, 2095267200, 3327625977, 683445362, 1135867885, 2071513818, 1197164104, 3364421565, 3384566123]
theorem way_h1 : Clm tH 32 xH1 := clm_lit (by decide) way_h0 [false, false, false, false, false, false, false, false, false, false, false, false, false, false, false, false, false, false, false, false, false, false, false, false, false, false, false, false, false, false, false, false] (by decide +kernel) (by kernel_rfl)
def xH2 : List Nat := [1971395767, 2614590752, 102892842, 2568570480, 3562440682, 1087006390, 470909799, 649654843, 3800578410, 1024488236, 175194250, 1295557394, 2565484267, 198389240, 2345999083, 579687066]
theorem way_h2 : Clm tH 64 xH2 := clm_lit (by decide) way_h1 [false, false, false, false, false, false, false, false, false, false, false, false, false, false, false, false, false, false, false, false, false, false, false, false, false, false, false, false, false, false, false, false] (by decide +kernel) (by kernel_rfl)
def xH3 : List Nat := [4236566059, 2681804153, 307520777, 1436930145, 4270826212, 3169459239, 1956509384, 1130893320, 1745317134, 2537151901, 3761771832, 1177900738, 3573403824, 967020965, 1801565755, 421817293]
theorem way_h3 : Clm tH 96 xH3 := clm_lit (by decide) way_h2 [false, false, false, false, false, false, false, false, false, false, false, false, false, false, false, false, false, false, false, false, false, false, false, false, false, false, false, false, false, false, false, false] (by decide +kernel) (by kernel_rfl)
def xH4 : List Nat := [1612280554, 2677105714, 2841539195, 3069015414, 1754419902, 1039355076, 1501796502, 851435222, 2999693242, 1926956572, 2020343798, 3068334712, 4025912865, 3369624998, 606329409, 1143662481]
theorem way_h4 : Clm tH 128 xH4 := clm_lit (by decide) way_h3 [false, false, false, false, false, false, false, false, false, false, false, false, false, false, false, false, false, false, false, false, false, false, false, false, false, false, false, false, false, false, false, false] (by decide +kernel) (by kernel_rfl)
def xH5 : List Nat := [1885116331, 1243248890, 1174264560, 285536171, 1840814251, 4049962279, 1122340624, 349305283, 2605530812, 3672682231, 952262071, 1589577975, 3559571526, 257576565, 3890269527, 1417643478]
theorem way_h5 : Clm tH 160 xH5 := clm_lit (by decide) way_h4 [false, false, false, false, false, false, false, false, false, false, false, false, false, false, false, false, false, false, false, false, false, false, false, false, false, false, false, false, false, false, false, false] (by decide +kernel) (by kernel_rfl)
def xH6 : List Nat := [1628100244, 3104769924, 3293246715, 611891231, 3019818246, 592674985, 4083282172, 2371521161, 1770480869, 1450530990, 3505579421, 1423332934, 3408742678, 3076991067, 316126867, 2463609852]
theorem way_h6 : Clm tH 192 xH6 := clm_lit (by decide) way_h5 [false, false, false, false, false, false, false, false, false, false, false, false, false, false, false, false, false, false, false, false, false, false, false, false, false, false, false, false, false, false, false, false] (by decide +kernel) (by kernel_rfl)
def xH7 : List Nat := [3757193492, 2138643976, 4263338015, 2202752158, 3357981527, 2474618184, 197568832, 2330428621, 1494398249, 1773978296, 3030917682, 3111771234, 618901508, 1673829052, 721283056, 184495225]
theorem way_h7 : Clm tH 224 xH7 := clm_lit (by decide) way_h6 [false, false, false, false, false, false, false, false, false, false, false, false, false, false, false, false, false, false, false, false, false, false, false, false, false, false, false, false, false, false, false, false] (by decide +kernel) (by kernel_rfl)
def xH8 : List Nat := [1343946694, 3199553166, 2965483008, 3675644939, 2775798746, 1869696994, 1295114084, 851353708, 2843753083, 2426603470, 2408059677, 2082716963, 638502768, 2121835508, 2820727049, 278588742]
theorem way_h8 : Clm tH 256 xH8 := clm_lit (by decide) way_h7 [false, false, false, false, false, false, false, false, false, false, false, false, false, false, false, false, false, false, false, false, false, false, false, false, false, false, false, false, false, false, false, false] (by decide +kernel) (by kernel_rfl)
def rH : List Nat := [169, 128, 58, 123, 144, 163, 7, 206, 143, 136, 19, 29, 124, 35, 189, 35, 38, 14, 199, 112, 126, 120, 163, 244, 168, 32, 225, 9, 16, 154, 237, 70]
theorem root_h : partNd KS SS 256 [tH] = ⟨rH, 7⟩ := by
 rw [clm_root way_h8]
 have e : (xH8.drop 8).flatMap (fun x => [x / 16777216, x / 65536 % 256, x / 256 % 256, x % 256]) = rH := by decide +kernel
 rw [e]
 rfl
theorem high_h : partNd KS SS 256 [⟨hZ, rL, 7⟩] = ⟨rH, 7⟩ := root_h
theorem anchor_h : (anchorK KS SS ⟨rH, 7⟩).getD 0 0 = 204 := by decide +kernel
theorem anchor_ne : anchorK KS SS ⟨rH, 7⟩ ≠ hZ := fun e => by
 have h := anchor_h
 rw [e] at h
 exact absurd h (by decide)
end Go.Proofs.YtknfbccbdiidjaaGreatDoor

