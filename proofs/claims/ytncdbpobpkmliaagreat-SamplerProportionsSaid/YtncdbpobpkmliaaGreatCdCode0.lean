/- The functions that a law reaches, as the abstract machine runs them. By a program of this session. No condition. -/
import Derived.Test.YtncdbpobpkmliaaGreatAvBase
namespace Go.Av
open Go

/-- credence/credencelaw23.smallProbs -/
def fn0r0 : List AO := [⟨some 2, .mv (.k (.p (.bool false))), none⟩]
def fn0r1 : List AO := [⟨some 5, .mv (.t 0), none⟩, ⟨some 6, .len (.t 5), none⟩, ⟨some 7, .mv (.k (.p (.int .i64 0))), none⟩]
def fn0r2 : List AO := [⟨some 8, .bin .lss (.t 7) (.t 6), none⟩]
def fn0n3 : ACode := .cond (.t 8) (.skip) (.exit 0)
def fn0r3 : List AO := [⟨some 9, .ia 3 (.t 5) (.t 7), none⟩, ⟨some 10, .load true 3 (.t 9), none⟩, ⟨some 4, .alloc 0 [.p (.bool false), .e0, .e0], none⟩, ⟨none, .store 3 (.t 4) (.t 10), none⟩]
def fn0r4 : List AO := [⟨some 11, .fa 1 1 (.t 4), none⟩, ⟨some 12, .load false 1 (.t 11), none⟩, ⟨some 13, .len (.t 12), none⟩, ⟨some 14, .bin .gtr (.t 13) (.k (.p (.int .i64 4))), none⟩, ⟨some 15, .mv (.t 14), none⟩, ⟨some 16, .fa 2 1 (.t 4), (some (15, false))⟩, ⟨some 17, .load false 1 (.t 16), (some (15, false))⟩, ⟨some 18, .len (.t 17), (some (15, false))⟩, ⟨some 19, .bin .gtr (.t 18) (.k (.p (.int .i64 4))), (some (15, false))⟩, ⟨some 20, .pick (.t 15) (.k (.p (.bool true))) (.t 19), none⟩]
def fn0r5 : List AO := [⟨some 2, .mv (.k (.p (.bool false))), none⟩]
def fn0n7 : ACode := .seq (.region fn0r5 false) (.ret)
def fn0n8 : ACode := .cond (.t 20) (fn0n7) (.skip)
def fn0n9 : ACode := .seq (.region fn0r4 false) (fn0n8)
def fn0n10 : ACode := .seq (.region fn0r3 false) (fn0n9)
def fn0n11 : ACode := .block 1 (fn0n10)
def fn0r6 : List AO := [⟨some 21, .bin .add (.t 7) (.k (.p (.int .i64 1))), none⟩, ⟨some 7, .mv (.t 21), none⟩]
def fn0n13 : ACode := .seq (fn0n11) (.region fn0r6 false)
def fn0n14 : ACode := .seq (fn0n3) (fn0n13)
def fn0n15 : ACode := .seq (.region fn0r2 false) (fn0n14)
def fn0n16 : ACode := .loop (fn0n15)
def fn0n17 : ACode := .block 0 (fn0n16)
def fn0n18 : ACode := .seq (.region fn0r1 false) (fn0n17)
def fn0r7 : List AO := [⟨some 2, .mv (.k (.p (.bool true))), none⟩]
def fn0n20 : ACode := .seq (.region fn0r7 false) (.ret)
def fn0n21 : ACode := .seq (fn0n18) (fn0n20)
def fn0n22 : ACode := .seq (.region fn0r0 false) (fn0n21)
def fn0 : AFun := { nargs := 1, ntmps := 22, results := [.tmp 2], body := fn0n22 }

/-- credence/credencelaw23.SmallFracs -/
def fn4r0 : List AO := [⟨some 2, .mv (.k (.p (.bool false))), none⟩]
def fn4r1 : List AO := [⟨some 3, .mv (.t 0), none⟩, ⟨some 4, .len (.t 3), none⟩, ⟨some 5, .bin .leq (.t 4) (.k (.p (.int .i64 60))), none⟩, ⟨some 6, .mv (.t 5), none⟩, ⟨some 7, .mv (.t 0), (some (6, true))⟩, ⟨some 8, .call 0 [.t 7], (some (6, true))⟩, ⟨some 9, .pick (.t 6) (.t 8) (.k (.p (.bool false))), none⟩, ⟨some 2, .mv (.t 9), none⟩]
def fn4n2 : ACode := .seq (.region fn4r1 false) (.ret)
def fn4n3 : ACode := .seq (.region fn4r0 false) (fn4n2)
def fn4 : AFun := { nargs := 1, ntmps := 10, results := [.tmp 2], body := fn4n3 }

/-- credence/credenceref1.NatNorm -/
def fn58r0 : List AO := [⟨some 2, .mv (.k (.e0)), none⟩]
def fn58r1 : List AO := [⟨some 4, .mv (.t 0), none⟩, ⟨some 5, .len (.t 4), none⟩, ⟨some 3, .mv (.t 5), none⟩]
def fn58r2 : List AO := [⟨some 6, .mv (.t 3), none⟩, ⟨some 7, .bin .gtr (.t 6) (.k (.p (.int .i64 0))), none⟩, ⟨some 8, .mv (.t 7), none⟩, ⟨some 9, .mv (.t 0), (some (8, true))⟩, ⟨some 10, .mv (.t 3), (some (8, true))⟩, ⟨some 11, .bin .sub (.t 10) (.k (.p (.int .i64 1))), (some (8, true))⟩, ⟨some 12, .ia 1 (.t 9) (.t 11), (some (8, true))⟩, ⟨some 13, .load false 1 (.t 12), (some (8, true))⟩, ⟨some 14, .bin .eql (.t 13) (.k (.p (.int .u32 0))), (some (8, true))⟩, ⟨some 15, .pick (.t 8) (.t 14) (.k (.p (.bool false))), none⟩]
def fn58n3 : ACode := .cond (.t 15) (.skip) (.exit 0)
def fn58n4 : ACode := .seq (.region fn58r2 false) (fn58n3)
def fn58r3 : List AO := [⟨some 16, .mv (.t 3), none⟩, ⟨some 17, .bin .sub (.t 16) (.k (.p (.int .i64 1))), none⟩, ⟨some 3, .mv (.t 17), none⟩]
def fn58n6 : ACode := .block 1 (.region fn58r3 false)
def fn58n7 : ACode := .seq (fn58n4) (fn58n6)
def fn58n8 : ACode := .loop (fn58n7)
def fn58n9 : ACode := .block 0 (fn58n8)
def fn58r4 : List AO := [⟨some 18, .slO 0 0 1 [] [], none⟩, ⟨some 19, .mv (.t 0), none⟩, ⟨some 20, .mv (.t 3), none⟩, ⟨some 21, .slice 1 (.t 19) none (some (.t 20)) none, none⟩, ⟨some 22, .app 1 1 4 (.t 18) (.t 21), none⟩, ⟨some 2, .mv (.t 22), none⟩]
def fn58n11 : ACode := .seq (.region fn58r4 false) (.ret)
def fn58n12 : ACode := .seq (fn58n9) (fn58n11)
def fn58n13 : ACode := .seq (.region fn58r1 false) (fn58n12)
def fn58n14 : ACode := .seq (.region fn58r0 false) (fn58n13)
def fn58 : AFun := { nargs := 1, ntmps := 23, results := [.tmp 2], body := fn58n14 }

/-- credence/credenceref1.NatOf -/
def fn59r0 : List AO := [⟨some 2, .mv (.k (.e0)), none⟩]
def fn59r1 : List AO := [⟨some 3, .mv (.t 0), none⟩, ⟨some 4, .conv .u32 (.t 3), none⟩, ⟨some 5, .mv (.t 0), none⟩, ⟨some 6, .bin .shr (.t 5) (.k (.p (.int .u64 32))), none⟩, ⟨some 7, .conv .u32 (.t 6), none⟩, ⟨some 8, .slP 2 1 [.p (.int .u32 0), .p (.int .u32 0)] [(0, 1, .t 4), (1, 1, .t 7)], none⟩, ⟨some 9, .call 58 [.t 8], none⟩, ⟨some 2, .mv (.t 9), none⟩]
def fn59n2 : ACode := .seq (.region fn59r1 false) (.ret)
def fn59n3 : ACode := .seq (.region fn59r0 false) (fn59n2)
def fn59 : AFun := { nargs := 1, ntmps := 10, results := [.tmp 2], body := fn59n3 }

/-- credence/sampler.limited -/
def fn112r0 : List AO := [⟨some 2, .mv (.k (.e0)), none⟩]
def fn112r1 : List AO := [⟨some 3, .mv (.t 0), none⟩, ⟨some 4, .mv (.t 0), none⟩, ⟨some 5, .len (.t 4), none⟩, ⟨some 6, .minI (.t 5) (.k (.p (.int .i64 4096))), none⟩, ⟨some 7, .slice 1 (.t 3) none (some (.t 6)) none, none⟩, ⟨some 2, .mv (.t 7), none⟩]
def fn112n2 : ACode := .seq (.region fn112r1 false) (.ret)
def fn112n3 : ACode := .seq (.region fn112r0 false) (fn112n2)
def fn112 : AFun := { nargs := 1, ntmps := 8, results := [.tmp 2], body := fn112n3 }

/-- credence/bignat.trim -/
def fn7r0 : List AO := [⟨some 2, .mv (.k (.e0)), none⟩]
def fn7r1 : List AO := [⟨some 4, .mv (.t 0), none⟩, ⟨some 5, .len (.t 4), none⟩, ⟨some 3, .mv (.t 5), none⟩]
def fn7r2 : List AO := [⟨some 6, .mv (.t 3), none⟩, ⟨some 7, .bin .gtr (.t 6) (.k (.p (.int .i64 0))), none⟩, ⟨some 8, .mv (.t 7), none⟩, ⟨some 9, .mv (.t 0), (some (8, true))⟩, ⟨some 10, .mv (.t 3), (some (8, true))⟩, ⟨some 11, .bin .sub (.t 10) (.k (.p (.int .i64 1))), (some (8, true))⟩, ⟨some 12, .ia 1 (.t 9) (.t 11), (some (8, true))⟩, ⟨some 13, .load false 1 (.t 12), (some (8, true))⟩, ⟨some 14, .bin .eql (.t 13) (.k (.p (.int .u32 0))), (some (8, true))⟩, ⟨some 15, .pick (.t 8) (.t 14) (.k (.p (.bool false))), none⟩]
def fn7n3 : ACode := .cond (.t 15) (.skip) (.exit 0)
def fn7n4 : ACode := .seq (.region fn7r2 false) (fn7n3)
def fn7r3 : List AO := [⟨some 16, .mv (.t 3), none⟩, ⟨some 17, .bin .sub (.t 16) (.k (.p (.int .i64 1))), none⟩, ⟨some 3, .mv (.t 17), none⟩]
def fn7n6 : ACode := .block 1 (.region fn7r3 false)
def fn7n7 : ACode := .seq (fn7n4) (fn7n6)
def fn7n8 : ACode := .loop (fn7n7)
def fn7n9 : ACode := .block 0 (fn7n8)
def fn7r4 : List AO := [⟨some 18, .mv (.t 0), none⟩, ⟨some 19, .mv (.t 3), none⟩, ⟨some 20, .slice 1 (.t 18) none (some (.t 19)) none, none⟩, ⟨some 2, .mv (.t 20), none⟩]
def fn7n11 : ACode := .seq (.region fn7r4 false) (.ret)
def fn7n12 : ACode := .seq (fn7n9) (fn7n11)
def fn7n13 : ACode := .seq (.region fn7r1 false) (fn7n12)
def fn7n14 : ACode := .seq (.region fn7r0 false) (fn7n13)
def fn7 : AFun := { nargs := 1, ntmps := 21, results := [.tmp 2], body := fn7n14 }

/-- math/bits.Len32 -/
def fn8r0 : List AO := [⟨some 2, .mv (.k (.p (.int .i64 0))), none⟩]
def fn8r1 : List AO := [⟨some 3, .mv (.t 0), none⟩, ⟨some 4, .bin .geq (.t 3) (.k (.p (.int .u32 65536))), none⟩]
def fn8r2 : List AO := [⟨some 5, .mv (.t 0), none⟩, ⟨some 6, .bin .shr (.t 5) (.k (.p (.int .u64 16))), none⟩, ⟨some 0, .mv (.t 6), none⟩]
def fn8r3 : List AO := [⟨some 2, .mv (.k (.p (.int .i64 16))), none⟩]
def fn8n4 : ACode := .seq (.region fn8r2 false) (.region fn8r3 false)
def fn8n5 : ACode := .cond (.t 4) (fn8n4) (.skip)
def fn8n6 : ACode := .seq (.region fn8r1 false) (fn8n5)
def fn8r4 : List AO := [⟨some 7, .mv (.t 0), none⟩, ⟨some 8, .bin .geq (.t 7) (.k (.p (.int .u32 256))), none⟩]
def fn8r5 : List AO := [⟨some 9, .mv (.t 0), none⟩, ⟨some 10, .bin .shr (.t 9) (.k (.p (.int .u64 8))), none⟩, ⟨some 0, .mv (.t 10), none⟩]
def fn8r6 : List AO := [⟨some 11, .mv (.t 2), none⟩, ⟨some 12, .bin .add (.t 11) (.k (.p (.int .i64 8))), none⟩, ⟨some 2, .mv (.t 12), none⟩]
def fn8n10 : ACode := .seq (.region fn8r5 false) (.region fn8r6 false)
def fn8n11 : ACode := .cond (.t 8) (fn8n10) (.skip)
def fn8n12 : ACode := .seq (.region fn8r4 false) (fn8n11)
def fn8r7 : List AO := [⟨some 13, .mv (.t 2), none⟩, ⟨some 14, .mv (.t 0), none⟩, ⟨some 15, .conv .u8 (.t 14), none⟩, ⟨some 16, .sidx (.k (.p (.str ⟨#[0, 1, 2, 2, 3, 3, 3, 3, 4, 4, 4, 4, 4, 4, 4, 4, 5, 5, 5, 5, 5, 5, 5, 5, 5, 5, 5, 5, 5, 5, 5, 5, 6, 6, 6, 6, 6, 6, 6, 6, 6, 6, 6, 6, 6, 6, 6, 6, 6, 6, 6, 6, 6, 6, 6, 6, 6, 6, 6, 6, 6, 6, 6, 6, 7, 7, 7, 7, 7, 7, 7, 7, 7, 7, 7, 7, 7, 7, 7, 7, 7, 7, 7, 7, 7, 7, 7, 7, 7, 7, 7, 7, 7, 7, 7, 7, 7, 7, 7, 7, 7, 7, 7, 7, 7, 7, 7, 7, 7, 7, 7, 7, 7, 7, 7, 7, 7, 7, 7, 7, 7, 7, 7, 7, 7, 7, 7, 7, 8, 8, 8, 8, 8, 8, 8, 8, 8, 8, 8, 8, 8, 8, 8, 8, 8, 8, 8, 8, 8, 8, 8, 8, 8, 8, 8, 8, 8, 8, 8, 8, 8, 8, 8, 8, 8, 8, 8, 8, 8, 8, 8, 8, 8, 8, 8, 8, 8, 8, 8, 8, 8, 8, 8, 8, 8, 8, 8, 8, 8, 8, 8, 8, 8, 8, 8, 8, 8, 8, 8, 8, 8, 8, 8, 8, 8, 8, 8, 8, 8, 8, 8, 8, 8, 8, 8, 8, 8, 8, 8, 8, 8, 8, 8, 8, 8, 8, 8, 8, 8, 8, 8, 8, 8, 8, 8, 8, 8, 8, 8, 8, 8, 8, 8, 8, 8, 8, 8, 8, 8, 8, 8, 8, 8, 8, 8, 8]⟩))) (.t 15), none⟩, ⟨some 17, .conv .i64 (.t 16), none⟩, ⟨some 18, .bin .add (.t 13) (.t 17), none⟩, ⟨some 2, .mv (.t 18), none⟩]
def fn8n14 : ACode := .seq (.region fn8r7 false) (.ret)
def fn8n15 : ACode := .seq (fn8n12) (fn8n14)
def fn8n16 : ACode := .seq (fn8n6) (fn8n15)
def fn8n17 : ACode := .seq (.region fn8r0 false) (fn8n16)
def fn8 : AFun := { nargs := 1, ntmps := 19, results := [.tmp 2], body := fn8n17 }

/-- credence/bignat.BitLen -/
def fn9r0 : List AO := [⟨some 2, .mv (.k (.p (.int .i64 0))), none⟩]
def fn9r1 : List AO := [⟨some 3, .mv (.t 0), none⟩, ⟨some 4, .call 7 [.t 3], none⟩, ⟨some 0, .mv (.t 4), none⟩]
def fn9r2 : List AO := [⟨some 5, .mv (.t 0), none⟩, ⟨some 6, .len (.t 5), none⟩, ⟨some 7, .bin .eql (.t 6) (.k (.p (.int .i64 0))), none⟩]
def fn9r3 : List AO := [⟨some 2, .mv (.k (.p (.int .i64 0))), none⟩]
def fn9n4 : ACode := .seq (.region fn9r3 false) (.ret)
def fn9n5 : ACode := .cond (.t 7) (fn9n4) (.skip)
def fn9n6 : ACode := .seq (.region fn9r2 false) (fn9n5)
def fn9r4 : List AO := [⟨some 8, .mv (.t 0), none⟩, ⟨some 9, .len (.t 8), none⟩, ⟨some 10, .bin .sub (.t 9) (.k (.p (.int .i64 1))), none⟩, ⟨some 11, .bin .mul (.k (.p (.int .i64 32))) (.t 10), none⟩, ⟨some 12, .mv (.t 0), none⟩, ⟨some 13, .mv (.t 0), none⟩, ⟨some 14, .len (.t 13), none⟩, ⟨some 15, .bin .sub (.t 14) (.k (.p (.int .i64 1))), none⟩, ⟨some 16, .ia 1 (.t 12) (.t 15), none⟩, ⟨some 17, .load false 1 (.t 16), none⟩, ⟨some 18, .call 8 [.t 17], none⟩, ⟨some 19, .bin .add (.t 11) (.t 18), none⟩, ⟨some 2, .mv (.t 19), none⟩]
def fn9n8 : ACode := .seq (.region fn9r4 false) (.ret)
def fn9n9 : ACode := .seq (fn9n6) (fn9n8)
def fn9n10 : ACode := .seq (.region fn9r1 false) (fn9n9)
def fn9n11 : ACode := .seq (.region fn9r0 false) (fn9n10)
def fn9 : AFun := { nargs := 1, ntmps := 20, results := [.tmp 2], body := fn9n11 }

/-- credence/bignat.FromUint64 -/
def fn19r0 : List AO := [⟨some 2, .mv (.k (.e0)), none⟩]
def fn19r1 : List AO := [⟨some 4, .mv (.t 0), none⟩, ⟨some 5, .bin .eql (.t 4) (.k (.p (.int .u64 0))), none⟩, ⟨some 3, .mv (.t 5), none⟩]
def fn19r2 : List AO := [⟨some 2, .mv (.k (.e0)), none⟩]
def fn19n3 : ACode := .seq (.region fn19r2 false) (.ret)
def fn19r3 : List AO := [⟨some 7, .mv (.t 0), none⟩, ⟨some 8, .bin .shr (.t 7) (.k (.p (.int .u64 32))), none⟩, ⟨some 9, .bin .eql (.t 8) (.k (.p (.int .u64 0))), none⟩, ⟨some 6, .mv (.t 9), none⟩]
def fn19r4 : List AO := [⟨some 10, .mv (.t 0), none⟩, ⟨some 11, .conv .u32 (.t 10), none⟩, ⟨some 12, .slP 1 1 [.p (.int .u32 0)] [(0, 1, .t 11)], none⟩, ⟨some 2, .mv (.t 12), none⟩]
def fn19n6 : ACode := .seq (.region fn19r4 false) (.ret)
def fn19n7 : ACode := .cond (.t 6) (fn19n6) (.skip)
def fn19n8 : ACode := .seq (.region fn19r3 false) (fn19n7)
def fn19n9 : ACode := .cond (.t 3) (fn19n3) (fn19n8)
def fn19n10 : ACode := .seq (.region fn19r1 false) (fn19n9)
def fn19n11 : ACode := .block 0 (fn19n10)
def fn19r5 : List AO := [⟨some 13, .mv (.t 0), none⟩, ⟨some 14, .conv .u32 (.t 13), none⟩, ⟨some 15, .mv (.t 0), none⟩, ⟨some 16, .bin .shr (.t 15) (.k (.p (.int .u64 32))), none⟩, ⟨some 17, .conv .u32 (.t 16), none⟩, ⟨some 18, .slP 2 1 [.p (.int .u32 0), .p (.int .u32 0)] [(0, 1, .t 14), (1, 1, .t 17)], none⟩, ⟨some 2, .mv (.t 18), none⟩]
def fn19n13 : ACode := .seq (.region fn19r5 false) (.ret)
def fn19n14 : ACode := .seq (fn19n11) (fn19n13)
def fn19n15 : ACode := .seq (.region fn19r0 false) (fn19n14)
def fn19 : AFun := { nargs := 1, ntmps := 19, results := [.tmp 2], body := fn19n15 }

/-- credence/bignat.Cmp -/
def fn13r0 : List AO := [⟨some 4, .mv (.k (.p (.int .i64 0))), none⟩]
def fn13r1 : List AO := [⟨some 6, .mv (.t 0), none⟩, ⟨some 7, .call 7 [.t 6], none⟩, ⟨some 8, .mv (.t 1), none⟩, ⟨some 9, .call 7 [.t 8], none⟩, ⟨some 0, .mv (.t 7), none⟩, ⟨some 1, .mv (.t 9), none⟩]
def fn13r2 : List AO := [⟨some 11, .mv (.t 0), none⟩, ⟨some 12, .len (.t 11), none⟩, ⟨some 13, .mv (.t 1), none⟩, ⟨some 14, .len (.t 13), none⟩, ⟨some 15, .bin .lss (.t 12) (.t 14), none⟩, ⟨some 10, .mv (.t 15), none⟩]
def fn13r3 : List AO := [⟨some 4, .mv (.k (.p (.int .i64 (-1)))), none⟩]
def fn13n4 : ACode := .seq (.region fn13r3 false) (.ret)
def fn13r4 : List AO := [⟨some 17, .mv (.t 0), none⟩, ⟨some 18, .len (.t 17), none⟩, ⟨some 19, .mv (.t 1), none⟩, ⟨some 20, .len (.t 19), none⟩, ⟨some 21, .bin .gtr (.t 18) (.t 20), none⟩, ⟨some 16, .mv (.t 21), none⟩]
def fn13r5 : List AO := [⟨some 4, .mv (.k (.p (.int .i64 1))), none⟩]
def fn13n7 : ACode := .seq (.region fn13r5 false) (.ret)
def fn13n8 : ACode := .cond (.t 16) (fn13n7) (.skip)
def fn13n9 : ACode := .seq (.region fn13r4 false) (fn13n8)
def fn13n10 : ACode := .cond (.t 10) (fn13n4) (fn13n9)
def fn13n11 : ACode := .seq (.region fn13r2 false) (fn13n10)
def fn13n12 : ACode := .block 0 (fn13n11)
def fn13r6 : List AO := [⟨some 22, .mv (.t 0), none⟩, ⟨some 23, .len (.t 22), none⟩, ⟨some 24, .bin .sub (.t 23) (.k (.p (.int .i64 1))), none⟩, ⟨some 5, .mv (.t 24), none⟩]
def fn13r7 : List AO := [⟨some 25, .mv (.t 5), none⟩, ⟨some 26, .bin .geq (.t 25) (.k (.p (.int .i64 0))), none⟩]
def fn13n15 : ACode := .cond (.t 26) (.skip) (.exit 1)
def fn13n16 : ACode := .seq (.region fn13r7 false) (fn13n15)
def fn13r9 : List AO := [⟨some 29, .mv (.t 0), none⟩, ⟨some 30, .mv (.t 5), none⟩, ⟨some 31, .ia 1 (.t 29) (.t 30), none⟩, ⟨some 32, .load false 1 (.t 31), none⟩, ⟨some 33, .mv (.t 1), none⟩, ⟨some 34, .mv (.t 5), none⟩, ⟨some 35, .ia 1 (.t 33) (.t 34), none⟩, ⟨some 36, .load false 1 (.t 35), none⟩, ⟨some 37, .bin .neq (.t 32) (.t 36), none⟩]
def fn13r10 : List AO := [⟨some 38, .mv (.t 0), none⟩, ⟨some 39, .mv (.t 5), none⟩, ⟨some 40, .ia 1 (.t 38) (.t 39), none⟩, ⟨some 41, .load false 1 (.t 40), none⟩, ⟨some 42, .mv (.t 1), none⟩, ⟨some 43, .mv (.t 5), none⟩, ⟨some 44, .ia 1 (.t 42) (.t 43), none⟩, ⟨some 45, .load false 1 (.t 44), none⟩, ⟨some 46, .bin .lss (.t 41) (.t 45), none⟩]
def fn13r11 : List AO := [⟨some 4, .mv (.k (.p (.int .i64 (-1)))), none⟩]
def fn13n20 : ACode := .seq (.region fn13r11 false) (.ret)
def fn13n21 : ACode := .cond (.t 46) (fn13n20) (.skip)
def fn13n22 : ACode := .seq (.region fn13r10 true) (fn13n21)
def fn13r12 : List AO := [⟨some 4, .mv (.k (.p (.int .i64 1))), none⟩]
def fn13n24 : ACode := .seq (.region fn13r12 false) (.ret)
def fn13n25 : ACode := .seq (fn13n22) (fn13n24)
def fn13n26 : ACode := .cond (.t 37) (fn13n25) (.skip)
def fn13n27 : ACode := .seq (.region fn13r9 true) (fn13n26)
def fn13n28 : ACode := .block 2 (fn13n27)
def fn13r8 : List AO := [⟨some 27, .mv (.t 5), none⟩, ⟨some 28, .bin .sub (.t 27) (.k (.p (.int .i64 1))), none⟩, ⟨some 5, .mv (.t 28), none⟩]
def fn13n30 : ACode := .seq (fn13n28) (.region fn13r8 false)
def fn13n31 : ACode := .seq (fn13n16) (fn13n30)
def fn13n32 : ACode := .loop (fn13n31)
def fn13n33 : ACode := .block 1 (fn13n32)
def fn13n34 : ACode := .seq (.region fn13r6 false) (fn13n33)
def fn13r13 : List AO := [⟨some 4, .mv (.k (.p (.int .i64 0))), none⟩]
def fn13n36 : ACode := .seq (.region fn13r13 false) (.ret)
def fn13n37 : ACode := .seq (fn13n34) (fn13n36)
def fn13n38 : ACode := .seq (fn13n12) (fn13n37)
def fn13n39 : ACode := .seq (.region fn13r1 false) (fn13n38)
def fn13n40 : ACode := .seq (.region fn13r0 false) (fn13n39)
def fn13 : AFun := { nargs := 2, ntmps := 47, results := [.tmp 4], body := fn13n40 }

/-- credence/bignat.Sub -/
def fn30r0 : List AO := [⟨some 4, .mv (.k (.e0)), none⟩, ⟨some 5, .mv (.k (.p (.bool false))), none⟩]
def fn30r1 : List AO := [⟨some 10, .mv (.t 0), none⟩, ⟨some 11, .call 7 [.t 10], none⟩, ⟨some 12, .mv (.t 1), none⟩, ⟨some 13, .call 7 [.t 12], none⟩, ⟨some 0, .mv (.t 11), none⟩, ⟨some 1, .mv (.t 13), none⟩]
def fn30r2 : List AO := [⟨some 14, .mv (.t 0), none⟩, ⟨some 15, .mv (.t 1), none⟩, ⟨some 16, .call 13 [.t 14, .t 15], none⟩, ⟨some 17, .bin .lss (.t 16) (.k (.p (.int .i64 0))), none⟩]
def fn30r3 : List AO := [⟨some 4, .mv (.k (.e0)), none⟩, ⟨some 5, .mv (.k (.p (.bool false))), none⟩]
def fn30n4 : ACode := .seq (.region fn30r3 false) (.ret)
def fn30n5 : ACode := .cond (.t 17) (fn30n4) (.skip)
def fn30n6 : ACode := .seq (.region fn30r2 false) (fn30n5)
def fn30r4 : List AO := [⟨some 18, .mv (.t 0), none⟩, ⟨some 19, .len (.t 18), none⟩, ⟨some 20, .mk 0 1 4 [.p (.int .u32 0)] (.t 19) (.t 19), none⟩, ⟨some 6, .mv (.t 20), none⟩]
def fn30r5 : List AO := [⟨some 7, .mv (.k (.p (.int .u64 0))), none⟩]
def fn30r6 : List AO := [⟨some 21, .mv (.t 0), none⟩, ⟨some 22, .len (.t 21), none⟩, ⟨some 23, .mv (.k (.p (.int .i64 0))), none⟩]
def fn30r7 : List AO := [⟨some 24, .bin .lss (.t 23) (.t 22), none⟩]
def fn30n11 : ACode := .cond (.t 24) (.skip) (.exit 0)
def fn30r8 : List AO := [⟨some 25, .mv (.t 23), none⟩, ⟨some 8, .mv (.t 25), none⟩]
def fn30r9 : List AO := [⟨some 26, .mv (.t 0), none⟩, ⟨some 27, .mv (.t 8), none⟩, ⟨some 28, .ia 1 (.t 26) (.t 27), none⟩, ⟨some 29, .load false 1 (.t 28), none⟩, ⟨some 30, .conv .u64 (.t 29), none⟩, ⟨some 31, .mv (.t 7), none⟩, ⟨some 32, .bin .sub (.t 30) (.t 31), none⟩, ⟨some 9, .mv (.t 32), none⟩]
def fn30r10 : List AO := [⟨some 33, .mv (.t 8), none⟩, ⟨some 34, .mv (.t 1), none⟩, ⟨some 35, .len (.t 34), none⟩, ⟨some 36, .bin .lss (.t 33) (.t 35), none⟩]
def fn30r11 : List AO := [⟨some 37, .mv (.t 9), none⟩, ⟨some 38, .mv (.t 1), none⟩, ⟨some 39, .mv (.t 8), none⟩, ⟨some 40, .ia 1 (.t 38) (.t 39), none⟩, ⟨some 41, .load false 1 (.t 40), none⟩, ⟨some 42, .conv .u64 (.t 41), none⟩, ⟨some 43, .bin .sub (.t 37) (.t 42), none⟩, ⟨some 9, .mv (.t 43), none⟩]
def fn30n16 : ACode := .cond (.t 36) (.region fn30r11 false) (.skip)
def fn30n17 : ACode := .seq (.region fn30r10 false) (fn30n16)
def fn30r12 : List AO := [⟨some 44, .mv (.t 6), none⟩, ⟨some 45, .mv (.t 8), none⟩, ⟨some 46, .mv (.t 9), none⟩, ⟨some 47, .conv .u32 (.t 46), none⟩, ⟨some 48, .ia 1 (.t 44) (.t 45), none⟩, ⟨none, .store 1 (.t 48) (.t 47), none⟩]
def fn30r13 : List AO := [⟨some 49, .mv (.t 9), none⟩, ⟨some 50, .bin .shr (.t 49) (.k (.p (.int .u64 63))), none⟩, ⟨some 7, .mv (.t 50), none⟩]
def fn30n20 : ACode := .seq (.region fn30r12 false) (.region fn30r13 false)
def fn30n21 : ACode := .seq (fn30n17) (fn30n20)
def fn30n22 : ACode := .seq (.region fn30r9 false) (fn30n21)
def fn30n23 : ACode := .seq (.region fn30r8 false) (fn30n22)
def fn30n24 : ACode := .block 1 (fn30n23)
def fn30r14 : List AO := [⟨some 51, .bin .add (.t 23) (.k (.p (.int .i64 1))), none⟩, ⟨some 23, .mv (.t 51), none⟩]
def fn30n26 : ACode := .seq (fn30n24) (.region fn30r14 false)
def fn30n27 : ACode := .seq (fn30n11) (fn30n26)
def fn30n28 : ACode := .seq (.region fn30r7 false) (fn30n27)
def fn30n29 : ACode := .loop (fn30n28)
def fn30n30 : ACode := .block 0 (fn30n29)
def fn30n31 : ACode := .seq (.region fn30r6 false) (fn30n30)
def fn30r15 : List AO := [⟨some 52, .mv (.t 6), none⟩, ⟨some 53, .callR 100 7 [.t 52], none⟩, ⟨some 4, .mv (.t 53), none⟩, ⟨some 5, .mv (.k (.p (.bool true))), none⟩]
def fn30n33 : ACode := .seq (.region fn30r15 false) (.ret)
def fn30n34 : ACode := .seq (fn30n31) (fn30n33)
def fn30n35 : ACode := .seq (.region fn30r5 false) (fn30n34)
def fn30n36 : ACode := .seq (.region fn30r4 false) (fn30n35)
def fn30n37 : ACode := .seq (fn30n6) (fn30n36)
def fn30n38 : ACode := .seq (.region fn30r1 false) (fn30n37)
def fn30n39 : ACode := .seq (.region fn30r0 false) (fn30n38)
def fn30 : AFun := { nargs := 2, ntmps := 54, results := [.tmp 4, .tmp 5], body := fn30n39 }

/-- credence/sampler.power -/
def fn113r0 : List AO := [⟨some 2, .mv (.k (.e0)), none⟩]
def fn113r1 : List AO := [⟨some 4, .mv (.t 0), none⟩, ⟨some 5, .bin .quo (.t 4) (.k (.p (.int .i64 4))), none⟩, ⟨some 6, .bin .add (.t 5) (.k (.p (.int .i64 1))), none⟩, ⟨some 7, .mk 0 1 4 [.p (.int .u32 0)] (.t 6) (.t 6), none⟩, ⟨some 3, .mv (.t 7), none⟩]
def fn113r2 : List AO := [⟨some 8, .mv (.t 3), none⟩, ⟨some 9, .mv (.t 0), none⟩, ⟨some 10, .bin .quo (.t 9) (.k (.p (.int .i64 4))), none⟩, ⟨some 11, .mv (.t 0), none⟩, ⟨some 12, .bin .rem (.t 11) (.k (.p (.int .i64 4))), none⟩, ⟨some 13, .bin .mul (.k (.p (.int .i64 8))) (.t 12), none⟩, ⟨some 14, .bin .shl (.k (.p (.int .u32 1))) (.t 13), none⟩, ⟨some 15, .ia 1 (.t 8) (.t 10), none⟩, ⟨none, .store 1 (.t 15) (.t 14), none⟩]
def fn113r3 : List AO := [⟨some 16, .mv (.t 3), none⟩, ⟨some 2, .mv (.t 16), none⟩]
def fn113n4 : ACode := .seq (.region fn113r3 false) (.ret)
def fn113n5 : ACode := .seq (.region fn113r2 false) (fn113n4)
def fn113n6 : ACode := .seq (.region fn113r1 false) (fn113n5)
def fn113n7 : ACode := .seq (.region fn113r0 false) (fn113n6)
def fn113 : AFun := { nargs := 1, ntmps := 17, results := [.tmp 2], body := fn113n7 }

/-- credence/bignat.clone -/
def fn16r0 : List AO := [⟨some 2, .mv (.k (.e0)), none⟩]
def fn16r1 : List AO := [⟨some 3, .mv (.t 0), none⟩, ⟨some 4, .call 7 [.t 3], none⟩, ⟨some 0, .mv (.t 4), none⟩]
def fn16r2 : List AO := [⟨some 5, .mv (.t 0), none⟩, ⟨some 6, .len (.t 5), none⟩, ⟨some 7, .bin .eql (.t 6) (.k (.p (.int .i64 0))), none⟩]
def fn16r3 : List AO := [⟨some 2, .mv (.k (.e0)), none⟩]
def fn16n4 : ACode := .seq (.region fn16r3 false) (.ret)
def fn16n5 : ACode := .cond (.t 7) (fn16n4) (.skip)
def fn16n6 : ACode := .seq (.region fn16r2 false) (fn16n5)
def fn16r4 : List AO := [⟨some 8, .mv (.t 0), none⟩, ⟨some 9, .app 0 1 4 (.k (.e0)) (.t 8), none⟩, ⟨some 2, .mv (.t 9), none⟩]
def fn16n8 : ACode := .seq (.region fn16r4 false) (.ret)
def fn16n9 : ACode := .seq (fn16n6) (fn16n8)
def fn16n10 : ACode := .seq (.region fn16r1 false) (fn16n9)
def fn16n11 : ACode := .seq (.region fn16r0 false) (fn16n10)
def fn16 : AFun := { nargs := 1, ntmps := 10, results := [.tmp 2], body := fn16n11 }

/-- credence/bignat.divSmall -/
def fn21r0 : List AO := [⟨some 4, .mv (.k (.e0)), none⟩, ⟨some 5, .mv (.k (.p (.int .u32 0))), none⟩]
def fn21r1 : List AO := [⟨some 9, .mv (.t 0), none⟩, ⟨some 10, .len (.t 9), none⟩, ⟨some 11, .mk 0 1 4 [.p (.int .u32 0)] (.t 10) (.t 10), none⟩, ⟨some 6, .mv (.t 11), none⟩]
def fn21r2 : List AO := [⟨some 7, .mv (.k (.p (.int .u64 0))), none⟩]
def fn21r3 : List AO := [⟨some 12, .mv (.t 0), none⟩, ⟨some 13, .len (.t 12), none⟩, ⟨some 14, .bin .sub (.t 13) (.k (.p (.int .i64 1))), none⟩, ⟨some 8, .mv (.t 14), none⟩]
def fn21r4 : List AO := [⟨some 15, .mv (.t 8), none⟩, ⟨some 16, .bin .geq (.t 15) (.k (.p (.int .i64 0))), none⟩]
def fn21n5 : ACode := .cond (.t 16) (.skip) (.exit 0)
def fn21n6 : ACode := .seq (.region fn21r4 false) (fn21n5)
def fn21r6 : List AO := [⟨some 19, .mv (.t 7), none⟩, ⟨some 20, .bin .shl (.t 19) (.k (.p (.int .u64 32))), none⟩, ⟨some 21, .mv (.t 0), none⟩, ⟨some 22, .mv (.t 8), none⟩, ⟨some 23, .ia 1 (.t 21) (.t 22), none⟩, ⟨some 24, .load false 1 (.t 23), none⟩, ⟨some 25, .conv .u64 (.t 24), none⟩, ⟨some 26, .bin .or (.t 20) (.t 25), none⟩, ⟨some 7, .mv (.t 26), none⟩]
def fn21r7 : List AO := [⟨some 27, .mv (.t 6), none⟩, ⟨some 28, .mv (.t 8), none⟩, ⟨some 29, .mv (.t 7), none⟩, ⟨some 30, .mv (.t 1), none⟩, ⟨some 31, .conv .u64 (.t 30), none⟩, ⟨some 32, .bin .quo (.t 29) (.t 31), none⟩, ⟨some 33, .conv .u32 (.t 32), none⟩, ⟨some 34, .ia 1 (.t 27) (.t 28), none⟩, ⟨none, .store 1 (.t 34) (.t 33), none⟩]
def fn21r8 : List AO := [⟨some 35, .mv (.t 7), none⟩, ⟨some 36, .mv (.t 1), none⟩, ⟨some 37, .conv .u64 (.t 36), none⟩, ⟨some 38, .bin .rem (.t 35) (.t 37), none⟩, ⟨some 7, .mv (.t 38), none⟩]
def fn21n10 : ACode := .seq (.region fn21r7 false) (.region fn21r8 false)
def fn21n11 : ACode := .seq (.region fn21r6 false) (fn21n10)
def fn21n12 : ACode := .block 1 (fn21n11)
def fn21r5 : List AO := [⟨some 17, .mv (.t 8), none⟩, ⟨some 18, .bin .sub (.t 17) (.k (.p (.int .i64 1))), none⟩, ⟨some 8, .mv (.t 18), none⟩]
def fn21n14 : ACode := .seq (fn21n12) (.region fn21r5 false)
def fn21n15 : ACode := .seq (fn21n6) (fn21n14)
def fn21n16 : ACode := .loop (fn21n15)
def fn21n17 : ACode := .block 0 (fn21n16)
def fn21n18 : ACode := .seq (.region fn21r3 false) (fn21n17)
def fn21r9 : List AO := [⟨some 39, .mv (.t 6), none⟩, ⟨some 40, .callR 100 7 [.t 39], none⟩, ⟨some 41, .mv (.t 7), none⟩, ⟨some 42, .conv .u32 (.t 41), none⟩, ⟨some 4, .mv (.t 40), none⟩, ⟨some 5, .mv (.t 42), none⟩]
def fn21n20 : ACode := .seq (.region fn21r9 false) (.ret)
def fn21n21 : ACode := .seq (fn21n18) (fn21n20)
def fn21n22 : ACode := .seq (.region fn21r2 false) (fn21n21)
def fn21n23 : ACode := .seq (.region fn21r1 false) (fn21n22)
def fn21n24 : ACode := .seq (.region fn21r0 false) (fn21n23)
def fn21 : AFun := { nargs := 2, ntmps := 43, results := [.tmp 4, .tmp 5], body := fn21n24 }

/-- math/bits.LeadingZeros32 -/
def fn22r0 : List AO := [⟨some 2, .mv (.k (.p (.int .i64 0))), none⟩]
def fn22r1 : List AO := [⟨some 3, .mv (.t 0), none⟩, ⟨some 4, .call 8 [.t 3], none⟩, ⟨some 5, .bin .sub (.k (.p (.int .i64 32))) (.t 4), none⟩, ⟨some 2, .mv (.t 5), none⟩]
def fn22n2 : ACode := .seq (.region fn22r1 false) (.ret)
def fn22n3 : ACode := .seq (.region fn22r0 false) (fn22n2)
def fn22 : AFun := { nargs := 1, ntmps := 6, results := [.tmp 2], body := fn22n3 }

/-- credence/bignat.shiftLeft -/
def fn23r0 : List AO := [⟨some 6, .mv (.k (.e0)), none⟩]
def fn23r1 : List AO := [⟨some 10, .mv (.t 2), none⟩, ⟨some 11, .mk 0 1 4 [.p (.int .u32 0)] (.t 10) (.t 10), none⟩, ⟨some 7, .mv (.t 11), none⟩]
def fn23r2 : List AO := [⟨some 8, .mv (.k (.p (.int .u64 0))), none⟩]
def fn23r3 : List AO := [⟨some 12, .mv (.t 7), none⟩, ⟨some 13, .len (.t 12), none⟩, ⟨some 14, .mv (.k (.p (.int .i64 0))), none⟩]
def fn23r4 : List AO := [⟨some 15, .bin .lss (.t 14) (.t 13), none⟩]
def fn23n5 : ACode := .cond (.t 15) (.skip) (.exit 0)
def fn23r5 : List AO := [⟨some 16, .mv (.t 14), none⟩, ⟨some 9, .mv (.t 16), none⟩]
def fn23r6 : List AO := [⟨some 17, .mv (.t 9), none⟩, ⟨some 18, .mv (.t 0), none⟩, ⟨some 19, .len (.t 18), none⟩, ⟨some 20, .bin .lss (.t 17) (.t 19), none⟩]
def fn23r7 : List AO := [⟨some 21, .mv (.t 8), none⟩, ⟨some 22, .mv (.t 0), none⟩, ⟨some 23, .mv (.t 9), none⟩, ⟨some 24, .ia 1 (.t 22) (.t 23), none⟩, ⟨some 25, .load false 1 (.t 24), none⟩, ⟨some 26, .conv .u64 (.t 25), none⟩, ⟨some 27, .mv (.t 1), none⟩, ⟨some 28, .bin .shl (.t 26) (.t 27), none⟩, ⟨some 29, .bin .or (.t 21) (.t 28), none⟩, ⟨some 8, .mv (.t 29), none⟩]
def fn23n9 : ACode := .cond (.t 20) (.region fn23r7 false) (.skip)
def fn23n10 : ACode := .seq (.region fn23r6 false) (fn23n9)
def fn23r8 : List AO := [⟨some 30, .mv (.t 7), none⟩, ⟨some 31, .mv (.t 9), none⟩, ⟨some 32, .mv (.t 8), none⟩, ⟨some 33, .conv .u32 (.t 32), none⟩, ⟨some 34, .ia 1 (.t 30) (.t 31), none⟩, ⟨none, .store 1 (.t 34) (.t 33), none⟩]
def fn23r9 : List AO := [⟨some 35, .mv (.t 8), none⟩, ⟨some 36, .bin .shr (.t 35) (.k (.p (.int .u64 32))), none⟩, ⟨some 8, .mv (.t 36), none⟩]
def fn23n13 : ACode := .seq (.region fn23r8 false) (.region fn23r9 false)
def fn23n14 : ACode := .seq (fn23n10) (fn23n13)
def fn23n15 : ACode := .seq (.region fn23r5 false) (fn23n14)
def fn23n16 : ACode := .block 1 (fn23n15)
def fn23r10 : List AO := [⟨some 37, .bin .add (.t 14) (.k (.p (.int .i64 1))), none⟩, ⟨some 14, .mv (.t 37), none⟩]
def fn23n18 : ACode := .seq (fn23n16) (.region fn23r10 false)
def fn23n19 : ACode := .seq (fn23n5) (fn23n18)
def fn23n20 : ACode := .seq (.region fn23r4 false) (fn23n19)
def fn23n21 : ACode := .loop (fn23n20)
def fn23n22 : ACode := .block 0 (fn23n21)
def fn23n23 : ACode := .seq (.region fn23r3 false) (fn23n22)
def fn23r11 : List AO := [⟨some 38, .mv (.t 7), none⟩, ⟨some 6, .mv (.t 38), none⟩]
def fn23n25 : ACode := .seq (.region fn23r11 false) (.ret)
def fn23n26 : ACode := .seq (fn23n23) (fn23n25)
def fn23n27 : ACode := .seq (.region fn23r2 false) (fn23n26)
def fn23n28 : ACode := .seq (.region fn23r1 false) (fn23n27)
def fn23n29 : ACode := .seq (.region fn23r0 false) (fn23n28)
def fn23 : AFun := { nargs := 3, ntmps := 39, results := [.tmp 6], body := fn23n29 }

/-- credence/bignat.subtractScaled -/
def fn24r0 : List AO := [⟨some 6, .mv (.k (.p (.bool false))), none⟩]
def fn24r1 : List AO := [⟨some 7, .mv (.k (.p (.int .u64 0))), none⟩]
def fn24r2 : List AO := [⟨some 14, .mv (.t 1), none⟩, ⟨some 15, .len (.t 14), none⟩, ⟨some 16, .mv (.k (.p (.int .i64 0))), none⟩]
def fn24r3 : List AO := [⟨some 17, .bin .lss (.t 16) (.t 15), none⟩]
def fn24n4 : ACode := .cond (.t 17) (.skip) (.exit 0)
def fn24r4 : List AO := [⟨some 18, .mv (.t 16), none⟩, ⟨some 19, .ia 1 (.t 14) (.t 16), none⟩, ⟨some 20, .load false 1 (.t 19), none⟩, ⟨some 8, .mv (.t 18), none⟩, ⟨some 9, .mv (.t 20), none⟩]
def fn24r5 : List AO := [⟨some 21, .mv (.t 2), none⟩, ⟨some 22, .mv (.t 9), none⟩, ⟨some 23, .conv .u64 (.t 22), none⟩, ⟨some 24, .bin .mul (.t 21) (.t 23), none⟩, ⟨some 25, .mv (.t 7), none⟩, ⟨some 26, .bin .add (.t 24) (.t 25), none⟩, ⟨some 10, .mv (.t 26), none⟩]
def fn24r6 : List AO := [⟨some 27, .mv (.t 10), none⟩, ⟨some 28, .conv .u32 (.t 27), none⟩, ⟨some 11, .mv (.t 28), none⟩]
def fn24r7 : List AO := [⟨some 29, .mv (.t 10), none⟩, ⟨some 30, .bin .shr (.t 29) (.k (.p (.int .u64 32))), none⟩, ⟨some 7, .mv (.t 30), none⟩]
def fn24r8 : List AO := [⟨some 31, .mv (.t 0), none⟩, ⟨some 32, .mv (.t 8), none⟩, ⟨some 33, .ia 1 (.t 31) (.t 32), none⟩, ⟨some 34, .load false 1 (.t 33), none⟩, ⟨some 35, .mv (.t 11), none⟩, ⟨some 36, .bin .lss (.t 34) (.t 35), none⟩]
def fn24r9 : List AO := [⟨some 37, .mv (.t 7), none⟩, ⟨some 38, .bin .add (.t 37) (.k (.p (.int .u64 1))), none⟩, ⟨some 7, .mv (.t 38), none⟩]
def fn24n11 : ACode := .cond (.t 36) (.region fn24r9 false) (.skip)
def fn24n12 : ACode := .seq (.region fn24r8 false) (fn24n11)
def fn24r10 : List AO := [⟨some 39, .mv (.t 0), none⟩, ⟨some 40, .mv (.t 8), none⟩, ⟨some 41, .ia 1 (.t 39) (.t 40), none⟩, ⟨some 42, .load false 1 (.t 41), none⟩, ⟨some 43, .mv (.t 11), none⟩, ⟨some 44, .bin .sub (.t 42) (.t 43), none⟩, ⟨some 45, .ia 1 (.t 39) (.t 40), none⟩, ⟨none, .store 1 (.t 45) (.t 44), none⟩]
def fn24n14 : ACode := .seq (fn24n12) (.region fn24r10 false)
def fn24n15 : ACode := .seq (.region fn24r7 false) (fn24n14)
def fn24n16 : ACode := .seq (.region fn24r6 false) (fn24n15)
def fn24n17 : ACode := .seq (.region fn24r5 false) (fn24n16)
def fn24n18 : ACode := .seq (.region fn24r4 false) (fn24n17)
def fn24n19 : ACode := .block 1 (fn24n18)
def fn24r11 : List AO := [⟨some 46, .bin .add (.t 16) (.k (.p (.int .i64 1))), none⟩, ⟨some 16, .mv (.t 46), none⟩]
def fn24n21 : ACode := .seq (fn24n19) (.region fn24r11 false)
def fn24n22 : ACode := .seq (fn24n4) (fn24n21)
def fn24n23 : ACode := .seq (.region fn24r3 false) (fn24n22)
def fn24n24 : ACode := .loop (fn24n23)
def fn24n25 : ACode := .block 0 (fn24n24)
def fn24n26 : ACode := .seq (.region fn24r2 false) (fn24n25)
def fn24r12 : List AO := [⟨some 47, .mv (.t 0), none⟩, ⟨some 48, .len (.t 47), none⟩, ⟨some 49, .bin .sub (.t 48) (.k (.p (.int .i64 1))), none⟩, ⟨some 12, .mv (.t 49), none⟩]
def fn24r13 : List AO := [⟨some 50, .mv (.t 0), none⟩, ⟨some 51, .mv (.t 12), none⟩, ⟨some 52, .ia 1 (.t 50) (.t 51), none⟩, ⟨some 53, .load false 1 (.t 52), none⟩, ⟨some 54, .conv .u64 (.t 53), none⟩, ⟨some 55, .mv (.t 7), none⟩, ⟨some 56, .bin .lss (.t 54) (.t 55), none⟩, ⟨some 13, .mv (.t 56), none⟩]
def fn24r14 : List AO := [⟨some 57, .mv (.t 0), none⟩, ⟨some 58, .mv (.t 12), none⟩, ⟨some 59, .ia 1 (.t 57) (.t 58), none⟩, ⟨some 60, .load false 1 (.t 59), none⟩, ⟨some 61, .mv (.t 7), none⟩, ⟨some 62, .conv .u32 (.t 61), none⟩, ⟨some 63, .bin .sub (.t 60) (.t 62), none⟩, ⟨some 64, .ia 1 (.t 57) (.t 58), none⟩, ⟨none, .store 1 (.t 64) (.t 63), none⟩]
def fn24r15 : List AO := [⟨some 65, .mv (.t 13), none⟩, ⟨some 6, .mv (.t 65), none⟩]
def fn24n31 : ACode := .seq (.region fn24r15 false) (.ret)
def fn24n32 : ACode := .seq (.region fn24r14 false) (fn24n31)
def fn24n33 : ACode := .seq (.region fn24r13 false) (fn24n32)
def fn24n34 : ACode := .seq (.region fn24r12 false) (fn24n33)
def fn24n35 : ACode := .seq (fn24n26) (fn24n34)
def fn24n36 : ACode := .seq (.region fn24r1 false) (fn24n35)
def fn24n37 : ACode := .seq (.region fn24r0 false) (fn24n36)
def fn24 : AFun := { nargs := 3, ntmps := 66, results := [.tmp 6], body := fn24n37 }

/-- credence/bignat.addBack -/
def fn25r0 : List AO := [⟨some 4, .mv (.k (.p (.int .u64 0))), none⟩]
def fn25r1 : List AO := [⟨some 7, .mv (.t 1), none⟩, ⟨some 8, .len (.t 7), none⟩, ⟨some 9, .mv (.k (.p (.int .i64 0))), none⟩]
def fn25r2 : List AO := [⟨some 10, .bin .lss (.t 9) (.t 8), none⟩]
def fn25n3 : ACode := .cond (.t 10) (.skip) (.exit 0)
def fn25r3 : List AO := [⟨some 11, .mv (.t 9), none⟩, ⟨some 12, .ia 1 (.t 7) (.t 9), none⟩, ⟨some 13, .load false 1 (.t 12), none⟩, ⟨some 5, .mv (.t 11), none⟩, ⟨some 6, .mv (.t 13), none⟩]
def fn25r4 : List AO := [⟨some 14, .mv (.t 4), none⟩, ⟨some 15, .mv (.t 0), none⟩, ⟨some 16, .mv (.t 5), none⟩, ⟨some 17, .ia 1 (.t 15) (.t 16), none⟩, ⟨some 18, .load false 1 (.t 17), none⟩, ⟨some 19, .conv .u64 (.t 18), none⟩, ⟨some 20, .mv (.t 6), none⟩, ⟨some 21, .conv .u64 (.t 20), none⟩, ⟨some 22, .bin .add (.t 19) (.t 21), none⟩, ⟨some 23, .bin .add (.t 14) (.t 22), none⟩, ⟨some 4, .mv (.t 23), none⟩]
def fn25r5 : List AO := [⟨some 24, .mv (.t 0), none⟩, ⟨some 25, .mv (.t 5), none⟩, ⟨some 26, .mv (.t 4), none⟩, ⟨some 27, .conv .u32 (.t 26), none⟩, ⟨some 28, .ia 1 (.t 24) (.t 25), none⟩, ⟨none, .store 1 (.t 28) (.t 27), none⟩]
def fn25r6 : List AO := [⟨some 29, .mv (.t 4), none⟩, ⟨some 30, .bin .shr (.t 29) (.k (.p (.int .u64 32))), none⟩, ⟨some 4, .mv (.t 30), none⟩]
def fn25n8 : ACode := .seq (.region fn25r5 false) (.region fn25r6 false)
def fn25n9 : ACode := .seq (.region fn25r4 false) (fn25n8)
def fn25n10 : ACode := .seq (.region fn25r3 false) (fn25n9)
def fn25n11 : ACode := .block 1 (fn25n10)
def fn25r7 : List AO := [⟨some 31, .bin .add (.t 9) (.k (.p (.int .i64 1))), none⟩, ⟨some 9, .mv (.t 31), none⟩]
def fn25n13 : ACode := .seq (fn25n11) (.region fn25r7 false)
def fn25n14 : ACode := .seq (fn25n3) (fn25n13)
def fn25n15 : ACode := .seq (.region fn25r2 false) (fn25n14)
def fn25n16 : ACode := .loop (fn25n15)
def fn25n17 : ACode := .block 0 (fn25n16)
def fn25n18 : ACode := .seq (.region fn25r1 false) (fn25n17)
def fn25r8 : List AO := [⟨some 32, .mv (.t 0), none⟩, ⟨some 33, .mv (.t 0), none⟩, ⟨some 34, .len (.t 33), none⟩, ⟨some 35, .bin .sub (.t 34) (.k (.p (.int .i64 1))), none⟩, ⟨some 36, .ia 1 (.t 32) (.t 35), none⟩, ⟨some 37, .load false 1 (.t 36), none⟩, ⟨some 38, .mv (.t 4), none⟩, ⟨some 39, .conv .u32 (.t 38), none⟩, ⟨some 40, .bin .add (.t 37) (.t 39), none⟩, ⟨some 41, .ia 1 (.t 32) (.t 35), none⟩, ⟨none, .store 1 (.t 41) (.t 40), none⟩]
def fn25n20 : ACode := .seq (fn25n18) (.region fn25r8 false)
def fn25n21 : ACode := .seq (.region fn25r0 false) (fn25n20)
def fn25 : AFun := { nargs := 2, ntmps := 42, results := [], body := fn25n21 }

/-- credence/bignat.divLong -/
def fn26r0 : List AO := [⟨some 4, .mv (.k (.e0)), none⟩, ⟨some 5, .mv (.k (.e0)), none⟩]
def fn26r1 : List AO := [⟨some 19, .mv (.t 1), none⟩, ⟨some 20, .len (.t 19), none⟩, ⟨some 6, .mv (.t 20), none⟩]
def fn26r2 : List AO := [⟨some 21, .mv (.t 1), none⟩, ⟨some 22, .mv (.t 6), none⟩, ⟨some 23, .bin .sub (.t 22) (.k (.p (.int .i64 1))), none⟩, ⟨some 24, .ia 1 (.t 21) (.t 23), none⟩, ⟨some 25, .load false 1 (.t 24), none⟩, ⟨some 26, .call 22 [.t 25], none⟩, ⟨some 27, .conv .u64 (.t 26), none⟩, ⟨some 7, .mv (.t 27), none⟩]
def fn26r3 : List AO := [⟨some 28, .mv (.t 0), none⟩, ⟨some 29, .mv (.t 7), none⟩, ⟨some 30, .mv (.t 0), none⟩, ⟨some 31, .len (.t 30), none⟩, ⟨some 32, .bin .add (.t 31) (.k (.p (.int .i64 1))), none⟩, ⟨some 33, .callR 100 23 [.t 28, .t 29, .t 32], none⟩, ⟨some 8, .mv (.t 33), none⟩]
def fn26r4 : List AO := [⟨some 34, .mv (.t 1), none⟩, ⟨some 35, .mv (.t 7), none⟩, ⟨some 36, .mv (.t 6), none⟩, ⟨some 37, .call 23 [.t 34, .t 35, .t 36], none⟩, ⟨some 9, .mv (.t 37), none⟩]
def fn26r5 : List AO := [⟨some 38, .mv (.t 0), none⟩, ⟨some 39, .len (.t 38), none⟩, ⟨some 40, .mv (.t 6), none⟩, ⟨some 41, .bin .sub (.t 39) (.t 40), none⟩, ⟨some 42, .bin .add (.t 41) (.k (.p (.int .i64 1))), none⟩, ⟨some 43, .mk 0 1 4 [.p (.int .u32 0)] (.t 42) (.t 42), none⟩, ⟨some 10, .mv (.t 43), none⟩]
def fn26r6 : List AO := [⟨some 44, .mv (.t 9), none⟩, ⟨some 45, .mv (.t 6), none⟩, ⟨some 46, .bin .sub (.t 45) (.k (.p (.int .i64 1))), none⟩, ⟨some 47, .ia 1 (.t 44) (.t 46), none⟩, ⟨some 48, .load false 1 (.t 47), none⟩, ⟨some 49, .conv .u64 (.t 48), none⟩, ⟨some 50, .mv (.t 9), none⟩, ⟨some 51, .mv (.t 6), none⟩, ⟨some 52, .bin .sub (.t 51) (.k (.p (.int .i64 2))), none⟩, ⟨some 53, .ia 1 (.t 50) (.t 52), none⟩, ⟨some 54, .load false 1 (.t 53), none⟩, ⟨some 55, .conv .u64 (.t 54), none⟩, ⟨some 11, .mv (.t 49), none⟩, ⟨some 12, .mv (.t 55), none⟩]
def fn26r7 : List AO := [⟨some 56, .mv (.t 0), none⟩, ⟨some 57, .len (.t 56), none⟩, ⟨some 58, .mv (.t 6), none⟩, ⟨some 59, .bin .sub (.t 57) (.t 58), none⟩, ⟨some 13, .mv (.t 59), none⟩]
def fn26r8 : List AO := [⟨some 60, .mv (.t 13), none⟩, ⟨some 61, .bin .geq (.t 60) (.k (.p (.int .i64 0))), none⟩]
def fn26n9 : ACode := .cond (.t 61) (.skip) (.exit 0)
def fn26n10 : ACode := .seq (.region fn26r8 false) (fn26n9)
def fn26r10 : List AO := [⟨some 64, .mv (.t 8), none⟩, ⟨some 65, .mv (.t 13), none⟩, ⟨some 66, .mv (.t 6), none⟩, ⟨some 67, .bin .add (.t 65) (.t 66), none⟩, ⟨some 68, .ia 1 (.t 64) (.t 67), none⟩, ⟨some 69, .load false 1 (.t 68), none⟩, ⟨some 70, .conv .u64 (.t 69), none⟩, ⟨some 71, .bin .shl (.t 70) (.k (.p (.int .u64 32))), none⟩, ⟨some 72, .mv (.t 8), none⟩, ⟨some 73, .mv (.t 13), none⟩, ⟨some 74, .mv (.t 6), none⟩, ⟨some 75, .bin .add (.t 73) (.t 74), none⟩, ⟨some 76, .bin .sub (.t 75) (.k (.p (.int .i64 1))), none⟩, ⟨some 77, .ia 1 (.t 72) (.t 76), none⟩, ⟨some 78, .load false 1 (.t 77), none⟩, ⟨some 79, .conv .u64 (.t 78), none⟩, ⟨some 80, .bin .or (.t 71) (.t 79), none⟩, ⟨some 14, .mv (.t 80), none⟩]
def fn26r11 : List AO := [⟨some 81, .mv (.t 14), none⟩, ⟨some 82, .mv (.t 11), none⟩, ⟨some 83, .bin .quo (.t 81) (.t 82), none⟩, ⟨some 84, .mv (.t 14), none⟩, ⟨some 85, .mv (.t 11), none⟩, ⟨some 86, .bin .rem (.t 84) (.t 85), none⟩, ⟨some 15, .mv (.t 83), none⟩, ⟨some 16, .mv (.t 86), none⟩]
def fn26r12 : List AO := [⟨some 87, .mv (.t 15), none⟩, ⟨some 88, .bin .shr (.t 87) (.k (.p (.int .u64 32))), none⟩, ⟨some 89, .bin .neq (.t 88) (.k (.p (.int .u64 0))), none⟩, ⟨some 90, .mv (.t 89), none⟩, ⟨some 91, .mv (.t 15), (some (90, false))⟩, ⟨some 92, .mv (.t 12), (some (90, false))⟩, ⟨some 93, .bin .mul (.t 91) (.t 92), (some (90, false))⟩, ⟨some 94, .mv (.t 16), (some (90, false))⟩, ⟨some 95, .bin .shl (.t 94) (.k (.p (.int .u64 32))), (some (90, false))⟩, ⟨some 96, .mv (.t 8), (some (90, false))⟩, ⟨some 97, .mv (.t 13), (some (90, false))⟩, ⟨some 98, .mv (.t 6), (some (90, false))⟩, ⟨some 99, .bin .add (.t 97) (.t 98), (some (90, false))⟩, ⟨some 100, .bin .sub (.t 99) (.k (.p (.int .i64 2))), (some (90, false))⟩, ⟨some 101, .ia 1 (.t 96) (.t 100), (some (90, false))⟩, ⟨some 102, .load false 1 (.t 101), (some (90, false))⟩, ⟨some 103, .conv .u64 (.t 102), (some (90, false))⟩, ⟨some 104, .bin .or (.t 95) (.t 103), (some (90, false))⟩, ⟨some 105, .bin .gtr (.t 93) (.t 104), (some (90, false))⟩, ⟨some 106, .pick (.t 90) (.k (.p (.bool true))) (.t 105), none⟩]
def fn26n14 : ACode := .cond (.t 106) (.skip) (.exit 2)
def fn26n15 : ACode := .seq (.region fn26r12 false) (fn26n14)
def fn26r13 : List AO := [⟨some 107, .mv (.t 15), none⟩, ⟨some 108, .bin .sub (.t 107) (.k (.p (.int .u64 1))), none⟩, ⟨some 15, .mv (.t 108), none⟩]
def fn26r14 : List AO := [⟨some 109, .mv (.t 16), none⟩, ⟨some 110, .mv (.t 11), none⟩, ⟨some 111, .bin .add (.t 109) (.t 110), none⟩, ⟨some 16, .mv (.t 111), none⟩]
def fn26r15 : List AO := [⟨some 112, .mv (.t 16), none⟩, ⟨some 113, .bin .shr (.t 112) (.k (.p (.int .u64 32))), none⟩, ⟨some 114, .bin .neq (.t 113) (.k (.p (.int .u64 0))), none⟩]
def fn26n19 : ACode := .cond (.t 114) (.exit 2) (.skip)
def fn26n20 : ACode := .seq (.region fn26r15 false) (fn26n19)
def fn26n21 : ACode := .seq (.region fn26r14 false) (fn26n20)
def fn26n22 : ACode := .seq (.region fn26r13 false) (fn26n21)
def fn26n23 : ACode := .block 3 (fn26n22)
def fn26n24 : ACode := .seq (fn26n15) (fn26n23)
def fn26n25 : ACode := .loop (fn26n24)
def fn26n26 : ACode := .block 2 (fn26n25)
def fn26r16 : List AO := [⟨some 115, .mv (.t 8), none⟩, ⟨some 116, .mv (.t 13), none⟩, ⟨some 117, .mv (.t 13), none⟩, ⟨some 118, .mv (.t 6), none⟩, ⟨some 119, .bin .add (.t 117) (.t 118), none⟩, ⟨some 120, .bin .add (.t 119) (.k (.p (.int .i64 1))), none⟩, ⟨some 121, .slice 1 (.t 115) (some (.t 116)) (some (.t 120)) none, none⟩, ⟨some 122, .mv (.t 9), none⟩, ⟨some 123, .mv (.t 15), none⟩, ⟨some 124, .callR 200 24 [.t 121, .t 122, .t 123], none⟩]
def fn26r17 : List AO := [⟨some 125, .mv (.t 15), none⟩, ⟨some 126, .bin .sub (.t 125) (.k (.p (.int .u64 1))), none⟩, ⟨some 15, .mv (.t 126), none⟩]
def fn26r18 : List AO := [⟨some 127, .mv (.t 8), none⟩, ⟨some 128, .mv (.t 13), none⟩, ⟨some 129, .mv (.t 13), none⟩, ⟨some 130, .mv (.t 6), none⟩, ⟨some 131, .bin .add (.t 129) (.t 130), none⟩, ⟨some 132, .bin .add (.t 131) (.k (.p (.int .i64 1))), none⟩, ⟨some 133, .slice 1 (.t 127) (some (.t 128)) (some (.t 132)) none, none⟩, ⟨some 134, .mv (.t 9), none⟩, ⟨some 135, .callR 300 25 [.t 133, .t 134], none⟩]
def fn26n30 : ACode := .seq (.region fn26r17 false) (.region fn26r18 false)
def fn26n31 : ACode := .cond (.t 124) (fn26n30) (.skip)
def fn26n32 : ACode := .seq (.region fn26r16 false) (fn26n31)
def fn26r19 : List AO := [⟨some 136, .mv (.t 10), none⟩, ⟨some 137, .mv (.t 13), none⟩, ⟨some 138, .mv (.t 15), none⟩, ⟨some 139, .conv .u32 (.t 138), none⟩, ⟨some 140, .ia 1 (.t 136) (.t 137), none⟩, ⟨none, .store 1 (.t 140) (.t 139), none⟩]
def fn26n34 : ACode := .seq (fn26n32) (.region fn26r19 false)
def fn26n35 : ACode := .seq (fn26n26) (fn26n34)
def fn26n36 : ACode := .seq (.region fn26r11 true) (fn26n35)
def fn26n37 : ACode := .seq (.region fn26r10 true) (fn26n36)
def fn26n38 : ACode := .block 1 (fn26n37)
def fn26r9 : List AO := [⟨some 62, .mv (.t 13), none⟩, ⟨some 63, .bin .sub (.t 62) (.k (.p (.int .i64 1))), none⟩, ⟨some 13, .mv (.t 63), none⟩]
def fn26n40 : ACode := .seq (fn26n38) (.region fn26r9 false)
def fn26n41 : ACode := .seq (fn26n10) (fn26n40)
def fn26n42 : ACode := .loop (fn26n41)
def fn26n43 : ACode := .block 0 (fn26n42)
def fn26n44 : ACode := .seq (.region fn26r7 false) (fn26n43)
def fn26r20 : List AO := [⟨some 141, .mv (.t 6), none⟩, ⟨some 142, .mk 1 1 4 [.p (.int .u32 0)] (.t 141) (.t 141), none⟩, ⟨some 17, .mv (.t 142), none⟩]
def fn26r21 : List AO := [⟨some 143, .mv (.t 17), none⟩, ⟨some 144, .len (.t 143), none⟩, ⟨some 145, .mv (.k (.p (.int .i64 0))), none⟩]
def fn26r22 : List AO := [⟨some 146, .bin .lss (.t 145) (.t 144), none⟩]
def fn26n48 : ACode := .cond (.t 146) (.skip) (.exit 4)
def fn26r23 : List AO := [⟨some 147, .mv (.t 145), none⟩, ⟨some 18, .mv (.t 147), none⟩]
def fn26r24 : List AO := [⟨some 148, .mv (.t 17), none⟩, ⟨some 149, .mv (.t 18), none⟩, ⟨some 150, .mv (.t 8), none⟩, ⟨some 151, .mv (.t 18), none⟩, ⟨some 152, .bin .add (.t 151) (.k (.p (.int .i64 1))), none⟩, ⟨some 153, .ia 1 (.t 150) (.t 152), none⟩, ⟨some 154, .load false 1 (.t 153), none⟩, ⟨some 155, .conv .u64 (.t 154), none⟩, ⟨some 156, .bin .shl (.t 155) (.k (.p (.int .u64 32))), none⟩, ⟨some 157, .mv (.t 8), none⟩, ⟨some 158, .mv (.t 18), none⟩, ⟨some 159, .ia 1 (.t 157) (.t 158), none⟩, ⟨some 160, .load false 1 (.t 159), none⟩, ⟨some 161, .conv .u64 (.t 160), none⟩, ⟨some 162, .bin .or (.t 156) (.t 161), none⟩, ⟨some 163, .mv (.t 7), none⟩, ⟨some 164, .bin .shr (.t 162) (.t 163), none⟩, ⟨some 165, .conv .u32 (.t 164), none⟩, ⟨some 166, .ia 1 (.t 148) (.t 149), none⟩, ⟨none, .store 1 (.t 166) (.t 165), none⟩]
def fn26n51 : ACode := .seq (.region fn26r23 false) (.region fn26r24 true)
def fn26n52 : ACode := .block 5 (fn26n51)
def fn26r25 : List AO := [⟨some 167, .bin .add (.t 145) (.k (.p (.int .i64 1))), none⟩, ⟨some 145, .mv (.t 167), none⟩]
def fn26n54 : ACode := .seq (fn26n52) (.region fn26r25 false)
def fn26n55 : ACode := .seq (fn26n48) (fn26n54)
def fn26n56 : ACode := .seq (.region fn26r22 false) (fn26n55)
def fn26n57 : ACode := .loop (fn26n56)
def fn26n58 : ACode := .block 4 (fn26n57)
def fn26n59 : ACode := .seq (.region fn26r21 false) (fn26n58)
def fn26r26 : List AO := [⟨some 168, .mv (.t 10), none⟩, ⟨some 169, .callR 400 7 [.t 168], none⟩, ⟨some 170, .mv (.t 17), none⟩, ⟨some 171, .callR 500 7 [.t 170], none⟩, ⟨some 4, .mv (.t 169), none⟩, ⟨some 5, .mv (.t 171), none⟩]
def fn26n61 : ACode := .seq (.region fn26r26 false) (.ret)
def fn26n62 : ACode := .seq (fn26n59) (fn26n61)
def fn26n63 : ACode := .seq (.region fn26r20 false) (fn26n62)
def fn26n64 : ACode := .seq (fn26n44) (fn26n63)
def fn26n65 : ACode := .seq (.region fn26r6 true) (fn26n64)
def fn26n66 : ACode := .seq (.region fn26r5 false) (fn26n65)
def fn26n67 : ACode := .seq (.region fn26r4 false) (fn26n66)
def fn26n68 : ACode := .seq (.region fn26r3 false) (fn26n67)
def fn26n69 : ACode := .seq (.region fn26r2 false) (fn26n68)
def fn26n70 : ACode := .seq (.region fn26r1 false) (fn26n69)
def fn26n71 : ACode := .seq (.region fn26r0 false) (fn26n70)
def fn26 : AFun := { nargs := 2, ntmps := 172, results := [.tmp 4, .tmp 5], body := fn26n71 }

/-- credence/bignat.DivMod -/
def fn27r0 : List AO := [⟨some 4, .mv (.k (.e0)), none⟩, ⟨some 5, .mv (.k (.e0)), none⟩, ⟨some 6, .mv (.k (.p (.bool false))), none⟩]
def fn27r1 : List AO := [⟨some 11, .mv (.t 0), none⟩, ⟨some 12, .call 7 [.t 11], none⟩, ⟨some 13, .mv (.t 1), none⟩, ⟨some 14, .call 7 [.t 13], none⟩, ⟨some 0, .mv (.t 12), none⟩, ⟨some 1, .mv (.t 14), none⟩]
def fn27r2 : List AO := [⟨some 16, .mv (.t 1), none⟩, ⟨some 17, .len (.t 16), none⟩, ⟨some 18, .bin .eql (.t 17) (.k (.p (.int .i64 0))), none⟩, ⟨some 15, .mv (.t 18), none⟩]
def fn27r3 : List AO := [⟨some 4, .mv (.k (.e0)), none⟩, ⟨some 5, .mv (.k (.e0)), none⟩, ⟨some 6, .mv (.k (.p (.bool false))), none⟩]
def fn27n4 : ACode := .seq (.region fn27r3 false) (.ret)
def fn27r4 : List AO := [⟨some 20, .mv (.t 0), none⟩, ⟨some 21, .mv (.t 1), none⟩, ⟨some 22, .call 13 [.t 20, .t 21], none⟩, ⟨some 23, .bin .lss (.t 22) (.k (.p (.int .i64 0))), none⟩, ⟨some 19, .mv (.t 23), none⟩]
def fn27r5 : List AO := [⟨some 24, .mv (.t 0), none⟩, ⟨some 25, .call 16 [.t 24], none⟩, ⟨some 4, .mv (.k (.e0)), none⟩, ⟨some 5, .mv (.t 25), none⟩, ⟨some 6, .mv (.k (.p (.bool true))), none⟩]
def fn27n7 : ACode := .seq (.region fn27r5 false) (.ret)
def fn27r6 : List AO := [⟨some 27, .mv (.t 1), none⟩, ⟨some 28, .len (.t 27), none⟩, ⟨some 29, .bin .eql (.t 28) (.k (.p (.int .i64 1))), none⟩, ⟨some 26, .mv (.t 29), none⟩]
def fn27r7 : List AO := [⟨some 31, .mv (.t 0), none⟩, ⟨some 32, .mv (.t 1), none⟩, ⟨some 33, .ia 1 (.t 32) (.k (.p (.int .i64 0))), none⟩, ⟨some 34, .load false 1 (.t 33), none⟩, ⟨some 35, .call 21 [.t 31, .t 34], none⟩, ⟨some 30, .mv (.t 35), none⟩, ⟨some 36, .ext 0 (.t 30), none⟩, ⟨some 37, .ext 1 (.t 30), none⟩, ⟨some 7, .mv (.t 36), none⟩, ⟨some 8, .mv (.t 37), none⟩]
def fn27r8 : List AO := [⟨some 38, .mv (.t 7), none⟩, ⟨some 39, .mv (.t 8), none⟩, ⟨some 40, .conv .u64 (.t 39), none⟩, ⟨some 41, .call 19 [.t 40], none⟩, ⟨some 4, .mv (.t 38), none⟩, ⟨some 5, .mv (.t 41), none⟩, ⟨some 6, .mv (.k (.p (.bool true))), none⟩]
def fn27n11 : ACode := .seq (.region fn27r8 false) (.ret)
def fn27n12 : ACode := .seq (.region fn27r7 false) (fn27n11)
def fn27n13 : ACode := .cond (.t 26) (fn27n12) (.skip)
def fn27n14 : ACode := .seq (.region fn27r6 false) (fn27n13)
def fn27n15 : ACode := .cond (.t 19) (fn27n7) (fn27n14)
def fn27n16 : ACode := .seq (.region fn27r4 false) (fn27n15)
def fn27n17 : ACode := .cond (.t 15) (fn27n4) (fn27n16)
def fn27n18 : ACode := .seq (.region fn27r2 false) (fn27n17)
def fn27n19 : ACode := .block 0 (fn27n18)
def fn27r9 : List AO := [⟨some 43, .mv (.t 0), none⟩, ⟨some 44, .mv (.t 1), none⟩, ⟨some 45, .call 26 [.t 43, .t 44], none⟩, ⟨some 42, .mv (.t 45), none⟩, ⟨some 46, .ext 0 (.t 42), none⟩, ⟨some 47, .ext 1 (.t 42), none⟩, ⟨some 9, .mv (.t 46), none⟩, ⟨some 10, .mv (.t 47), none⟩]
def fn27r10 : List AO := [⟨some 48, .mv (.t 9), none⟩, ⟨some 49, .mv (.t 10), none⟩, ⟨some 4, .mv (.t 48), none⟩, ⟨some 5, .mv (.t 49), none⟩, ⟨some 6, .mv (.k (.p (.bool true))), none⟩]
def fn27n22 : ACode := .seq (.region fn27r10 false) (.ret)
def fn27n23 : ACode := .seq (.region fn27r9 false) (fn27n22)
def fn27n24 : ACode := .seq (fn27n19) (fn27n23)
def fn27n25 : ACode := .seq (.region fn27r1 false) (fn27n24)
def fn27n26 : ACode := .seq (.region fn27r0 false) (fn27n25)
def fn27 : AFun := { nargs := 2, ntmps := 50, results := [.tmp 4, .tmp 5, .tmp 6], body := fn27n26 }

/-- credence/bignat.Mul -/
def fn14r0 : List AO := [⟨some 4, .mv (.k (.e0)), none⟩]
def fn14r1 : List AO := [⟨some 11, .mv (.t 0), none⟩, ⟨some 12, .call 7 [.t 11], none⟩, ⟨some 13, .mv (.t 1), none⟩, ⟨some 14, .call 7 [.t 13], none⟩, ⟨some 0, .mv (.t 12), none⟩, ⟨some 1, .mv (.t 14), none⟩]
def fn14r2 : List AO := [⟨some 15, .mv (.t 0), none⟩, ⟨some 16, .len (.t 15), none⟩, ⟨some 17, .bin .eql (.t 16) (.k (.p (.int .i64 0))), none⟩, ⟨some 18, .mv (.t 17), none⟩, ⟨some 19, .mv (.t 1), (some (18, false))⟩, ⟨some 20, .len (.t 19), (some (18, false))⟩, ⟨some 21, .bin .eql (.t 20) (.k (.p (.int .i64 0))), (some (18, false))⟩, ⟨some 22, .pick (.t 18) (.k (.p (.bool true))) (.t 21), none⟩]
def fn14r3 : List AO := [⟨some 4, .mv (.k (.e0)), none⟩]
def fn14n4 : ACode := .seq (.region fn14r3 false) (.ret)
def fn14n5 : ACode := .cond (.t 22) (fn14n4) (.skip)
def fn14n6 : ACode := .seq (.region fn14r2 false) (fn14n5)
def fn14r4 : List AO := [⟨some 23, .mv (.t 0), none⟩, ⟨some 24, .len (.t 23), none⟩, ⟨some 25, .mv (.t 1), none⟩, ⟨some 26, .len (.t 25), none⟩, ⟨some 27, .bin .add (.t 24) (.t 26), none⟩, ⟨some 28, .mk 0 1 4 [.p (.int .u32 0)] (.t 27) (.t 27), none⟩, ⟨some 5, .mv (.t 28), none⟩]
def fn14r5 : List AO := [⟨some 29, .mv (.t 0), none⟩, ⟨some 30, .len (.t 29), none⟩, ⟨some 31, .mv (.k (.p (.int .i64 0))), none⟩]
def fn14r6 : List AO := [⟨some 32, .bin .lss (.t 31) (.t 30), none⟩]
def fn14n10 : ACode := .cond (.t 32) (.skip) (.exit 0)
def fn14r7 : List AO := [⟨some 33, .mv (.t 31), none⟩, ⟨some 34, .ia 1 (.t 29) (.t 31), none⟩, ⟨some 35, .load false 1 (.t 34), none⟩, ⟨some 6, .mv (.t 33), none⟩, ⟨some 7, .mv (.t 35), none⟩]
def fn14r8 : List AO := [⟨some 8, .mv (.k (.p (.int .u64 0))), none⟩]
def fn14r9 : List AO := [⟨some 36, .mv (.t 1), none⟩, ⟨some 37, .len (.t 36), none⟩, ⟨some 38, .mv (.k (.p (.int .i64 0))), none⟩]
def fn14r10 : List AO := [⟨some 39, .bin .lss (.t 38) (.t 37), none⟩]
def fn14n15 : ACode := .cond (.t 39) (.skip) (.exit 2)
def fn14r11 : List AO := [⟨some 40, .mv (.t 38), none⟩, ⟨some 41, .ia 1 (.t 36) (.t 38), none⟩, ⟨some 42, .load false 1 (.t 41), none⟩, ⟨some 9, .mv (.t 40), none⟩, ⟨some 10, .mv (.t 42), none⟩]
def fn14r12 : List AO := [⟨some 43, .mv (.t 8), none⟩, ⟨some 44, .mv (.t 7), none⟩, ⟨some 45, .conv .u64 (.t 44), none⟩, ⟨some 46, .mv (.t 10), none⟩, ⟨some 47, .conv .u64 (.t 46), none⟩, ⟨some 48, .bin .mul (.t 45) (.t 47), none⟩, ⟨some 49, .mv (.t 5), none⟩, ⟨some 50, .mv (.t 6), none⟩, ⟨some 51, .mv (.t 9), none⟩, ⟨some 52, .bin .add (.t 50) (.t 51), none⟩, ⟨some 53, .ia 1 (.t 49) (.t 52), none⟩, ⟨some 54, .load false 1 (.t 53), none⟩, ⟨some 55, .conv .u64 (.t 54), none⟩, ⟨some 56, .bin .add (.t 48) (.t 55), none⟩, ⟨some 57, .bin .add (.t 43) (.t 56), none⟩, ⟨some 8, .mv (.t 57), none⟩]
def fn14r13 : List AO := [⟨some 58, .mv (.t 5), none⟩, ⟨some 59, .mv (.t 6), none⟩, ⟨some 60, .mv (.t 9), none⟩, ⟨some 61, .bin .add (.t 59) (.t 60), none⟩, ⟨some 62, .mv (.t 8), none⟩, ⟨some 63, .conv .u32 (.t 62), none⟩, ⟨some 64, .ia 1 (.t 58) (.t 61), none⟩, ⟨none, .store 1 (.t 64) (.t 63), none⟩]
def fn14r14 : List AO := [⟨some 65, .mv (.t 8), none⟩, ⟨some 66, .bin .shr (.t 65) (.k (.p (.int .u64 32))), none⟩, ⟨some 8, .mv (.t 66), none⟩]
def fn14n20 : ACode := .seq (.region fn14r13 false) (.region fn14r14 false)
def fn14n21 : ACode := .seq (.region fn14r12 false) (fn14n20)
def fn14n22 : ACode := .seq (.region fn14r11 false) (fn14n21)
def fn14n23 : ACode := .block 3 (fn14n22)
def fn14r15 : List AO := [⟨some 67, .bin .add (.t 38) (.k (.p (.int .i64 1))), none⟩, ⟨some 38, .mv (.t 67), none⟩]
def fn14n25 : ACode := .seq (fn14n23) (.region fn14r15 false)
def fn14n26 : ACode := .seq (fn14n15) (fn14n25)
def fn14n27 : ACode := .seq (.region fn14r10 false) (fn14n26)
def fn14n28 : ACode := .loop (fn14n27)
def fn14n29 : ACode := .block 2 (fn14n28)
def fn14n30 : ACode := .seq (.region fn14r9 false) (fn14n29)
def fn14r16 : List AO := [⟨some 68, .mv (.t 5), none⟩, ⟨some 69, .mv (.t 6), none⟩, ⟨some 70, .mv (.t 1), none⟩, ⟨some 71, .len (.t 70), none⟩, ⟨some 72, .bin .add (.t 69) (.t 71), none⟩, ⟨some 73, .mv (.t 8), none⟩, ⟨some 74, .conv .u32 (.t 73), none⟩, ⟨some 75, .ia 1 (.t 68) (.t 72), none⟩, ⟨none, .store 1 (.t 75) (.t 74), none⟩]
def fn14n32 : ACode := .seq (fn14n30) (.region fn14r16 false)
def fn14n33 : ACode := .seq (.region fn14r8 false) (fn14n32)
def fn14n34 : ACode := .seq (.region fn14r7 false) (fn14n33)
def fn14n35 : ACode := .block 1 (fn14n34)
def fn14r17 : List AO := [⟨some 76, .bin .add (.t 31) (.k (.p (.int .i64 1))), none⟩, ⟨some 31, .mv (.t 76), none⟩]
def fn14n37 : ACode := .seq (fn14n35) (.region fn14r17 false)
def fn14n38 : ACode := .seq (fn14n10) (fn14n37)
def fn14n39 : ACode := .seq (.region fn14r6 false) (fn14n38)
def fn14n40 : ACode := .loop (fn14n39)
def fn14n41 : ACode := .block 0 (fn14n40)
def fn14n42 : ACode := .seq (.region fn14r5 false) (fn14n41)
def fn14r18 : List AO := [⟨some 77, .mv (.t 5), none⟩, ⟨some 78, .callR 100 7 [.t 77], none⟩, ⟨some 4, .mv (.t 78), none⟩]
def fn14n44 : ACode := .seq (.region fn14r18 false) (.ret)
def fn14n45 : ACode := .seq (fn14n42) (fn14n44)
def fn14n46 : ACode := .seq (.region fn14r4 false) (fn14n45)
def fn14n47 : ACode := .seq (fn14n6) (fn14n46)
def fn14n48 : ACode := .seq (.region fn14r1 false) (fn14n47)
def fn14n49 : ACode := .seq (.region fn14r0 false) (fn14n48)
def fn14 : AFun := { nargs := 2, ntmps := 79, results := [.tmp 4], body := fn14n49 }

/-- credence/bignat.Normalize -/
def fn17r0 : List AO := [⟨some 2, .mv (.k (.e0)), none⟩]
def fn17r1 : List AO := [⟨some 3, .mv (.t 0), none⟩, ⟨some 4, .call 16 [.t 3], none⟩, ⟨some 2, .mv (.t 4), none⟩]
def fn17n2 : ACode := .seq (.region fn17r1 false) (.ret)
def fn17n3 : ACode := .seq (.region fn17r0 false) (fn17n2)
def fn17 : AFun := { nargs := 1, ntmps := 5, results := [.tmp 2], body := fn17n3 }

/-- credence/sampler.number -/
def fn114r0 : List AO := [⟨some 2, .mv (.k (.e0)), none⟩]
def fn114r1 : List AO := [⟨some 7, .mv (.t 0), none⟩, ⟨some 8, .len (.t 7), none⟩, ⟨some 9, .bin .add (.t 8) (.k (.p (.int .i64 3))), none⟩, ⟨some 10, .bin .quo (.t 9) (.k (.p (.int .i64 4))), none⟩, ⟨some 11, .mk 0 1 4 [.p (.int .u32 0)] (.t 10) (.t 10), none⟩, ⟨some 3, .mv (.t 11), none⟩]
def fn114r2 : List AO := [⟨some 12, .mv (.t 0), none⟩, ⟨some 13, .len (.t 12), none⟩, ⟨some 14, .mv (.k (.p (.int .i64 0))), none⟩]
def fn114r3 : List AO := [⟨some 15, .bin .lss (.t 14) (.t 13), none⟩]
def fn114n4 : ACode := .cond (.t 15) (.skip) (.exit 0)
def fn114r4 : List AO := [⟨some 16, .mv (.t 14), none⟩, ⟨some 17, .ia 1 (.t 12) (.t 14), none⟩, ⟨some 18, .load false 1 (.t 17), none⟩, ⟨some 4, .mv (.t 16), none⟩, ⟨some 5, .mv (.t 18), none⟩]
def fn114r5 : List AO := [⟨some 19, .mv (.t 0), none⟩, ⟨some 20, .len (.t 19), none⟩, ⟨some 21, .bin .sub (.t 20) (.k (.p (.int .i64 1))), none⟩, ⟨some 22, .mv (.t 4), none⟩, ⟨some 23, .bin .sub (.t 21) (.t 22), none⟩, ⟨some 6, .mv (.t 23), none⟩]
def fn114r6 : List AO := [⟨some 24, .mv (.t 3), none⟩, ⟨some 25, .mv (.t 6), none⟩, ⟨some 26, .bin .quo (.t 25) (.k (.p (.int .i64 4))), none⟩, ⟨some 27, .ia 1 (.t 24) (.t 26), none⟩, ⟨some 28, .load false 1 (.t 27), none⟩, ⟨some 29, .mv (.t 5), none⟩, ⟨some 30, .conv .u32 (.t 29), none⟩, ⟨some 31, .mv (.t 6), none⟩, ⟨some 32, .bin .rem (.t 31) (.k (.p (.int .i64 4))), none⟩, ⟨some 33, .bin .mul (.k (.p (.int .i64 8))) (.t 32), none⟩, ⟨some 34, .bin .shl (.t 30) (.t 33), none⟩, ⟨some 35, .bin .or (.t 28) (.t 34), none⟩, ⟨some 36, .ia 1 (.t 24) (.t 26), none⟩, ⟨none, .store 1 (.t 36) (.t 35), none⟩]
def fn114n8 : ACode := .seq (.region fn114r5 false) (.region fn114r6 true)
def fn114n9 : ACode := .seq (.region fn114r4 false) (fn114n8)
def fn114n10 : ACode := .block 1 (fn114n9)
def fn114r7 : List AO := [⟨some 37, .bin .add (.t 14) (.k (.p (.int .i64 1))), none⟩, ⟨some 14, .mv (.t 37), none⟩]
def fn114n12 : ACode := .seq (fn114n10) (.region fn114r7 false)
def fn114n13 : ACode := .seq (fn114n4) (fn114n12)
def fn114n14 : ACode := .seq (.region fn114r3 false) (fn114n13)
def fn114n15 : ACode := .loop (fn114n14)
def fn114n16 : ACode := .block 0 (fn114n15)
def fn114n17 : ACode := .seq (.region fn114r2 false) (fn114n16)
def fn114r8 : List AO := [⟨some 38, .mv (.t 3), none⟩, ⟨some 39, .callR 100 17 [.t 38], none⟩, ⟨some 2, .mv (.t 39), none⟩]
def fn114n19 : ACode := .seq (.region fn114r8 false) (.ret)
def fn114n20 : ACode := .seq (fn114n17) (fn114n19)
def fn114n21 : ACode := .seq (.region fn114r1 false) (fn114n20)
def fn114n22 : ACode := .seq (.region fn114r0 false) (fn114n21)
def fn114 : AFun := { nargs := 1, ntmps := 40, results := [.tmp 2], body := fn114n22 }

/-- credence/sampler.below -/
def fn115r0 : List AO := [⟨some 4, .mv (.k (.e0)), none⟩, ⟨some 5, .mv (.k (.p (.int .i64 0))), none⟩, ⟨some 6, .mv (.k (.p (.int .i64 0))), none⟩]
def fn115r1 : List AO := [⟨some 21, .mv (.t 0), none⟩, ⟨some 22, .call 9 [.t 21], none⟩, ⟨some 7, .mv (.t 22), none⟩]
def fn115r2 : List AO := [⟨some 23, .mv (.t 7), none⟩, ⟨some 24, .bin .eql (.t 23) (.k (.p (.int .i64 0))), none⟩]
def fn115r3 : List AO := [⟨some 4, .mv (.k (.e0)), none⟩, ⟨some 5, .mv (.k (.p (.int .i64 0))), none⟩, ⟨some 6, .mv (.k (.p (.int .i64 1))), none⟩]
def fn115n4 : ACode := .seq (.region fn115r3 false) (.ret)
def fn115n5 : ACode := .cond (.t 24) (fn115n4) (.skip)
def fn115n6 : ACode := .seq (.region fn115r2 false) (fn115n5)
def fn115r4 : List AO := [⟨some 25, .call 19 [.k (.p (.int .u64 1))], none⟩, ⟨some 8, .mv (.t 25), none⟩]
def fn115r5 : List AO := [⟨some 27, .mv (.t 0), none⟩, ⟨some 28, .mv (.t 8), none⟩, ⟨some 29, .call 30 [.t 27, .t 28], none⟩, ⟨some 26, .mv (.t 29), none⟩, ⟨some 30, .ext 0 (.t 26), none⟩, ⟨some 31, .ext 1 (.t 26), none⟩, ⟨some 9, .mv (.t 30), none⟩, ⟨some 10, .mv (.t 31), none⟩]
def fn115r6 : List AO := [⟨some 32, .mv (.t 9), none⟩, ⟨some 33, .call 9 [.t 32], none⟩, ⟨some 34, .bin .add (.t 33) (.k (.p (.int .i64 7))), none⟩, ⟨some 35, .bin .quo (.t 34) (.k (.p (.int .i64 8))), none⟩, ⟨some 11, .mv (.t 35), none⟩]
def fn115r7 : List AO := [⟨some 37, .mv (.t 11), none⟩, ⟨some 38, .call 113 [.t 37], none⟩, ⟨some 39, .mv (.t 0), none⟩, ⟨some 40, .call 27 [.t 38, .t 39], none⟩, ⟨some 36, .mv (.t 40), none⟩, ⟨some 41, .ext 0 (.t 36), none⟩, ⟨some 42, .ext 1 (.t 36), none⟩, ⟨some 43, .ext 2 (.t 36), none⟩, ⟨some 12, .mv (.t 41), none⟩, ⟨some 13, .mv (.t 42), none⟩, ⟨some 14, .mv (.t 43), none⟩]
def fn115r8 : List AO := [⟨some 44, .mv (.t 12), none⟩, ⟨some 45, .mv (.t 0), none⟩, ⟨some 46, .call 14 [.t 44, .t 45], none⟩, ⟨some 15, .mv (.t 46), none⟩]
def fn115r9 : List AO := [⟨some 16, .mv (.k (.p (.int .i64 0))), none⟩]
def fn115r10 : List AO := [⟨some 47, .mv (.t 1), none⟩, ⟨some 48, .len (.t 47), none⟩, ⟨some 49, .mv (.t 16), none⟩, ⟨some 50, .bin .sub (.t 48) (.t 49), none⟩, ⟨some 51, .mv (.t 11), none⟩, ⟨some 52, .bin .lss (.t 50) (.t 51), none⟩]
def fn115r11 : List AO := [⟨some 4, .mv (.k (.e0)), none⟩, ⟨some 5, .mv (.k (.p (.int .i64 0))), none⟩, ⟨some 6, .mv (.k (.p (.int .i64 3))), none⟩]
def fn115n15 : ACode := .seq (.region fn115r11 false) (.ret)
def fn115n16 : ACode := .cond (.t 52) (fn115n15) (.skip)
def fn115n17 : ACode := .seq (.region fn115r10 false) (fn115n16)
def fn115r12 : List AO := [⟨some 53, .mv (.t 1), none⟩, ⟨some 54, .mv (.t 16), none⟩, ⟨some 55, .mv (.t 16), none⟩, ⟨some 56, .mv (.t 11), none⟩, ⟨some 57, .bin .add (.t 55) (.t 56), none⟩, ⟨some 58, .slice 1 (.t 53) (some (.t 54)) (some (.t 57)) none, none⟩, ⟨some 59, .call 114 [.t 58], none⟩, ⟨some 17, .mv (.t 59), none⟩]
def fn115r13 : List AO := [⟨some 60, .mv (.t 16), none⟩, ⟨some 61, .mv (.t 11), none⟩, ⟨some 62, .bin .add (.t 60) (.t 61), none⟩, ⟨some 16, .mv (.t 62), none⟩]
def fn115r14 : List AO := [⟨some 63, .mv (.t 17), none⟩, ⟨some 64, .mv (.t 15), none⟩, ⟨some 65, .call 13 [.t 63, .t 64], none⟩, ⟨some 66, .bin .lss (.t 65) (.k (.p (.int .i64 0))), none⟩]
def fn115r15 : List AO := [⟨some 68, .mv (.t 17), none⟩, ⟨some 69, .mv (.t 0), none⟩, ⟨some 70, .call 27 [.t 68, .t 69], none⟩, ⟨some 67, .mv (.t 70), none⟩, ⟨some 71, .ext 0 (.t 67), none⟩, ⟨some 72, .ext 1 (.t 67), none⟩, ⟨some 73, .ext 2 (.t 67), none⟩, ⟨some 18, .mv (.t 71), none⟩, ⟨some 19, .mv (.t 72), none⟩, ⟨some 20, .mv (.t 73), none⟩]
def fn115r16 : List AO := [⟨some 74, .mv (.t 19), none⟩, ⟨some 75, .mv (.t 16), none⟩, ⟨some 4, .mv (.t 74), none⟩, ⟨some 5, .mv (.t 75), none⟩, ⟨some 6, .mv (.k (.p (.int .i64 0))), none⟩]
def fn115n23 : ACode := .seq (.region fn115r16 false) (.ret)
def fn115n24 : ACode := .seq (.region fn115r15 false) (fn115n23)
def fn115n25 : ACode := .cond (.t 66) (fn115n24) (.skip)
def fn115n26 : ACode := .seq (.region fn115r14 false) (fn115n25)
def fn115n27 : ACode := .seq (.region fn115r13 false) (fn115n26)
def fn115n28 : ACode := .seq (.region fn115r12 false) (fn115n27)
def fn115n29 : ACode := .seq (fn115n17) (fn115n28)
def fn115n30 : ACode := .block 1 (fn115n29)
def fn115n31 : ACode := .loop (fn115n30)
def fn115n32 : ACode := .block 0 (fn115n31)
def fn115n33 : ACode := .seq (.region fn115r9 false) (fn115n32)
def fn115n34 : ACode := .seq (.region fn115r8 false) (fn115n33)
def fn115n35 : ACode := .seq (.region fn115r7 false) (fn115n34)
def fn115n36 : ACode := .seq (.region fn115r6 false) (fn115n35)
def fn115n37 : ACode := .seq (.region fn115r5 false) (fn115n36)
def fn115n38 : ACode := .seq (.region fn115r4 false) (fn115n37)
def fn115n39 : ACode := .seq (fn115n6) (fn115n38)
def fn115n40 : ACode := .seq (.region fn115r1 false) (fn115n39)
def fn115n41 : ACode := .seq (.region fn115r0 false) (fn115n40)
def fn115 : AFun := { nargs := 2, ntmps := 76, results := [.tmp 4, .tmp 5, .tmp 6], body := fn115n41 }

/-- credence/sampler.Below -/
def fn116r0 : List AO := [⟨some 4, .mv (.k (.e0)), none⟩, ⟨some 5, .mv (.k (.p (.int .i64 0))), none⟩, ⟨some 6, .mv (.k (.p (.int .i64 0))), none⟩]
def fn116r1 : List AO := [⟨some 7, .mv (.t 0), none⟩, ⟨some 8, .mv (.t 1), none⟩, ⟨some 9, .call 112 [.t 8], none⟩, ⟨some 10, .call 115 [.t 7, .t 9], none⟩, ⟨some 11, .ext 0 (.t 10), none⟩, ⟨some 12, .ext 1 (.t 10), none⟩, ⟨some 13, .ext 2 (.t 10), none⟩, ⟨some 4, .mv (.t 11), none⟩, ⟨some 5, .mv (.t 12), none⟩, ⟨some 6, .mv (.t 13), none⟩]
def fn116n2 : ACode := .seq (.region fn116r1 false) (.ret)
def fn116n3 : ACode := .seq (.region fn116r0 false) (fn116n2)
def fn116 : AFun := { nargs := 2, ntmps := 14, results := [.tmp 4, .tmp 5, .tmp 6], body := fn116n3 }

/-- credence/credenceref1.half -/
def fn61r0 : List AO := [⟨some 2, .mv (.k (.e0)), none⟩]
def fn61r1 : List AO := [⟨some 3, .mv (.k (.e0)), none⟩]
def fn61r2 : List AO := [⟨some 4, .mv (.k (.p (.int .i64 0))), none⟩]
def fn61r3 : List AO := [⟨some 6, .mv (.t 4), none⟩, ⟨some 7, .mv (.t 0), none⟩, ⟨some 8, .len (.t 7), none⟩, ⟨some 9, .bin .lss (.t 6) (.t 8), none⟩]
def fn61n4 : ACode := .cond (.t 9) (.skip) (.exit 0)
def fn61n5 : ACode := .seq (.region fn61r3 false) (fn61n4)
def fn61r5 : List AO := [⟨some 12, .mv (.t 0), none⟩, ⟨some 13, .mv (.t 4), none⟩, ⟨some 14, .ia 1 (.t 12) (.t 13), none⟩, ⟨some 15, .load false 1 (.t 14), none⟩, ⟨some 16, .bin .shr (.t 15) (.k (.p (.int .u64 1))), none⟩, ⟨some 5, .mv (.t 16), none⟩]
def fn61r6 : List AO := [⟨some 17, .mv (.t 4), none⟩, ⟨some 18, .bin .add (.t 17) (.k (.p (.int .i64 1))), none⟩, ⟨some 19, .mv (.t 0), none⟩, ⟨some 20, .len (.t 19), none⟩, ⟨some 21, .bin .lss (.t 18) (.t 20), none⟩]
def fn61r7 : List AO := [⟨some 22, .mv (.t 5), none⟩, ⟨some 23, .mv (.t 0), none⟩, ⟨some 24, .mv (.t 4), none⟩, ⟨some 25, .bin .add (.t 24) (.k (.p (.int .i64 1))), none⟩, ⟨some 26, .ia 1 (.t 23) (.t 25), none⟩, ⟨some 27, .load false 1 (.t 26), none⟩, ⟨some 28, .bin .shl (.t 27) (.k (.p (.int .u64 31))), none⟩, ⟨some 29, .bin .or (.t 22) (.t 28), none⟩, ⟨some 5, .mv (.t 29), none⟩]
def fn61n9 : ACode := .cond (.t 21) (.region fn61r7 false) (.skip)
def fn61n10 : ACode := .seq (.region fn61r6 false) (fn61n9)
def fn61r8 : List AO := [⟨some 30, .mv (.t 3), none⟩, ⟨some 31, .mv (.t 5), none⟩, ⟨some 32, .slP 1 1 [.p (.int .u32 0)] [(0, 1, .t 31)], none⟩, ⟨some 33, .app 0 1 4 (.t 30) (.t 32), none⟩, ⟨some 3, .mv (.t 33), none⟩]
def fn61n12 : ACode := .seq (fn61n10) (.region fn61r8 false)
def fn61n13 : ACode := .seq (.region fn61r5 false) (fn61n12)
def fn61n14 : ACode := .block 1 (fn61n13)
def fn61r4 : List AO := [⟨some 10, .mv (.t 4), none⟩, ⟨some 11, .bin .add (.t 10) (.k (.p (.int .i64 1))), none⟩, ⟨some 4, .mv (.t 11), none⟩]
def fn61n16 : ACode := .seq (fn61n14) (.region fn61r4 false)
def fn61n17 : ACode := .seq (fn61n5) (fn61n16)
def fn61n18 : ACode := .loop (fn61n17)
def fn61n19 : ACode := .block 0 (fn61n18)
def fn61n20 : ACode := .seq (.region fn61r2 false) (fn61n19)
def fn61r9 : List AO := [⟨some 34, .mv (.t 3), none⟩, ⟨some 35, .callR 100 58 [.t 34], none⟩, ⟨some 2, .mv (.t 35), none⟩]
def fn61n22 : ACode := .seq (.region fn61r9 false) (.ret)
def fn61n23 : ACode := .seq (fn61n20) (fn61n22)
def fn61n24 : ACode := .seq (.region fn61r1 false) (fn61n23)
def fn61n25 : ACode := .seq (.region fn61r0 false) (fn61n24)
def fn61 : AFun := { nargs := 1, ntmps := 36, results := [.tmp 2], body := fn61n25 }

/-- credence/credenceref1.NatCmp -/
def fn62r0 : List AO := [⟨some 4, .mv (.k (.p (.int .i64 0))), none⟩]
def fn62r1 : List AO := [⟨some 8, .mv (.t 0), none⟩, ⟨some 9, .call 58 [.t 8], none⟩, ⟨some 10, .mv (.t 1), none⟩, ⟨some 11, .call 58 [.t 10], none⟩, ⟨some 5, .mv (.t 9), none⟩, ⟨some 6, .mv (.t 11), none⟩]
def fn62r2 : List AO := [⟨some 12, .mv (.t 5), none⟩, ⟨some 13, .len (.t 12), none⟩, ⟨some 14, .mv (.t 6), none⟩, ⟨some 15, .len (.t 14), none⟩, ⟨some 16, .bin .neq (.t 13) (.t 15), none⟩]
def fn62r3 : List AO := [⟨some 17, .mv (.t 5), none⟩, ⟨some 18, .len (.t 17), none⟩, ⟨some 19, .mv (.t 6), none⟩, ⟨some 20, .len (.t 19), none⟩, ⟨some 21, .bin .lss (.t 18) (.t 20), none⟩]
def fn62r4 : List AO := [⟨some 4, .mv (.k (.p (.int .i64 (-1)))), none⟩]
def fn62n5 : ACode := .seq (.region fn62r4 false) (.ret)
def fn62n6 : ACode := .cond (.t 21) (fn62n5) (.skip)
def fn62n7 : ACode := .seq (.region fn62r3 false) (fn62n6)
def fn62r5 : List AO := [⟨some 4, .mv (.k (.p (.int .i64 1))), none⟩]
def fn62n9 : ACode := .seq (.region fn62r5 false) (.ret)
def fn62n10 : ACode := .seq (fn62n7) (fn62n9)
def fn62n11 : ACode := .cond (.t 16) (fn62n10) (.skip)
def fn62n12 : ACode := .seq (.region fn62r2 false) (fn62n11)
def fn62r6 : List AO := [⟨some 22, .mv (.t 5), none⟩, ⟨some 23, .len (.t 22), none⟩, ⟨some 24, .bin .sub (.t 23) (.k (.p (.int .i64 1))), none⟩, ⟨some 7, .mv (.t 24), none⟩]
def fn62r7 : List AO := [⟨some 25, .mv (.t 7), none⟩, ⟨some 26, .bin .geq (.t 25) (.k (.p (.int .i64 0))), none⟩]
def fn62n15 : ACode := .cond (.t 26) (.skip) (.exit 0)
def fn62n16 : ACode := .seq (.region fn62r7 false) (fn62n15)
def fn62r9 : List AO := [⟨some 29, .mv (.t 5), none⟩, ⟨some 30, .mv (.t 7), none⟩, ⟨some 31, .ia 1 (.t 29) (.t 30), none⟩, ⟨some 32, .load false 1 (.t 31), none⟩, ⟨some 33, .mv (.t 6), none⟩, ⟨some 34, .mv (.t 7), none⟩, ⟨some 35, .ia 1 (.t 33) (.t 34), none⟩, ⟨some 36, .load false 1 (.t 35), none⟩, ⟨some 37, .bin .lss (.t 32) (.t 36), none⟩]
def fn62r10 : List AO := [⟨some 4, .mv (.k (.p (.int .i64 (-1)))), none⟩]
def fn62n19 : ACode := .seq (.region fn62r10 false) (.ret)
def fn62n20 : ACode := .cond (.t 37) (fn62n19) (.skip)
def fn62n21 : ACode := .seq (.region fn62r9 true) (fn62n20)
def fn62r11 : List AO := [⟨some 38, .mv (.t 5), none⟩, ⟨some 39, .mv (.t 7), none⟩, ⟨some 40, .ia 1 (.t 38) (.t 39), none⟩, ⟨some 41, .load false 1 (.t 40), none⟩, ⟨some 42, .mv (.t 6), none⟩, ⟨some 43, .mv (.t 7), none⟩, ⟨some 44, .ia 1 (.t 42) (.t 43), none⟩, ⟨some 45, .load false 1 (.t 44), none⟩, ⟨some 46, .bin .gtr (.t 41) (.t 45), none⟩]
def fn62r12 : List AO := [⟨some 4, .mv (.k (.p (.int .i64 1))), none⟩]
def fn62n24 : ACode := .seq (.region fn62r12 false) (.ret)
def fn62n25 : ACode := .cond (.t 46) (fn62n24) (.skip)
def fn62n26 : ACode := .seq (.region fn62r11 true) (fn62n25)
def fn62n27 : ACode := .seq (fn62n21) (fn62n26)
def fn62n28 : ACode := .block 1 (fn62n27)
def fn62r8 : List AO := [⟨some 27, .mv (.t 7), none⟩, ⟨some 28, .bin .sub (.t 27) (.k (.p (.int .i64 1))), none⟩, ⟨some 7, .mv (.t 28), none⟩]
def fn62n30 : ACode := .seq (fn62n28) (.region fn62r8 false)
def fn62n31 : ACode := .seq (fn62n16) (fn62n30)
def fn62n32 : ACode := .loop (fn62n31)
def fn62n33 : ACode := .block 0 (fn62n32)
def fn62n34 : ACode := .seq (.region fn62r6 false) (fn62n33)
def fn62r13 : List AO := [⟨some 4, .mv (.k (.p (.int .i64 0))), none⟩]
def fn62n36 : ACode := .seq (.region fn62r13 false) (.ret)
def fn62n37 : ACode := .seq (fn62n34) (fn62n36)
def fn62n38 : ACode := .seq (fn62n12) (fn62n37)
def fn62n39 : ACode := .seq (.region fn62r1 false) (fn62n38)
def fn62n40 : ACode := .seq (.region fn62r0 false) (fn62n39)
def fn62 : AFun := { nargs := 2, ntmps := 47, results := [.tmp 4], body := fn62n40 }

/-- credence/credenceref1.NatSub -/
def fn63r0 : List AO := [⟨some 4, .mv (.k (.e0)), none⟩, ⟨some 5, .mv (.k (.p (.bool false))), none⟩]
def fn63r1 : List AO := [⟨some 11, .mv (.t 0), none⟩, ⟨some 12, .mv (.t 1), none⟩, ⟨some 13, .call 62 [.t 11, .t 12], none⟩, ⟨some 14, .bin .lss (.t 13) (.k (.p (.int .i64 0))), none⟩]
def fn63r2 : List AO := [⟨some 4, .mv (.k (.e0)), none⟩, ⟨some 5, .mv (.k (.p (.bool false))), none⟩]
def fn63n3 : ACode := .seq (.region fn63r2 false) (.ret)
def fn63n4 : ACode := .cond (.t 14) (fn63n3) (.skip)
def fn63n5 : ACode := .seq (.region fn63r1 false) (fn63n4)
def fn63r3 : List AO := [⟨some 15, .mv (.t 0), none⟩, ⟨some 16, .callR 100 58 [.t 15], none⟩, ⟨some 17, .mv (.t 1), none⟩, ⟨some 18, .call 58 [.t 17], none⟩, ⟨some 6, .mv (.t 16), none⟩, ⟨some 7, .mv (.t 18), none⟩]
def fn63r4 : List AO := [⟨some 8, .mv (.k (.p (.int .u64 0))), none⟩]
def fn63r5 : List AO := [⟨some 9, .mv (.k (.p (.int .i64 0))), none⟩]
def fn63r6 : List AO := [⟨some 19, .mv (.t 9), none⟩, ⟨some 20, .mv (.t 6), none⟩, ⟨some 21, .len (.t 20), none⟩, ⟨some 22, .bin .lss (.t 19) (.t 21), none⟩]
def fn63n10 : ACode := .cond (.t 22) (.skip) (.exit 0)
def fn63n11 : ACode := .seq (.region fn63r6 false) (fn63n10)
def fn63r8 : List AO := [⟨some 25, .mv (.t 8), none⟩, ⟨some 10, .mv (.t 25), none⟩]
def fn63r9 : List AO := [⟨some 26, .mv (.t 9), none⟩, ⟨some 27, .mv (.t 7), none⟩, ⟨some 28, .len (.t 27), none⟩, ⟨some 29, .bin .lss (.t 26) (.t 28), none⟩]
def fn63r10 : List AO := [⟨some 30, .mv (.t 10), none⟩, ⟨some 31, .mv (.t 7), none⟩, ⟨some 32, .mv (.t 9), none⟩, ⟨some 33, .ia 1 (.t 31) (.t 32), none⟩, ⟨some 34, .load false 1 (.t 33), none⟩, ⟨some 35, .conv .u64 (.t 34), none⟩, ⟨some 36, .bin .add (.t 30) (.t 35), none⟩, ⟨some 10, .mv (.t 36), none⟩]
def fn63n15 : ACode := .cond (.t 29) (.region fn63r10 false) (.skip)
def fn63n16 : ACode := .seq (.region fn63r9 false) (fn63n15)
def fn63r11 : List AO := [⟨some 8, .mv (.k (.p (.int .u64 0))), none⟩]
def fn63r12 : List AO := [⟨some 37, .mv (.t 6), none⟩, ⟨some 38, .mv (.t 9), none⟩, ⟨some 39, .ia 1 (.t 37) (.t 38), none⟩, ⟨some 40, .load false 1 (.t 39), none⟩, ⟨some 41, .conv .u64 (.t 40), none⟩, ⟨some 42, .mv (.t 10), none⟩, ⟨some 43, .bin .lss (.t 41) (.t 42), none⟩]
def fn63r13 : List AO := [⟨some 8, .mv (.k (.p (.int .u64 1))), none⟩]
def fn63n20 : ACode := .cond (.t 43) (.region fn63r13 false) (.skip)
def fn63n21 : ACode := .seq (.region fn63r12 false) (fn63n20)
def fn63r14 : List AO := [⟨some 44, .mv (.t 6), none⟩, ⟨some 45, .mv (.t 9), none⟩, ⟨some 46, .mv (.t 6), none⟩, ⟨some 47, .mv (.t 9), none⟩, ⟨some 48, .ia 1 (.t 46) (.t 47), none⟩, ⟨some 49, .load false 1 (.t 48), none⟩, ⟨some 50, .conv .u64 (.t 49), none⟩, ⟨some 51, .mv (.t 8), none⟩, ⟨some 52, .bin .shl (.t 51) (.k (.p (.int .u64 32))), none⟩, ⟨some 53, .bin .add (.t 50) (.t 52), none⟩, ⟨some 54, .mv (.t 10), none⟩, ⟨some 55, .bin .sub (.t 53) (.t 54), none⟩, ⟨some 56, .conv .u32 (.t 55), none⟩, ⟨some 57, .ia 1 (.t 44) (.t 45), none⟩, ⟨none, .store 1 (.t 57) (.t 56), none⟩]
def fn63n23 : ACode := .seq (fn63n21) (.region fn63r14 false)
def fn63n24 : ACode := .seq (.region fn63r11 false) (fn63n23)
def fn63n25 : ACode := .seq (fn63n16) (fn63n24)
def fn63n26 : ACode := .seq (.region fn63r8 false) (fn63n25)
def fn63n27 : ACode := .block 1 (fn63n26)
def fn63r7 : List AO := [⟨some 23, .mv (.t 9), none⟩, ⟨some 24, .bin .add (.t 23) (.k (.p (.int .i64 1))), none⟩, ⟨some 9, .mv (.t 24), none⟩]
def fn63n29 : ACode := .seq (fn63n27) (.region fn63r7 false)
def fn63n30 : ACode := .seq (fn63n11) (fn63n29)
def fn63n31 : ACode := .loop (fn63n30)
def fn63n32 : ACode := .block 0 (fn63n31)
def fn63n33 : ACode := .seq (.region fn63r5 false) (fn63n32)
def fn63r15 : List AO := [⟨some 58, .mv (.t 6), none⟩, ⟨some 59, .callR 200 58 [.t 58], none⟩, ⟨some 4, .mv (.t 59), none⟩, ⟨some 5, .mv (.k (.p (.bool true))), none⟩]
def fn63n35 : ACode := .seq (.region fn63r15 false) (.ret)
def fn63n36 : ACode := .seq (fn63n33) (fn63n35)
def fn63n37 : ACode := .seq (.region fn63r4 false) (fn63n36)
def fn63n38 : ACode := .seq (.region fn63r3 false) (fn63n37)
def fn63n39 : ACode := .seq (fn63n5) (fn63n38)
def fn63n40 : ACode := .seq (.region fn63r0 false) (fn63n39)
def fn63 : AFun := { nargs := 2, ntmps := 60, results := [.tmp 4, .tmp 5], body := fn63n40 }

/-- credence/credenceref1.double -/
def fn64r0 : List AO := [⟨some 4, .mv (.k (.e0)), none⟩]
def fn64r1 : List AO := [⟨some 5, .mv (.k (.e0)), none⟩]
def fn64r2 : List AO := [⟨some 6, .mv (.k (.p (.int .i64 0))), none⟩]
def fn64r3 : List AO := [⟨some 7, .mv (.t 6), none⟩, ⟨some 8, .mv (.t 0), none⟩, ⟨some 9, .len (.t 8), none⟩, ⟨some 10, .bin .lss (.t 7) (.t 9), none⟩]
def fn64n4 : ACode := .cond (.t 10) (.skip) (.exit 0)
def fn64n5 : ACode := .seq (.region fn64r3 false) (fn64n4)
def fn64r5 : List AO := [⟨some 13, .mv (.t 5), none⟩, ⟨some 14, .mv (.t 0), none⟩, ⟨some 15, .mv (.t 6), none⟩, ⟨some 16, .ia 1 (.t 14) (.t 15), none⟩, ⟨some 17, .load false 1 (.t 16), none⟩, ⟨some 18, .bin .shl (.t 17) (.k (.p (.int .u64 1))), none⟩, ⟨some 19, .mv (.t 1), none⟩, ⟨some 20, .bin .or (.t 18) (.t 19), none⟩, ⟨some 21, .slP 1 1 [.p (.int .u32 0)] [(0, 1, .t 20)], none⟩, ⟨some 22, .app 0 1 4 (.t 13) (.t 21), none⟩, ⟨some 5, .mv (.t 22), none⟩]
def fn64r6 : List AO := [⟨some 23, .mv (.t 0), none⟩, ⟨some 24, .mv (.t 6), none⟩, ⟨some 25, .ia 1 (.t 23) (.t 24), none⟩, ⟨some 26, .load false 1 (.t 25), none⟩, ⟨some 27, .bin .shr (.t 26) (.k (.p (.int .u64 31))), none⟩, ⟨some 1, .mv (.t 27), none⟩]
def fn64n8 : ACode := .seq (.region fn64r5 false) (.region fn64r6 false)
def fn64n9 : ACode := .block 1 (fn64n8)
def fn64r4 : List AO := [⟨some 11, .mv (.t 6), none⟩, ⟨some 12, .bin .add (.t 11) (.k (.p (.int .i64 1))), none⟩, ⟨some 6, .mv (.t 12), none⟩]
def fn64n11 : ACode := .seq (fn64n9) (.region fn64r4 false)
def fn64n12 : ACode := .seq (fn64n5) (fn64n11)
def fn64n13 : ACode := .loop (fn64n12)
def fn64n14 : ACode := .block 0 (fn64n13)
def fn64n15 : ACode := .seq (.region fn64r2 false) (fn64n14)
def fn64r7 : List AO := [⟨some 28, .mv (.t 5), none⟩, ⟨some 29, .mv (.t 1), none⟩, ⟨some 30, .slP 1 1 [.p (.int .u32 0)] [(0, 1, .t 29)], none⟩, ⟨some 31, .app 1 1 4 (.t 28) (.t 30), none⟩, ⟨some 32, .callR 100 58 [.t 31], none⟩, ⟨some 4, .mv (.t 32), none⟩]
def fn64n17 : ACode := .seq (.region fn64r7 false) (.ret)
def fn64n18 : ACode := .seq (fn64n15) (fn64n17)
def fn64n19 : ACode := .seq (.region fn64r1 false) (fn64n18)
def fn64n20 : ACode := .seq (.region fn64r0 false) (fn64n19)
def fn64 : AFun := { nargs := 2, ntmps := 33, results := [.tmp 4], body := fn64n20 }

/-- credence/credenceref1.NatGCD -/
def fn65r0 : List AO := [⟨some 4, .mv (.k (.e0)), none⟩]
def fn65r1 : List AO := [⟨some 9, .mv (.t 0), none⟩, ⟨some 10, .call 58 [.t 9], none⟩, ⟨some 11, .mv (.t 1), none⟩, ⟨some 12, .call 58 [.t 11], none⟩, ⟨some 5, .mv (.t 10), none⟩, ⟨some 6, .mv (.t 12), none⟩]
def fn65r2 : List AO := [⟨some 13, .mv (.t 5), none⟩, ⟨some 14, .len (.t 13), none⟩, ⟨some 15, .bin .eql (.t 14) (.k (.p (.int .i64 0))), none⟩]
def fn65r3 : List AO := [⟨some 16, .mv (.t 6), none⟩, ⟨some 4, .mv (.t 16), none⟩]
def fn65n4 : ACode := .seq (.region fn65r3 false) (.ret)
def fn65n5 : ACode := .cond (.t 15) (fn65n4) (.skip)
def fn65n6 : ACode := .seq (.region fn65r2 false) (fn65n5)
def fn65r4 : List AO := [⟨some 17, .mv (.t 6), none⟩, ⟨some 18, .len (.t 17), none⟩, ⟨some 19, .bin .eql (.t 18) (.k (.p (.int .i64 0))), none⟩]
def fn65r5 : List AO := [⟨some 20, .mv (.t 5), none⟩, ⟨some 4, .mv (.t 20), none⟩]
def fn65n9 : ACode := .seq (.region fn65r5 false) (.ret)
def fn65n10 : ACode := .cond (.t 19) (fn65n9) (.skip)
def fn65n11 : ACode := .seq (.region fn65r4 false) (fn65n10)
def fn65r6 : List AO := [⟨some 7, .mv (.k (.p (.int .i64 0))), none⟩]
def fn65r7 : List AO := [⟨some 21, .mv (.t 5), none⟩, ⟨some 22, .ia 1 (.t 21) (.k (.p (.int .i64 0))), none⟩, ⟨some 23, .load false 1 (.t 22), none⟩, ⟨some 24, .bin .and (.t 23) (.k (.p (.int .u32 1))), none⟩, ⟨some 25, .bin .eql (.t 24) (.k (.p (.int .u32 0))), none⟩, ⟨some 26, .mv (.t 25), none⟩, ⟨some 27, .mv (.t 6), (some (26, true))⟩, ⟨some 28, .ia 1 (.t 27) (.k (.p (.int .i64 0))), (some (26, true))⟩, ⟨some 29, .load false 1 (.t 28), (some (26, true))⟩, ⟨some 30, .bin .and (.t 29) (.k (.p (.int .u32 1))), (some (26, true))⟩, ⟨some 31, .bin .eql (.t 30) (.k (.p (.int .u32 0))), (some (26, true))⟩, ⟨some 32, .pick (.t 26) (.t 31) (.k (.p (.bool false))), none⟩]
def fn65n14 : ACode := .cond (.t 32) (.skip) (.exit 0)
def fn65n15 : ACode := .seq (.region fn65r7 false) (fn65n14)
def fn65r8 : List AO := [⟨some 33, .mv (.t 5), none⟩, ⟨some 34, .call 61 [.t 33], none⟩, ⟨some 35, .mv (.t 6), none⟩, ⟨some 36, .call 61 [.t 35], none⟩, ⟨some 5, .mv (.t 34), none⟩, ⟨some 6, .mv (.t 36), none⟩]
def fn65r9 : List AO := [⟨some 37, .mv (.t 7), none⟩, ⟨some 38, .bin .add (.t 37) (.k (.p (.int .i64 1))), none⟩, ⟨some 7, .mv (.t 38), none⟩]
def fn65n18 : ACode := .seq (.region fn65r8 false) (.region fn65r9 false)
def fn65n19 : ACode := .block 1 (fn65n18)
def fn65n20 : ACode := .seq (fn65n15) (fn65n19)
def fn65n21 : ACode := .loop (fn65n20)
def fn65n22 : ACode := .block 0 (fn65n21)
def fn65r10 : List AO := [⟨some 39, .mv (.t 6), none⟩, ⟨some 40, .len (.t 39), none⟩, ⟨some 41, .bin .gtr (.t 40) (.k (.p (.int .i64 0))), none⟩]
def fn65n24 : ACode := .cond (.t 41) (.skip) (.exit 2)
def fn65n25 : ACode := .seq (.region fn65r10 false) (fn65n24)
def fn65r11 : List AO := [⟨some 42, .mv (.t 5), none⟩, ⟨some 43, .ia 1 (.t 42) (.k (.p (.int .i64 0))), none⟩, ⟨some 44, .load false 1 (.t 43), none⟩, ⟨some 45, .bin .and (.t 44) (.k (.p (.int .u32 1))), none⟩, ⟨some 46, .bin .eql (.t 45) (.k (.p (.int .u32 0))), none⟩]
def fn65n27 : ACode := .cond (.t 46) (.skip) (.exit 4)
def fn65n28 : ACode := .seq (.region fn65r11 false) (fn65n27)
def fn65r12 : List AO := [⟨some 47, .mv (.t 5), none⟩, ⟨some 48, .call 61 [.t 47], none⟩, ⟨some 5, .mv (.t 48), none⟩]
def fn65n30 : ACode := .block 5 (.region fn65r12 false)
def fn65n31 : ACode := .seq (fn65n28) (fn65n30)
def fn65n32 : ACode := .loop (fn65n31)
def fn65n33 : ACode := .block 4 (fn65n32)
def fn65r13 : List AO := [⟨some 49, .mv (.t 6), none⟩, ⟨some 50, .ia 1 (.t 49) (.k (.p (.int .i64 0))), none⟩, ⟨some 51, .load false 1 (.t 50), none⟩, ⟨some 52, .bin .and (.t 51) (.k (.p (.int .u32 1))), none⟩, ⟨some 53, .bin .eql (.t 52) (.k (.p (.int .u32 0))), none⟩]
def fn65n35 : ACode := .cond (.t 53) (.skip) (.exit 6)
def fn65n36 : ACode := .seq (.region fn65r13 false) (fn65n35)
def fn65r14 : List AO := [⟨some 54, .mv (.t 6), none⟩, ⟨some 55, .call 61 [.t 54], none⟩, ⟨some 6, .mv (.t 55), none⟩]
def fn65n38 : ACode := .block 7 (.region fn65r14 false)
def fn65n39 : ACode := .seq (fn65n36) (fn65n38)
def fn65n40 : ACode := .loop (fn65n39)
def fn65n41 : ACode := .block 6 (fn65n40)
def fn65r15 : List AO := [⟨some 56, .mv (.t 5), none⟩, ⟨some 57, .mv (.t 6), none⟩, ⟨some 58, .call 62 [.t 56, .t 57], none⟩, ⟨some 59, .bin .gtr (.t 58) (.k (.p (.int .i64 0))), none⟩]
def fn65r16 : List AO := [⟨some 60, .mv (.t 6), none⟩, ⟨some 61, .mv (.t 5), none⟩, ⟨some 5, .mv (.t 60), none⟩, ⟨some 6, .mv (.t 61), none⟩]
def fn65n44 : ACode := .cond (.t 59) (.region fn65r16 false) (.skip)
def fn65n45 : ACode := .seq (.region fn65r15 false) (fn65n44)
def fn65r17 : List AO := [⟨some 63, .mv (.t 6), none⟩, ⟨some 64, .mv (.t 5), none⟩, ⟨some 65, .call 63 [.t 63, .t 64], none⟩, ⟨some 62, .mv (.t 65), none⟩, ⟨some 66, .ext 0 (.t 62), none⟩, ⟨some 67, .ext 1 (.t 62), none⟩, ⟨some 6, .mv (.t 66), none⟩]
def fn65n47 : ACode := .seq (fn65n45) (.region fn65r17 false)
def fn65n48 : ACode := .seq (fn65n41) (fn65n47)
def fn65n49 : ACode := .seq (fn65n33) (fn65n48)
def fn65n50 : ACode := .block 3 (fn65n49)
def fn65n51 : ACode := .seq (fn65n25) (fn65n50)
def fn65n52 : ACode := .loop (fn65n51)
def fn65n53 : ACode := .block 2 (fn65n52)
def fn65r18 : List AO := [⟨some 8, .mv (.k (.p (.int .i64 0))), none⟩]
def fn65r19 : List AO := [⟨some 68, .mv (.t 8), none⟩, ⟨some 69, .mv (.t 7), none⟩, ⟨some 70, .bin .lss (.t 68) (.t 69), none⟩]
def fn65n56 : ACode := .cond (.t 70) (.skip) (.exit 8)
def fn65n57 : ACode := .seq (.region fn65r19 false) (fn65n56)
def fn65r21 : List AO := [⟨some 73, .mv (.t 5), none⟩, ⟨some 74, .call 64 [.t 73, .k (.p (.int .u32 0))], none⟩, ⟨some 5, .mv (.t 74), none⟩]
def fn65n59 : ACode := .block 9 (.region fn65r21 false)
def fn65r20 : List AO := [⟨some 71, .mv (.t 8), none⟩, ⟨some 72, .bin .add (.t 71) (.k (.p (.int .i64 1))), none⟩, ⟨some 8, .mv (.t 72), none⟩]
def fn65n61 : ACode := .seq (fn65n59) (.region fn65r20 false)
def fn65n62 : ACode := .seq (fn65n57) (fn65n61)
def fn65n63 : ACode := .loop (fn65n62)
def fn65n64 : ACode := .block 8 (fn65n63)
def fn65n65 : ACode := .seq (.region fn65r18 false) (fn65n64)
def fn65r22 : List AO := [⟨some 75, .mv (.t 5), none⟩, ⟨some 4, .mv (.t 75), none⟩]
def fn65n67 : ACode := .seq (.region fn65r22 false) (.ret)
def fn65n68 : ACode := .seq (fn65n65) (fn65n67)
def fn65n69 : ACode := .seq (fn65n53) (fn65n68)
def fn65n70 : ACode := .seq (fn65n22) (fn65n69)
def fn65n71 : ACode := .seq (.region fn65r6 false) (fn65n70)
def fn65n72 : ACode := .seq (fn65n11) (fn65n71)
def fn65n73 : ACode := .seq (fn65n6) (fn65n72)
def fn65n74 : ACode := .seq (.region fn65r1 false) (fn65n73)
def fn65n75 : ACode := .seq (.region fn65r0 false) (fn65n74)
def fn65 : AFun := { nargs := 2, ntmps := 76, results := [.tmp 4], body := fn65n75 }

/-- credence/credenceref1.NatDivMod -/
def fn66r0 : List AO := [⟨some 4, .mv (.k (.e0)), none⟩, ⟨some 5, .mv (.k (.e0)), none⟩, ⟨some 6, .mv (.k (.p (.bool false))), none⟩]
def fn66r1 : List AO := [⟨some 12, .mv (.t 0), none⟩, ⟨some 13, .call 58 [.t 12], none⟩, ⟨some 14, .mv (.t 1), none⟩, ⟨some 15, .call 58 [.t 14], none⟩, ⟨some 7, .mv (.t 13), none⟩, ⟨some 8, .mv (.t 15), none⟩]
def fn66r2 : List AO := [⟨some 16, .mv (.t 8), none⟩, ⟨some 17, .len (.t 16), none⟩, ⟨some 18, .bin .eql (.t 17) (.k (.p (.int .i64 0))), none⟩]
def fn66r3 : List AO := [⟨some 4, .mv (.k (.e0)), none⟩, ⟨some 5, .mv (.k (.e0)), none⟩, ⟨some 6, .mv (.k (.p (.bool false))), none⟩]
def fn66n4 : ACode := .seq (.region fn66r3 false) (.ret)
def fn66n5 : ACode := .cond (.t 18) (fn66n4) (.skip)
def fn66n6 : ACode := .seq (.region fn66r2 false) (fn66n5)
def fn66r4 : List AO := [⟨some 19, .mv (.t 7), none⟩, ⟨some 20, .len (.t 19), none⟩, ⟨some 21, .mk 0 1 4 [.p (.int .u32 0)] (.t 20) (.t 20), none⟩, ⟨some 9, .mv (.t 21), none⟩]
def fn66r5 : List AO := [⟨some 10, .mv (.k (.e0)), none⟩]
def fn66r6 : List AO := [⟨some 22, .mv (.t 7), none⟩, ⟨some 23, .len (.t 22), none⟩, ⟨some 24, .bin .mul (.k (.p (.int .i64 32))) (.t 23), none⟩, ⟨some 25, .bin .sub (.t 24) (.k (.p (.int .i64 1))), none⟩, ⟨some 11, .mv (.t 25), none⟩]
def fn66r7 : List AO := [⟨some 26, .mv (.t 11), none⟩, ⟨some 27, .bin .geq (.t 26) (.k (.p (.int .i64 0))), none⟩]
def fn66n11 : ACode := .cond (.t 27) (.skip) (.exit 0)
def fn66n12 : ACode := .seq (.region fn66r7 false) (fn66n11)
def fn66r9 : List AO := [⟨some 30, .mv (.t 10), none⟩, ⟨some 31, .mv (.t 7), none⟩, ⟨some 32, .mv (.t 11), none⟩, ⟨some 33, .bin .quo (.t 32) (.k (.p (.int .i64 32))), none⟩, ⟨some 34, .ia 1 (.t 31) (.t 33), none⟩, ⟨some 35, .load false 1 (.t 34), none⟩, ⟨some 36, .mv (.t 11), none⟩, ⟨some 37, .bin .rem (.t 36) (.k (.p (.int .i64 32))), none⟩, ⟨some 38, .conv .u64 (.t 37), none⟩, ⟨some 39, .bin .shr (.t 35) (.t 38), none⟩, ⟨some 40, .bin .and (.t 39) (.k (.p (.int .u32 1))), none⟩, ⟨some 41, .call 64 [.t 30, .t 40], none⟩, ⟨some 10, .mv (.t 41), none⟩]
def fn66r10 : List AO := [⟨some 42, .mv (.t 10), none⟩, ⟨some 43, .mv (.t 8), none⟩, ⟨some 44, .call 62 [.t 42, .t 43], none⟩, ⟨some 45, .bin .geq (.t 44) (.k (.p (.int .i64 0))), none⟩]
def fn66r11 : List AO := [⟨some 47, .mv (.t 10), none⟩, ⟨some 48, .mv (.t 8), none⟩, ⟨some 49, .call 63 [.t 47, .t 48], none⟩, ⟨some 46, .mv (.t 49), none⟩, ⟨some 50, .ext 0 (.t 46), none⟩, ⟨some 51, .ext 1 (.t 46), none⟩, ⟨some 10, .mv (.t 50), none⟩]
def fn66r12 : List AO := [⟨some 52, .mv (.t 9), none⟩, ⟨some 53, .mv (.t 11), none⟩, ⟨some 54, .bin .quo (.t 53) (.k (.p (.int .i64 32))), none⟩, ⟨some 55, .mv (.t 9), none⟩, ⟨some 56, .mv (.t 11), none⟩, ⟨some 57, .bin .quo (.t 56) (.k (.p (.int .i64 32))), none⟩, ⟨some 58, .ia 1 (.t 55) (.t 57), none⟩, ⟨some 59, .load false 1 (.t 58), none⟩, ⟨some 60, .mv (.t 11), none⟩, ⟨some 61, .bin .rem (.t 60) (.k (.p (.int .i64 32))), none⟩, ⟨some 62, .conv .u64 (.t 61), none⟩, ⟨some 63, .bin .shl (.k (.p (.int .u32 1))) (.t 62), none⟩, ⟨some 64, .bin .or (.t 59) (.t 63), none⟩, ⟨some 65, .ia 1 (.t 52) (.t 54), none⟩, ⟨none, .store 1 (.t 65) (.t 64), none⟩]
def fn66n17 : ACode := .seq (.region fn66r11 false) (.region fn66r12 false)
def fn66n18 : ACode := .cond (.t 45) (fn66n17) (.skip)
def fn66n19 : ACode := .seq (.region fn66r10 false) (fn66n18)
def fn66n20 : ACode := .seq (.region fn66r9 false) (fn66n19)
def fn66n21 : ACode := .block 1 (fn66n20)
def fn66r8 : List AO := [⟨some 28, .mv (.t 11), none⟩, ⟨some 29, .bin .sub (.t 28) (.k (.p (.int .i64 1))), none⟩, ⟨some 11, .mv (.t 29), none⟩]
def fn66n23 : ACode := .seq (fn66n21) (.region fn66r8 false)
def fn66n24 : ACode := .seq (fn66n12) (fn66n23)
def fn66n25 : ACode := .loop (fn66n24)
def fn66n26 : ACode := .block 0 (fn66n25)
def fn66n27 : ACode := .seq (.region fn66r6 false) (fn66n26)
def fn66r13 : List AO := [⟨some 66, .mv (.t 9), none⟩, ⟨some 67, .callR 100 58 [.t 66], none⟩, ⟨some 68, .mv (.t 10), none⟩, ⟨some 69, .call 58 [.t 68], none⟩, ⟨some 4, .mv (.t 67), none⟩, ⟨some 5, .mv (.t 69), none⟩, ⟨some 6, .mv (.k (.p (.bool true))), none⟩]
def fn66n29 : ACode := .seq (.region fn66r13 false) (.ret)
def fn66n30 : ACode := .seq (fn66n27) (fn66n29)
def fn66n31 : ACode := .seq (.region fn66r5 false) (fn66n30)
def fn66n32 : ACode := .seq (.region fn66r4 false) (fn66n31)
def fn66n33 : ACode := .seq (fn66n6) (fn66n32)
def fn66n34 : ACode := .seq (.region fn66r1 false) (fn66n33)
def fn66n35 : ACode := .seq (.region fn66r0 false) (fn66n34)
def fn66 : AFun := { nargs := 2, ntmps := 70, results := [.tmp 4, .tmp 5, .tmp 6], body := fn66n35 }

/-- credence/credenceref1.frac -/
def fn67r0 : List AO := [⟨some 6, .alloc 0 [.p (.bool false), .e0, .e0], none⟩]
def fn67r1 : List AO := [⟨some 14, .mv (.t 1), none⟩, ⟨some 15, .mv (.t 2), none⟩, ⟨some 16, .call 65 [.t 14, .t 15], none⟩, ⟨some 7, .mv (.t 16), none⟩]
def fn67r2 : List AO := [⟨some 18, .mv (.t 1), none⟩, ⟨some 19, .mv (.t 7), none⟩, ⟨some 20, .call 66 [.t 18, .t 19], none⟩, ⟨some 17, .mv (.t 20), none⟩, ⟨some 21, .ext 0 (.t 17), none⟩, ⟨some 22, .ext 1 (.t 17), none⟩, ⟨some 23, .ext 2 (.t 17), none⟩, ⟨some 8, .mv (.t 21), none⟩, ⟨some 9, .mv (.t 22), none⟩, ⟨some 10, .mv (.t 23), none⟩]
def fn67r3 : List AO := [⟨some 25, .mv (.t 2), none⟩, ⟨some 26, .mv (.t 7), none⟩, ⟨some 27, .call 66 [.t 25, .t 26], none⟩, ⟨some 24, .mv (.t 27), none⟩, ⟨some 28, .ext 0 (.t 24), none⟩, ⟨some 29, .ext 1 (.t 24), none⟩, ⟨some 30, .ext 2 (.t 24), none⟩, ⟨some 11, .mv (.t 28), none⟩, ⟨some 12, .mv (.t 29), none⟩, ⟨some 13, .mv (.t 30), none⟩]
def fn67r4 : List AO := [⟨some 31, .mv (.t 10), none⟩, ⟨some 32, .un .not (.t 31), none⟩, ⟨some 33, .mv (.t 32), none⟩, ⟨some 34, .mv (.t 8), (some (33, false))⟩, ⟨some 35, .len (.t 34), (some (33, false))⟩, ⟨some 36, .bin .eql (.t 35) (.k (.p (.int .i64 0))), (some (33, false))⟩, ⟨some 37, .pick (.t 33) (.k (.p (.bool true))) (.t 36), none⟩, ⟨some 38, .mv (.t 37), none⟩, ⟨some 39, .mv (.t 11), (some (38, false))⟩, ⟨some 40, .len (.t 39), (some (38, false))⟩, ⟨some 41, .bin .eql (.t 40) (.k (.p (.int .i64 0))), (some (38, false))⟩, ⟨some 42, .pick (.t 38) (.k (.p (.bool true))) (.t 41), none⟩]
def fn67r5 : List AO := [⟨some 43, .call 59 [.k (.p (.int .u64 1))], none⟩, ⟨some 44, .build [.p (.bool false), .e0, .e0] [(2, 1, .t 43)], none⟩, ⟨none, .store 3 (.t 6) (.t 44), none⟩]
def fn67n6 : ACode := .seq (.region fn67r5 false) (.ret)
def fn67n7 : ACode := .cond (.t 42) (fn67n6) (.skip)
def fn67n8 : ACode := .seq (.region fn67r4 false) (fn67n7)
def fn67r6 : List AO := [⟨some 45, .mv (.t 0), none⟩, ⟨some 46, .mv (.t 8), none⟩, ⟨some 47, .mv (.t 11), none⟩, ⟨some 48, .build [.p (.bool false), .e0, .e0] [(0, 1, .t 45), (1, 1, .t 46), (2, 1, .t 47)], none⟩, ⟨none, .store 3 (.t 6) (.t 48), none⟩]
def fn67n10 : ACode := .seq (.region fn67r6 false) (.ret)
def fn67n11 : ACode := .seq (fn67n8) (fn67n10)
def fn67n12 : ACode := .seq (.region fn67r3 false) (fn67n11)
def fn67n13 : ACode := .seq (.region fn67r2 false) (fn67n12)
def fn67n14 : ACode := .seq (.region fn67r1 false) (fn67n13)
def fn67n15 : ACode := .seq (.region fn67r0 false) (fn67n14)
def fn67 : AFun := { nargs := 3, ntmps := 49, results := [.cell true 3 6], body := fn67n15 }

/-- credence/credenceref1.FracInt -/
def fn72r0 : List AO := [⟨some 2, .alloc 0 [.p (.bool false), .e0, .e0], none⟩]
def fn72r1 : List AO := [⟨some 3, .mv (.t 0), none⟩, ⟨some 4, .bin .lss (.t 3) (.k (.p (.int .i64 0))), none⟩]
def fn72r2 : List AO := [⟨some 5, .mv (.t 0), none⟩, ⟨some 6, .bin .add (.t 5) (.k (.p (.int .i64 1))), none⟩, ⟨some 7, .un .neg (.t 6), none⟩, ⟨some 8, .conv .u64 (.t 7), none⟩, ⟨some 9, .bin .add (.t 8) (.k (.p (.int .u64 1))), none⟩, ⟨some 10, .call 59 [.t 9], none⟩, ⟨some 11, .call 59 [.k (.p (.int .u64 1))], none⟩, ⟨some 12, .call 67 [.k (.p (.bool true)), .t 10, .t 11], none⟩, ⟨none, .store 3 (.t 2) (.t 12), none⟩]
def fn72n3 : ACode := .seq (.region fn72r2 false) (.ret)
def fn72n4 : ACode := .cond (.t 4) (fn72n3) (.skip)
def fn72n5 : ACode := .seq (.region fn72r1 false) (fn72n4)
def fn72r3 : List AO := [⟨some 13, .mv (.t 0), none⟩, ⟨some 14, .conv .u64 (.t 13), none⟩, ⟨some 15, .call 59 [.t 14], none⟩, ⟨some 16, .call 59 [.k (.p (.int .u64 1))], none⟩, ⟨some 17, .call 67 [.k (.p (.bool false)), .t 15, .t 16], none⟩, ⟨none, .store 3 (.t 2) (.t 17), none⟩]
def fn72n7 : ACode := .seq (.region fn72r3 false) (.ret)
def fn72n8 : ACode := .seq (fn72n5) (fn72n7)
def fn72n9 : ACode := .seq (.region fn72r0 false) (fn72n8)
def fn72 : AFun := { nargs := 1, ntmps := 18, results := [.cell true 3 2], body := fn72n9 }

/-- credence/rational.one -/
def fn10r0 : List AO := [⟨some 0, .mv (.k (.e0)), none⟩]
def fn10r1 : List AO := [⟨some 1, .slP 1 1 [.p (.int .u32 0)] [(0, 1, .k (.p (.int .u32 1)))], none⟩, ⟨some 0, .mv (.t 1), none⟩]
def fn10n2 : ACode := .seq (.region fn10r1 false) (.ret)
def fn10n3 : ACode := .seq (.region fn10r0 false) (fn10n2)
def fn10 : AFun := { nargs := 0, ntmps := 2, results := [.tmp 0], body := fn10n3 }

/-- credence/rational.parts -/
def fn11r0 : List AO := [⟨some 1, .boxP (.t 0), none⟩, ⟨some 2, .mv (.k (.p (.bool false))), none⟩, ⟨some 3, .mv (.k (.e0)), none⟩, ⟨some 4, .mv (.k (.e0)), none⟩]
def fn11r1 : List AO := [⟨some 5, .fa 2 1 (.t 1), none⟩, ⟨some 6, .load false 1 (.t 5), none⟩, ⟨some 7, .call 9 [.t 6], none⟩, ⟨some 8, .bin .eql (.t 7) (.k (.p (.int .i64 0))), none⟩, ⟨some 9, .mv (.t 8), none⟩, ⟨some 10, .fa 1 1 (.t 1), (some (9, false))⟩, ⟨some 11, .load false 1 (.t 10), (some (9, false))⟩, ⟨some 12, .call 9 [.t 11], (some (9, false))⟩, ⟨some 13, .bin .eql (.t 12) (.k (.p (.int .i64 0))), (some (9, false))⟩, ⟨some 14, .pick (.t 9) (.k (.p (.bool true))) (.t 13), none⟩]
def fn11r2 : List AO := [⟨some 15, .call 10 [], none⟩, ⟨some 2, .mv (.k (.p (.bool false))), none⟩, ⟨some 3, .mv (.k (.e0)), none⟩, ⟨some 4, .mv (.t 15), none⟩]
def fn11n3 : ACode := .seq (.region fn11r2 false) (.ret)
def fn11n4 : ACode := .cond (.t 14) (fn11n3) (.skip)
def fn11n5 : ACode := .seq (.region fn11r1 false) (fn11n4)
def fn11r3 : List AO := [⟨some 16, .fa 0 1 (.t 1), none⟩, ⟨some 17, .load false 1 (.t 16), none⟩, ⟨some 18, .fa 1 1 (.t 1), none⟩, ⟨some 19, .load false 1 (.t 18), none⟩, ⟨some 20, .fa 2 1 (.t 1), none⟩, ⟨some 21, .load false 1 (.t 20), none⟩, ⟨some 2, .mv (.t 17), none⟩, ⟨some 3, .mv (.t 19), none⟩, ⟨some 4, .mv (.t 21), none⟩]
def fn11n7 : ACode := .seq (.region fn11r3 true) (.ret)
def fn11n8 : ACode := .seq (fn11n5) (fn11n7)
def fn11n9 : ACode := .seq (.region fn11r0 false) (fn11n8)
def fn11 : AFun := { nargs := 1, ntmps := 22, results := [.tmp 2, .tmp 3, .tmp 4], body := fn11n9 }

/-- credence/rational.Sign -/
def fn12r0 : List AO := [⟨some 1, .boxP (.t 0), none⟩, ⟨some 2, .mv (.k (.p (.int .i64 0))), none⟩]
def fn12r1 : List AO := [⟨some 7, .load true 3 (.t 1), none⟩, ⟨some 8, .call 11 [.t 7], none⟩, ⟨some 6, .mv (.t 8), none⟩, ⟨some 9, .ext 0 (.t 6), none⟩, ⟨some 10, .ext 1 (.t 6), none⟩, ⟨some 11, .ext 2 (.t 6), none⟩, ⟨some 3, .mv (.t 9), none⟩, ⟨some 4, .mv (.t 10), none⟩, ⟨some 5, .mv (.t 11), none⟩]
def fn12r2 : List AO := [⟨some 13, .mv (.t 4), none⟩, ⟨some 14, .call 9 [.t 13], none⟩, ⟨some 15, .bin .eql (.t 14) (.k (.p (.int .i64 0))), none⟩, ⟨some 12, .mv (.t 15), none⟩]
def fn12r3 : List AO := [⟨some 2, .mv (.k (.p (.int .i64 0))), none⟩]
def fn12n4 : ACode := .seq (.region fn12r3 false) (.ret)
def fn12r4 : List AO := [⟨some 17, .mv (.t 3), none⟩, ⟨some 16, .mv (.t 17), none⟩]
def fn12r5 : List AO := [⟨some 2, .mv (.k (.p (.int .i64 (-1)))), none⟩]
def fn12n7 : ACode := .seq (.region fn12r5 false) (.ret)
def fn12n8 : ACode := .cond (.t 16) (fn12n7) (.skip)
def fn12n9 : ACode := .seq (.region fn12r4 false) (fn12n8)
def fn12n10 : ACode := .cond (.t 12) (fn12n4) (fn12n9)
def fn12n11 : ACode := .seq (.region fn12r2 false) (fn12n10)
def fn12n12 : ACode := .block 0 (fn12n11)
def fn12r6 : List AO := [⟨some 2, .mv (.k (.p (.int .i64 1))), none⟩]
def fn12n14 : ACode := .seq (.region fn12r6 false) (.ret)
def fn12n15 : ACode := .seq (fn12n12) (fn12n14)
def fn12n16 : ACode := .seq (.region fn12r1 false) (fn12n15)
def fn12n17 : ACode := .seq (.region fn12r0 false) (fn12n16)
def fn12 : AFun := { nargs := 1, ntmps := 18, results := [.tmp 2], body := fn12n17 }

/-- credence/bignat.Uint64 -/
def fn18r0 : List AO := [⟨some 2, .mv (.k (.p (.int .u64 0))), none⟩, ⟨some 3, .mv (.k (.p (.bool false))), none⟩]
def fn18r1 : List AO := [⟨some 7, .mv (.t 0), none⟩, ⟨some 8, .call 7 [.t 7], none⟩, ⟨some 0, .mv (.t 8), none⟩]
def fn18r2 : List AO := [⟨some 9, .mv (.t 0), none⟩, ⟨some 10, .len (.t 9), none⟩, ⟨some 11, .bin .gtr (.t 10) (.k (.p (.int .i64 2))), none⟩]
def fn18r3 : List AO := [⟨some 2, .mv (.k (.p (.int .u64 0))), none⟩, ⟨some 3, .mv (.k (.p (.bool false))), none⟩]
def fn18n4 : ACode := .seq (.region fn18r3 false) (.ret)
def fn18n5 : ACode := .cond (.t 11) (fn18n4) (.skip)
def fn18n6 : ACode := .seq (.region fn18r2 false) (fn18n5)
def fn18r4 : List AO := [⟨some 4, .mv (.k (.p (.int .u64 0))), none⟩]
def fn18r5 : List AO := [⟨some 12, .mv (.t 0), none⟩, ⟨some 13, .len (.t 12), none⟩, ⟨some 14, .mv (.k (.p (.int .i64 0))), none⟩]
def fn18r6 : List AO := [⟨some 15, .bin .lss (.t 14) (.t 13), none⟩]
def fn18n10 : ACode := .cond (.t 15) (.skip) (.exit 0)
def fn18r7 : List AO := [⟨some 16, .mv (.t 14), none⟩, ⟨some 17, .ia 1 (.t 12) (.t 14), none⟩, ⟨some 18, .load false 1 (.t 17), none⟩, ⟨some 5, .mv (.t 16), none⟩, ⟨some 6, .mv (.t 18), none⟩]
def fn18r8 : List AO := [⟨some 19, .mv (.t 4), none⟩, ⟨some 20, .mv (.t 6), none⟩, ⟨some 21, .conv .u64 (.t 20), none⟩, ⟨some 22, .mv (.t 5), none⟩, ⟨some 23, .bin .mul (.k (.p (.int .i64 32))) (.t 22), none⟩, ⟨some 24, .bin .shl (.t 21) (.t 23), none⟩, ⟨some 25, .bin .or (.t 19) (.t 24), none⟩, ⟨some 4, .mv (.t 25), none⟩]
def fn18n13 : ACode := .seq (.region fn18r7 false) (.region fn18r8 false)
def fn18n14 : ACode := .block 1 (fn18n13)
def fn18r9 : List AO := [⟨some 26, .bin .add (.t 14) (.k (.p (.int .i64 1))), none⟩, ⟨some 14, .mv (.t 26), none⟩]
def fn18n16 : ACode := .seq (fn18n14) (.region fn18r9 false)
def fn18n17 : ACode := .seq (fn18n10) (fn18n16)
def fn18n18 : ACode := .seq (.region fn18r6 false) (fn18n17)
def fn18n19 : ACode := .loop (fn18n18)
def fn18n20 : ACode := .block 0 (fn18n19)
def fn18n21 : ACode := .seq (.region fn18r5 false) (fn18n20)
def fn18r10 : List AO := [⟨some 27, .mv (.t 4), none⟩, ⟨some 2, .mv (.t 27), none⟩, ⟨some 3, .mv (.k (.p (.bool true))), none⟩]
def fn18n23 : ACode := .seq (.region fn18r10 false) (.ret)
def fn18n24 : ACode := .seq (fn18n21) (fn18n23)
def fn18n25 : ACode := .seq (.region fn18r4 false) (fn18n24)
def fn18n26 : ACode := .seq (fn18n6) (fn18n25)
def fn18n27 : ACode := .seq (.region fn18r1 false) (fn18n26)
def fn18n28 : ACode := .seq (.region fn18r0 false) (fn18n27)
def fn18 : AFun := { nargs := 1, ntmps := 28, results := [.tmp 2, .tmp 3], body := fn18n28 }

/-- credence/bignat.gcdSmall -/
def fn20r0 : List AO := [⟨some 4, .mv (.k (.e0)), none⟩]
def fn20r1 : List AO := [⟨some 10, .mv (.t 0), none⟩, ⟨some 11, .call 18 [.t 10], none⟩, ⟨some 9, .mv (.t 11), none⟩, ⟨some 12, .ext 0 (.t 9), none⟩, ⟨some 13, .ext 1 (.t 9), none⟩, ⟨some 5, .mv (.t 12), none⟩, ⟨some 6, .mv (.t 13), none⟩]
def fn20r2 : List AO := [⟨some 15, .mv (.t 1), none⟩, ⟨some 16, .call 18 [.t 15], none⟩, ⟨some 14, .mv (.t 16), none⟩, ⟨some 17, .ext 0 (.t 14), none⟩, ⟨some 18, .ext 1 (.t 14), none⟩, ⟨some 7, .mv (.t 17), none⟩, ⟨some 8, .mv (.t 18), none⟩]
def fn20r3 : List AO := [⟨some 19, .mv (.t 7), none⟩, ⟨some 20, .bin .neq (.t 19) (.k (.p (.int .u64 0))), none⟩]
def fn20n4 : ACode := .cond (.t 20) (.skip) (.exit 0)
def fn20n5 : ACode := .seq (.region fn20r3 false) (fn20n4)
def fn20r4 : List AO := [⟨some 21, .mv (.t 7), none⟩, ⟨some 22, .mv (.t 5), none⟩, ⟨some 23, .mv (.t 7), none⟩, ⟨some 24, .bin .rem (.t 22) (.t 23), none⟩, ⟨some 5, .mv (.t 21), none⟩, ⟨some 7, .mv (.t 24), none⟩]
def fn20n7 : ACode := .block 1 (.region fn20r4 true)
def fn20n8 : ACode := .seq (fn20n5) (fn20n7)
def fn20n9 : ACode := .loop (fn20n8)
def fn20n10 : ACode := .block 0 (fn20n9)
def fn20r5 : List AO := [⟨some 25, .mv (.t 5), none⟩, ⟨some 26, .call 19 [.t 25], none⟩, ⟨some 4, .mv (.t 26), none⟩]
def fn20n12 : ACode := .seq (.region fn20r5 false) (.ret)
def fn20n13 : ACode := .seq (fn20n10) (fn20n12)
def fn20n14 : ACode := .seq (.region fn20r2 false) (fn20n13)
def fn20n15 : ACode := .seq (.region fn20r1 false) (fn20n14)
def fn20n16 : ACode := .seq (.region fn20r0 false) (fn20n15)
def fn20 : AFun := { nargs := 2, ntmps := 27, results := [.tmp 4], body := fn20n16 }

/-- credence/bignat.GCD -/
def fn28r0 : List AO := [⟨some 4, .mv (.k (.e0)), none⟩]
def fn28r1 : List AO := [⟨some 8, .mv (.t 0), none⟩, ⟨some 9, .call 16 [.t 8], none⟩, ⟨some 10, .mv (.t 1), none⟩, ⟨some 11, .call 16 [.t 10], none⟩, ⟨some 0, .mv (.t 9), none⟩, ⟨some 1, .mv (.t 11), none⟩]
def fn28r2 : List AO := [⟨some 12, .mv (.t 1), none⟩, ⟨some 13, .len (.t 12), none⟩, ⟨some 14, .bin .gtr (.t 13) (.k (.p (.int .i64 0))), none⟩]
def fn28n3 : ACode := .cond (.t 14) (.skip) (.exit 0)
def fn28n4 : ACode := .seq (.region fn28r2 false) (fn28n3)
def fn28r3 : List AO := [⟨some 15, .mv (.t 0), none⟩, ⟨some 16, .len (.t 15), none⟩, ⟨some 17, .bin .leq (.t 16) (.k (.p (.int .i64 2))), none⟩, ⟨some 18, .mv (.t 17), none⟩, ⟨some 19, .mv (.t 1), (some (18, true))⟩, ⟨some 20, .len (.t 19), (some (18, true))⟩, ⟨some 21, .bin .leq (.t 20) (.k (.p (.int .i64 2))), (some (18, true))⟩, ⟨some 22, .pick (.t 18) (.t 21) (.k (.p (.bool false))), none⟩]
def fn28r4 : List AO := [⟨some 23, .mv (.t 0), none⟩, ⟨some 24, .mv (.t 1), none⟩, ⟨some 25, .call 20 [.t 23, .t 24], none⟩, ⟨some 4, .mv (.t 25), none⟩]
def fn28n7 : ACode := .seq (.region fn28r4 false) (.ret)
def fn28n8 : ACode := .cond (.t 22) (fn28n7) (.skip)
def fn28n9 : ACode := .seq (.region fn28r3 false) (fn28n8)
def fn28r5 : List AO := [⟨some 27, .mv (.t 0), none⟩, ⟨some 28, .mv (.t 1), none⟩, ⟨some 29, .call 27 [.t 27, .t 28], none⟩, ⟨some 26, .mv (.t 29), none⟩, ⟨some 30, .ext 0 (.t 26), none⟩, ⟨some 31, .ext 1 (.t 26), none⟩, ⟨some 32, .ext 2 (.t 26), none⟩, ⟨some 5, .mv (.t 30), none⟩, ⟨some 6, .mv (.t 31), none⟩, ⟨some 7, .mv (.t 32), none⟩]
def fn28r6 : List AO := [⟨some 33, .mv (.t 1), none⟩, ⟨some 34, .mv (.t 6), none⟩, ⟨some 0, .mv (.t 33), none⟩, ⟨some 1, .mv (.t 34), none⟩]
def fn28n12 : ACode := .seq (.region fn28r5 false) (.region fn28r6 false)
def fn28n13 : ACode := .seq (fn28n9) (fn28n12)
def fn28n14 : ACode := .block 1 (fn28n13)
def fn28n15 : ACode := .seq (fn28n4) (fn28n14)
def fn28n16 : ACode := .loop (fn28n15)
def fn28n17 : ACode := .block 0 (fn28n16)
def fn28r7 : List AO := [⟨some 35, .mv (.t 0), none⟩, ⟨some 4, .mv (.t 35), none⟩]
def fn28n19 : ACode := .seq (.region fn28r7 false) (.ret)
def fn28n20 : ACode := .seq (fn28n17) (fn28n19)
def fn28n21 : ACode := .seq (.region fn28r1 false) (fn28n20)
def fn28n22 : ACode := .seq (.region fn28r0 false) (fn28n21)
def fn28 : AFun := { nargs := 2, ntmps := 36, results := [.tmp 4], body := fn28n22 }

/-- credence/rational.reduce -/
def fn29r0 : List AO := [⟨some 6, .alloc 0 [.p (.bool false), .e0, .e0], none⟩]
def fn29r1 : List AO := [⟨some 8, .mv (.t 1), none⟩, ⟨some 9, .call 17 [.t 8], none⟩, ⟨some 10, .mv (.t 2), none⟩, ⟨some 11, .call 17 [.t 10], none⟩, ⟨some 1, .mv (.t 9), none⟩, ⟨some 2, .mv (.t 11), none⟩]
def fn29r2 : List AO := [⟨some 12, .mv (.t 1), none⟩, ⟨some 13, .len (.t 12), none⟩, ⟨some 14, .bin .eql (.t 13) (.k (.p (.int .i64 0))), none⟩, ⟨some 15, .mv (.t 14), none⟩, ⟨some 16, .mv (.t 2), (some (15, false))⟩, ⟨some 17, .len (.t 16), (some (15, false))⟩, ⟨some 18, .bin .eql (.t 17) (.k (.p (.int .i64 0))), (some (15, false))⟩, ⟨some 19, .pick (.t 15) (.k (.p (.bool true))) (.t 18), none⟩]
def fn29r3 : List AO := [⟨some 20, .call 10 [], none⟩, ⟨some 21, .build [.p (.bool false), .e0, .e0] [(2, 1, .t 20)], none⟩, ⟨none, .store 3 (.t 6) (.t 21), none⟩]
def fn29n4 : ACode := .seq (.region fn29r3 false) (.ret)
def fn29n5 : ACode := .cond (.t 19) (fn29n4) (.skip)
def fn29n6 : ACode := .seq (.region fn29r2 false) (fn29n5)
def fn29r4 : List AO := [⟨some 22, .mv (.t 2), none⟩, ⟨some 23, .len (.t 22), none⟩, ⟨some 24, .bin .gtr (.t 23) (.k (.p (.int .i64 1))), none⟩, ⟨some 25, .mv (.t 24), none⟩, ⟨some 26, .mv (.t 2), (some (25, false))⟩, ⟨some 27, .ia 1 (.t 26) (.k (.p (.int .i64 0))), (some (25, false))⟩, ⟨some 28, .load false 1 (.t 27), (some (25, false))⟩, ⟨some 29, .bin .neq (.t 28) (.k (.p (.int .u32 1))), (some (25, false))⟩, ⟨some 30, .pick (.t 25) (.k (.p (.bool true))) (.t 29), none⟩]
def fn29r5 : List AO := [⟨some 31, .mv (.t 1), none⟩, ⟨some 32, .mv (.t 2), none⟩, ⟨some 33, .call 28 [.t 31, .t 32], none⟩, ⟨some 7, .mv (.t 33), none⟩]
def fn29r6 : List AO := [⟨some 34, .mv (.t 7), none⟩, ⟨some 35, .len (.t 34), none⟩, ⟨some 36, .bin .gtr (.t 35) (.k (.p (.int .i64 1))), none⟩, ⟨some 37, .mv (.t 36), none⟩, ⟨some 38, .mv (.t 7), (some (37, false))⟩, ⟨some 39, .ia 1 (.t 38) (.k (.p (.int .i64 0))), (some (37, false))⟩, ⟨some 40, .load false 1 (.t 39), (some (37, false))⟩, ⟨some 41, .bin .neq (.t 40) (.k (.p (.int .u32 1))), (some (37, false))⟩, ⟨some 42, .pick (.t 37) (.k (.p (.bool true))) (.t 41), none⟩]
def fn29r7 : List AO := [⟨some 44, .mv (.t 1), none⟩, ⟨some 45, .mv (.t 7), none⟩, ⟨some 46, .call 27 [.t 44, .t 45], none⟩, ⟨some 43, .mv (.t 46), none⟩, ⟨some 47, .ext 0 (.t 43), none⟩, ⟨some 48, .ext 1 (.t 43), none⟩, ⟨some 49, .ext 2 (.t 43), none⟩, ⟨some 1, .mv (.t 47), none⟩]
def fn29r8 : List AO := [⟨some 51, .mv (.t 2), none⟩, ⟨some 52, .mv (.t 7), none⟩, ⟨some 53, .call 27 [.t 51, .t 52], none⟩, ⟨some 50, .mv (.t 53), none⟩, ⟨some 54, .ext 0 (.t 50), none⟩, ⟨some 55, .ext 1 (.t 50), none⟩, ⟨some 56, .ext 2 (.t 50), none⟩, ⟨some 2, .mv (.t 54), none⟩]
def fn29n12 : ACode := .seq (.region fn29r7 false) (.region fn29r8 false)
def fn29n13 : ACode := .cond (.t 42) (fn29n12) (.skip)
def fn29n14 : ACode := .seq (.region fn29r6 false) (fn29n13)
def fn29n15 : ACode := .seq (.region fn29r5 false) (fn29n14)
def fn29n16 : ACode := .cond (.t 30) (fn29n15) (.skip)
def fn29n17 : ACode := .seq (.region fn29r4 false) (fn29n16)
def fn29r9 : List AO := [⟨some 57, .mv (.t 0), none⟩, ⟨some 58, .mv (.t 1), none⟩, ⟨some 59, .mv (.t 2), none⟩, ⟨some 60, .build [.p (.bool false), .e0, .e0] [(0, 1, .t 57), (1, 1, .t 58), (2, 1, .t 59)], none⟩, ⟨none, .store 3 (.t 6) (.t 60), none⟩]
def fn29n19 : ACode := .seq (.region fn29r9 false) (.ret)
def fn29n20 : ACode := .seq (fn29n17) (fn29n19)
def fn29n21 : ACode := .seq (fn29n6) (fn29n20)
def fn29n22 : ACode := .seq (.region fn29r1 false) (fn29n21)
def fn29n23 : ACode := .seq (.region fn29r0 false) (fn29n22)
def fn29 : AFun := { nargs := 3, ntmps := 61, results := [.cell true 3 6], body := fn29n23 }

/-- credence/rational.Normalize -/
def fn46r0 : List AO := [⟨some 1, .boxP (.t 0), none⟩, ⟨some 2, .alloc 0 [.p (.bool false), .e0, .e0], none⟩]
def fn46r1 : List AO := [⟨some 3, .fa 0 1 (.t 1), none⟩, ⟨some 4, .load false 1 (.t 3), none⟩, ⟨some 5, .fa 1 1 (.t 1), none⟩, ⟨some 6, .load false 1 (.t 5), none⟩, ⟨some 7, .fa 2 1 (.t 1), none⟩, ⟨some 8, .load false 1 (.t 7), none⟩, ⟨some 9, .call 29 [.t 4, .t 6, .t 8], none⟩, ⟨none, .store 3 (.t 2) (.t 9), none⟩]
def fn46n2 : ACode := .seq (.region fn46r1 false) (.ret)
def fn46n3 : ACode := .seq (.region fn46r0 false) (fn46n2)
def fn46 : AFun := { nargs := 1, ntmps := 10, results := [.cell true 3 2], body := fn46n3 }

/-- credence/sampler.lcm -/
def fn118r0 : List AO := [⟨some 4, .mv (.k (.e0)), none⟩]
def fn118r1 : List AO := [⟨some 9, .mv (.t 0), none⟩, ⟨some 10, .mv (.t 0), none⟩, ⟨some 11, .mv (.t 1), none⟩, ⟨some 12, .call 28 [.t 10, .t 11], none⟩, ⟨some 13, .call 27 [.t 9, .t 12], none⟩, ⟨some 8, .mv (.t 13), none⟩, ⟨some 14, .ext 0 (.t 8), none⟩, ⟨some 15, .ext 1 (.t 8), none⟩, ⟨some 16, .ext 2 (.t 8), none⟩, ⟨some 5, .mv (.t 14), none⟩, ⟨some 6, .mv (.t 15), none⟩, ⟨some 7, .mv (.t 16), none⟩]
def fn118r2 : List AO := [⟨some 17, .mv (.t 5), none⟩, ⟨some 18, .mv (.t 1), none⟩, ⟨some 19, .call 14 [.t 17, .t 18], none⟩, ⟨some 4, .mv (.t 19), none⟩]
def fn118n3 : ACode := .seq (.region fn118r2 false) (.ret)
def fn118n4 : ACode := .seq (.region fn118r1 false) (fn118n3)
def fn118n5 : ACode := .seq (.region fn118r0 false) (fn118n4)
def fn118 : AFun := { nargs := 2, ntmps := 20, results := [.tmp 4], body := fn118n5 }

/-- credence/bignat.Add -/
def fn15r0 : List AO := [⟨some 4, .mv (.k (.e0)), none⟩]
def fn15r1 : List AO := [⟨some 8, .mv (.t 0), none⟩, ⟨some 9, .call 7 [.t 8], none⟩, ⟨some 10, .mv (.t 1), none⟩, ⟨some 11, .call 7 [.t 10], none⟩, ⟨some 0, .mv (.t 9), none⟩, ⟨some 1, .mv (.t 11), none⟩]
def fn15r2 : List AO := [⟨some 12, .mv (.t 0), none⟩, ⟨some 13, .len (.t 12), none⟩, ⟨some 14, .mv (.t 1), none⟩, ⟨some 15, .len (.t 14), none⟩, ⟨some 16, .bin .lss (.t 13) (.t 15), none⟩]
def fn15r3 : List AO := [⟨some 17, .mv (.t 1), none⟩, ⟨some 18, .mv (.t 0), none⟩, ⟨some 0, .mv (.t 17), none⟩, ⟨some 1, .mv (.t 18), none⟩]
def fn15n4 : ACode := .cond (.t 16) (.region fn15r3 false) (.skip)
def fn15n5 : ACode := .seq (.region fn15r2 false) (fn15n4)
def fn15r4 : List AO := [⟨some 19, .mv (.t 0), none⟩, ⟨some 20, .len (.t 19), none⟩, ⟨some 21, .bin .add (.t 20) (.k (.p (.int .i64 1))), none⟩, ⟨some 22, .mk 0 1 4 [.p (.int .u32 0)] (.t 21) (.t 21), none⟩, ⟨some 5, .mv (.t 22), none⟩]
def fn15r5 : List AO := [⟨some 6, .mv (.k (.p (.int .u64 0))), none⟩]
def fn15r6 : List AO := [⟨some 23, .mv (.t 0), none⟩, ⟨some 24, .len (.t 23), none⟩, ⟨some 25, .mv (.k (.p (.int .i64 0))), none⟩]
def fn15r7 : List AO := [⟨some 26, .bin .lss (.t 25) (.t 24), none⟩]
def fn15n10 : ACode := .cond (.t 26) (.skip) (.exit 0)
def fn15r8 : List AO := [⟨some 27, .mv (.t 25), none⟩, ⟨some 7, .mv (.t 27), none⟩]
def fn15r9 : List AO := [⟨some 28, .mv (.t 6), none⟩, ⟨some 29, .mv (.t 0), none⟩, ⟨some 30, .mv (.t 7), none⟩, ⟨some 31, .ia 1 (.t 29) (.t 30), none⟩, ⟨some 32, .load false 1 (.t 31), none⟩, ⟨some 33, .conv .u64 (.t 32), none⟩, ⟨some 34, .bin .add (.t 28) (.t 33), none⟩, ⟨some 6, .mv (.t 34), none⟩]
def fn15r10 : List AO := [⟨some 35, .mv (.t 7), none⟩, ⟨some 36, .mv (.t 1), none⟩, ⟨some 37, .len (.t 36), none⟩, ⟨some 38, .bin .lss (.t 35) (.t 37), none⟩]
def fn15r11 : List AO := [⟨some 39, .mv (.t 6), none⟩, ⟨some 40, .mv (.t 1), none⟩, ⟨some 41, .mv (.t 7), none⟩, ⟨some 42, .ia 1 (.t 40) (.t 41), none⟩, ⟨some 43, .load false 1 (.t 42), none⟩, ⟨some 44, .conv .u64 (.t 43), none⟩, ⟨some 45, .bin .add (.t 39) (.t 44), none⟩, ⟨some 6, .mv (.t 45), none⟩]
def fn15n15 : ACode := .cond (.t 38) (.region fn15r11 false) (.skip)
def fn15n16 : ACode := .seq (.region fn15r10 false) (fn15n15)
def fn15r12 : List AO := [⟨some 46, .mv (.t 5), none⟩, ⟨some 47, .mv (.t 7), none⟩, ⟨some 48, .mv (.t 6), none⟩, ⟨some 49, .conv .u32 (.t 48), none⟩, ⟨some 50, .ia 1 (.t 46) (.t 47), none⟩, ⟨none, .store 1 (.t 50) (.t 49), none⟩]
def fn15r13 : List AO := [⟨some 51, .mv (.t 6), none⟩, ⟨some 52, .bin .shr (.t 51) (.k (.p (.int .u64 32))), none⟩, ⟨some 6, .mv (.t 52), none⟩]
def fn15n19 : ACode := .seq (.region fn15r12 false) (.region fn15r13 false)
def fn15n20 : ACode := .seq (fn15n16) (fn15n19)
def fn15n21 : ACode := .seq (.region fn15r9 false) (fn15n20)
def fn15n22 : ACode := .seq (.region fn15r8 false) (fn15n21)
def fn15n23 : ACode := .block 1 (fn15n22)
def fn15r14 : List AO := [⟨some 53, .bin .add (.t 25) (.k (.p (.int .i64 1))), none⟩, ⟨some 25, .mv (.t 53), none⟩]
def fn15n25 : ACode := .seq (fn15n23) (.region fn15r14 false)
def fn15n26 : ACode := .seq (fn15n10) (fn15n25)
def fn15n27 : ACode := .seq (.region fn15r7 false) (fn15n26)
def fn15n28 : ACode := .loop (fn15n27)
def fn15n29 : ACode := .block 0 (fn15n28)
def fn15n30 : ACode := .seq (.region fn15r6 false) (fn15n29)
def fn15r15 : List AO := [⟨some 54, .mv (.t 5), none⟩, ⟨some 55, .mv (.t 0), none⟩, ⟨some 56, .len (.t 55), none⟩, ⟨some 57, .mv (.t 6), none⟩, ⟨some 58, .conv .u32 (.t 57), none⟩, ⟨some 59, .ia 1 (.t 54) (.t 56), none⟩, ⟨none, .store 1 (.t 59) (.t 58), none⟩]
def fn15r16 : List AO := [⟨some 60, .mv (.t 5), none⟩, ⟨some 61, .callR 100 7 [.t 60], none⟩, ⟨some 4, .mv (.t 61), none⟩]
def fn15n33 : ACode := .seq (.region fn15r16 false) (.ret)
def fn15n34 : ACode := .seq (.region fn15r15 false) (fn15n33)
def fn15n35 : ACode := .seq (fn15n30) (fn15n34)
def fn15n36 : ACode := .seq (.region fn15r5 false) (fn15n35)
def fn15n37 : ACode := .seq (.region fn15r4 false) (fn15n36)
def fn15n38 : ACode := .seq (fn15n5) (fn15n37)
def fn15n39 : ACode := .seq (.region fn15r1 false) (fn15n38)
def fn15n40 : ACode := .seq (.region fn15r0 false) (fn15n39)
def fn15 : AFun := { nargs := 2, ntmps := 62, results := [.tmp 4], body := fn15n40 }

/-- credence/sampler.choose -/
def fn119r0 : List AO := [⟨some 4, .mv (.k (.p (.int .i64 0))), none⟩, ⟨some 5, .mv (.k (.p (.int .i64 0))), none⟩, ⟨some 6, .mv (.k (.p (.int .i64 0))), none⟩]
def fn119r1 : List AO := [⟨some 23, .call 19 [.k (.p (.int .u64 1))], none⟩, ⟨some 7, .mv (.t 23), none⟩]
def fn119r2 : List AO := [⟨some 24, .mv (.t 0), none⟩, ⟨some 25, .len (.t 24), none⟩, ⟨some 26, .mk 0 3 56 [.p (.bool false), .e0, .e0] (.t 25) (.t 25), none⟩, ⟨some 8, .mv (.t 26), none⟩]
def fn119r3 : List AO := [⟨some 27, .mv (.t 0), none⟩, ⟨some 28, .len (.t 27), none⟩, ⟨some 29, .mv (.k (.p (.int .i64 0))), none⟩]
def fn119r4 : List AO := [⟨some 30, .bin .lss (.t 29) (.t 28), none⟩]
def fn119n5 : ACode := .cond (.t 30) (.skip) (.exit 0)
def fn119r5 : List AO := [⟨some 31, .mv (.t 29), none⟩, ⟨some 32, .ia 3 (.t 27) (.t 29), none⟩, ⟨some 33, .load true 3 (.t 32), none⟩, ⟨some 10, .alloc 1 [.p (.bool false), .e0, .e0], none⟩, ⟨some 9, .mv (.t 31), none⟩, ⟨none, .store 3 (.t 10) (.t 33), none⟩]
def fn119r6 : List AO := [⟨some 34, .load true 3 (.t 10), none⟩, ⟨some 35, .call 12 [.t 34], none⟩, ⟨some 36, .bin .lss (.t 35) (.k (.p (.int .i64 0))), none⟩]
def fn119r7 : List AO := [⟨some 4, .mv (.k (.p (.int .i64 0))), none⟩, ⟨some 5, .mv (.k (.p (.int .i64 0))), none⟩, ⟨some 6, .mv (.k (.p (.int .i64 1))), none⟩]
def fn119n9 : ACode := .seq (.region fn119r7 false) (.ret)
def fn119n10 : ACode := .cond (.t 36) (fn119n9) (.skip)
def fn119n11 : ACode := .seq (.region fn119r6 false) (fn119n10)
def fn119r8 : List AO := [⟨some 37, .mv (.t 8), none⟩, ⟨some 38, .mv (.t 9), none⟩, ⟨some 39, .load true 3 (.t 10), none⟩, ⟨some 40, .call 46 [.t 39], none⟩, ⟨some 41, .ia 3 (.t 37) (.t 38), none⟩, ⟨none, .store 3 (.t 41) (.t 40), none⟩]
def fn119r9 : List AO := [⟨some 42, .mv (.t 7), none⟩, ⟨some 43, .mv (.t 8), none⟩, ⟨some 44, .mv (.t 9), none⟩, ⟨some 45, .ia 3 (.t 43) (.t 44), none⟩, ⟨some 46, .fa 2 1 (.t 45), none⟩, ⟨some 47, .load false 1 (.t 46), none⟩, ⟨some 48, .call 118 [.t 42, .t 47], none⟩, ⟨some 7, .mv (.t 48), none⟩]
def fn119n14 : ACode := .seq (.region fn119r8 false) (.region fn119r9 false)
def fn119n15 : ACode := .seq (fn119n11) (fn119n14)
def fn119n16 : ACode := .seq (.region fn119r5 false) (fn119n15)
def fn119n17 : ACode := .block 1 (fn119n16)
def fn119r10 : List AO := [⟨some 49, .bin .add (.t 29) (.k (.p (.int .i64 1))), none⟩, ⟨some 29, .mv (.t 49), none⟩]
def fn119n19 : ACode := .seq (fn119n17) (.region fn119r10 false)
def fn119n20 : ACode := .seq (fn119n5) (fn119n19)
def fn119n21 : ACode := .seq (.region fn119r4 false) (fn119n20)
def fn119n22 : ACode := .loop (fn119n21)
def fn119n23 : ACode := .block 0 (fn119n22)
def fn119n24 : ACode := .seq (.region fn119r3 false) (fn119n23)
def fn119r11 : List AO := [⟨some 11, .mv (.k (.e0)), none⟩]
def fn119r12 : List AO := [⟨some 50, .call 19 [.k (.p (.int .u64 0))], none⟩, ⟨some 12, .mv (.t 50), none⟩]
def fn119r13 : List AO := [⟨some 51, .mv (.t 8), none⟩, ⟨some 52, .len (.t 51), none⟩, ⟨some 53, .mv (.k (.p (.int .i64 0))), none⟩]
def fn119r14 : List AO := [⟨some 54, .bin .lss (.t 53) (.t 52), none⟩]
def fn119n29 : ACode := .cond (.t 54) (.skip) (.exit 2)
def fn119r15 : List AO := [⟨some 55, .ia 3 (.t 51) (.t 53), none⟩, ⟨some 56, .load true 3 (.t 55), none⟩, ⟨some 14, .alloc 2 [.p (.bool false), .e0, .e0], none⟩, ⟨none, .store 3 (.t 14) (.t 56), none⟩]
def fn119r16 : List AO := [⟨some 58, .mv (.t 7), none⟩, ⟨some 59, .fa 2 1 (.t 14), none⟩, ⟨some 60, .load false 1 (.t 59), none⟩, ⟨some 61, .call 27 [.t 58, .t 60], none⟩, ⟨some 57, .mv (.t 61), none⟩, ⟨some 62, .ext 0 (.t 57), none⟩, ⟨some 63, .ext 1 (.t 57), none⟩, ⟨some 64, .ext 2 (.t 57), none⟩, ⟨some 15, .mv (.t 62), none⟩, ⟨some 16, .mv (.t 63), none⟩, ⟨some 17, .mv (.t 64), none⟩]
def fn119r17 : List AO := [⟨some 65, .mv (.t 12), none⟩, ⟨some 66, .fa 1 1 (.t 14), none⟩, ⟨some 67, .load false 1 (.t 66), none⟩, ⟨some 68, .mv (.t 15), none⟩, ⟨some 69, .call 14 [.t 67, .t 68], none⟩, ⟨some 70, .call 15 [.t 65, .t 69], none⟩, ⟨some 12, .mv (.t 70), none⟩]
def fn119r18 : List AO := [⟨some 71, .mv (.t 11), none⟩, ⟨some 72, .mv (.t 12), none⟩, ⟨some 73, .slP 1 1 [.e0] [(0, 1, .t 72)], none⟩, ⟨some 74, .app 3 1 24 (.t 71) (.t 73), none⟩, ⟨some 11, .mv (.t 74), none⟩]
def fn119n34 : ACode := .seq (.region fn119r17 false) (.region fn119r18 false)
def fn119n35 : ACode := .seq (.region fn119r16 false) (fn119n34)
def fn119n36 : ACode := .seq (.region fn119r15 false) (fn119n35)
def fn119n37 : ACode := .block 3 (fn119n36)
def fn119r19 : List AO := [⟨some 75, .bin .add (.t 53) (.k (.p (.int .i64 1))), none⟩, ⟨some 53, .mv (.t 75), none⟩]
def fn119n39 : ACode := .seq (fn119n37) (.region fn119r19 false)
def fn119n40 : ACode := .seq (fn119n29) (fn119n39)
def fn119n41 : ACode := .seq (.region fn119r14 false) (fn119n40)
def fn119n42 : ACode := .loop (fn119n41)
def fn119n43 : ACode := .block 2 (fn119n42)
def fn119n44 : ACode := .seq (.region fn119r13 false) (fn119n43)
def fn119r20 : List AO := [⟨some 77, .mv (.t 12), none⟩, ⟨some 78, .mv (.t 1), none⟩, ⟨some 79, .call 115 [.t 77, .t 78], none⟩, ⟨some 76, .mv (.t 79), none⟩, ⟨some 80, .ext 0 (.t 76), none⟩, ⟨some 81, .ext 1 (.t 76), none⟩, ⟨some 82, .ext 2 (.t 76), none⟩, ⟨some 18, .mv (.t 80), none⟩, ⟨some 19, .mv (.t 81), none⟩, ⟨some 20, .mv (.t 82), none⟩]
def fn119r21 : List AO := [⟨some 83, .mv (.t 20), none⟩, ⟨some 84, .bin .neq (.t 83) (.k (.p (.int .i64 0))), none⟩]
def fn119r22 : List AO := [⟨some 85, .mv (.t 20), none⟩, ⟨some 4, .mv (.k (.p (.int .i64 0))), none⟩, ⟨some 5, .mv (.k (.p (.int .i64 0))), none⟩, ⟨some 6, .mv (.t 85), none⟩]
def fn119n48 : ACode := .seq (.region fn119r22 false) (.ret)
def fn119n49 : ACode := .cond (.t 84) (fn119n48) (.skip)
def fn119n50 : ACode := .seq (.region fn119r21 false) (fn119n49)
def fn119r23 : List AO := [⟨some 86, .mv (.t 11), none⟩, ⟨some 87, .len (.t 86), none⟩, ⟨some 88, .mv (.k (.p (.int .i64 0))), none⟩]
def fn119r24 : List AO := [⟨some 89, .bin .lss (.t 88) (.t 87), none⟩]
def fn119n53 : ACode := .cond (.t 89) (.skip) (.exit 4)
def fn119r25 : List AO := [⟨some 90, .mv (.t 88), none⟩, ⟨some 91, .ia 1 (.t 86) (.t 88), none⟩, ⟨some 92, .load false 1 (.t 91), none⟩, ⟨some 21, .mv (.t 90), none⟩, ⟨some 22, .mv (.t 92), none⟩]
def fn119r26 : List AO := [⟨some 93, .mv (.t 18), none⟩, ⟨some 94, .mv (.t 22), none⟩, ⟨some 95, .call 13 [.t 93, .t 94], none⟩, ⟨some 96, .bin .lss (.t 95) (.k (.p (.int .i64 0))), none⟩]
def fn119r27 : List AO := [⟨some 97, .mv (.t 21), none⟩, ⟨some 98, .mv (.t 19), none⟩, ⟨some 4, .mv (.t 97), none⟩, ⟨some 5, .mv (.t 98), none⟩, ⟨some 6, .mv (.k (.p (.int .i64 0))), none⟩]
def fn119n57 : ACode := .seq (.region fn119r27 false) (.ret)
def fn119n58 : ACode := .cond (.t 96) (fn119n57) (.skip)
def fn119n59 : ACode := .seq (.region fn119r26 false) (fn119n58)
def fn119n60 : ACode := .seq (.region fn119r25 false) (fn119n59)
def fn119n61 : ACode := .block 5 (fn119n60)
def fn119r28 : List AO := [⟨some 99, .bin .add (.t 88) (.k (.p (.int .i64 1))), none⟩, ⟨some 88, .mv (.t 99), none⟩]
def fn119n63 : ACode := .seq (fn119n61) (.region fn119r28 false)
def fn119n64 : ACode := .seq (fn119n53) (fn119n63)
def fn119n65 : ACode := .seq (.region fn119r24 false) (fn119n64)
def fn119n66 : ACode := .loop (fn119n65)
def fn119n67 : ACode := .block 4 (fn119n66)
def fn119n68 : ACode := .seq (.region fn119r23 false) (fn119n67)
def fn119r29 : List AO := [⟨some 4, .mv (.k (.p (.int .i64 0))), none⟩, ⟨some 5, .mv (.k (.p (.int .i64 0))), none⟩, ⟨some 6, .mv (.k (.p (.int .i64 1))), none⟩]
def fn119n70 : ACode := .seq (.region fn119r29 false) (.ret)
def fn119n71 : ACode := .seq (fn119n68) (fn119n70)
def fn119n72 : ACode := .seq (fn119n50) (fn119n71)
def fn119n73 : ACode := .seq (.region fn119r20 false) (fn119n72)
def fn119n74 : ACode := .seq (fn119n44) (fn119n73)
def fn119n75 : ACode := .seq (.region fn119r12 false) (fn119n74)
def fn119n76 : ACode := .seq (.region fn119r11 false) (fn119n75)
def fn119n77 : ACode := .seq (fn119n24) (fn119n76)
def fn119n78 : ACode := .seq (.region fn119r2 false) (fn119n77)
def fn119n79 : ACode := .seq (.region fn119r1 false) (fn119n78)
def fn119n80 : ACode := .seq (.region fn119r0 false) (fn119n79)
def fn119 : AFun := { nargs := 2, ntmps := 100, results := [.tmp 4, .tmp 5, .tmp 6], body := fn119n80 }

/-- credence/sampler.Choose -/
def fn120r0 : List AO := [⟨some 4, .mv (.k (.p (.int .i64 0))), none⟩, ⟨some 5, .mv (.k (.p (.int .i64 0))), none⟩, ⟨some 6, .mv (.k (.p (.int .i64 0))), none⟩]
def fn120r1 : List AO := [⟨some 7, .mv (.t 0), none⟩, ⟨some 8, .mv (.t 1), none⟩, ⟨some 9, .call 112 [.t 8], none⟩, ⟨some 10, .call 119 [.t 7, .t 9], none⟩, ⟨some 11, .ext 0 (.t 10), none⟩, ⟨some 12, .ext 1 (.t 10), none⟩, ⟨some 13, .ext 2 (.t 10), none⟩, ⟨some 4, .mv (.t 11), none⟩, ⟨some 5, .mv (.t 12), none⟩, ⟨some 6, .mv (.t 13), none⟩]
def fn120n2 : ACode := .seq (.region fn120r1 false) (.ret)
def fn120n3 : ACode := .seq (.region fn120r0 false) (fn120n2)
def fn120 : AFun := { nargs := 2, ntmps := 14, results := [.tmp 4, .tmp 5, .tmp 6], body := fn120n3 }

/-- credence/credencelaw26.Blocks -/
def fn5r0 : List AO := [⟨some 2, .alloc 0 [.e0], none⟩]
def fn5r1 : List AO := [⟨some 6, .slP 1 1 [.p (.int .u32 0)] [(0, 1, .k (.p (.int .u32 1)))], none⟩, ⟨some 7, .slP 1 1 [.p (.int .u32 0)] [(0, 1, .k (.p (.int .u32 2)))], none⟩, ⟨some 8, .build [.p (.bool false), .e0, .e0] [(1, 1, .t 6), (2, 1, .t 7)], none⟩, ⟨some 3, .alloc 1 [.p (.bool false), .e0, .e0], none⟩, ⟨none, .store 3 (.t 3) (.t 8), none⟩]
def fn5r2 : List AO := [⟨some 4, .alloc 2 [.e0], none⟩]
def fn5r3 : List AO := [⟨some 5, .mv (.k (.p (.int .i64 0))), none⟩]
def fn5r4 : List AO := [⟨some 9, .mv (.t 5), none⟩, ⟨some 10, .mv (.t 0), none⟩, ⟨some 11, .bin .lss (.t 9) (.t 10), none⟩]
def fn5n5 : ACode := .cond (.t 11) (.skip) (.exit 0)
def fn5n6 : ACode := .seq (.region fn5r4 false) (fn5n5)
def fn5r6 : List AO := [⟨some 14, .fa 0 1 (.t 4), none⟩, ⟨some 15, .load false 1 (.t 14), none⟩, ⟨some 16, .load true 3 (.t 3), none⟩, ⟨some 17, .slP 1 3 [.p (.bool false), .e0, .e0] [(0, 3, .t 16)], none⟩, ⟨some 18, .build [.e0] [(0, 1, .t 17)], none⟩, ⟨some 19, .slP 1 1 [.e0] [(0, 1, .t 18)], none⟩, ⟨some 20, .app 3 1 24 (.t 15) (.t 19), none⟩, ⟨some 21, .fa 0 1 (.t 4), none⟩, ⟨none, .store 1 (.t 21) (.t 20), none⟩]
def fn5n8 : ACode := .block 1 (.region fn5r6 false)
def fn5r5 : List AO := [⟨some 12, .mv (.t 5), none⟩, ⟨some 13, .bin .add (.t 12) (.k (.p (.int .i64 1))), none⟩, ⟨some 5, .mv (.t 13), none⟩]
def fn5n10 : ACode := .seq (fn5n8) (.region fn5r5 false)
def fn5n11 : ACode := .seq (fn5n6) (fn5n10)
def fn5n12 : ACode := .loop (fn5n11)
def fn5n13 : ACode := .block 0 (fn5n12)
def fn5n14 : ACode := .seq (.region fn5r3 false) (fn5n13)
def fn5r7 : List AO := [⟨some 22, .load true 1 (.t 4), none⟩, ⟨none, .store 1 (.t 2) (.t 22), none⟩]
def fn5n16 : ACode := .seq (.region fn5r7 false) (.ret)
def fn5n17 : ACode := .seq (fn5n14) (fn5n16)
def fn5n18 : ACode := .seq (.region fn5r2 false) (fn5n17)
def fn5n19 : ACode := .seq (.region fn5r1 false) (fn5n18)
def fn5n20 : ACode := .seq (.region fn5r0 false) (fn5n19)
def fn5 : AFun := { nargs := 1, ntmps := 23, results := [.cell true 1 2], body := fn5n20 }

/-- credence/credencelaw29.Example -/
def fn6r0 : List AO := [⟨some 0, .alloc 0 [.e0], none⟩]
def fn6r1 : List AO := [⟨some 1, .build [.p (.int .i64 0), .p (.int .i64 0), .e0] [(0, 1, .k (.p (.int .i64 0)))], none⟩, ⟨some 2, .build [.p (.int .i64 0), .p (.int .i64 0), .e0] [(0, 1, .k (.p (.int .i64 1)))], none⟩, ⟨some 3, .slP 2 1 [.p (.int .i64 0), .p (.int .i64 0)] [(0, 1, .k (.p (.int .i64 1))), (1, 1, .k (.p (.int .i64 0)))], none⟩, ⟨some 4, .build [.p (.int .i64 0), .p (.int .i64 0), .e0] [(0, 1, .k (.p (.int .i64 2))), (1, 1, .k (.p (.int .i64 0))), (2, 1, .t 3)], none⟩, ⟨some 5, .slP 2 1 [.p (.int .i64 0), .p (.int .i64 0)] [(0, 1, .k (.p (.int .i64 1))), (1, 1, .k (.p (.int .i64 0)))], none⟩, ⟨some 6, .build [.p (.int .i64 0), .p (.int .i64 0), .e0] [(0, 1, .k (.p (.int .i64 2))), (1, 1, .k (.p (.int .i64 1))), (2, 1, .t 5)], none⟩, ⟨some 7, .slP 2 1 [.p (.int .i64 0), .p (.int .i64 0)] [(0, 1, .k (.p (.int .i64 1))), (1, 1, .k (.p (.int .i64 0)))], none⟩, ⟨some 8, .build [.p (.int .i64 0), .p (.int .i64 0), .e0] [(0, 1, .k (.p (.int .i64 2))), (1, 1, .k (.p (.int .i64 2))), (2, 1, .t 7)], none⟩, ⟨some 9, .slP 2 1 [.p (.int .i64 0), .p (.int .i64 0)] [(0, 1, .k (.p (.int .i64 3))), (1, 1, .k (.p (.int .i64 4)))], none⟩, ⟨some 10, .build [.p (.int .i64 0), .p (.int .i64 0), .e0] [(0, 1, .k (.p (.int .i64 4))), (2, 1, .t 9)], none⟩, ⟨some 11, .slP 2 1 [.p (.int .i64 0), .p (.int .i64 0)] [(0, 1, .k (.p (.int .i64 2))), (1, 1, .k (.p (.int .i64 5)))], none⟩, ⟨some 12, .build [.p (.int .i64 0), .p (.int .i64 0), .e0] [(0, 1, .k (.p (.int .i64 3))), (2, 1, .t 11)], none⟩, ⟨some 13, .slP 7 3 [.p (.int .i64 0), .p (.int .i64 0), .e0, .p (.int .i64 0), .p (.int .i64 0), .e0, .p (.int .i64 0), .p (.int .i64 0), .e0, .p (.int .i64 0), .p (.int .i64 0), .e0, .p (.int .i64 0), .p (.int .i64 0), .e0, .p (.int .i64 0), .p (.int .i64 0), .e0, .p (.int .i64 0), .p (.int .i64 0), .e0] [(0, 3, .t 1), (3, 3, .t 2), (6, 3, .t 4), (9, 3, .t 6), (12, 3, .t 8), (15, 3, .t 10), (18, 3, .t 12)], none⟩, ⟨some 14, .build [.e0] [(0, 1, .t 13)], none⟩, ⟨none, .store 1 (.t 0) (.t 14), none⟩]
def fn6n2 : ACode := .seq (.region fn6r1 false) (.ret)
def fn6n3 : ACode := .seq (.region fn6r0 false) (fn6n2)
def fn6 : AFun := { nargs := 0, ntmps := 15, results := [.cell true 1 0], body := fn6n3 }

/-- credence/rational.Add -/
def fn31r0 : List AO := [⟨some 2, .boxP (.t 0), none⟩, ⟨some 3, .boxP (.t 1), none⟩, ⟨some 4, .alloc 0 [.p (.bool false), .e0, .e0], none⟩]
def fn31r1 : List AO := [⟨some 19, .load true 3 (.t 2), none⟩, ⟨some 20, .call 11 [.t 19], none⟩, ⟨some 18, .mv (.t 20), none⟩, ⟨some 21, .ext 0 (.t 18), none⟩, ⟨some 22, .ext 1 (.t 18), none⟩, ⟨some 23, .ext 2 (.t 18), none⟩, ⟨some 5, .mv (.t 21), none⟩, ⟨some 6, .mv (.t 22), none⟩, ⟨some 7, .mv (.t 23), none⟩]
def fn31r2 : List AO := [⟨some 25, .load true 3 (.t 3), none⟩, ⟨some 26, .call 11 [.t 25], none⟩, ⟨some 24, .mv (.t 26), none⟩, ⟨some 27, .ext 0 (.t 24), none⟩, ⟨some 28, .ext 1 (.t 24), none⟩, ⟨some 29, .ext 2 (.t 24), none⟩, ⟨some 8, .mv (.t 27), none⟩, ⟨some 9, .mv (.t 28), none⟩, ⟨some 10, .mv (.t 29), none⟩]
def fn31r3 : List AO := [⟨some 30, .mv (.t 6), none⟩, ⟨some 31, .mv (.t 9), none⟩, ⟨some 11, .mv (.t 30), none⟩, ⟨some 12, .mv (.t 31), none⟩]
def fn31r4 : List AO := [⟨some 32, .mv (.t 7), none⟩, ⟨some 13, .mv (.t 32), none⟩]
def fn31r5 : List AO := [⟨some 33, .mv (.t 7), none⟩, ⟨some 34, .mv (.t 10), none⟩, ⟨some 35, .call 13 [.t 33, .t 34], none⟩, ⟨some 36, .bin .neq (.t 35) (.k (.p (.int .i64 0))), none⟩]
def fn31r6 : List AO := [⟨some 37, .mv (.t 6), none⟩, ⟨some 38, .mv (.t 10), none⟩, ⟨some 39, .call 14 [.t 37, .t 38], none⟩, ⟨some 40, .mv (.t 9), none⟩, ⟨some 41, .mv (.t 7), none⟩, ⟨some 42, .call 14 [.t 40, .t 41], none⟩, ⟨some 43, .mv (.t 7), none⟩, ⟨some 44, .mv (.t 10), none⟩, ⟨some 45, .call 14 [.t 43, .t 44], none⟩, ⟨some 11, .mv (.t 39), none⟩, ⟨some 12, .mv (.t 42), none⟩, ⟨some 13, .mv (.t 45), none⟩]
def fn31n7 : ACode := .cond (.t 36) (.region fn31r6 false) (.skip)
def fn31n8 : ACode := .seq (.region fn31r5 false) (fn31n7)
def fn31r7 : List AO := [⟨some 46, .mv (.t 5), none⟩, ⟨some 47, .mv (.t 8), none⟩, ⟨some 48, .binB .eql (.t 46) (.t 47), none⟩]
def fn31r8 : List AO := [⟨some 49, .mv (.t 5), none⟩, ⟨some 50, .mv (.t 11), none⟩, ⟨some 51, .mv (.t 12), none⟩, ⟨some 52, .call 15 [.t 50, .t 51], none⟩, ⟨some 53, .mv (.t 13), none⟩, ⟨some 54, .call 29 [.t 49, .t 52, .t 53], none⟩, ⟨none, .store 3 (.t 4) (.t 54), none⟩]
def fn31n11 : ACode := .seq (.region fn31r8 false) (.ret)
def fn31n12 : ACode := .cond (.t 48) (fn31n11) (.skip)
def fn31n13 : ACode := .seq (.region fn31r7 false) (fn31n12)
def fn31r9 : List AO := [⟨some 56, .mv (.t 11), none⟩, ⟨some 57, .mv (.t 12), none⟩, ⟨some 58, .call 30 [.t 56, .t 57], none⟩, ⟨some 55, .mv (.t 58), none⟩, ⟨some 59, .ext 0 (.t 55), none⟩, ⟨some 60, .ext 1 (.t 55), none⟩, ⟨some 14, .mv (.t 59), none⟩, ⟨some 15, .mv (.t 60), none⟩]
def fn31r10 : List AO := [⟨some 61, .mv (.t 15), none⟩]
def fn31r11 : List AO := [⟨some 62, .mv (.t 5), none⟩, ⟨some 63, .mv (.t 14), none⟩, ⟨some 64, .mv (.t 13), none⟩, ⟨some 65, .call 29 [.t 62, .t 63, .t 64], none⟩, ⟨none, .store 3 (.t 4) (.t 65), none⟩]
def fn31n17 : ACode := .seq (.region fn31r11 false) (.ret)
def fn31n18 : ACode := .cond (.t 61) (fn31n17) (.skip)
def fn31n19 : ACode := .seq (.region fn31r10 false) (fn31n18)
def fn31n20 : ACode := .seq (.region fn31r9 false) (fn31n19)
def fn31r12 : List AO := [⟨some 67, .mv (.t 12), none⟩, ⟨some 68, .mv (.t 11), none⟩, ⟨some 69, .call 30 [.t 67, .t 68], none⟩, ⟨some 66, .mv (.t 69), none⟩, ⟨some 70, .ext 0 (.t 66), none⟩, ⟨some 71, .ext 1 (.t 66), none⟩, ⟨some 16, .mv (.t 70), none⟩, ⟨some 17, .mv (.t 71), none⟩]
def fn31r13 : List AO := [⟨some 72, .mv (.t 8), none⟩, ⟨some 73, .mv (.t 16), none⟩, ⟨some 74, .mv (.t 13), none⟩, ⟨some 75, .call 29 [.t 72, .t 73, .t 74], none⟩, ⟨none, .store 3 (.t 4) (.t 75), none⟩]
def fn31n23 : ACode := .seq (.region fn31r13 false) (.ret)
def fn31n24 : ACode := .seq (.region fn31r12 false) (fn31n23)
def fn31n25 : ACode := .seq (fn31n20) (fn31n24)
def fn31n26 : ACode := .seq (fn31n13) (fn31n25)
def fn31n27 : ACode := .seq (fn31n8) (fn31n26)
def fn31n28 : ACode := .seq (.region fn31r4 false) (fn31n27)
def fn31n29 : ACode := .seq (.region fn31r3 false) (fn31n28)
def fn31n30 : ACode := .seq (.region fn31r2 false) (fn31n29)
def fn31n31 : ACode := .seq (.region fn31r1 false) (fn31n30)
def fn31n32 : ACode := .seq (.region fn31r0 false) (fn31n31)
def fn31 : AFun := { nargs := 2, ntmps := 76, results := [.cell true 3 4], body := fn31n32 }

/-- credence/rational.Sum -/
def fn32r0 : List AO := [⟨some 2, .alloc 0 [.p (.bool false), .e0, .e0], none⟩]
def fn32r1 : List AO := [⟨some 6, .call 10 [], none⟩, ⟨some 7, .build [.p (.bool false), .e0, .e0] [(2, 1, .t 6)], none⟩, ⟨some 3, .alloc 1 [.p (.bool false), .e0, .e0], none⟩, ⟨none, .store 3 (.t 3) (.t 7), none⟩]
def fn32r2 : List AO := [⟨some 8, .mv (.t 0), none⟩, ⟨some 9, .len (.t 8), none⟩, ⟨some 10, .mv (.k (.p (.int .i64 0))), none⟩]
def fn32r3 : List AO := [⟨some 11, .bin .lss (.t 10) (.t 9), none⟩]
def fn32n4 : ACode := .cond (.t 11) (.skip) (.exit 0)
def fn32r4 : List AO := [⟨some 12, .ia 3 (.t 8) (.t 10), none⟩, ⟨some 13, .load true 3 (.t 12), none⟩, ⟨some 5, .alloc 2 [.p (.bool false), .e0, .e0], none⟩, ⟨none, .store 3 (.t 5) (.t 13), none⟩]
def fn32r5 : List AO := [⟨some 14, .load true 3 (.t 3), none⟩, ⟨some 15, .load true 3 (.t 5), none⟩, ⟨some 16, .call 31 [.t 14, .t 15], none⟩, ⟨none, .store 3 (.t 3) (.t 16), none⟩]
def fn32n7 : ACode := .seq (.region fn32r4 false) (.region fn32r5 false)
def fn32n8 : ACode := .block 1 (fn32n7)
def fn32r6 : List AO := [⟨some 17, .bin .add (.t 10) (.k (.p (.int .i64 1))), none⟩, ⟨some 10, .mv (.t 17), none⟩]
def fn32n10 : ACode := .seq (fn32n8) (.region fn32r6 false)
def fn32n11 : ACode := .seq (fn32n4) (fn32n10)
def fn32n12 : ACode := .seq (.region fn32r3 false) (fn32n11)
def fn32n13 : ACode := .loop (fn32n12)
def fn32n14 : ACode := .block 0 (fn32n13)
def fn32n15 : ACode := .seq (.region fn32r2 false) (fn32n14)
def fn32r7 : List AO := [⟨some 18, .load true 3 (.t 3), none⟩, ⟨none, .store 3 (.t 2) (.t 18), none⟩]
def fn32n17 : ACode := .seq (.region fn32r7 false) (.ret)
def fn32n18 : ACode := .seq (fn32n15) (fn32n17)
def fn32n19 : ACode := .seq (.region fn32r1 false) (fn32n18)
def fn32n20 : ACode := .seq (.region fn32r0 false) (fn32n19)
def fn32 : AFun := { nargs := 1, ntmps := 19, results := [.cell true 3 2], body := fn32n20 }

/-- credence/rational.Neg -/
def fn33r0 : List AO := [⟨some 1, .boxP (.t 0), none⟩, ⟨some 2, .alloc 0 [.p (.bool false), .e0, .e0], none⟩]
def fn33r1 : List AO := [⟨some 3, .fa 0 1 (.t 1), none⟩, ⟨some 4, .load false 1 (.t 3), none⟩, ⟨some 5, .un .not (.t 4), none⟩, ⟨some 6, .fa 1 1 (.t 1), none⟩, ⟨some 7, .load false 1 (.t 6), none⟩, ⟨some 8, .fa 2 1 (.t 1), none⟩, ⟨some 9, .load false 1 (.t 8), none⟩, ⟨some 10, .call 29 [.t 5, .t 7, .t 9], none⟩, ⟨none, .store 3 (.t 2) (.t 10), none⟩]
def fn33n2 : ACode := .seq (.region fn33r1 false) (.ret)
def fn33n3 : ACode := .seq (.region fn33r0 false) (fn33n2)
def fn33 : AFun := { nargs := 1, ntmps := 11, results := [.cell true 3 2], body := fn33n3 }

/-- credence/rational.Sub -/
def fn34r0 : List AO := [⟨some 2, .boxP (.t 0), none⟩, ⟨some 3, .boxP (.t 1), none⟩, ⟨some 4, .alloc 0 [.p (.bool false), .e0, .e0], none⟩]
def fn34r1 : List AO := [⟨some 5, .load true 3 (.t 2), none⟩, ⟨some 6, .load true 3 (.t 3), none⟩, ⟨some 7, .callP 33 [.t 6], none⟩, ⟨some 8, .callP 31 [.t 5, .t 7], none⟩, ⟨none, .store 3 (.t 4) (.t 8), none⟩]
def fn34n2 : ACode := .seq (.region fn34r1 true) (.ret)
def fn34n3 : ACode := .seq (.region fn34r0 false) (fn34n2)
def fn34 : AFun := { nargs := 2, ntmps := 9, results := [.cell true 3 4], body := fn34n3 }

/-- credence/rational.Complement -/
def fn35r0 : List AO := [⟨some 1, .boxP (.t 0), none⟩, ⟨some 2, .alloc 0 [.p (.bool false), .e0, .e0], none⟩]
def fn35r1 : List AO := [⟨some 3, .callP 10 [], none⟩, ⟨some 4, .callP 10 [], none⟩, ⟨some 5, .build [.p (.bool false), .e0, .e0] [(1, 1, .t 3), (2, 1, .t 4)], none⟩, ⟨some 6, .load true 3 (.t 1), none⟩, ⟨some 7, .callP 34 [.t 5, .t 6], none⟩, ⟨none, .store 3 (.t 2) (.t 7), none⟩]
def fn35n2 : ACode := .seq (.region fn35r1 true) (.ret)
def fn35n3 : ACode := .seq (.region fn35r0 false) (fn35n2)
def fn35 : AFun := { nargs := 1, ntmps := 8, results := [.cell true 3 2], body := fn35n3 }

/-- credence/worlds.Remainder -/
def fn36r0 : List AO := [⟨some 1, .boxP (.t 0), none⟩, ⟨some 2, .alloc 0 [.p (.bool false), .e0, .e0], none⟩]
def fn36r1 : List AO := [⟨some 3, .fa 0 1 (.t 1), none⟩, ⟨some 4, .load false 1 (.t 3), none⟩, ⟨some 5, .call 32 [.t 4], none⟩, ⟨some 6, .call 35 [.t 5], none⟩, ⟨none, .store 3 (.t 2) (.t 6), none⟩]
def fn36n2 : ACode := .seq (.region fn36r1 false) (.ret)
def fn36n3 : ACode := .seq (.region fn36r0 false) (fn36n2)
def fn36 : AFun := { nargs := 1, ntmps := 7, results := [.cell true 3 2], body := fn36n3 }

/-- credence/worlds.Valid -/
def fn37r0 : List AO := [⟨some 1, .boxP (.t 0), none⟩, ⟨some 2, .mv (.k (.p (.bool false))), none⟩]
def fn37r1 : List AO := [⟨some 7, .fa 0 1 (.t 1), none⟩, ⟨some 8, .load false 1 (.t 7), none⟩, ⟨some 9, .len (.t 8), none⟩, ⟨some 10, .bin .gtr (.t 9) (.k (.p (.int .i64 4096))), none⟩]
def fn37r2 : List AO := [⟨some 2, .mv (.k (.p (.bool false))), none⟩]
def fn37n3 : ACode := .seq (.region fn37r2 false) (.ret)
def fn37n4 : ACode := .cond (.t 10) (fn37n3) (.skip)
def fn37n5 : ACode := .seq (.region fn37r1 false) (fn37n4)
def fn37r3 : List AO := [⟨some 11, .fa 0 1 (.t 1), none⟩, ⟨some 12, .load false 1 (.t 11), none⟩, ⟨some 13, .len (.t 12), none⟩, ⟨some 14, .mv (.k (.p (.int .i64 0))), none⟩]
def fn37r4 : List AO := [⟨some 15, .bin .lss (.t 14) (.t 13), none⟩]
def fn37n8 : ACode := .cond (.t 15) (.skip) (.exit 0)
def fn37r5 : List AO := [⟨some 16, .ia 1 (.t 12) (.t 14), none⟩, ⟨some 17, .load true 1 (.t 16), none⟩, ⟨some 4, .alloc 0 [.e0], none⟩, ⟨none, .store 1 (.t 4) (.t 17), none⟩]
def fn37r6 : List AO := [⟨some 18, .fa 0 1 (.t 4), none⟩, ⟨some 19, .load false 1 (.t 18), none⟩, ⟨some 20, .len (.t 19), none⟩, ⟨some 21, .bin .gtr (.t 20) (.k (.p (.int .i64 16))), none⟩]
def fn37r7 : List AO := [⟨some 2, .mv (.k (.p (.bool false))), none⟩]
def fn37n12 : ACode := .seq (.region fn37r7 false) (.ret)
def fn37n13 : ACode := .cond (.t 21) (fn37n12) (.skip)
def fn37n14 : ACode := .seq (.region fn37r6 false) (fn37n13)
def fn37r8 : List AO := [⟨some 22, .fa 0 1 (.t 4), none⟩, ⟨some 23, .load false 1 (.t 22), none⟩, ⟨some 24, .len (.t 23), none⟩, ⟨some 25, .mv (.k (.p (.int .i64 0))), none⟩]
def fn37r9 : List AO := [⟨some 26, .bin .lss (.t 25) (.t 24), none⟩]
def fn37n17 : ACode := .cond (.t 26) (.skip) (.exit 2)
def fn37r10 : List AO := [⟨some 27, .ia 3 (.t 23) (.t 25), none⟩, ⟨some 28, .load true 3 (.t 27), none⟩, ⟨some 6, .alloc 1 [.p (.bool false), .e0, .e0], none⟩, ⟨none, .store 3 (.t 6) (.t 28), none⟩]
def fn37r11 : List AO := [⟨some 29, .load true 3 (.t 6), none⟩, ⟨some 30, .call 12 [.t 29], none⟩, ⟨some 31, .bin .lss (.t 30) (.k (.p (.int .i64 0))), none⟩]
def fn37r12 : List AO := [⟨some 2, .mv (.k (.p (.bool false))), none⟩]
def fn37n21 : ACode := .seq (.region fn37r12 false) (.ret)
def fn37n22 : ACode := .cond (.t 31) (fn37n21) (.skip)
def fn37n23 : ACode := .seq (.region fn37r11 false) (fn37n22)
def fn37n24 : ACode := .seq (.region fn37r10 false) (fn37n23)
def fn37n25 : ACode := .block 3 (fn37n24)
def fn37r13 : List AO := [⟨some 32, .bin .add (.t 25) (.k (.p (.int .i64 1))), none⟩, ⟨some 25, .mv (.t 32), none⟩]
def fn37n27 : ACode := .seq (fn37n25) (.region fn37r13 false)
def fn37n28 : ACode := .seq (fn37n17) (fn37n27)
def fn37n29 : ACode := .seq (.region fn37r9 false) (fn37n28)
def fn37n30 : ACode := .loop (fn37n29)
def fn37n31 : ACode := .block 2 (fn37n30)
def fn37n32 : ACode := .seq (.region fn37r8 false) (fn37n31)
def fn37r14 : List AO := [⟨some 33, .load true 1 (.t 4), none⟩, ⟨some 34, .call 36 [.t 33], none⟩, ⟨some 35, .call 12 [.t 34], none⟩, ⟨some 36, .bin .lss (.t 35) (.k (.p (.int .i64 0))), none⟩]
def fn37r15 : List AO := [⟨some 2, .mv (.k (.p (.bool false))), none⟩]
def fn37n35 : ACode := .seq (.region fn37r15 false) (.ret)
def fn37n36 : ACode := .cond (.t 36) (fn37n35) (.skip)
def fn37n37 : ACode := .seq (.region fn37r14 false) (fn37n36)
def fn37n38 : ACode := .seq (fn37n32) (fn37n37)
def fn37n39 : ACode := .seq (fn37n14) (fn37n38)
def fn37n40 : ACode := .seq (.region fn37r5 false) (fn37n39)
def fn37n41 : ACode := .block 1 (fn37n40)
def fn37r16 : List AO := [⟨some 37, .bin .add (.t 14) (.k (.p (.int .i64 1))), none⟩, ⟨some 14, .mv (.t 37), none⟩]
def fn37n43 : ACode := .seq (fn37n41) (.region fn37r16 false)
def fn37n44 : ACode := .seq (fn37n8) (fn37n43)
def fn37n45 : ACode := .seq (.region fn37r4 false) (fn37n44)
def fn37n46 : ACode := .loop (fn37n45)
def fn37n47 : ACode := .block 0 (fn37n46)
def fn37n48 : ACode := .seq (.region fn37r3 false) (fn37n47)
def fn37r17 : List AO := [⟨some 2, .mv (.k (.p (.bool true))), none⟩]
def fn37n50 : ACode := .seq (.region fn37r17 false) (.ret)
def fn37n51 : ACode := .seq (fn37n48) (fn37n50)
def fn37n52 : ACode := .seq (fn37n5) (fn37n51)
def fn37n53 : ACode := .seq (.region fn37r0 false) (fn37n52)
def fn37 : AFun := { nargs := 1, ntmps := 38, results := [.tmp 2], body := fn37n53 }

/-- (credence/circuit.set).meets -/
def fn38r0 : List AO := [⟨some 4, .mv (.k (.p (.bool false))), none⟩]
def fn38r1 : List AO := [⟨some 6, .mv (.t 0), none⟩, ⟨some 7, .len (.t 6), none⟩, ⟨some 8, .mv (.k (.p (.int .i64 0))), none⟩]
def fn38r2 : List AO := [⟨some 9, .bin .lss (.t 8) (.t 7), none⟩]
def fn38n3 : ACode := .cond (.t 9) (.skip) (.exit 0)
def fn38r3 : List AO := [⟨some 10, .mv (.t 8), none⟩, ⟨some 5, .mv (.t 10), none⟩]
def fn38r4 : List AO := [⟨some 11, .mv (.t 0), none⟩, ⟨some 12, .mv (.t 5), none⟩, ⟨some 13, .ia 1 (.t 11) (.t 12), none⟩, ⟨some 14, .load false 1 (.t 13), none⟩, ⟨some 15, .mv (.t 1), none⟩, ⟨some 16, .mv (.t 5), none⟩, ⟨some 17, .ia 1 (.t 15) (.t 16), none⟩, ⟨some 18, .load false 1 (.t 17), none⟩, ⟨some 19, .bin .and (.t 14) (.t 18), none⟩, ⟨some 20, .bin .neq (.t 19) (.k (.p (.int .u64 0))), none⟩]
def fn38r5 : List AO := [⟨some 4, .mv (.k (.p (.bool true))), none⟩]
def fn38n7 : ACode := .seq (.region fn38r5 false) (.ret)
def fn38n8 : ACode := .cond (.t 20) (fn38n7) (.skip)
def fn38n9 : ACode := .seq (.region fn38r4 true) (fn38n8)
def fn38n10 : ACode := .seq (.region fn38r3 false) (fn38n9)
def fn38n11 : ACode := .block 1 (fn38n10)
def fn38r6 : List AO := [⟨some 21, .bin .add (.t 8) (.k (.p (.int .i64 1))), none⟩, ⟨some 8, .mv (.t 21), none⟩]
def fn38n13 : ACode := .seq (fn38n11) (.region fn38r6 false)
def fn38n14 : ACode := .seq (fn38n3) (fn38n13)
def fn38n15 : ACode := .seq (.region fn38r2 false) (fn38n14)
def fn38n16 : ACode := .loop (fn38n15)
def fn38n17 : ACode := .block 0 (fn38n16)
def fn38n18 : ACode := .seq (.region fn38r1 false) (fn38n17)
def fn38r7 : List AO := [⟨some 4, .mv (.k (.p (.bool false))), none⟩]
def fn38n20 : ACode := .seq (.region fn38r7 false) (.ret)
def fn38n21 : ACode := .seq (fn38n18) (fn38n20)
def fn38n22 : ACode := .seq (.region fn38r0 false) (fn38n21)
def fn38 : AFun := { nargs := 2, ntmps := 22, results := [.tmp 4], body := fn38n22 }

/-- (credence/circuit.set).add -/
def fn39r0 : List AO := [⟨some 5, .mv (.t 0), none⟩, ⟨some 6, .len (.t 5), none⟩, ⟨some 7, .mv (.k (.p (.int .i64 0))), none⟩]
def fn39r1 : List AO := [⟨some 8, .bin .lss (.t 7) (.t 6), none⟩]
def fn39n2 : ACode := .cond (.t 8) (.skip) (.exit 0)
def fn39r2 : List AO := [⟨some 9, .mv (.t 7), none⟩, ⟨some 4, .mv (.t 9), none⟩]
def fn39r3 : List AO := [⟨some 10, .mv (.t 0), none⟩, ⟨some 11, .mv (.t 4), none⟩, ⟨some 12, .ia 1 (.t 10) (.t 11), none⟩, ⟨some 13, .load false 1 (.t 12), none⟩, ⟨some 14, .mv (.t 1), none⟩, ⟨some 15, .mv (.t 4), none⟩, ⟨some 16, .ia 1 (.t 14) (.t 15), none⟩, ⟨some 17, .load false 1 (.t 16), none⟩, ⟨some 18, .bin .or (.t 13) (.t 17), none⟩, ⟨some 19, .ia 1 (.t 10) (.t 11), none⟩, ⟨none, .store 1 (.t 19) (.t 18), none⟩]
def fn39n5 : ACode := .seq (.region fn39r2 false) (.region fn39r3 true)
def fn39n6 : ACode := .block 1 (fn39n5)
def fn39r4 : List AO := [⟨some 20, .bin .add (.t 7) (.k (.p (.int .i64 1))), none⟩, ⟨some 7, .mv (.t 20), none⟩]
def fn39n8 : ACode := .seq (fn39n6) (.region fn39r4 false)
def fn39n9 : ACode := .seq (fn39n2) (fn39n8)
def fn39n10 : ACode := .seq (.region fn39r1 false) (fn39n9)
def fn39n11 : ACode := .loop (fn39n10)
def fn39n12 : ACode := .block 0 (fn39n11)
def fn39n13 : ACode := .seq (.region fn39r0 false) (fn39n12)
def fn39 : AFun := { nargs := 2, ntmps := 21, results := [], body := fn39n13 }

/-- (credence/circuit.set).has -/
def fn40r0 : List AO := [⟨some 4, .mv (.k (.p (.bool false))), none⟩]
def fn40r1 : List AO := [⟨some 5, .mv (.t 0), none⟩, ⟨some 6, .mv (.t 1), none⟩, ⟨some 7, .bin .quo (.t 6) (.k (.p (.int .i64 64))), none⟩, ⟨some 8, .ia 1 (.t 5) (.t 7), none⟩, ⟨some 9, .load false 1 (.t 8), none⟩, ⟨some 10, .mv (.t 1), none⟩, ⟨some 11, .bin .rem (.t 10) (.k (.p (.int .i64 64))), none⟩, ⟨some 12, .bin .shr (.t 9) (.t 11), none⟩, ⟨some 13, .bin .and (.t 12) (.k (.p (.int .u64 1))), none⟩, ⟨some 14, .bin .eql (.t 13) (.k (.p (.int .u64 1))), none⟩, ⟨some 4, .mv (.t 14), none⟩]
def fn40n2 : ACode := .seq (.region fn40r1 false) (.ret)
def fn40n3 : ACode := .seq (.region fn40r0 false) (fn40n2)
def fn40 : AFun := { nargs := 2, ntmps := 15, results := [.tmp 4], body := fn40n3 }

/-- credence/circuit.validGate -/
def fn41r0 : List AO := [⟨some 4, .boxP (.t 0), none⟩, ⟨some 5, .boxP (.t 1), none⟩, ⟨some 8, .mv (.k (.e0)), none⟩, ⟨some 9, .mv (.k (.p (.bool false))), none⟩]
def fn41r1 : List AO := [⟨some 13, .fa 0 1 (.t 4), none⟩, ⟨some 14, .load false 1 (.t 13), none⟩, ⟨some 15, .len (.t 14), none⟩, ⟨some 16, .bin .add (.t 15) (.k (.p (.int .i64 63))), none⟩, ⟨some 17, .bin .quo (.t 16) (.k (.p (.int .i64 64))), none⟩, ⟨some 18, .mk 0 1 8 [.p (.int .u64 0)] (.t 17) (.t 17), none⟩, ⟨some 10, .mv (.t 18), none⟩]
def fn41r2 : List AO := [⟨some 19, .fa 2 1 (.t 5), none⟩, ⟨some 20, .load false 1 (.t 19), none⟩, ⟨some 21, .len (.t 20), none⟩, ⟨some 22, .mv (.k (.p (.int .i64 0))), none⟩]
def fn41r3 : List AO := [⟨some 23, .bin .lss (.t 22) (.t 21), none⟩]
def fn41n4 : ACode := .cond (.t 23) (.skip) (.exit 0)
def fn41r4 : List AO := [⟨some 24, .ia 1 (.t 20) (.t 22), none⟩, ⟨some 25, .load false 1 (.t 24), none⟩, ⟨some 12, .mv (.t 25), none⟩]
def fn41r5 : List AO := [⟨some 26, .mv (.t 12), none⟩, ⟨some 27, .bin .lss (.t 26) (.k (.p (.int .i64 0))), none⟩, ⟨some 28, .mv (.t 27), none⟩, ⟨some 29, .mv (.t 12), (some (28, false))⟩, ⟨some 30, .mv (.t 2), (some (28, false))⟩, ⟨some 31, .bin .geq (.t 29) (.t 30), (some (28, false))⟩, ⟨some 32, .pick (.t 28) (.k (.p (.bool true))) (.t 31), none⟩]
def fn41r6 : List AO := [⟨some 8, .mv (.k (.e0)), none⟩, ⟨some 9, .mv (.k (.p (.bool false))), none⟩]
def fn41n8 : ACode := .seq (.region fn41r6 false) (.ret)
def fn41n9 : ACode := .cond (.t 32) (fn41n8) (.skip)
def fn41n10 : ACode := .seq (.region fn41r5 false) (fn41n9)
def fn41r7 : List AO := [⟨some 33, .fa 0 1 (.t 5), none⟩, ⟨some 34, .load false 1 (.t 33), none⟩, ⟨some 35, .bin .eql (.t 34) (.k (.p (.int .i64 3))), none⟩, ⟨some 36, .mv (.t 35), none⟩, ⟨some 37, .fa 0 1 (.t 5), (some (36, false))⟩, ⟨some 38, .load false 1 (.t 37), (some (36, false))⟩, ⟨some 39, .bin .eql (.t 38) (.k (.p (.int .i64 4))), (some (36, false))⟩, ⟨some 40, .pick (.t 36) (.k (.p (.bool true))) (.t 39), none⟩, ⟨some 41, .mv (.t 40), none⟩, ⟨some 42, .mv (.t 10), (some (41, true))⟩, ⟨some 43, .mv (.t 3), (some (41, true))⟩, ⟨some 44, .mv (.t 12), (some (41, true))⟩, ⟨some 45, .ia 1 (.t 43) (.t 44), (some (41, true))⟩, ⟨some 46, .load false 1 (.t 45), (some (41, true))⟩, ⟨some 47, .call 38 [.t 42, .t 46], (some (41, true))⟩, ⟨some 48, .pick (.t 41) (.t 47) (.k (.p (.bool false))), none⟩]
def fn41r8 : List AO := [⟨some 8, .mv (.k (.e0)), none⟩, ⟨some 9, .mv (.k (.p (.bool false))), none⟩]
def fn41n13 : ACode := .seq (.region fn41r8 false) (.ret)
def fn41n14 : ACode := .cond (.t 48) (fn41n13) (.skip)
def fn41n15 : ACode := .seq (.region fn41r7 false) (fn41n14)
def fn41r9 : List AO := [⟨some 49, .mv (.t 10), none⟩, ⟨some 50, .mv (.t 3), none⟩, ⟨some 51, .mv (.t 12), none⟩, ⟨some 52, .ia 1 (.t 50) (.t 51), none⟩, ⟨some 53, .load false 1 (.t 52), none⟩, ⟨some 54, .callR 100 39 [.t 49, .t 53], none⟩]
def fn41n17 : ACode := .seq (fn41n15) (.region fn41r9 false)
def fn41n18 : ACode := .seq (fn41n10) (fn41n17)
def fn41n19 : ACode := .seq (.region fn41r4 false) (fn41n18)
def fn41n20 : ACode := .block 1 (fn41n19)
def fn41r10 : List AO := [⟨some 55, .bin .add (.t 22) (.k (.p (.int .i64 1))), none⟩, ⟨some 22, .mv (.t 55), none⟩]
def fn41n22 : ACode := .seq (fn41n20) (.region fn41r10 false)
def fn41n23 : ACode := .seq (fn41n4) (fn41n22)
def fn41n24 : ACode := .seq (.region fn41r3 false) (fn41n23)
def fn41n25 : ACode := .loop (fn41n24)
def fn41n26 : ACode := .block 0 (fn41n25)
def fn41n27 : ACode := .seq (.region fn41r2 false) (fn41n26)
def fn41r11 : List AO := [⟨some 56, .fa 0 1 (.t 5), none⟩, ⟨some 57, .load false 1 (.t 56), none⟩, ⟨some 58, .bin .eql (.t 57) (.k (.p (.int .i64 2))), none⟩]
def fn41r12 : List AO := [⟨some 59, .fa 1 1 (.t 5), none⟩, ⟨some 60, .load false 1 (.t 59), none⟩, ⟨some 61, .bin .lss (.t 60) (.k (.p (.int .i64 0))), none⟩, ⟨some 62, .mv (.t 61), none⟩, ⟨some 63, .fa 1 1 (.t 5), (some (62, false))⟩, ⟨some 64, .load false 1 (.t 63), (some (62, false))⟩, ⟨some 65, .fa 0 1 (.t 4), (some (62, false))⟩, ⟨some 66, .load false 1 (.t 65), (some (62, false))⟩, ⟨some 67, .len (.t 66), (some (62, false))⟩, ⟨some 68, .bin .geq (.t 64) (.t 67), (some (62, false))⟩, ⟨some 69, .pick (.t 62) (.k (.p (.bool true))) (.t 68), none⟩, ⟨some 70, .mv (.t 69), none⟩, ⟨some 71, .fa 2 1 (.t 5), (some (70, false))⟩, ⟨some 72, .load false 1 (.t 71), (some (70, false))⟩, ⟨some 73, .len (.t 72), (some (70, false))⟩, ⟨some 74, .fa 0 1 (.t 4), (some (70, false))⟩, ⟨some 75, .load false 1 (.t 74), (some (70, false))⟩, ⟨some 76, .fa 1 1 (.t 5), (some (70, false))⟩, ⟨some 77, .load false 1 (.t 76), (some (70, false))⟩, ⟨some 78, .ia 1 (.t 75) (.t 77), (some (70, false))⟩, ⟨some 79, .fa 0 1 (.t 78), (some (70, false))⟩, ⟨some 80, .load false 1 (.t 79), (some (70, false))⟩, ⟨some 81, .len (.t 80), (some (70, false))⟩, ⟨some 82, .bin .add (.t 81) (.k (.p (.int .i64 1))), (some (70, false))⟩, ⟨some 83, .bin .neq (.t 73) (.t 82), (some (70, false))⟩, ⟨some 84, .pick (.t 70) (.k (.p (.bool true))) (.t 83), none⟩, ⟨some 85, .mv (.t 84), none⟩, ⟨some 86, .mv (.t 10), (some (85, false))⟩, ⟨some 87, .fa 1 1 (.t 5), (some (85, false))⟩, ⟨some 88, .load false 1 (.t 87), (some (85, false))⟩, ⟨some 89, .call 40 [.t 86, .t 88], (some (85, false))⟩, ⟨some 90, .pick (.t 85) (.k (.p (.bool true))) (.t 89), none⟩]
def fn41r13 : List AO := [⟨some 8, .mv (.k (.e0)), none⟩, ⟨some 9, .mv (.k (.p (.bool false))), none⟩]
def fn41n31 : ACode := .seq (.region fn41r13 false) (.ret)
def fn41n32 : ACode := .cond (.t 90) (fn41n31) (.skip)
def fn41n33 : ACode := .seq (.region fn41r12 true) (fn41n32)
def fn41r14 : List AO := [⟨some 91, .mv (.t 10), none⟩, ⟨some 92, .fa 1 1 (.t 5), none⟩, ⟨some 93, .load false 1 (.t 92), none⟩, ⟨some 94, .bin .quo (.t 93) (.k (.p (.int .i64 64))), none⟩, ⟨some 95, .ia 1 (.t 91) (.t 94), none⟩, ⟨some 96, .load false 1 (.t 95), none⟩, ⟨some 97, .fa 1 1 (.t 5), none⟩, ⟨some 98, .load false 1 (.t 97), none⟩, ⟨some 99, .bin .rem (.t 98) (.k (.p (.int .i64 64))), none⟩, ⟨some 100, .bin .shl (.k (.p (.int .u64 1))) (.t 99), none⟩, ⟨some 101, .bin .or (.t 96) (.t 100), none⟩, ⟨some 102, .ia 1 (.t 91) (.t 94), none⟩, ⟨none, .store 1 (.t 102) (.t 101), none⟩]
def fn41r15 : List AO := [⟨some 103, .mv (.t 10), none⟩, ⟨some 8, .mv (.t 103), none⟩, ⟨some 9, .mv (.k (.p (.bool true))), none⟩]
def fn41n36 : ACode := .seq (.region fn41r15 false) (.ret)
def fn41n37 : ACode := .seq (.region fn41r14 true) (fn41n36)
def fn41n38 : ACode := .seq (fn41n33) (fn41n37)
def fn41n39 : ACode := .cond (.t 58) (fn41n38) (.skip)
def fn41n40 : ACode := .seq (.region fn41r11 false) (fn41n39)
def fn41r16 : List AO := [⟨some 104, .fa 1 1 (.t 5), none⟩, ⟨some 105, .load false 1 (.t 104), none⟩, ⟨some 106, .bin .neq (.t 105) (.k (.p (.int .i64 0))), none⟩]
def fn41r17 : List AO := [⟨some 8, .mv (.k (.e0)), none⟩, ⟨some 9, .mv (.k (.p (.bool false))), none⟩]
def fn41n43 : ACode := .seq (.region fn41r17 false) (.ret)
def fn41n44 : ACode := .cond (.t 106) (fn41n43) (.skip)
def fn41n45 : ACode := .seq (.region fn41r16 false) (fn41n44)
def fn41r18 : List AO := [⟨some 107, .fa 0 1 (.t 5), none⟩, ⟨some 108, .load false 1 (.t 107), none⟩]
def fn41r19 : List AO := [⟨some 110, .bin .eql (.t 108) (.k (.p (.int .i64 0))), none⟩, ⟨some 109, .mv (.t 110), none⟩]
def fn41r20 : List AO := [⟨some 111, .bin .eql (.t 108) (.k (.p (.int .i64 1))), none⟩, ⟨some 109, .mv (.t 111), none⟩]
def fn41n49 : ACode := .cond (.t 109) (.skip) (.region fn41r20 false)
def fn41n50 : ACode := .seq (.region fn41r19 false) (fn41n49)
def fn41r21 : List AO := [⟨some 112, .mv (.t 10), none⟩, ⟨some 113, .fa 2 1 (.t 5), none⟩, ⟨some 114, .load false 1 (.t 113), none⟩, ⟨some 115, .len (.t 114), none⟩, ⟨some 116, .bin .eql (.t 115) (.k (.p (.int .i64 0))), none⟩, ⟨some 8, .mv (.t 112), none⟩, ⟨some 9, .mv (.t 116), none⟩]
def fn41n52 : ACode := .seq (.region fn41r21 true) (.ret)
def fn41r22 : List AO := [⟨some 118, .bin .eql (.t 108) (.k (.p (.int .i64 5))), none⟩, ⟨some 117, .mv (.t 118), none⟩]
def fn41r23 : List AO := [⟨some 119, .mv (.t 10), none⟩, ⟨some 120, .fa 2 1 (.t 5), none⟩, ⟨some 121, .load false 1 (.t 120), none⟩, ⟨some 122, .len (.t 121), none⟩, ⟨some 123, .bin .eql (.t 122) (.k (.p (.int .i64 1))), none⟩, ⟨some 8, .mv (.t 119), none⟩, ⟨some 9, .mv (.t 123), none⟩]
def fn41n55 : ACode := .seq (.region fn41r23 true) (.ret)
def fn41n56 : ACode := .cond (.t 117) (fn41n55) (.skip)
def fn41n57 : ACode := .seq (.region fn41r22 false) (fn41n56)
def fn41n58 : ACode := .cond (.t 109) (fn41n52) (fn41n57)
def fn41n59 : ACode := .seq (fn41n50) (fn41n58)
def fn41n60 : ACode := .block 2 (fn41n59)
def fn41n61 : ACode := .seq (.region fn41r18 false) (fn41n60)
def fn41r24 : List AO := [⟨some 124, .mv (.t 10), none⟩, ⟨some 125, .fa 0 1 (.t 5), none⟩, ⟨some 126, .load false 1 (.t 125), none⟩, ⟨some 127, .bin .eql (.t 126) (.k (.p (.int .i64 3))), none⟩, ⟨some 128, .mv (.t 127), none⟩, ⟨some 129, .fa 0 1 (.t 5), (some (128, false))⟩, ⟨some 130, .load false 1 (.t 129), (some (128, false))⟩, ⟨some 131, .bin .eql (.t 130) (.k (.p (.int .i64 4))), (some (128, false))⟩, ⟨some 132, .pick (.t 128) (.k (.p (.bool true))) (.t 131), none⟩, ⟨some 8, .mv (.t 124), none⟩, ⟨some 9, .mv (.t 132), none⟩]
def fn41n63 : ACode := .seq (.region fn41r24 true) (.ret)
def fn41n64 : ACode := .seq (fn41n61) (fn41n63)
def fn41n65 : ACode := .seq (fn41n45) (fn41n64)
def fn41n66 : ACode := .seq (fn41n40) (fn41n65)
def fn41n67 : ACode := .seq (fn41n27) (fn41n66)
def fn41n68 : ACode := .seq (.region fn41r1 false) (fn41n67)
def fn41n69 : ACode := .seq (.region fn41r0 false) (fn41n68)
def fn41 : AFun := { nargs := 4, ntmps := 133, results := [.tmp 8, .tmp 9], body := fn41n69 }

/-- credence/circuit.Valid -/
def fn42r0 : List AO := [⟨some 2, .boxP (.t 0), none⟩, ⟨some 3, .boxP (.t 1), none⟩, ⟨some 4, .mv (.k (.p (.bool false))), none⟩]
def fn42r1 : List AO := [⟨some 11, .load true 1 (.t 2), none⟩, ⟨some 12, .call 37 [.t 11], none⟩, ⟨some 13, .un .not (.t 12), none⟩, ⟨some 14, .mv (.t 13), none⟩, ⟨some 15, .fa 0 1 (.t 3), (some (14, false))⟩, ⟨some 16, .load false 1 (.t 15), (some (14, false))⟩, ⟨some 17, .len (.t 16), (some (14, false))⟩, ⟨some 18, .bin .gtr (.t 17) (.k (.p (.int .i64 65536))), (some (14, false))⟩, ⟨some 19, .pick (.t 14) (.k (.p (.bool true))) (.t 18), none⟩]
def fn42r2 : List AO := [⟨some 4, .mv (.k (.p (.bool false))), none⟩]
def fn42n3 : ACode := .seq (.region fn42r2 false) (.ret)
def fn42n4 : ACode := .cond (.t 19) (fn42n3) (.skip)
def fn42n5 : ACode := .seq (.region fn42r1 false) (fn42n4)
def fn42r3 : List AO := [⟨some 5, .mv (.k (.p (.int .i64 0))), none⟩]
def fn42r4 : List AO := [⟨some 20, .fa 0 1 (.t 3), none⟩, ⟨some 21, .load false 1 (.t 20), none⟩, ⟨some 22, .len (.t 21), none⟩, ⟨some 23, .mk 0 1 24 [.e0] (.t 22) (.t 22), none⟩, ⟨some 6, .mv (.t 23), none⟩]
def fn42r5 : List AO := [⟨some 24, .fa 0 1 (.t 3), none⟩, ⟨some 25, .load false 1 (.t 24), none⟩, ⟨some 26, .len (.t 25), none⟩, ⟨some 27, .mv (.k (.p (.int .i64 0))), none⟩]
def fn42r6 : List AO := [⟨some 28, .bin .lss (.t 27) (.t 26), none⟩]
def fn42n10 : ACode := .cond (.t 28) (.skip) (.exit 0)
def fn42r7 : List AO := [⟨some 29, .mv (.t 27), none⟩, ⟨some 30, .ia 3 (.t 25) (.t 27), none⟩, ⟨some 31, .load true 3 (.t 30), none⟩, ⟨some 8, .alloc 1 [.p (.int .i64 0), .p (.int .i64 0), .e0], none⟩, ⟨some 7, .mv (.t 29), none⟩, ⟨none, .store 3 (.t 8) (.t 31), none⟩]
def fn42r8 : List AO := [⟨some 32, .mv (.t 5), none⟩, ⟨some 33, .fa 2 1 (.t 8), none⟩, ⟨some 34, .load false 1 (.t 33), none⟩, ⟨some 35, .len (.t 34), none⟩, ⟨some 36, .bin .add (.t 32) (.t 35), none⟩, ⟨some 5, .mv (.t 36), none⟩]
def fn42r9 : List AO := [⟨some 37, .mv (.t 5), none⟩, ⟨some 38, .bin .gtr (.t 37) (.k (.p (.int .i64 33554432))), none⟩]
def fn42r10 : List AO := [⟨some 4, .mv (.k (.p (.bool false))), none⟩]
def fn42n15 : ACode := .seq (.region fn42r10 false) (.ret)
def fn42n16 : ACode := .cond (.t 38) (fn42n15) (.skip)
def fn42n17 : ACode := .seq (.region fn42r9 false) (fn42n16)
def fn42r11 : List AO := [⟨some 40, .load true 1 (.t 2), none⟩, ⟨some 41, .load true 3 (.t 8), none⟩, ⟨some 42, .mv (.t 7), none⟩, ⟨some 43, .mv (.t 6), none⟩, ⟨some 44, .callR 100 41 [.t 40, .t 41, .t 42, .t 43], none⟩, ⟨some 39, .mv (.t 44), none⟩, ⟨some 45, .ext 0 (.t 39), none⟩, ⟨some 46, .ext 1 (.t 39), none⟩, ⟨some 9, .mv (.t 45), none⟩, ⟨some 10, .mv (.t 46), none⟩]
def fn42r12 : List AO := [⟨some 47, .mv (.t 10), none⟩, ⟨some 48, .un .not (.t 47), none⟩]
def fn42r13 : List AO := [⟨some 4, .mv (.k (.p (.bool false))), none⟩]
def fn42n21 : ACode := .seq (.region fn42r13 false) (.ret)
def fn42n22 : ACode := .cond (.t 48) (fn42n21) (.skip)
def fn42n23 : ACode := .seq (.region fn42r12 false) (fn42n22)
def fn42r14 : List AO := [⟨some 49, .mv (.t 6), none⟩, ⟨some 50, .mv (.t 7), none⟩, ⟨some 51, .mv (.t 9), none⟩, ⟨some 52, .ia 1 (.t 49) (.t 50), none⟩, ⟨none, .store 1 (.t 52) (.t 51), none⟩]
def fn42n25 : ACode := .seq (fn42n23) (.region fn42r14 false)
def fn42n26 : ACode := .seq (.region fn42r11 false) (fn42n25)
def fn42n27 : ACode := .seq (fn42n17) (fn42n26)
def fn42n28 : ACode := .seq (.region fn42r8 false) (fn42n27)
def fn42n29 : ACode := .seq (.region fn42r7 false) (fn42n28)
def fn42n30 : ACode := .block 1 (fn42n29)
def fn42r15 : List AO := [⟨some 53, .bin .add (.t 27) (.k (.p (.int .i64 1))), none⟩, ⟨some 27, .mv (.t 53), none⟩]
def fn42n32 : ACode := .seq (fn42n30) (.region fn42r15 false)
def fn42n33 : ACode := .seq (fn42n10) (fn42n32)
def fn42n34 : ACode := .seq (.region fn42r6 false) (fn42n33)
def fn42n35 : ACode := .loop (fn42n34)
def fn42n36 : ACode := .block 0 (fn42n35)
def fn42n37 : ACode := .seq (.region fn42r5 false) (fn42n36)
def fn42r16 : List AO := [⟨some 4, .mv (.k (.p (.bool true))), none⟩]
def fn42n39 : ACode := .seq (.region fn42r16 false) (.ret)
def fn42n40 : ACode := .seq (fn42n37) (fn42n39)
def fn42n41 : ACode := .seq (.region fn42r4 false) (fn42n40)
def fn42n42 : ACode := .seq (.region fn42r3 false) (fn42n41)
def fn42n43 : ACode := .seq (fn42n5) (fn42n42)
def fn42n44 : ACode := .seq (.region fn42r0 false) (fn42n43)
def fn42 : AFun := { nargs := 2, ntmps := 54, results := [.tmp 4], body := fn42n44 }

/-- credence/assign.Zero -/
def fn43r0 : List AO := [⟨some 0, .alloc 0 [.p (.bool false), .e0, .e0], none⟩]
def fn43r1 : List AO := [⟨some 1, .call 19 [.k (.p (.int .u64 1))], none⟩, ⟨some 2, .build [.p (.bool false), .e0, .e0] [(2, 1, .t 1)], none⟩, ⟨none, .store 3 (.t 0) (.t 2), none⟩]
def fn43n2 : ACode := .seq (.region fn43r1 false) (.ret)
def fn43n3 : ACode := .seq (.region fn43r0 false) (fn43n2)
def fn43 : AFun := { nargs := 0, ntmps := 3, results := [.cell true 3 0], body := fn43n3 }

/-- credence/circuit.Used -/
def fn44r0 : List AO := [⟨some 2, .mv (.k (.e0)), none⟩]
def fn44r1 : List AO := [⟨some 7, .mv (.t 0), none⟩, ⟨some 8, .len (.t 7), none⟩, ⟨some 9, .mk 0 1 1 [.p (.bool false)] (.t 8) (.t 8), none⟩, ⟨some 3, .mv (.t 9), none⟩]
def fn44r2 : List AO := [⟨some 10, .mv (.t 0), none⟩, ⟨some 11, .len (.t 10), none⟩, ⟨some 12, .bin .gtr (.t 11) (.k (.p (.int .i64 0))), none⟩]
def fn44r3 : List AO := [⟨some 13, .mv (.t 3), none⟩, ⟨some 14, .mv (.t 0), none⟩, ⟨some 15, .len (.t 14), none⟩, ⟨some 16, .bin .sub (.t 15) (.k (.p (.int .i64 1))), none⟩, ⟨some 17, .ia 1 (.t 13) (.t 16), none⟩, ⟨none, .store 1 (.t 17) (.k (.p (.bool true))), none⟩]
def fn44n4 : ACode := .cond (.t 12) (.region fn44r3 false) (.skip)
def fn44n5 : ACode := .seq (.region fn44r2 false) (fn44n4)
def fn44r4 : List AO := [⟨some 18, .mv (.t 0), none⟩, ⟨some 19, .len (.t 18), none⟩, ⟨some 20, .bin .sub (.t 19) (.k (.p (.int .i64 1))), none⟩, ⟨some 4, .mv (.t 20), none⟩]
def fn44r5 : List AO := [⟨some 21, .mv (.t 4), none⟩, ⟨some 22, .bin .geq (.t 21) (.k (.p (.int .i64 0))), none⟩]
def fn44n8 : ACode := .cond (.t 22) (.skip) (.exit 0)
def fn44n9 : ACode := .seq (.region fn44r5 false) (fn44n8)
def fn44r7 : List AO := [⟨some 25, .mv (.t 3), none⟩, ⟨some 26, .mv (.t 4), none⟩, ⟨some 27, .ia 1 (.t 25) (.t 26), none⟩, ⟨some 28, .load false 1 (.t 27), none⟩]
def fn44r8 : List AO := [⟨some 29, .mv (.t 0), none⟩, ⟨some 30, .mv (.t 4), none⟩, ⟨some 31, .ia 3 (.t 29) (.t 30), none⟩, ⟨some 32, .fa 2 1 (.t 31), none⟩, ⟨some 33, .load false 1 (.t 32), none⟩, ⟨some 34, .len (.t 33), none⟩, ⟨some 35, .mv (.k (.p (.int .i64 0))), none⟩]
def fn44r9 : List AO := [⟨some 36, .bin .lss (.t 35) (.t 34), none⟩]
def fn44n13 : ACode := .cond (.t 36) (.skip) (.exit 2)
def fn44r10 : List AO := [⟨some 37, .ia 1 (.t 33) (.t 35), none⟩, ⟨some 38, .load false 1 (.t 37), none⟩, ⟨some 6, .mv (.t 38), none⟩]
def fn44r11 : List AO := [⟨some 39, .mv (.t 3), none⟩, ⟨some 40, .mv (.t 6), none⟩, ⟨some 41, .ia 1 (.t 39) (.t 40), none⟩, ⟨none, .store 1 (.t 41) (.k (.p (.bool true))), none⟩]
def fn44n16 : ACode := .seq (.region fn44r10 false) (.region fn44r11 false)
def fn44n17 : ACode := .block 3 (fn44n16)
def fn44r12 : List AO := [⟨some 42, .bin .add (.t 35) (.k (.p (.int .i64 1))), none⟩, ⟨some 35, .mv (.t 42), none⟩]
def fn44n19 : ACode := .seq (fn44n17) (.region fn44r12 false)
def fn44n20 : ACode := .seq (fn44n13) (fn44n19)
def fn44n21 : ACode := .seq (.region fn44r9 false) (fn44n20)
def fn44n22 : ACode := .loop (fn44n21)
def fn44n23 : ACode := .block 2 (fn44n22)
def fn44n24 : ACode := .seq (.region fn44r8 false) (fn44n23)
def fn44n25 : ACode := .cond (.t 28) (fn44n24) (.skip)
def fn44n26 : ACode := .seq (.region fn44r7 false) (fn44n25)
def fn44n27 : ACode := .block 1 (fn44n26)
def fn44r6 : List AO := [⟨some 23, .mv (.t 4), none⟩, ⟨some 24, .bin .sub (.t 23) (.k (.p (.int .i64 1))), none⟩, ⟨some 4, .mv (.t 24), none⟩]
def fn44n29 : ACode := .seq (fn44n27) (.region fn44r6 false)
def fn44n30 : ACode := .seq (fn44n9) (fn44n29)
def fn44n31 : ACode := .loop (fn44n30)
def fn44n32 : ACode := .block 0 (fn44n31)
def fn44n33 : ACode := .seq (.region fn44r4 false) (fn44n32)
def fn44r13 : List AO := [⟨some 43, .mv (.t 3), none⟩, ⟨some 2, .mv (.t 43), none⟩]
def fn44n35 : ACode := .seq (.region fn44r13 false) (.ret)
def fn44n36 : ACode := .seq (fn44n33) (fn44n35)
def fn44n37 : ACode := .seq (fn44n5) (fn44n36)
def fn44n38 : ACode := .seq (.region fn44r1 false) (fn44n37)
def fn44n39 : ACode := .seq (.region fn44r0 false) (fn44n38)
def fn44 : AFun := { nargs := 1, ntmps := 44, results := [.tmp 2], body := fn44n39 }

/-- credence/assign.One -/
def fn45r0 : List AO := [⟨some 0, .alloc 0 [.p (.bool false), .e0, .e0], none⟩]
def fn45r1 : List AO := [⟨some 1, .call 19 [.k (.p (.int .u64 1))], none⟩, ⟨some 2, .call 19 [.k (.p (.int .u64 1))], none⟩, ⟨some 3, .build [.p (.bool false), .e0, .e0] [(1, 1, .t 1), (2, 1, .t 2)], none⟩, ⟨none, .store 3 (.t 0) (.t 3), none⟩]
def fn45n2 : ACode := .seq (.region fn45r1 false) (.ret)
def fn45n3 : ACode := .seq (.region fn45r0 false) (fn45n2)
def fn45 : AFun := { nargs := 0, ntmps := 4, results := [.cell true 3 0], body := fn45n3 }

/-- credence/assign.Choice -/
def fn47r0 : List AO := [⟨some 2, .boxP (.t 0), none⟩, ⟨some 4, .alloc 0 [.p (.bool false), .e0, .e0], none⟩]
def fn47r1 : List AO := [⟨some 5, .mv (.t 1), none⟩, ⟨some 6, .bin .lss (.t 5) (.k (.p (.int .i64 0))), none⟩]
def fn47r2 : List AO := [⟨some 7, .load true 1 (.t 2), none⟩, ⟨some 8, .call 36 [.t 7], none⟩, ⟨none, .store 3 (.t 4) (.t 8), none⟩]
def fn47n3 : ACode := .seq (.region fn47r2 false) (.ret)
def fn47n4 : ACode := .cond (.t 6) (fn47n3) (.skip)
def fn47n5 : ACode := .seq (.region fn47r1 false) (fn47n4)
def fn47r3 : List AO := [⟨some 9, .fa 0 1 (.t 2), none⟩, ⟨some 10, .load false 1 (.t 9), none⟩, ⟨some 11, .mv (.t 1), none⟩, ⟨some 12, .ia 3 (.t 10) (.t 11), none⟩, ⟨some 13, .load true 3 (.t 12), none⟩, ⟨some 14, .call 46 [.t 13], none⟩, ⟨none, .store 3 (.t 4) (.t 14), none⟩]
def fn47n7 : ACode := .seq (.region fn47r3 false) (.ret)
def fn47n8 : ACode := .seq (fn47n5) (fn47n7)
def fn47n9 : ACode := .seq (.region fn47r0 false) (fn47n8)
def fn47 : AFun := { nargs := 2, ntmps := 15, results := [.cell true 3 4], body := fn47n9 }

/-- credence/rational.Mul -/
def fn48r0 : List AO := [⟨some 2, .boxP (.t 0), none⟩, ⟨some 3, .boxP (.t 1), none⟩, ⟨some 4, .alloc 0 [.p (.bool false), .e0, .e0], none⟩]
def fn48r1 : List AO := [⟨some 12, .load true 3 (.t 2), none⟩, ⟨some 13, .call 11 [.t 12], none⟩, ⟨some 11, .mv (.t 13), none⟩, ⟨some 14, .ext 0 (.t 11), none⟩, ⟨some 15, .ext 1 (.t 11), none⟩, ⟨some 16, .ext 2 (.t 11), none⟩, ⟨some 5, .mv (.t 14), none⟩, ⟨some 6, .mv (.t 15), none⟩, ⟨some 7, .mv (.t 16), none⟩]
def fn48r2 : List AO := [⟨some 18, .load true 3 (.t 3), none⟩, ⟨some 19, .call 11 [.t 18], none⟩, ⟨some 17, .mv (.t 19), none⟩, ⟨some 20, .ext 0 (.t 17), none⟩, ⟨some 21, .ext 1 (.t 17), none⟩, ⟨some 22, .ext 2 (.t 17), none⟩, ⟨some 8, .mv (.t 20), none⟩, ⟨some 9, .mv (.t 21), none⟩, ⟨some 10, .mv (.t 22), none⟩]
def fn48r3 : List AO := [⟨some 23, .mv (.t 5), none⟩, ⟨some 24, .mv (.t 8), none⟩, ⟨some 25, .binB .neq (.t 23) (.t 24), none⟩, ⟨some 26, .mv (.t 6), none⟩, ⟨some 27, .mv (.t 9), none⟩, ⟨some 28, .call 14 [.t 26, .t 27], none⟩, ⟨some 29, .mv (.t 7), none⟩, ⟨some 30, .mv (.t 10), none⟩, ⟨some 31, .call 14 [.t 29, .t 30], none⟩, ⟨some 32, .call 29 [.t 25, .t 28, .t 31], none⟩, ⟨none, .store 3 (.t 4) (.t 32), none⟩]
def fn48n4 : ACode := .seq (.region fn48r3 false) (.ret)
def fn48n5 : ACode := .seq (.region fn48r2 false) (fn48n4)
def fn48n6 : ACode := .seq (.region fn48r1 false) (fn48n5)
def fn48n7 : ACode := .seq (.region fn48r0 false) (fn48n6)
def fn48 : AFun := { nargs := 2, ntmps := 33, results := [.cell true 3 4], body := fn48n7 }

/-- credence/rational.Product -/
def fn49r0 : List AO := [⟨some 2, .alloc 0 [.p (.bool false), .e0, .e0], none⟩]
def fn49r1 : List AO := [⟨some 6, .call 10 [], none⟩, ⟨some 7, .call 10 [], none⟩, ⟨some 8, .build [.p (.bool false), .e0, .e0] [(1, 1, .t 6), (2, 1, .t 7)], none⟩, ⟨some 3, .alloc 1 [.p (.bool false), .e0, .e0], none⟩, ⟨none, .store 3 (.t 3) (.t 8), none⟩]
def fn49r2 : List AO := [⟨some 9, .mv (.t 0), none⟩, ⟨some 10, .len (.t 9), none⟩, ⟨some 11, .mv (.k (.p (.int .i64 0))), none⟩]
def fn49r3 : List AO := [⟨some 12, .bin .lss (.t 11) (.t 10), none⟩]
def fn49n4 : ACode := .cond (.t 12) (.skip) (.exit 0)
def fn49r4 : List AO := [⟨some 13, .ia 3 (.t 9) (.t 11), none⟩, ⟨some 14, .load true 3 (.t 13), none⟩, ⟨some 5, .alloc 2 [.p (.bool false), .e0, .e0], none⟩, ⟨none, .store 3 (.t 5) (.t 14), none⟩]
def fn49r5 : List AO := [⟨some 15, .load true 3 (.t 3), none⟩, ⟨some 16, .load true 3 (.t 5), none⟩, ⟨some 17, .call 48 [.t 15, .t 16], none⟩, ⟨none, .store 3 (.t 3) (.t 17), none⟩]
def fn49n7 : ACode := .seq (.region fn49r4 false) (.region fn49r5 false)
def fn49n8 : ACode := .block 1 (fn49n7)
def fn49r6 : List AO := [⟨some 18, .bin .add (.t 11) (.k (.p (.int .i64 1))), none⟩, ⟨some 11, .mv (.t 18), none⟩]
def fn49n10 : ACode := .seq (fn49n8) (.region fn49r6 false)
def fn49n11 : ACode := .seq (fn49n4) (fn49n10)
def fn49n12 : ACode := .seq (.region fn49r3 false) (fn49n11)
def fn49n13 : ACode := .loop (fn49n12)
def fn49n14 : ACode := .block 0 (fn49n13)
def fn49n15 : ACode := .seq (.region fn49r2 false) (fn49n14)
def fn49r7 : List AO := [⟨some 19, .load true 3 (.t 3), none⟩, ⟨none, .store 3 (.t 2) (.t 19), none⟩]
def fn49n17 : ACode := .seq (.region fn49r7 false) (.ret)
def fn49n18 : ACode := .seq (fn49n15) (fn49n17)
def fn49n19 : ACode := .seq (.region fn49r1 false) (fn49n18)
def fn49n20 : ACode := .seq (.region fn49r0 false) (fn49n19)
def fn49 : AFun := { nargs := 1, ntmps := 20, results := [.cell true 3 2], body := fn49n20 }

/-- credence/circuit.gateProbability -/
def fn50r0 : List AO := [⟨some 3, .boxP (.t 0), none⟩, ⟨some 4, .boxP (.t 1), none⟩, ⟨some 6, .alloc 0 [.p (.bool false), .e0, .e0], none⟩]
def fn50r1 : List AO := [⟨some 7, .mv (.k (.e0)), none⟩]
def fn50r2 : List AO := [⟨some 15, .fa 0 1 (.t 4), none⟩, ⟨some 16, .load false 1 (.t 15), none⟩]
def fn50r3 : List AO := [⟨some 18, .bin .eql (.t 16) (.k (.p (.int .i64 1))), none⟩, ⟨some 17, .mv (.t 18), none⟩]
def fn50r4 : List AO := [⟨some 19, .call 45 [], none⟩, ⟨none, .store 3 (.t 6) (.t 19), none⟩]
def fn50n5 : ACode := .seq (.region fn50r4 false) (.ret)
def fn50r5 : List AO := [⟨some 21, .bin .eql (.t 16) (.k (.p (.int .i64 2))), none⟩, ⟨some 20, .mv (.t 21), none⟩]
def fn50r6 : List AO := [⟨some 22, .fa 2 1 (.t 4), none⟩, ⟨some 23, .load false 1 (.t 22), none⟩, ⟨some 24, .len (.t 23), none⟩, ⟨some 25, .mv (.k (.p (.int .i64 0))), none⟩]
def fn50r7 : List AO := [⟨some 26, .bin .lss (.t 25) (.t 24), none⟩]
def fn50n9 : ACode := .cond (.t 26) (.skip) (.exit 1)
def fn50r8 : List AO := [⟨some 27, .mv (.t 25), none⟩, ⟨some 28, .ia 1 (.t 23) (.t 25), none⟩, ⟨some 29, .load false 1 (.t 28), none⟩, ⟨some 8, .mv (.t 27), none⟩, ⟨some 9, .mv (.t 29), none⟩]
def fn50r9 : List AO := [⟨some 30, .mv (.t 8), none⟩, ⟨some 10, .mv (.t 30), none⟩]
def fn50r10 : List AO := [⟨some 31, .mv (.t 8), none⟩, ⟨some 32, .fa 2 1 (.t 4), none⟩, ⟨some 33, .load false 1 (.t 32), none⟩, ⟨some 34, .len (.t 33), none⟩, ⟨some 35, .bin .sub (.t 34) (.k (.p (.int .i64 1))), none⟩, ⟨some 36, .bin .eql (.t 31) (.t 35), none⟩]
def fn50r11 : List AO := [⟨some 10, .mv (.k (.p (.int .i64 (-1)))), none⟩]
def fn50n14 : ACode := .cond (.t 36) (.region fn50r11 false) (.skip)
def fn50n15 : ACode := .seq (.region fn50r10 false) (fn50n14)
def fn50r12 : List AO := [⟨some 37, .mv (.t 7), none⟩, ⟨some 38, .fa 0 1 (.t 3), none⟩, ⟨some 39, .load false 1 (.t 38), none⟩, ⟨some 40, .fa 1 1 (.t 4), none⟩, ⟨some 41, .load false 1 (.t 40), none⟩, ⟨some 42, .ia 1 (.t 39) (.t 41), none⟩, ⟨some 43, .load true 1 (.t 42), none⟩, ⟨some 44, .mv (.t 10), none⟩, ⟨some 45, .callP 47 [.t 43, .t 44], none⟩, ⟨some 46, .mv (.t 2), none⟩, ⟨some 47, .mv (.t 9), none⟩, ⟨some 48, .ia 3 (.t 46) (.t 47), none⟩, ⟨some 49, .load true 3 (.t 48), none⟩, ⟨some 50, .callP 48 [.t 45, .t 49], none⟩, ⟨some 51, .slP 1 3 [.p (.bool false), .e0, .e0] [(0, 3, .t 50)], none⟩, ⟨some 52, .app 1 3 56 (.t 37) (.t 51), none⟩, ⟨some 7, .mv (.t 52), none⟩]
def fn50n17 : ACode := .seq (fn50n15) (.region fn50r12 true)
def fn50n18 : ACode := .seq (.region fn50r9 false) (fn50n17)
def fn50n19 : ACode := .seq (.region fn50r8 false) (fn50n18)
def fn50n20 : ACode := .block 2 (fn50n19)
def fn50r13 : List AO := [⟨some 53, .bin .add (.t 25) (.k (.p (.int .i64 1))), none⟩, ⟨some 25, .mv (.t 53), none⟩]
def fn50n22 : ACode := .seq (fn50n20) (.region fn50r13 false)
def fn50n23 : ACode := .seq (fn50n9) (fn50n22)
def fn50n24 : ACode := .seq (.region fn50r7 false) (fn50n23)
def fn50n25 : ACode := .loop (fn50n24)
def fn50n26 : ACode := .block 1 (fn50n25)
def fn50n27 : ACode := .seq (.region fn50r6 false) (fn50n26)
def fn50r14 : List AO := [⟨some 54, .mv (.t 7), none⟩, ⟨some 55, .callR 100 32 [.t 54], none⟩, ⟨none, .store 3 (.t 6) (.t 55), none⟩]
def fn50n29 : ACode := .seq (.region fn50r14 false) (.ret)
def fn50n30 : ACode := .seq (fn50n27) (fn50n29)
def fn50r15 : List AO := [⟨some 57, .bin .eql (.t 16) (.k (.p (.int .i64 3))), none⟩, ⟨some 56, .mv (.t 57), none⟩]
def fn50r16 : List AO := [⟨some 58, .fa 2 1 (.t 4), none⟩, ⟨some 59, .load false 1 (.t 58), none⟩, ⟨some 60, .len (.t 59), none⟩, ⟨some 61, .mv (.k (.p (.int .i64 0))), none⟩]
def fn50r17 : List AO := [⟨some 62, .bin .lss (.t 61) (.t 60), none⟩]
def fn50n34 : ACode := .cond (.t 62) (.skip) (.exit 3)
def fn50r18 : List AO := [⟨some 63, .ia 1 (.t 59) (.t 61), none⟩, ⟨some 64, .load false 1 (.t 63), none⟩, ⟨some 12, .mv (.t 64), none⟩]
def fn50r19 : List AO := [⟨some 65, .mv (.t 7), none⟩, ⟨some 66, .mv (.t 2), none⟩, ⟨some 67, .mv (.t 12), none⟩, ⟨some 68, .ia 3 (.t 66) (.t 67), none⟩, ⟨some 69, .load true 3 (.t 68), none⟩, ⟨some 70, .slP 1 3 [.p (.bool false), .e0, .e0] [(0, 3, .t 69)], none⟩, ⟨some 71, .app 2 3 56 (.t 65) (.t 70), none⟩, ⟨some 7, .mv (.t 71), none⟩]
def fn50n37 : ACode := .seq (.region fn50r18 false) (.region fn50r19 false)
def fn50n38 : ACode := .block 4 (fn50n37)
def fn50r20 : List AO := [⟨some 72, .bin .add (.t 61) (.k (.p (.int .i64 1))), none⟩, ⟨some 61, .mv (.t 72), none⟩]
def fn50n40 : ACode := .seq (fn50n38) (.region fn50r20 false)
def fn50n41 : ACode := .seq (fn50n34) (fn50n40)
def fn50n42 : ACode := .seq (.region fn50r17 false) (fn50n41)
def fn50n43 : ACode := .loop (fn50n42)
def fn50n44 : ACode := .block 3 (fn50n43)
def fn50n45 : ACode := .seq (.region fn50r16 false) (fn50n44)
def fn50r21 : List AO := [⟨some 73, .mv (.t 7), none⟩, ⟨some 74, .callR 29000 49 [.t 73], none⟩, ⟨none, .store 3 (.t 6) (.t 74), none⟩]
def fn50n47 : ACode := .seq (.region fn50r21 false) (.ret)
def fn50n48 : ACode := .seq (fn50n45) (fn50n47)
def fn50r22 : List AO := [⟨some 76, .bin .eql (.t 16) (.k (.p (.int .i64 4))), none⟩, ⟨some 75, .mv (.t 76), none⟩]
def fn50r23 : List AO := [⟨some 77, .fa 2 1 (.t 4), none⟩, ⟨some 78, .load false 1 (.t 77), none⟩, ⟨some 79, .len (.t 78), none⟩, ⟨some 80, .mv (.k (.p (.int .i64 0))), none⟩]
def fn50r24 : List AO := [⟨some 81, .bin .lss (.t 80) (.t 79), none⟩]
def fn50n52 : ACode := .cond (.t 81) (.skip) (.exit 5)
def fn50r25 : List AO := [⟨some 82, .ia 1 (.t 78) (.t 80), none⟩, ⟨some 83, .load false 1 (.t 82), none⟩, ⟨some 14, .mv (.t 83), none⟩]
def fn50r26 : List AO := [⟨some 84, .mv (.t 7), none⟩, ⟨some 85, .mv (.t 2), none⟩, ⟨some 86, .mv (.t 14), none⟩, ⟨some 87, .ia 3 (.t 85) (.t 86), none⟩, ⟨some 88, .load true 3 (.t 87), none⟩, ⟨some 89, .call 35 [.t 88], none⟩, ⟨some 90, .slP 1 3 [.p (.bool false), .e0, .e0] [(0, 3, .t 89)], none⟩, ⟨some 91, .app 3 3 56 (.t 84) (.t 90), none⟩, ⟨some 7, .mv (.t 91), none⟩]
def fn50n55 : ACode := .seq (.region fn50r25 false) (.region fn50r26 false)
def fn50n56 : ACode := .block 6 (fn50n55)
def fn50r27 : List AO := [⟨some 92, .bin .add (.t 80) (.k (.p (.int .i64 1))), none⟩, ⟨some 80, .mv (.t 92), none⟩]
def fn50n58 : ACode := .seq (fn50n56) (.region fn50r27 false)
def fn50n59 : ACode := .seq (fn50n52) (fn50n58)
def fn50n60 : ACode := .seq (.region fn50r24 false) (fn50n59)
def fn50n61 : ACode := .loop (fn50n60)
def fn50n62 : ACode := .block 5 (fn50n61)
def fn50n63 : ACode := .seq (.region fn50r23 false) (fn50n62)
def fn50r28 : List AO := [⟨some 93, .mv (.t 7), none⟩, ⟨some 94, .callR 39700 49 [.t 93], none⟩, ⟨some 95, .call 35 [.t 94], none⟩, ⟨none, .store 3 (.t 6) (.t 95), none⟩]
def fn50n65 : ACode := .seq (.region fn50r28 false) (.ret)
def fn50n66 : ACode := .seq (fn50n63) (fn50n65)
def fn50r29 : List AO := [⟨some 97, .bin .eql (.t 16) (.k (.p (.int .i64 5))), none⟩, ⟨some 96, .mv (.t 97), none⟩]
def fn50r30 : List AO := [⟨some 98, .mv (.t 2), none⟩, ⟨some 99, .fa 2 1 (.t 4), none⟩, ⟨some 100, .load false 1 (.t 99), none⟩, ⟨some 101, .ia 1 (.t 100) (.k (.p (.int .i64 0))), none⟩, ⟨some 102, .load false 1 (.t 101), none⟩, ⟨some 103, .ia 3 (.t 98) (.t 102), none⟩, ⟨some 104, .load true 3 (.t 103), none⟩, ⟨some 105, .call 35 [.t 104], none⟩, ⟨none, .store 3 (.t 6) (.t 105), none⟩]
def fn50n69 : ACode := .seq (.region fn50r30 false) (.ret)
def fn50n70 : ACode := .cond (.t 96) (fn50n69) (.skip)
def fn50n71 : ACode := .seq (.region fn50r29 false) (fn50n70)
def fn50n72 : ACode := .cond (.t 75) (fn50n66) (fn50n71)
def fn50n73 : ACode := .seq (.region fn50r22 false) (fn50n72)
def fn50n74 : ACode := .cond (.t 56) (fn50n48) (fn50n73)
def fn50n75 : ACode := .seq (.region fn50r15 false) (fn50n74)
def fn50n76 : ACode := .cond (.t 20) (fn50n30) (fn50n75)
def fn50n77 : ACode := .seq (.region fn50r5 false) (fn50n76)
def fn50n78 : ACode := .cond (.t 17) (fn50n5) (fn50n77)
def fn50n79 : ACode := .seq (.region fn50r3 false) (fn50n78)
def fn50n80 : ACode := .block 0 (fn50n79)
def fn50n81 : ACode := .seq (.region fn50r2 false) (fn50n80)
def fn50r31 : List AO := [⟨some 106, .call 43 [], none⟩, ⟨none, .store 3 (.t 6) (.t 106), none⟩]
def fn50n83 : ACode := .seq (.region fn50r31 false) (.ret)
def fn50n84 : ACode := .seq (fn50n81) (fn50n83)
def fn50n85 : ACode := .seq (.region fn50r1 false) (fn50n84)
def fn50n86 : ACode := .seq (.region fn50r0 false) (fn50n85)
def fn50 : AFun := { nargs := 3, ntmps := 107, results := [.cell true 3 6], body := fn50n86 }

/-- credence/circuit.Probabilities -/
def fn51r0 : List AO := [⟨some 2, .boxP (.t 0), none⟩, ⟨some 3, .boxP (.t 1), none⟩, ⟨some 4, .mv (.k (.e0)), none⟩]
def fn51r1 : List AO := [⟨some 9, .fa 0 1 (.t 3), none⟩, ⟨some 10, .load false 1 (.t 9), none⟩, ⟨some 11, .len (.t 10), none⟩, ⟨some 12, .mk 0 3 56 [.p (.bool false), .e0, .e0] (.t 11) (.t 11), none⟩, ⟨some 5, .mv (.t 12), none⟩]
def fn51r2 : List AO := [⟨some 13, .fa 0 1 (.t 3), none⟩, ⟨some 14, .load false 1 (.t 13), none⟩, ⟨some 15, .call 44 [.t 14], none⟩, ⟨some 6, .mv (.t 15), none⟩]
def fn51r3 : List AO := [⟨some 16, .fa 0 1 (.t 3), none⟩, ⟨some 17, .load false 1 (.t 16), none⟩, ⟨some 18, .len (.t 17), none⟩, ⟨some 19, .mv (.k (.p (.int .i64 0))), none⟩]
def fn51r4 : List AO := [⟨some 20, .bin .lss (.t 19) (.t 18), none⟩]
def fn51n5 : ACode := .cond (.t 20) (.skip) (.exit 0)
def fn51r5 : List AO := [⟨some 21, .mv (.t 19), none⟩, ⟨some 22, .ia 3 (.t 17) (.t 19), none⟩, ⟨some 23, .load true 3 (.t 22), none⟩, ⟨some 8, .alloc 1 [.p (.int .i64 0), .p (.int .i64 0), .e0], none⟩, ⟨some 7, .mv (.t 21), none⟩, ⟨none, .store 3 (.t 8) (.t 23), none⟩]
def fn51r6 : List AO := [⟨some 24, .mv (.t 6), none⟩, ⟨some 25, .mv (.t 7), none⟩, ⟨some 26, .ia 1 (.t 24) (.t 25), none⟩, ⟨some 27, .load false 1 (.t 26), none⟩]
def fn51r7 : List AO := [⟨some 28, .mv (.t 5), none⟩, ⟨some 29, .mv (.t 7), none⟩, ⟨some 30, .load true 1 (.t 2), none⟩, ⟨some 31, .load true 3 (.t 8), none⟩, ⟨some 32, .mv (.t 5), none⟩, ⟨some 33, .callR 100 50 [.t 30, .t 31, .t 32], none⟩, ⟨some 34, .ia 3 (.t 28) (.t 29), none⟩, ⟨none, .store 3 (.t 34) (.t 33), none⟩]
def fn51n9 : ACode := .cond (.t 27) (.region fn51r7 false) (.skip)
def fn51n10 : ACode := .seq (.region fn51r6 false) (fn51n9)
def fn51n11 : ACode := .seq (.region fn51r5 false) (fn51n10)
def fn51n12 : ACode := .block 1 (fn51n11)
def fn51r8 : List AO := [⟨some 35, .bin .add (.t 19) (.k (.p (.int .i64 1))), none⟩, ⟨some 19, .mv (.t 35), none⟩]
def fn51n14 : ACode := .seq (fn51n12) (.region fn51r8 false)
def fn51n15 : ACode := .seq (fn51n5) (fn51n14)
def fn51n16 : ACode := .seq (.region fn51r4 false) (fn51n15)
def fn51n17 : ACode := .loop (fn51n16)
def fn51n18 : ACode := .block 0 (fn51n17)
def fn51n19 : ACode := .seq (.region fn51r3 false) (fn51n18)
def fn51r9 : List AO := [⟨some 36, .mv (.t 5), none⟩, ⟨some 4, .mv (.t 36), none⟩]
def fn51n21 : ACode := .seq (.region fn51r9 false) (.ret)
def fn51n22 : ACode := .seq (fn51n19) (fn51n21)
def fn51n23 : ACode := .seq (.region fn51r2 false) (fn51n22)
def fn51n24 : ACode := .seq (.region fn51r1 false) (fn51n23)
def fn51n25 : ACode := .seq (.region fn51r0 false) (fn51n24)
def fn51 : AFun := { nargs := 2, ntmps := 37, results := [.tmp 4], body := fn51n25 }

/-- credence/circuit.Probability -/
def fn69r0 : List AO := [⟨some 2, .boxP (.t 0), none⟩, ⟨some 3, .boxP (.t 1), none⟩, ⟨some 4, .alloc 0 [.p (.bool false), .e0, .e0], none⟩, ⟨some 5, .mv (.k (.p (.int .i64 0))), none⟩]
def fn69r1 : List AO := [⟨some 6, .load true 1 (.t 2), none⟩, ⟨some 7, .load true 1 (.t 3), none⟩, ⟨some 8, .call 42 [.t 6, .t 7], none⟩, ⟨some 9, .un .not (.t 8), none⟩]
def fn69r2 : List AO := [⟨some 10, .build [.p (.bool false), .e0, .e0] [], none⟩, ⟨none, .store 3 (.t 4) (.t 10), none⟩, ⟨some 5, .mv (.k (.p (.int .i64 1))), none⟩]
def fn69n3 : ACode := .seq (.region fn69r2 false) (.ret)
def fn69n4 : ACode := .cond (.t 9) (fn69n3) (.skip)
def fn69n5 : ACode := .seq (.region fn69r1 false) (fn69n4)
def fn69r3 : List AO := [⟨some 11, .fa 0 1 (.t 3), none⟩, ⟨some 12, .load false 1 (.t 11), none⟩, ⟨some 13, .len (.t 12), none⟩, ⟨some 14, .bin .eql (.t 13) (.k (.p (.int .i64 0))), none⟩]
def fn69r4 : List AO := [⟨some 15, .call 43 [], none⟩, ⟨none, .store 3 (.t 4) (.t 15), none⟩, ⟨some 5, .mv (.k (.p (.int .i64 0))), none⟩]
def fn69n8 : ACode := .seq (.region fn69r4 false) (.ret)
def fn69n9 : ACode := .cond (.t 14) (fn69n8) (.skip)
def fn69n10 : ACode := .seq (.region fn69r3 false) (fn69n9)
def fn69r5 : List AO := [⟨some 16, .load true 1 (.t 2), none⟩, ⟨some 17, .load true 1 (.t 3), none⟩, ⟨some 18, .callP 51 [.t 16, .t 17], none⟩, ⟨some 19, .fa 0 1 (.t 3), none⟩, ⟨some 20, .load false 1 (.t 19), none⟩, ⟨some 21, .len (.t 20), none⟩, ⟨some 22, .bin .sub (.t 21) (.k (.p (.int .i64 1))), none⟩, ⟨some 23, .ia 3 (.t 18) (.t 22), none⟩, ⟨some 24, .load true 3 (.t 23), none⟩, ⟨none, .store 3 (.t 4) (.t 24), none⟩, ⟨some 5, .mv (.k (.p (.int .i64 0))), none⟩]
def fn69n12 : ACode := .seq (.region fn69r5 true) (.ret)
def fn69n13 : ACode := .seq (fn69n10) (fn69n12)
def fn69n14 : ACode := .seq (fn69n5) (fn69n13)
def fn69n15 : ACode := .seq (.region fn69r0 false) (fn69n14)
def fn69 : AFun := { nargs := 2, ntmps := 25, results := [.cell true 3 4, .tmp 5], body := fn69n15 }

/-- credence/rational.Cmp -/
def fn56r0 : List AO := [⟨some 2, .boxP (.t 0), none⟩, ⟨some 3, .boxP (.t 1), none⟩, ⟨some 4, .mv (.k (.p (.int .i64 0))), none⟩]
def fn56r1 : List AO := [⟨some 7, .load true 3 (.t 2), none⟩, ⟨some 8, .callP 12 [.t 7], none⟩, ⟨some 9, .load true 3 (.t 3), none⟩, ⟨some 10, .callP 12 [.t 9], none⟩, ⟨some 5, .mv (.t 8), none⟩, ⟨some 6, .mv (.t 10), none⟩]
def fn56r2 : List AO := [⟨some 12, .mv (.t 5), none⟩, ⟨some 13, .mv (.t 6), none⟩, ⟨some 14, .bin .lss (.t 12) (.t 13), none⟩, ⟨some 11, .mv (.t 14), none⟩]
def fn56r3 : List AO := [⟨some 4, .mv (.k (.p (.int .i64 (-1)))), none⟩]
def fn56n4 : ACode := .seq (.region fn56r3 false) (.ret)
def fn56r4 : List AO := [⟨some 16, .mv (.t 5), none⟩, ⟨some 17, .mv (.t 6), none⟩, ⟨some 18, .bin .gtr (.t 16) (.t 17), none⟩, ⟨some 15, .mv (.t 18), none⟩]
def fn56r5 : List AO := [⟨some 4, .mv (.k (.p (.int .i64 1))), none⟩]
def fn56n7 : ACode := .seq (.region fn56r5 false) (.ret)
def fn56r6 : List AO := [⟨some 20, .mv (.t 5), none⟩, ⟨some 21, .bin .eql (.t 20) (.k (.p (.int .i64 0))), none⟩, ⟨some 19, .mv (.t 21), none⟩]
def fn56r7 : List AO := [⟨some 4, .mv (.k (.p (.int .i64 0))), none⟩]
def fn56n10 : ACode := .seq (.region fn56r7 false) (.ret)
def fn56n11 : ACode := .cond (.t 19) (fn56n10) (.skip)
def fn56n12 : ACode := .seq (.region fn56r6 false) (fn56n11)
def fn56n13 : ACode := .cond (.t 15) (fn56n7) (fn56n12)
def fn56n14 : ACode := .seq (.region fn56r4 false) (fn56n13)
def fn56n15 : ACode := .cond (.t 11) (fn56n4) (fn56n14)
def fn56n16 : ACode := .seq (.region fn56r2 false) (fn56n15)
def fn56n17 : ACode := .block 0 (fn56n16)
def fn56r8 : List AO := [⟨some 22, .mv (.t 5), none⟩, ⟨some 23, .fa 1 1 (.t 2), none⟩, ⟨some 24, .load false 1 (.t 23), none⟩, ⟨some 25, .fa 2 1 (.t 3), none⟩, ⟨some 26, .load false 1 (.t 25), none⟩, ⟨some 27, .callP 14 [.t 24, .t 26], none⟩, ⟨some 28, .fa 1 1 (.t 3), none⟩, ⟨some 29, .load false 1 (.t 28), none⟩, ⟨some 30, .fa 2 1 (.t 2), none⟩, ⟨some 31, .load false 1 (.t 30), none⟩, ⟨some 32, .callP 14 [.t 29, .t 31], none⟩, ⟨some 33, .callP 13 [.t 27, .t 32], none⟩, ⟨some 34, .bin .mul (.t 22) (.t 33), none⟩, ⟨some 4, .mv (.t 34), none⟩]
def fn56n19 : ACode := .seq (.region fn56r8 true) (.ret)
def fn56n20 : ACode := .seq (fn56n17) (fn56n19)
def fn56n21 : ACode := .seq (.region fn56r1 true) (fn56n20)
def fn56n22 : ACode := .seq (.region fn56r0 false) (fn56n21)
def fn56 : AFun := { nargs := 2, ntmps := 35, results := [.tmp 4], body := fn56n22 }

/-- credence/sampler.possible -/
def fn121r0 : List AO := [⟨some 2, .boxP (.t 0), none⟩, ⟨some 3, .boxP (.t 1), none⟩, ⟨some 4, .mv (.k (.p (.int .i64 0))), none⟩]
def fn121r1 : List AO := [⟨some 8, .load true 1 (.t 2), none⟩, ⟨some 9, .load true 1 (.t 3), none⟩, ⟨some 10, .call 69 [.t 8, .t 9], none⟩, ⟨some 7, .mv (.t 10), none⟩, ⟨some 11, .ext 0 (.t 7), none⟩, ⟨some 12, .ext 1 (.t 7), none⟩, ⟨some 5, .alloc 0 [.p (.bool false), .e0, .e0], none⟩, ⟨none, .store 3 (.t 5) (.t 11), none⟩, ⟨some 6, .mv (.t 12), none⟩]
def fn121r2 : List AO := [⟨some 13, .mv (.t 6), none⟩, ⟨some 14, .bin .eql (.t 13) (.k (.p (.int .i64 0))), none⟩, ⟨some 15, .mv (.t 14), none⟩, ⟨some 16, .load true 3 (.t 5), (some (15, true))⟩, ⟨some 17, .callP 43 [], (some (15, true))⟩, ⟨some 18, .callP 56 [.t 16, .t 17], (some (15, true))⟩, ⟨some 19, .bin .eql (.t 18) (.k (.p (.int .i64 0))), (some (15, true))⟩, ⟨some 20, .pick (.t 15) (.t 19) (.k (.p (.bool false))), none⟩]
def fn121r3 : List AO := [⟨some 4, .mv (.k (.p (.int .i64 15))), none⟩]
def fn121n4 : ACode := .seq (.region fn121r3 false) (.ret)
def fn121n5 : ACode := .cond (.t 20) (fn121n4) (.skip)
def fn121n6 : ACode := .seq (.region fn121r2 true) (fn121n5)
def fn121r4 : List AO := [⟨some 21, .mv (.t 6), none⟩, ⟨some 4, .mv (.t 21), none⟩]
def fn121n8 : ACode := .seq (.region fn121r4 false) (.ret)
def fn121n9 : ACode := .seq (fn121n6) (fn121n8)
def fn121n10 : ACode := .seq (.region fn121r1 false) (fn121n9)
def fn121n11 : ACode := .seq (.region fn121r0 false) (fn121n10)
def fn121 : AFun := { nargs := 2, ntmps := 22, results := [.tmp 4], body := fn121n11 }

/-- credence/passes.others -/
def fn52r0 : List AO := [⟨some 2, .mv (.k (.e0)), none⟩]
def fn52r1 : List AO := [⟨some 9, .mv (.t 0), none⟩, ⟨some 10, .len (.t 9), none⟩, ⟨some 11, .mk 0 3 56 [.p (.bool false), .e0, .e0] (.t 10) (.t 10), none⟩, ⟨some 3, .mv (.t 11), none⟩]
def fn52r2 : List AO := [⟨some 12, .call 45 [], none⟩, ⟨some 4, .alloc 1 [.p (.bool false), .e0, .e0], none⟩, ⟨none, .store 3 (.t 4) (.t 12), none⟩]
def fn52r3 : List AO := [⟨some 13, .mv (.t 0), none⟩, ⟨some 14, .len (.t 13), none⟩, ⟨some 15, .mv (.k (.p (.int .i64 0))), none⟩]
def fn52r4 : List AO := [⟨some 16, .bin .lss (.t 15) (.t 14), none⟩]
def fn52n5 : ACode := .cond (.t 16) (.skip) (.exit 0)
def fn52r5 : List AO := [⟨some 17, .mv (.t 15), none⟩, ⟨some 18, .ia 3 (.t 13) (.t 15), none⟩, ⟨some 19, .load true 3 (.t 18), none⟩, ⟨some 6, .alloc 2 [.p (.bool false), .e0, .e0], none⟩, ⟨some 5, .mv (.t 17), none⟩, ⟨none, .store 3 (.t 6) (.t 19), none⟩]
def fn52r6 : List AO := [⟨some 20, .mv (.t 3), none⟩, ⟨some 21, .mv (.t 5), none⟩, ⟨some 22, .load true 3 (.t 4), none⟩, ⟨some 23, .ia 3 (.t 20) (.t 21), none⟩, ⟨none, .store 3 (.t 23) (.t 22), none⟩]
def fn52r7 : List AO := [⟨some 24, .load true 3 (.t 4), none⟩, ⟨some 25, .load true 3 (.t 6), none⟩, ⟨some 26, .call 48 [.t 24, .t 25], none⟩, ⟨none, .store 3 (.t 4) (.t 26), none⟩]
def fn52n9 : ACode := .seq (.region fn52r6 false) (.region fn52r7 false)
def fn52n10 : ACode := .seq (.region fn52r5 false) (fn52n9)
def fn52n11 : ACode := .block 1 (fn52n10)
def fn52r8 : List AO := [⟨some 27, .bin .add (.t 15) (.k (.p (.int .i64 1))), none⟩, ⟨some 15, .mv (.t 27), none⟩]
def fn52n13 : ACode := .seq (fn52n11) (.region fn52r8 false)
def fn52n14 : ACode := .seq (fn52n5) (fn52n13)
def fn52n15 : ACode := .seq (.region fn52r4 false) (fn52n14)
def fn52n16 : ACode := .loop (fn52n15)
def fn52n17 : ACode := .block 0 (fn52n16)
def fn52n18 : ACode := .seq (.region fn52r3 false) (fn52n17)
def fn52r9 : List AO := [⟨some 28, .call 45 [], none⟩, ⟨some 7, .alloc 3 [.p (.bool false), .e0, .e0], none⟩, ⟨none, .store 3 (.t 7) (.t 28), none⟩]
def fn52r10 : List AO := [⟨some 29, .mv (.t 0), none⟩, ⟨some 30, .len (.t 29), none⟩, ⟨some 31, .bin .sub (.t 30) (.k (.p (.int .i64 1))), none⟩, ⟨some 8, .mv (.t 31), none⟩]
def fn52r11 : List AO := [⟨some 32, .mv (.t 8), none⟩, ⟨some 33, .bin .geq (.t 32) (.k (.p (.int .i64 0))), none⟩]
def fn52n22 : ACode := .cond (.t 33) (.skip) (.exit 2)
def fn52n23 : ACode := .seq (.region fn52r11 false) (fn52n22)
def fn52r13 : List AO := [⟨some 36, .mv (.t 3), none⟩, ⟨some 37, .mv (.t 8), none⟩, ⟨some 38, .mv (.t 3), none⟩, ⟨some 39, .mv (.t 8), none⟩, ⟨some 40, .ia 3 (.t 38) (.t 39), none⟩, ⟨some 41, .load true 3 (.t 40), none⟩, ⟨some 42, .load true 3 (.t 7), none⟩, ⟨some 43, .callP 48 [.t 41, .t 42], none⟩, ⟨some 44, .ia 3 (.t 36) (.t 37), none⟩, ⟨none, .store 3 (.t 44) (.t 43), none⟩]
def fn52r14 : List AO := [⟨some 45, .load true 3 (.t 7), none⟩, ⟨some 46, .mv (.t 0), none⟩, ⟨some 47, .mv (.t 8), none⟩, ⟨some 48, .ia 3 (.t 46) (.t 47), none⟩, ⟨some 49, .load true 3 (.t 48), none⟩, ⟨some 50, .callP 48 [.t 45, .t 49], none⟩, ⟨none, .store 3 (.t 7) (.t 50), none⟩]
def fn52n26 : ACode := .seq (.region fn52r13 true) (.region fn52r14 true)
def fn52n27 : ACode := .block 3 (fn52n26)
def fn52r12 : List AO := [⟨some 34, .mv (.t 8), none⟩, ⟨some 35, .bin .sub (.t 34) (.k (.p (.int .i64 1))), none⟩, ⟨some 8, .mv (.t 35), none⟩]
def fn52n29 : ACode := .seq (fn52n27) (.region fn52r12 false)
def fn52n30 : ACode := .seq (fn52n23) (fn52n29)
def fn52n31 : ACode := .loop (fn52n30)
def fn52n32 : ACode := .block 2 (fn52n31)
def fn52n33 : ACode := .seq (.region fn52r10 false) (fn52n32)
def fn52r15 : List AO := [⟨some 51, .mv (.t 3), none⟩, ⟨some 2, .mv (.t 51), none⟩]
def fn52n35 : ACode := .seq (.region fn52r15 false) (.ret)
def fn52n36 : ACode := .seq (fn52n33) (fn52n35)
def fn52n37 : ACode := .seq (.region fn52r9 false) (fn52n36)
def fn52n38 : ACode := .seq (fn52n18) (fn52n37)
def fn52n39 : ACode := .seq (.region fn52r2 false) (fn52n38)
def fn52n40 : ACode := .seq (.region fn52r1 false) (fn52n39)
def fn52n41 : ACode := .seq (.region fn52r0 false) (fn52n40)
def fn52 : AFun := { nargs := 1, ntmps := 52, results := [.tmp 2], body := fn52n41 }

/-- credence/passes.factors -/
def fn53r0 : List AO := [⟨some 3, .boxP (.t 0), none⟩, ⟨some 4, .boxP (.t 1), none⟩, ⟨some 6, .mv (.k (.e0)), none⟩]
def fn53r1 : List AO := [⟨some 12, .fa 2 1 (.t 4), none⟩, ⟨some 13, .load false 1 (.t 12), none⟩, ⟨some 14, .len (.t 13), none⟩, ⟨some 15, .mk 0 3 56 [.p (.bool false), .e0, .e0] (.t 14) (.t 14), none⟩, ⟨some 7, .mv (.t 15), none⟩]
def fn53r2 : List AO := [⟨some 16, .fa 0 1 (.t 4), none⟩, ⟨some 17, .load false 1 (.t 16), none⟩]
def fn53r3 : List AO := [⟨some 19, .bin .eql (.t 17) (.k (.p (.int .i64 2))), none⟩, ⟨some 18, .mv (.t 19), none⟩]
def fn53r4 : List AO := [⟨some 20, .mv (.t 7), none⟩, ⟨some 21, .len (.t 20), none⟩, ⟨some 22, .mv (.k (.p (.int .i64 0))), none⟩]
def fn53r5 : List AO := [⟨some 23, .bin .lss (.t 22) (.t 21), none⟩]
def fn53n6 : ACode := .cond (.t 23) (.skip) (.exit 1)
def fn53r6 : List AO := [⟨some 24, .mv (.t 22), none⟩, ⟨some 8, .mv (.t 24), none⟩]
def fn53r7 : List AO := [⟨some 25, .mv (.t 8), none⟩, ⟨some 9, .mv (.t 25), none⟩]
def fn53r8 : List AO := [⟨some 26, .mv (.t 8), none⟩, ⟨some 27, .mv (.t 7), none⟩, ⟨some 28, .len (.t 27), none⟩, ⟨some 29, .bin .sub (.t 28) (.k (.p (.int .i64 1))), none⟩, ⟨some 30, .bin .eql (.t 26) (.t 29), none⟩]
def fn53r9 : List AO := [⟨some 9, .mv (.k (.p (.int .i64 (-1)))), none⟩]
def fn53n11 : ACode := .cond (.t 30) (.region fn53r9 false) (.skip)
def fn53n12 : ACode := .seq (.region fn53r8 false) (fn53n11)
def fn53r10 : List AO := [⟨some 31, .mv (.t 7), none⟩, ⟨some 32, .mv (.t 8), none⟩, ⟨some 33, .fa 0 1 (.t 3), none⟩, ⟨some 34, .load false 1 (.t 33), none⟩, ⟨some 35, .fa 1 1 (.t 4), none⟩, ⟨some 36, .load false 1 (.t 35), none⟩, ⟨some 37, .ia 1 (.t 34) (.t 36), none⟩, ⟨some 38, .load true 1 (.t 37), none⟩, ⟨some 39, .mv (.t 9), none⟩, ⟨some 40, .call 47 [.t 38, .t 39], none⟩, ⟨some 41, .ia 3 (.t 31) (.t 32), none⟩, ⟨none, .store 3 (.t 41) (.t 40), none⟩]
def fn53n14 : ACode := .seq (fn53n12) (.region fn53r10 false)
def fn53n15 : ACode := .seq (.region fn53r7 false) (fn53n14)
def fn53n16 : ACode := .seq (.region fn53r6 false) (fn53n15)
def fn53n17 : ACode := .block 2 (fn53n16)
def fn53r11 : List AO := [⟨some 42, .bin .add (.t 22) (.k (.p (.int .i64 1))), none⟩, ⟨some 22, .mv (.t 42), none⟩]
def fn53n19 : ACode := .seq (fn53n17) (.region fn53r11 false)
def fn53n20 : ACode := .seq (fn53n6) (fn53n19)
def fn53n21 : ACode := .seq (.region fn53r5 false) (fn53n20)
def fn53n22 : ACode := .loop (fn53n21)
def fn53n23 : ACode := .block 1 (fn53n22)
def fn53n24 : ACode := .seq (.region fn53r4 false) (fn53n23)
def fn53r12 : List AO := [⟨some 43, .mv (.t 7), none⟩, ⟨some 6, .mv (.t 43), none⟩]
def fn53n26 : ACode := .seq (.region fn53r12 false) (.ret)
def fn53n27 : ACode := .seq (fn53n24) (fn53n26)
def fn53r13 : List AO := [⟨some 45, .bin .eql (.t 17) (.k (.p (.int .i64 5))), none⟩, ⟨some 44, .mv (.t 45), none⟩]
def fn53r14 : List AO := [⟨some 46, .call 45 [], none⟩, ⟨some 47, .call 33 [.t 46], none⟩, ⟨some 48, .slO 1 1 3 [.p (.bool false), .e0, .e0] [(0, 3, .t 47)], none⟩, ⟨some 6, .mv (.t 48), none⟩]
def fn53n30 : ACode := .seq (.region fn53r14 false) (.ret)
def fn53n31 : ACode := .cond (.t 44) (fn53n30) (.skip)
def fn53n32 : ACode := .seq (.region fn53r13 false) (fn53n31)
def fn53n33 : ACode := .cond (.t 18) (fn53n27) (fn53n32)
def fn53n34 : ACode := .seq (.region fn53r3 false) (fn53n33)
def fn53n35 : ACode := .block 0 (fn53n34)
def fn53n36 : ACode := .seq (.region fn53r2 false) (fn53n35)
def fn53r15 : List AO := [⟨some 49, .fa 2 1 (.t 4), none⟩, ⟨some 50, .load false 1 (.t 49), none⟩, ⟨some 51, .len (.t 50), none⟩, ⟨some 52, .mv (.k (.p (.int .i64 0))), none⟩]
def fn53r16 : List AO := [⟨some 53, .bin .lss (.t 52) (.t 51), none⟩]
def fn53n39 : ACode := .cond (.t 53) (.skip) (.exit 3)
def fn53r17 : List AO := [⟨some 54, .mv (.t 52), none⟩, ⟨some 55, .ia 1 (.t 50) (.t 52), none⟩, ⟨some 56, .load false 1 (.t 55), none⟩, ⟨some 10, .mv (.t 54), none⟩, ⟨some 11, .mv (.t 56), none⟩]
def fn53r18 : List AO := [⟨some 57, .mv (.t 7), none⟩, ⟨some 58, .mv (.t 10), none⟩, ⟨some 59, .mv (.t 2), none⟩, ⟨some 60, .mv (.t 11), none⟩, ⟨some 61, .ia 3 (.t 59) (.t 60), none⟩, ⟨some 62, .load true 3 (.t 61), none⟩, ⟨some 63, .ia 3 (.t 57) (.t 58), none⟩, ⟨none, .store 3 (.t 63) (.t 62), none⟩]
def fn53r19 : List AO := [⟨some 64, .fa 0 1 (.t 4), none⟩, ⟨some 65, .load false 1 (.t 64), none⟩, ⟨some 66, .bin .eql (.t 65) (.k (.p (.int .i64 4))), none⟩]
def fn53r20 : List AO := [⟨some 67, .mv (.t 7), none⟩, ⟨some 68, .mv (.t 10), none⟩, ⟨some 69, .mv (.t 2), none⟩, ⟨some 70, .mv (.t 11), none⟩, ⟨some 71, .ia 3 (.t 69) (.t 70), none⟩, ⟨some 72, .load true 3 (.t 71), none⟩, ⟨some 73, .call 35 [.t 72], none⟩, ⟨some 74, .ia 3 (.t 67) (.t 68), none⟩, ⟨none, .store 3 (.t 74) (.t 73), none⟩]
def fn53n44 : ACode := .cond (.t 66) (.region fn53r20 false) (.skip)
def fn53n45 : ACode := .seq (.region fn53r19 false) (fn53n44)
def fn53n46 : ACode := .seq (.region fn53r18 false) (fn53n45)
def fn53n47 : ACode := .seq (.region fn53r17 false) (fn53n46)
def fn53n48 : ACode := .block 4 (fn53n47)
def fn53r21 : List AO := [⟨some 75, .bin .add (.t 52) (.k (.p (.int .i64 1))), none⟩, ⟨some 52, .mv (.t 75), none⟩]
def fn53n50 : ACode := .seq (fn53n48) (.region fn53r21 false)
def fn53n51 : ACode := .seq (fn53n39) (fn53n50)
def fn53n52 : ACode := .seq (.region fn53r16 false) (fn53n51)
def fn53n53 : ACode := .loop (fn53n52)
def fn53n54 : ACode := .block 3 (fn53n53)
def fn53n55 : ACode := .seq (.region fn53r15 false) (fn53n54)
def fn53r22 : List AO := [⟨some 76, .mv (.t 7), none⟩, ⟨some 77, .callR 100 52 [.t 76], none⟩, ⟨some 6, .mv (.t 77), none⟩]
def fn53n57 : ACode := .seq (.region fn53r22 false) (.ret)
def fn53n58 : ACode := .seq (fn53n55) (fn53n57)
def fn53n59 : ACode := .seq (fn53n36) (fn53n58)
def fn53n60 : ACode := .seq (.region fn53r1 false) (fn53n59)
def fn53n61 : ACode := .seq (.region fn53r0 false) (fn53n60)
def fn53 : AFun := { nargs := 3, ntmps := 78, results := [.tmp 6], body := fn53n61 }

/-- credence/passes.Conditionals -/
def fn54r0 : List AO := [⟨some 2, .boxP (.t 0), none⟩, ⟨some 3, .boxP (.t 1), none⟩, ⟨some 4, .alloc 0 [.p (.bool false), .e0, .e0], none⟩, ⟨some 5, .mv (.k (.e0)), none⟩]
def fn54r1 : List AO := [⟨some 19, .call 43 [], none⟩, ⟨some 6, .alloc 1 [.p (.bool false), .e0, .e0], none⟩, ⟨none, .store 3 (.t 6) (.t 19), none⟩]
def fn54r2 : List AO := [⟨some 20, .fa 0 1 (.t 3), none⟩, ⟨some 21, .load false 1 (.t 20), none⟩, ⟨some 22, .len (.t 21), none⟩, ⟨some 23, .bin .gtr (.t 22) (.k (.p (.int .i64 0))), none⟩]
def fn54r3 : List AO := [⟨some 24, .load true 1 (.t 2), none⟩, ⟨some 25, .load true 1 (.t 3), none⟩, ⟨some 26, .callP 51 [.t 24, .t 25], none⟩, ⟨some 27, .fa 0 1 (.t 3), none⟩, ⟨some 28, .load false 1 (.t 27), none⟩, ⟨some 29, .len (.t 28), none⟩, ⟨some 30, .bin .sub (.t 29) (.k (.p (.int .i64 1))), none⟩, ⟨some 31, .ia 3 (.t 26) (.t 30), none⟩, ⟨some 32, .load true 3 (.t 31), none⟩, ⟨none, .store 3 (.t 6) (.t 32), none⟩]
def fn54n4 : ACode := .cond (.t 23) (.region fn54r3 true) (.skip)
def fn54n5 : ACode := .seq (.region fn54r2 false) (fn54n4)
def fn54r4 : List AO := [⟨some 33, .fa 0 1 (.t 2), none⟩, ⟨some 34, .load false 1 (.t 33), none⟩, ⟨some 35, .len (.t 34), none⟩, ⟨some 36, .mk 2 1 24 [.e0] (.t 35) (.t 35), none⟩, ⟨some 7, .mv (.t 36), none⟩]
def fn54r5 : List AO := [⟨some 37, .mv (.t 7), none⟩, ⟨some 38, .len (.t 37), none⟩, ⟨some 39, .mv (.k (.p (.int .i64 0))), none⟩]
def fn54r6 : List AO := [⟨some 40, .bin .lss (.t 39) (.t 38), none⟩]
def fn54n9 : ACode := .cond (.t 40) (.skip) (.exit 0)
def fn54r7 : List AO := [⟨some 41, .mv (.t 39), none⟩, ⟨some 8, .mv (.t 41), none⟩]
def fn54r8 : List AO := [⟨some 42, .fa 0 1 (.t 2), none⟩, ⟨some 43, .load false 1 (.t 42), none⟩, ⟨some 44, .mv (.t 8), none⟩, ⟨some 45, .ia 1 (.t 43) (.t 44), none⟩, ⟨some 46, .fa 0 1 (.t 45), none⟩, ⟨some 47, .load false 1 (.t 46), none⟩, ⟨some 48, .len (.t 47), none⟩, ⟨some 49, .bin .add (.t 48) (.k (.p (.int .i64 1))), none⟩, ⟨some 50, .mv (.k (.p (.int .i64 0))), none⟩]
def fn54r9 : List AO := [⟨some 51, .bin .lss (.t 50) (.t 49), none⟩]
def fn54n13 : ACode := .cond (.t 51) (.skip) (.exit 2)
def fn54r10 : List AO := [⟨some 52, .mv (.t 7), none⟩, ⟨some 53, .mv (.t 8), none⟩, ⟨some 54, .mv (.t 7), none⟩, ⟨some 55, .mv (.t 8), none⟩, ⟨some 56, .ia 1 (.t 54) (.t 55), none⟩, ⟨some 57, .load false 1 (.t 56), none⟩, ⟨some 58, .load true 3 (.t 6), none⟩, ⟨some 59, .slP 1 3 [.p (.bool false), .e0, .e0] [(0, 3, .t 58)], none⟩, ⟨some 60, .app 3 3 56 (.t 57) (.t 59), none⟩, ⟨some 61, .ia 1 (.t 52) (.t 53), none⟩, ⟨none, .store 1 (.t 61) (.t 60), none⟩]
def fn54n15 : ACode := .block 3 (.region fn54r10 true)
def fn54r11 : List AO := [⟨some 62, .bin .add (.t 50) (.k (.p (.int .i64 1))), none⟩, ⟨some 50, .mv (.t 62), none⟩]
def fn54n17 : ACode := .seq (fn54n15) (.region fn54r11 false)
def fn54n18 : ACode := .seq (fn54n13) (fn54n17)
def fn54n19 : ACode := .seq (.region fn54r9 false) (fn54n18)
def fn54n20 : ACode := .loop (fn54n19)
def fn54n21 : ACode := .block 2 (fn54n20)
def fn54n22 : ACode := .seq (.region fn54r8 false) (fn54n21)
def fn54n23 : ACode := .seq (.region fn54r7 false) (fn54n22)
def fn54n24 : ACode := .block 1 (fn54n23)
def fn54r12 : List AO := [⟨some 63, .bin .add (.t 39) (.k (.p (.int .i64 1))), none⟩, ⟨some 39, .mv (.t 63), none⟩]
def fn54n26 : ACode := .seq (fn54n24) (.region fn54r12 false)
def fn54n27 : ACode := .seq (fn54n9) (fn54n26)
def fn54n28 : ACode := .seq (.region fn54r6 false) (fn54n27)
def fn54n29 : ACode := .loop (fn54n28)
def fn54n30 : ACode := .block 0 (fn54n29)
def fn54n31 : ACode := .seq (.region fn54r5 false) (fn54n30)
def fn54r13 : List AO := [⟨some 64, .fa 0 1 (.t 3), none⟩, ⟨some 65, .load false 1 (.t 64), none⟩, ⟨some 66, .len (.t 65), none⟩, ⟨some 67, .bin .eql (.t 66) (.k (.p (.int .i64 0))), none⟩]
def fn54r14 : List AO := [⟨some 68, .load true 3 (.t 6), none⟩, ⟨some 69, .mv (.t 7), none⟩, ⟨none, .store 3 (.t 4) (.t 68), none⟩, ⟨some 5, .mv (.t 69), none⟩]
def fn54n34 : ACode := .seq (.region fn54r14 false) (.ret)
def fn54n35 : ACode := .cond (.t 67) (fn54n34) (.skip)
def fn54n36 : ACode := .seq (.region fn54r13 false) (fn54n35)
def fn54r15 : List AO := [⟨some 70, .load true 1 (.t 2), none⟩, ⟨some 71, .load true 1 (.t 3), none⟩, ⟨some 72, .call 51 [.t 70, .t 71], none⟩, ⟨some 9, .mv (.t 72), none⟩]
def fn54r16 : List AO := [⟨some 73, .fa 0 1 (.t 3), none⟩, ⟨some 74, .load false 1 (.t 73), none⟩, ⟨some 75, .call 44 [.t 74], none⟩, ⟨some 10, .mv (.t 75), none⟩]
def fn54r17 : List AO := [⟨some 76, .fa 0 1 (.t 3), none⟩, ⟨some 77, .load false 1 (.t 76), none⟩, ⟨some 78, .len (.t 77), none⟩, ⟨some 79, .mk 4 3 56 [.p (.bool false), .e0, .e0] (.t 78) (.t 78), none⟩, ⟨some 11, .mv (.t 79), none⟩]
def fn54r18 : List AO := [⟨some 80, .mv (.t 11), none⟩, ⟨some 81, .len (.t 80), none⟩, ⟨some 82, .mv (.k (.p (.int .i64 0))), none⟩]
def fn54r19 : List AO := [⟨some 83, .bin .lss (.t 82) (.t 81), none⟩]
def fn54n42 : ACode := .cond (.t 83) (.skip) (.exit 4)
def fn54r20 : List AO := [⟨some 84, .mv (.t 82), none⟩, ⟨some 12, .mv (.t 84), none⟩]
def fn54r21 : List AO := [⟨some 85, .mv (.t 11), none⟩, ⟨some 86, .mv (.t 12), none⟩, ⟨some 87, .call 43 [], none⟩, ⟨some 88, .ia 3 (.t 85) (.t 86), none⟩, ⟨none, .store 3 (.t 88) (.t 87), none⟩]
def fn54n45 : ACode := .seq (.region fn54r20 false) (.region fn54r21 false)
def fn54n46 : ACode := .block 5 (fn54n45)
def fn54r22 : List AO := [⟨some 89, .bin .add (.t 82) (.k (.p (.int .i64 1))), none⟩, ⟨some 82, .mv (.t 89), none⟩]
def fn54n48 : ACode := .seq (fn54n46) (.region fn54r22 false)
def fn54n49 : ACode := .seq (fn54n42) (fn54n48)
def fn54n50 : ACode := .seq (.region fn54r19 false) (fn54n49)
def fn54n51 : ACode := .loop (fn54n50)
def fn54n52 : ACode := .block 4 (fn54n51)
def fn54n53 : ACode := .seq (.region fn54r18 false) (fn54n52)
def fn54r23 : List AO := [⟨some 90, .mv (.t 11), none⟩, ⟨some 91, .mv (.t 11), none⟩, ⟨some 92, .len (.t 91), none⟩, ⟨some 93, .bin .sub (.t 92) (.k (.p (.int .i64 1))), none⟩, ⟨some 94, .call 45 [], none⟩, ⟨some 95, .ia 3 (.t 90) (.t 93), none⟩, ⟨none, .store 3 (.t 95) (.t 94), none⟩]
def fn54r24 : List AO := [⟨some 96, .fa 0 1 (.t 3), none⟩, ⟨some 97, .load false 1 (.t 96), none⟩, ⟨some 98, .len (.t 97), none⟩, ⟨some 99, .bin .sub (.t 98) (.k (.p (.int .i64 1))), none⟩, ⟨some 13, .mv (.t 99), none⟩]
def fn54r25 : List AO := [⟨some 100, .mv (.t 13), none⟩, ⟨some 101, .bin .geq (.t 100) (.k (.p (.int .i64 0))), none⟩]
def fn54n57 : ACode := .cond (.t 101) (.skip) (.exit 6)
def fn54n58 : ACode := .seq (.region fn54r25 false) (fn54n57)
def fn54r27 : List AO := [⟨some 104, .fa 0 1 (.t 3), none⟩, ⟨some 105, .load false 1 (.t 104), none⟩, ⟨some 106, .mv (.t 13), none⟩, ⟨some 107, .ia 3 (.t 105) (.t 106), none⟩, ⟨some 108, .load true 3 (.t 107), none⟩, ⟨some 14, .alloc 5 [.p (.int .i64 0), .p (.int .i64 0), .e0], none⟩, ⟨none, .store 3 (.t 14) (.t 108), none⟩]
def fn54r28 : List AO := [⟨some 109, .mv (.t 10), none⟩, ⟨some 110, .mv (.t 13), none⟩, ⟨some 111, .ia 1 (.t 109) (.t 110), none⟩, ⟨some 112, .load false 1 (.t 111), none⟩, ⟨some 113, .un .not (.t 112), none⟩, ⟨some 114, .mv (.t 113), none⟩, ⟨some 115, .mv (.t 11), (some (114, false))⟩, ⟨some 116, .mv (.t 13), (some (114, false))⟩, ⟨some 117, .ia 3 (.t 115) (.t 116), (some (114, false))⟩, ⟨some 118, .load true 3 (.t 117), (some (114, false))⟩, ⟨some 119, .call 12 [.t 118], (some (114, false))⟩, ⟨some 120, .bin .eql (.t 119) (.k (.p (.int .i64 0))), (some (114, false))⟩, ⟨some 121, .pick (.t 114) (.k (.p (.bool true))) (.t 120), none⟩]
def fn54n61 : ACode := .cond (.t 121) (.exit 7) (.skip)
def fn54n62 : ACode := .seq (.region fn54r28 false) (fn54n61)
def fn54r29 : List AO := [⟨some 122, .load true 1 (.t 2), none⟩, ⟨some 123, .load true 3 (.t 14), none⟩, ⟨some 124, .mv (.t 9), none⟩, ⟨some 125, .call 53 [.t 122, .t 123, .t 124], none⟩, ⟨some 126, .len (.t 125), none⟩, ⟨some 127, .mv (.k (.p (.int .i64 0))), none⟩]
def fn54r30 : List AO := [⟨some 128, .bin .lss (.t 127) (.t 126), none⟩]
def fn54n65 : ACode := .cond (.t 128) (.skip) (.exit 8)
def fn54r31 : List AO := [⟨some 129, .mv (.t 127), none⟩, ⟨some 130, .ia 3 (.t 125) (.t 127), none⟩, ⟨some 131, .load true 3 (.t 130), none⟩, ⟨some 16, .alloc 6 [.p (.bool false), .e0, .e0], none⟩, ⟨some 15, .mv (.t 129), none⟩, ⟨none, .store 3 (.t 16) (.t 131), none⟩]
def fn54r32 : List AO := [⟨some 132, .fa 2 1 (.t 14), none⟩, ⟨some 133, .load false 1 (.t 132), none⟩, ⟨some 134, .mv (.t 15), none⟩, ⟨some 135, .ia 1 (.t 133) (.t 134), none⟩, ⟨some 136, .load false 1 (.t 135), none⟩, ⟨some 17, .mv (.t 136), none⟩]
def fn54r33 : List AO := [⟨some 137, .mv (.t 11), none⟩, ⟨some 138, .mv (.t 17), none⟩, ⟨some 139, .mv (.t 11), none⟩, ⟨some 140, .mv (.t 17), none⟩, ⟨some 141, .ia 3 (.t 139) (.t 140), none⟩, ⟨some 142, .load true 3 (.t 141), none⟩, ⟨some 143, .mv (.t 11), none⟩, ⟨some 144, .mv (.t 13), none⟩, ⟨some 145, .ia 3 (.t 143) (.t 144), none⟩, ⟨some 146, .load true 3 (.t 145), none⟩, ⟨some 147, .load true 3 (.t 16), none⟩, ⟨some 148, .callP 48 [.t 146, .t 147], none⟩, ⟨some 149, .callP 31 [.t 142, .t 148], none⟩, ⟨some 150, .ia 3 (.t 137) (.t 138), none⟩, ⟨none, .store 3 (.t 150) (.t 149), none⟩]
def fn54r34 : List AO := [⟨some 151, .fa 0 1 (.t 14), none⟩, ⟨some 152, .load false 1 (.t 151), none⟩, ⟨some 153, .bin .eql (.t 152) (.k (.p (.int .i64 2))), none⟩]
def fn54r35 : List AO := [⟨some 154, .mv (.t 11), none⟩, ⟨some 155, .mv (.t 13), none⟩, ⟨some 156, .ia 3 (.t 154) (.t 155), none⟩, ⟨some 157, .load true 3 (.t 156), none⟩, ⟨some 158, .mv (.t 9), none⟩, ⟨some 159, .mv (.t 17), none⟩, ⟨some 160, .ia 3 (.t 158) (.t 159), none⟩, ⟨some 161, .load true 3 (.t 160), none⟩, ⟨some 162, .mv (.t 9), none⟩, ⟨some 163, .mv (.t 13), none⟩, ⟨some 164, .ia 3 (.t 162) (.t 163), none⟩, ⟨some 165, .load true 3 (.t 164), none⟩, ⟨some 166, .callP 34 [.t 161, .t 165], none⟩, ⟨some 167, .callP 48 [.t 157, .t 166], none⟩, ⟨some 18, .alloc 7 [.p (.bool false), .e0, .e0], none⟩, ⟨none, .store 3 (.t 18) (.t 167), none⟩]
def fn54r36 : List AO := [⟨some 168, .mv (.t 7), none⟩, ⟨some 169, .fa 1 1 (.t 14), none⟩, ⟨some 170, .load false 1 (.t 169), none⟩, ⟨some 171, .ia 1 (.t 168) (.t 170), none⟩, ⟨some 172, .load false 1 (.t 171), none⟩, ⟨some 173, .mv (.t 15), none⟩, ⟨some 174, .mv (.t 7), none⟩, ⟨some 175, .fa 1 1 (.t 14), none⟩, ⟨some 176, .load false 1 (.t 175), none⟩, ⟨some 177, .ia 1 (.t 174) (.t 176), none⟩, ⟨some 178, .load false 1 (.t 177), none⟩, ⟨some 179, .mv (.t 15), none⟩, ⟨some 180, .ia 3 (.t 178) (.t 179), none⟩, ⟨some 181, .load true 3 (.t 180), none⟩, ⟨some 182, .load true 3 (.t 18), none⟩, ⟨some 183, .callP 31 [.t 181, .t 182], none⟩, ⟨some 184, .ia 3 (.t 172) (.t 173), none⟩, ⟨none, .store 3 (.t 184) (.t 183), none⟩]
def fn54n72 : ACode := .seq (.region fn54r35 true) (.region fn54r36 true)
def fn54n73 : ACode := .cond (.t 153) (fn54n72) (.skip)
def fn54n74 : ACode := .seq (.region fn54r34 false) (fn54n73)
def fn54n75 : ACode := .seq (.region fn54r33 true) (fn54n74)
def fn54n76 : ACode := .seq (.region fn54r32 false) (fn54n75)
def fn54n77 : ACode := .seq (.region fn54r31 false) (fn54n76)
def fn54n78 : ACode := .block 9 (fn54n77)
def fn54r37 : List AO := [⟨some 185, .bin .add (.t 127) (.k (.p (.int .i64 1))), none⟩, ⟨some 127, .mv (.t 185), none⟩]
def fn54n80 : ACode := .seq (fn54n78) (.region fn54r37 false)
def fn54n81 : ACode := .seq (fn54n65) (fn54n80)
def fn54n82 : ACode := .seq (.region fn54r30 false) (fn54n81)
def fn54n83 : ACode := .loop (fn54n82)
def fn54n84 : ACode := .block 8 (fn54n83)
def fn54n85 : ACode := .seq (.region fn54r29 false) (fn54n84)
def fn54n86 : ACode := .seq (fn54n62) (fn54n85)
def fn54n87 : ACode := .seq (.region fn54r27 false) (fn54n86)
def fn54n88 : ACode := .block 7 (fn54n87)
def fn54r26 : List AO := [⟨some 102, .mv (.t 13), none⟩, ⟨some 103, .bin .sub (.t 102) (.k (.p (.int .i64 1))), none⟩, ⟨some 13, .mv (.t 103), none⟩]
def fn54n90 : ACode := .seq (fn54n88) (.region fn54r26 false)
def fn54n91 : ACode := .seq (fn54n58) (fn54n90)
def fn54n92 : ACode := .loop (fn54n91)
def fn54n93 : ACode := .block 6 (fn54n92)
def fn54n94 : ACode := .seq (.region fn54r24 false) (fn54n93)
def fn54r38 : List AO := [⟨some 186, .load true 3 (.t 6), none⟩, ⟨some 187, .mv (.t 7), none⟩, ⟨none, .store 3 (.t 4) (.t 186), none⟩, ⟨some 5, .mv (.t 187), none⟩]
def fn54n96 : ACode := .seq (.region fn54r38 false) (.ret)
def fn54n97 : ACode := .seq (fn54n94) (fn54n96)
def fn54n98 : ACode := .seq (.region fn54r23 false) (fn54n97)
def fn54n99 : ACode := .seq (fn54n53) (fn54n98)
def fn54n100 : ACode := .seq (.region fn54r17 false) (fn54n99)
def fn54n101 : ACode := .seq (.region fn54r16 false) (fn54n100)
def fn54n102 : ACode := .seq (.region fn54r15 false) (fn54n101)
def fn54n103 : ACode := .seq (fn54n36) (fn54n102)
def fn54n104 : ACode := .seq (fn54n31) (fn54n103)
def fn54n105 : ACode := .seq (.region fn54r4 false) (fn54n104)
def fn54n106 : ACode := .seq (fn54n5) (fn54n105)
def fn54n107 : ACode := .seq (.region fn54r1 false) (fn54n106)
def fn54n108 : ACode := .seq (.region fn54r0 false) (fn54n107)
def fn54 : AFun := { nargs := 2, ntmps := 188, results := [.cell true 3 4, .tmp 5], body := fn54n108 }

/-- credence/conditioning.Joint -/
def fn122r0 : List AO := [⟨some 2, .boxP (.t 0), none⟩, ⟨some 3, .boxP (.t 1), none⟩, ⟨some 4, .mv (.k (.e0)), none⟩, ⟨some 5, .mv (.k (.p (.int .i64 0))), none⟩]
def fn122r1 : List AO := [⟨some 13, .load true 1 (.t 2), none⟩, ⟨some 14, .load true 1 (.t 3), none⟩, ⟨some 15, .call 42 [.t 13, .t 14], none⟩, ⟨some 16, .un .not (.t 15), none⟩]
def fn122r2 : List AO := [⟨some 4, .mv (.k (.e0)), none⟩, ⟨some 5, .mv (.k (.p (.int .i64 1))), none⟩]
def fn122n3 : ACode := .seq (.region fn122r2 false) (.ret)
def fn122n4 : ACode := .cond (.t 16) (fn122n3) (.skip)
def fn122n5 : ACode := .seq (.region fn122r1 false) (fn122n4)
def fn122r3 : List AO := [⟨some 18, .load true 1 (.t 2), none⟩, ⟨some 19, .load true 1 (.t 3), none⟩, ⟨some 20, .callR 100 54 [.t 18, .t 19], none⟩, ⟨some 17, .mv (.t 20), none⟩, ⟨some 21, .ext 0 (.t 17), none⟩, ⟨some 22, .ext 1 (.t 17), none⟩, ⟨some 6, .alloc 0 [.p (.bool false), .e0, .e0], none⟩, ⟨none, .store 3 (.t 6) (.t 21), none⟩, ⟨some 7, .mv (.t 22), none⟩]
def fn122r4 : List AO := [⟨some 23, .mv (.t 7), none⟩, ⟨some 24, .len (.t 23), none⟩, ⟨some 25, .mv (.k (.p (.int .i64 0))), none⟩]
def fn122r5 : List AO := [⟨some 26, .bin .lss (.t 25) (.t 24), none⟩]
def fn122n9 : ACode := .cond (.t 26) (.skip) (.exit 0)
def fn122r6 : List AO := [⟨some 27, .mv (.t 25), none⟩, ⟨some 28, .ia 1 (.t 23) (.t 25), none⟩, ⟨some 29, .load false 1 (.t 28), none⟩, ⟨some 8, .mv (.t 27), none⟩, ⟨some 9, .mv (.t 29), none⟩]
def fn122r7 : List AO := [⟨some 30, .mv (.t 9), none⟩, ⟨some 31, .len (.t 30), none⟩, ⟨some 32, .mv (.k (.p (.int .i64 0))), none⟩]
def fn122r8 : List AO := [⟨some 33, .bin .lss (.t 32) (.t 31), none⟩]
def fn122n13 : ACode := .cond (.t 33) (.skip) (.exit 2)
def fn122r9 : List AO := [⟨some 34, .mv (.t 32), none⟩, ⟨some 35, .ia 3 (.t 30) (.t 32), none⟩, ⟨some 36, .load true 3 (.t 35), none⟩, ⟨some 11, .alloc 1 [.p (.bool false), .e0, .e0], none⟩, ⟨some 10, .mv (.t 34), none⟩, ⟨none, .store 3 (.t 11) (.t 36), none⟩]
def fn122r10 : List AO := [⟨some 37, .mv (.t 10), none⟩, ⟨some 12, .mv (.t 37), none⟩]
def fn122r11 : List AO := [⟨some 38, .mv (.t 10), none⟩, ⟨some 39, .mv (.t 9), none⟩, ⟨some 40, .len (.t 39), none⟩, ⟨some 41, .bin .sub (.t 40) (.k (.p (.int .i64 1))), none⟩, ⟨some 42, .bin .eql (.t 38) (.t 41), none⟩]
def fn122r12 : List AO := [⟨some 12, .mv (.k (.p (.int .i64 (-1)))), none⟩]
def fn122n18 : ACode := .cond (.t 42) (.region fn122r12 false) (.skip)
def fn122n19 : ACode := .seq (.region fn122r11 false) (fn122n18)
def fn122r13 : List AO := [⟨some 43, .mv (.t 9), none⟩, ⟨some 44, .mv (.t 10), none⟩, ⟨some 45, .load true 3 (.t 11), none⟩, ⟨some 46, .fa 0 1 (.t 2), none⟩, ⟨some 47, .load false 1 (.t 46), none⟩, ⟨some 48, .mv (.t 8), none⟩, ⟨some 49, .ia 1 (.t 47) (.t 48), none⟩, ⟨some 50, .load true 1 (.t 49), none⟩, ⟨some 51, .mv (.t 12), none⟩, ⟨some 52, .callP 47 [.t 50, .t 51], none⟩, ⟨some 53, .callP 48 [.t 45, .t 52], none⟩, ⟨some 54, .ia 3 (.t 43) (.t 44), none⟩, ⟨none, .store 3 (.t 54) (.t 53), none⟩]
def fn122n21 : ACode := .seq (fn122n19) (.region fn122r13 true)
def fn122n22 : ACode := .seq (.region fn122r10 false) (fn122n21)
def fn122n23 : ACode := .seq (.region fn122r9 false) (fn122n22)
def fn122n24 : ACode := .block 3 (fn122n23)
def fn122r14 : List AO := [⟨some 55, .bin .add (.t 32) (.k (.p (.int .i64 1))), none⟩, ⟨some 32, .mv (.t 55), none⟩]
def fn122n26 : ACode := .seq (fn122n24) (.region fn122r14 false)
def fn122n27 : ACode := .seq (fn122n13) (fn122n26)
def fn122n28 : ACode := .seq (.region fn122r8 false) (fn122n27)
def fn122n29 : ACode := .loop (fn122n28)
def fn122n30 : ACode := .block 2 (fn122n29)
def fn122n31 : ACode := .seq (.region fn122r7 false) (fn122n30)
def fn122n32 : ACode := .seq (.region fn122r6 false) (fn122n31)
def fn122n33 : ACode := .block 1 (fn122n32)
def fn122r15 : List AO := [⟨some 56, .bin .add (.t 25) (.k (.p (.int .i64 1))), none⟩, ⟨some 25, .mv (.t 56), none⟩]
def fn122n35 : ACode := .seq (fn122n33) (.region fn122r15 false)
def fn122n36 : ACode := .seq (fn122n9) (fn122n35)
def fn122n37 : ACode := .seq (.region fn122r5 false) (fn122n36)
def fn122n38 : ACode := .loop (fn122n37)
def fn122n39 : ACode := .block 0 (fn122n38)
def fn122n40 : ACode := .seq (.region fn122r4 false) (fn122n39)
def fn122r16 : List AO := [⟨some 57, .mv (.t 7), none⟩, ⟨some 4, .mv (.t 57), none⟩, ⟨some 5, .mv (.k (.p (.int .i64 0))), none⟩]
def fn122n42 : ACode := .seq (.region fn122r16 false) (.ret)
def fn122n43 : ACode := .seq (fn122n40) (fn122n42)
def fn122n44 : ACode := .seq (.region fn122r3 false) (fn122n43)
def fn122n45 : ACode := .seq (fn122n5) (fn122n44)
def fn122n46 : ACode := .seq (.region fn122r0 false) (fn122n45)
def fn122 : AFun := { nargs := 2, ntmps := 58, results := [.tmp 4, .tmp 5], body := fn122n46 }

/-- credence/conditioning.fits -/
def fn123r0 : List AO := [⟨some 3, .boxP (.t 0), none⟩, ⟨some 6, .mv (.k (.p (.bool false))), none⟩]
def fn123r1 : List AO := [⟨some 7, .mv (.t 1), none⟩, ⟨some 8, .bin .geq (.t 7) (.k (.p (.int .i64 0))), none⟩, ⟨some 9, .mv (.t 8), none⟩, ⟨some 10, .mv (.t 1), (some (9, true))⟩, ⟨some 11, .fa 0 1 (.t 3), (some (9, true))⟩, ⟨some 12, .load false 1 (.t 11), (some (9, true))⟩, ⟨some 13, .len (.t 12), (some (9, true))⟩, ⟨some 14, .bin .lss (.t 10) (.t 13), (some (9, true))⟩, ⟨some 15, .pick (.t 9) (.t 14) (.k (.p (.bool false))), none⟩, ⟨some 16, .mv (.t 15), none⟩, ⟨some 17, .mv (.t 2), (some (16, true))⟩, ⟨some 18, .bin .geq (.t 17) (.k (.p (.int .i64 (-1)))), (some (16, true))⟩, ⟨some 19, .pick (.t 16) (.t 18) (.k (.p (.bool false))), none⟩, ⟨some 20, .mv (.t 19), none⟩, ⟨some 21, .mv (.t 2), (some (20, true))⟩, ⟨some 22, .fa 0 1 (.t 3), (some (20, true))⟩, ⟨some 23, .load false 1 (.t 22), (some (20, true))⟩, ⟨some 24, .mv (.t 1), (some (20, true))⟩, ⟨some 25, .ia 1 (.t 23) (.t 24), (some (20, true))⟩, ⟨some 26, .fa 0 1 (.t 25), (some (20, true))⟩, ⟨some 27, .load false 1 (.t 26), (some (20, true))⟩, ⟨some 28, .len (.t 27), (some (20, true))⟩, ⟨some 29, .bin .lss (.t 21) (.t 28), (some (20, true))⟩, ⟨some 30, .pick (.t 20) (.t 29) (.k (.p (.bool false))), none⟩, ⟨some 6, .mv (.t 30), none⟩]
def fn123n2 : ACode := .seq (.region fn123r1 false) (.ret)
def fn123n3 : ACode := .seq (.region fn123r0 false) (fn123n2)
def fn123 : AFun := { nargs := 3, ntmps := 31, results := [.tmp 6], body := fn123n3 }

/-- credence/circuit.Choice -/
def fn124r0 : List AO := [⟨some 4, .mv (.k (.p (.int .i64 0))), none⟩]
def fn124r1 : List AO := [⟨some 6, .mv (.t 1), none⟩, ⟨some 7, .bin .geq (.t 6) (.k (.p (.int .i64 0))), none⟩, ⟨some 8, .mv (.t 7), none⟩, ⟨some 9, .mv (.t 1), (some (8, true))⟩, ⟨some 10, .mv (.t 0), (some (8, true))⟩, ⟨some 11, .bin .sub (.t 10) (.k (.p (.int .i64 1))), (some (8, true))⟩, ⟨some 12, .bin .lss (.t 9) (.t 11), (some (8, true))⟩, ⟨some 13, .pick (.t 8) (.t 12) (.k (.p (.bool false))), none⟩, ⟨some 5, .mv (.t 13), none⟩]
def fn124r2 : List AO := [⟨some 14, .mv (.t 1), none⟩, ⟨some 4, .mv (.t 14), none⟩]
def fn124n3 : ACode := .seq (.region fn124r2 false) (.ret)
def fn124r3 : List AO := [⟨some 16, .mv (.t 1), none⟩, ⟨some 17, .bin .eql (.t 16) (.k (.p (.int .i64 (-1)))), none⟩, ⟨some 15, .mv (.t 17), none⟩]
def fn124r4 : List AO := [⟨some 18, .mv (.t 0), none⟩, ⟨some 19, .bin .sub (.t 18) (.k (.p (.int .i64 1))), none⟩, ⟨some 4, .mv (.t 19), none⟩]
def fn124n6 : ACode := .seq (.region fn124r4 false) (.ret)
def fn124n7 : ACode := .cond (.t 15) (fn124n6) (.skip)
def fn124n8 : ACode := .seq (.region fn124r3 false) (fn124n7)
def fn124n9 : ACode := .cond (.t 5) (fn124n3) (fn124n8)
def fn124n10 : ACode := .seq (.region fn124r1 false) (fn124n9)
def fn124n11 : ACode := .block 0 (fn124n10)
def fn124r5 : List AO := [⟨some 4, .mv (.k (.p (.int .i64 (-1)))), none⟩]
def fn124n13 : ACode := .seq (.region fn124r5 false) (.ret)
def fn124n14 : ACode := .seq (fn124n11) (fn124n13)
def fn124n15 : ACode := .seq (.region fn124r0 false) (fn124n14)
def fn124 : AFun := { nargs := 2, ntmps := 20, results := [.tmp 4], body := fn124n15 }

/-- slices.Clone[[]int,int] -/
def fn125r0 : List AO := [⟨some 2, .mv (.k (.e0)), none⟩]
def fn125r1 : List AO := [⟨some 3, .mv (.t 0), none⟩, ⟨some 4, .isNil false (.t 3), none⟩]
def fn125r2 : List AO := [⟨some 2, .mv (.k (.e0)), none⟩]
def fn125n3 : ACode := .seq (.region fn125r2 false) (.ret)
def fn125n4 : ACode := .cond (.t 4) (fn125n3) (.skip)
def fn125n5 : ACode := .seq (.region fn125r1 false) (fn125n4)
def fn125r3 : List AO := [⟨some 5, .slO 0 0 1 [] [], none⟩, ⟨some 6, .mv (.t 0), none⟩, ⟨some 7, .app 1 1 8 (.t 5) (.t 6), none⟩, ⟨some 2, .mv (.t 7), none⟩]
def fn125n7 : ACode := .seq (.region fn125r3 false) (.ret)
def fn125n8 : ACode := .seq (fn125n5) (fn125n7)
def fn125n9 : ACode := .seq (.region fn125r0 false) (fn125n8)
def fn125 : AFun := { nargs := 1, ntmps := 8, results := [.tmp 2], body := fn125n9 }

/-- credence/circuit.key -/
def fn126r0 : List AO := [⟨some 1, .boxP (.t 0), none⟩, ⟨some 2, .mv (.k (.p (.str ⟨#[]⟩))), none⟩]
def fn126r1 : List AO := [⟨some 6, .fa 0 1 (.t 1), none⟩, ⟨some 7, .load false 1 (.t 6), none⟩, ⟨some 8, .conv .u8 (.t 7), none⟩, ⟨some 9, .slO 0 1 1 [.p (.int .u8 0)] [(0, 1, .t 8)], none⟩, ⟨some 3, .mv (.t 9), none⟩]
def fn126r2 : List AO := [⟨some 10, .fa 1 1 (.t 1), none⟩, ⟨some 11, .load false 1 (.t 10), none⟩, ⟨some 12, .slO 1 1 1 [.p (.int .i64 0)] [(0, 1, .t 11)], none⟩, ⟨some 13, .fa 2 1 (.t 1), none⟩, ⟨some 14, .load false 1 (.t 13), none⟩, ⟨some 15, .app 2 1 8 (.t 12) (.t 14), none⟩, ⟨some 16, .len (.t 15), none⟩, ⟨some 17, .mv (.k (.p (.int .i64 0))), none⟩]
def fn126r3 : List AO := [⟨some 18, .bin .lss (.t 17) (.t 16), none⟩]
def fn126n4 : ACode := .cond (.t 18) (.skip) (.exit 0)
def fn126r4 : List AO := [⟨some 19, .ia 1 (.t 15) (.t 17), none⟩, ⟨some 20, .load false 1 (.t 19), none⟩, ⟨some 5, .mv (.t 20), none⟩]
def fn126r5 : List AO := [⟨some 21, .mv (.t 5), none⟩, ⟨some 22, .bin .geq (.t 21) (.k (.p (.int .i64 128))), none⟩]
def fn126n7 : ACode := .cond (.t 22) (.skip) (.exit 2)
def fn126n8 : ACode := .seq (.region fn126r5 false) (fn126n7)
def fn126r7 : List AO := [⟨some 25, .mv (.t 3), none⟩, ⟨some 26, .mv (.t 5), none⟩, ⟨some 27, .conv .u8 (.t 26), none⟩, ⟨some 28, .bin .or (.t 27) (.k (.p (.int .u8 128))), none⟩, ⟨some 29, .slP 1 1 [.p (.int .u8 0)] [(0, 1, .t 28)], none⟩, ⟨some 30, .app 3 1 1 (.t 25) (.t 29), none⟩, ⟨some 3, .mv (.t 30), none⟩]
def fn126n10 : ACode := .block 3 (.region fn126r7 false)
def fn126r6 : List AO := [⟨some 23, .mv (.t 5), none⟩, ⟨some 24, .bin .shr (.t 23) (.k (.p (.int .u64 7))), none⟩, ⟨some 5, .mv (.t 24), none⟩]
def fn126n12 : ACode := .seq (fn126n10) (.region fn126r6 false)
def fn126n13 : ACode := .seq (fn126n8) (fn126n12)
def fn126n14 : ACode := .loop (fn126n13)
def fn126n15 : ACode := .block 2 (fn126n14)
def fn126r8 : List AO := [⟨some 31, .mv (.t 3), none⟩, ⟨some 32, .mv (.t 5), none⟩, ⟨some 33, .conv .u8 (.t 32), none⟩, ⟨some 34, .slP 1 1 [.p (.int .u8 0)] [(0, 1, .t 33)], none⟩, ⟨some 35, .app 4 1 1 (.t 31) (.t 34), none⟩, ⟨some 3, .mv (.t 35), none⟩]
def fn126n17 : ACode := .seq (fn126n15) (.region fn126r8 false)
def fn126n18 : ACode := .seq (.region fn126r4 false) (fn126n17)
def fn126n19 : ACode := .block 1 (fn126n18)
def fn126r9 : List AO := [⟨some 36, .bin .add (.t 17) (.k (.p (.int .i64 1))), none⟩, ⟨some 17, .mv (.t 36), none⟩]
def fn126n21 : ACode := .seq (fn126n19) (.region fn126r9 false)
def fn126n22 : ACode := .seq (fn126n4) (fn126n21)
def fn126n23 : ACode := .seq (.region fn126r3 false) (fn126n22)
def fn126n24 : ACode := .loop (fn126n23)
def fn126n25 : ACode := .block 0 (fn126n24)
def fn126n26 : ACode := .seq (.region fn126r2 false) (fn126n25)
def fn126r10 : List AO := [⟨some 37, .mv (.t 3), none⟩, ⟨some 38, .toStr (.t 37), none⟩, ⟨some 2, .mv (.t 38), none⟩]
def fn126n28 : ACode := .seq (.region fn126r10 false) (.ret)
def fn126n29 : ACode := .seq (fn126n26) (fn126n28)
def fn126n30 : ACode := .seq (.region fn126r1 false) (fn126n29)
def fn126n31 : ACode := .seq (.region fn126r0 false) (fn126n30)
def fn126 : AFun := { nargs := 1, ntmps := 39, results := [.tmp 2], body := fn126n31 }

/-- (*credence/circuit.list).put -/
def fn127r0 : List AO := [⟨some 3, .boxO 0 (.t 1), none⟩, ⟨some 4, .mv (.k (.p (.int .i64 0))), none⟩]
def fn127r1 : List AO := [⟨some 8, .load true 3 (.t 3), none⟩, ⟨some 9, .call 126 [.t 8], none⟩, ⟨some 5, .mv (.t 9), none⟩]
def fn127r2 : List AO := [⟨some 11, .mv (.t 0), none⟩, ⟨some 12, .nck (.t 11), none⟩, ⟨some 13, .fa 1 1 (.t 12), none⟩, ⟨some 14, .load false 1 (.t 13), none⟩, ⟨some 15, .mv (.t 5), none⟩, ⟨some 16, .lkp none true false [.p (.int .i64 0)] (.t 14) (.t 15), none⟩, ⟨some 10, .mv (.t 16), none⟩, ⟨some 17, .ext 0 (.t 10), none⟩, ⟨some 18, .ext 1 (.t 10), none⟩, ⟨some 6, .mv (.t 17), none⟩, ⟨some 7, .mv (.t 18), none⟩]
def fn127r3 : List AO := [⟨some 19, .mv (.t 7), none⟩]
def fn127r4 : List AO := [⟨some 20, .mv (.t 6), none⟩, ⟨some 4, .mv (.t 20), none⟩]
def fn127n5 : ACode := .seq (.region fn127r4 false) (.ret)
def fn127n6 : ACode := .cond (.t 19) (fn127n5) (.skip)
def fn127n7 : ACode := .seq (.region fn127r3 false) (fn127n6)
def fn127n8 : ACode := .seq (.region fn127r2 false) (fn127n7)
def fn127r5 : List AO := [⟨some 21, .mv (.t 0), none⟩, ⟨some 22, .mv (.t 0), none⟩, ⟨some 23, .nck (.t 22), none⟩, ⟨some 24, .fa 0 1 (.t 23), none⟩, ⟨some 25, .load false 1 (.t 24), none⟩, ⟨some 26, .load true 3 (.t 3), none⟩, ⟨some 27, .slO 1 1 3 [.p (.int .i64 0), .p (.int .i64 0), .e0] [(0, 3, .t 26)], none⟩, ⟨some 28, .app 2 3 40 (.t 25) (.t 27), none⟩, ⟨some 29, .nck (.t 21), none⟩, ⟨some 30, .fa 0 1 (.t 29), none⟩, ⟨none, .store 1 (.t 30) (.t 28), none⟩]
def fn127r6 : List AO := [⟨some 31, .mv (.t 0), none⟩, ⟨some 32, .nck (.t 31), none⟩, ⟨some 33, .fa 1 1 (.t 32), none⟩, ⟨some 34, .load false 1 (.t 33), none⟩, ⟨some 35, .mv (.t 5), none⟩, ⟨some 36, .mv (.t 0), none⟩, ⟨some 37, .nck (.t 36), none⟩, ⟨some 38, .fa 0 1 (.t 37), none⟩, ⟨some 39, .load false 1 (.t 38), none⟩, ⟨some 40, .len (.t 39), none⟩, ⟨some 41, .bin .sub (.t 40) (.k (.p (.int .i64 1))), none⟩, ⟨none, .updM none (.t 34) (.t 35) (.t 41), none⟩]
def fn127r7 : List AO := [⟨some 42, .mv (.t 0), none⟩, ⟨some 43, .nck (.t 42), none⟩, ⟨some 44, .fa 0 1 (.t 43), none⟩, ⟨some 45, .load false 1 (.t 44), none⟩, ⟨some 46, .len (.t 45), none⟩, ⟨some 47, .bin .sub (.t 46) (.k (.p (.int .i64 1))), none⟩, ⟨some 4, .mv (.t 47), none⟩]
def fn127n12 : ACode := .seq (.region fn127r7 false) (.ret)
def fn127n13 : ACode := .seq (.region fn127r6 true) (fn127n12)
def fn127n14 : ACode := .seq (.region fn127r5 true) (fn127n13)
def fn127n15 : ACode := .seq (fn127n8) (fn127n14)
def fn127n16 : ACode := .seq (.region fn127r1 false) (fn127n15)
def fn127n17 : ACode := .seq (.region fn127r0 false) (fn127n16)
def fn127 : AFun := { nargs := 2, ntmps := 48, results := [.tmp 4], body := fn127n17 }

/-- (*credence/circuit.list).constant -/
def fn128r0 : List AO := [⟨some 4, .mv (.k (.p (.int .i64 0))), none⟩]
def fn128r1 : List AO := [⟨some 5, .mv (.t 0), none⟩, ⟨some 6, .mv (.t 1), none⟩, ⟨some 7, .build [.p (.int .i64 0), .p (.int .i64 0), .e0] [(0, 1, .t 6)], none⟩, ⟨some 8, .callR 100 127 [.t 5, .t 7], none⟩, ⟨some 4, .mv (.t 8), none⟩]
def fn128n2 : ACode := .seq (.region fn128r1 false) (.ret)
def fn128n3 : ACode := .seq (.region fn128r0 false) (fn128n2)
def fn128 : AFun := { nargs := 2, ntmps := 9, results := [.tmp 4], body := fn128n3 }

/-- (*credence/circuit.list).rebuild$1 -/
def fn129r0 : List AO := [⟨some 3, .mv (.k (.p (.bool false))), none⟩]
def fn129r1 : List AO := [⟨some 4, .mv (.t 0), none⟩, ⟨some 5, .load false 1 (.t 1), none⟩, ⟨some 6, .ia 1 (.t 5) (.k (.p (.int .i64 0))), none⟩, ⟨some 7, .load false 1 (.t 6), none⟩, ⟨some 8, .bin .neq (.t 4) (.t 7), none⟩, ⟨some 3, .mv (.t 8), none⟩]
def fn129n2 : ACode := .seq (.region fn129r1 false) (.ret)
def fn129n3 : ACode := .seq (.region fn129r0 false) (fn129n2)
def fn129 : AFun := { nargs := 2, ntmps := 9, results := [.tmp 3], body := fn129n3 }

end Go.Av
