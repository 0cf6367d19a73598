/- The functions that a law reaches, as the abstract machine runs them. By a program of this session. No condition. -/
import Derived.Test.YthdilnjdkniofaaGreatAvBase
namespace Go.Av
open Go

/-- credence/credencelaw23.smallProbs -/
def fn0r0 : List AO := [⟨some 2, .mv (.k (.p (.bool false))), none⟩]
def fn0r1 : List AO := [⟨some 5, .mv (.t 0), none⟩, ⟨some 6, .len (.t 5), none⟩, ⟨some 7, .mv (.k (.p (.int .i64 0))), none⟩]
def fn0r2 : List AO := [⟨some 8, .bin .lss (.t 7) (.t 6), none⟩]
def fn0n3 : ACode := .cond (.t 8) (.skip) (.exit 0)
def fn0r3 : List AO := [⟨some 9, .ia 3 (.t 5) (.t 7), none⟩, ⟨some 10, .load true 3 (.t 9), none⟩, ⟨some 4, .alloc 0 [.p (.bool false), .e0, .e0], none⟩, ⟨none, .store 3 (.t 4) (.t 10), none⟩]
def fn0r4 : List AO := [⟨some 11, .fa 1 1 (.t 4), none⟩, ⟨some 12, .load false 1 (.t 11), none⟩, ⟨some 13, .len (.t 12), none⟩, ⟨some 14, .bin .gtr (.t 13) (.k (.p (.int .i64 4))), none⟩, ⟨some 15, .mv (.t 14), none⟩, ⟨some 16, .fa 2 1 (.t 4), (some (15, false))⟩, ⟨some 17, .load false 1 (.t 16), (some (15, false))⟩, ⟨some 18, .len (.t 17), (some (15, false))⟩, ⟨some 19, .bin .gtr (.t 18) (.k (.p (.int .i64 4))), (some (15, false))⟩, ⟨some 20, .pick (.t 15) (.k (.p (.bool true))) (.t 19), none⟩]
def fn0r5 : List AO := [⟨some 2, .mv (.k (.p (.bool false))), none⟩]
def fn0n7 : ACode := .seq (.region fn0r5 false) (.ret)
def fn0n8 : ACode := .cond (.t 20) (fn0n7) (.skip)
def fn0n9 : ACode := .seq (.region fn0r4 false) (fn0n8)
def fn0n10 : ACode := .seq (.region fn0r3 false) (fn0n9)
def fn0n11 : ACode := .block 1 (fn0n10)
def fn0r6 : List AO := [⟨some 21, .bin .add (.t 7) (.k (.p (.int .i64 1))), none⟩, ⟨some 7, .mv (.t 21), none⟩]
def fn0n13 : ACode := .seq (fn0n11) (.region fn0r6 false)
def fn0n14 : ACode := .seq (fn0n3) (fn0n13)
def fn0n15 : ACode := .seq (.region fn0r2 false) (fn0n14)
def fn0n16 : ACode := .loop (fn0n15)
def fn0n17 : ACode := .block 0 (fn0n16)
def fn0n18 : ACode := .seq (.region fn0r1 false) (fn0n17)
def fn0r7 : List AO := [⟨some 2, .mv (.k (.p (.bool true))), none⟩]
def fn0n20 : ACode := .seq (.region fn0r7 false) (.ret)
def fn0n21 : ACode := .seq (fn0n18) (fn0n20)
def fn0n22 : ACode := .seq (.region fn0r0 false) (fn0n21)
def fn0 : AFun := { nargs := 1, ntmps := 22, results := [.tmp 2], body := fn0n22 }

/-- credence/credencelaw23.Light -/
def fn1r0 : List AO := [⟨some 2, .boxP (.t 0), none⟩, ⟨some 4, .mv (.k (.p (.bool false))), none⟩]
def fn1r1 : List AO := [⟨some 8, .fa 0 1 (.t 2), none⟩, ⟨some 9, .load false 1 (.t 8), none⟩, ⟨some 10, .len (.t 9), none⟩, ⟨some 11, .bin .gtr (.t 10) (.k (.p (.int .i64 40))), none⟩]
def fn1r2 : List AO := [⟨some 4, .mv (.k (.p (.bool false))), none⟩]
def fn1n3 : ACode := .seq (.region fn1r2 false) (.ret)
def fn1n4 : ACode := .cond (.t 11) (fn1n3) (.skip)
def fn1n5 : ACode := .seq (.region fn1r1 false) (fn1n4)
def fn1r3 : List AO := [⟨some 5, .mv (.k (.p (.int .i64 1))), none⟩]
def fn1r4 : List AO := [⟨some 12, .fa 0 1 (.t 2), none⟩, ⟨some 13, .load false 1 (.t 12), none⟩, ⟨some 14, .len (.t 13), none⟩, ⟨some 15, .mv (.k (.p (.int .i64 0))), none⟩]
def fn1r5 : List AO := [⟨some 16, .bin .lss (.t 15) (.t 14), none⟩]
def fn1n9 : ACode := .cond (.t 16) (.skip) (.exit 0)
def fn1r6 : List AO := [⟨some 17, .ia 1 (.t 13) (.t 15), none⟩, ⟨some 18, .load true 1 (.t 17), none⟩, ⟨some 7, .alloc 0 [.e0], none⟩, ⟨none, .store 1 (.t 7) (.t 18), none⟩]
def fn1r7 : List AO := [⟨some 19, .fa 0 1 (.t 7), none⟩, ⟨some 20, .load false 1 (.t 19), none⟩, ⟨some 21, .len (.t 20), none⟩, ⟨some 22, .bin .gtr (.t 21) (.k (.p (.int .i64 40))), none⟩, ⟨some 23, .mv (.t 22), none⟩, ⟨some 24, .fa 0 1 (.t 7), (some (23, false))⟩, ⟨some 25, .load false 1 (.t 24), (some (23, false))⟩, ⟨some 26, .call 0 [.t 25], (some (23, false))⟩, ⟨some 27, .un .not (.t 26), (some (23, false))⟩, ⟨some 28, .pick (.t 23) (.k (.p (.bool true))) (.t 27), none⟩]
def fn1r8 : List AO := [⟨some 4, .mv (.k (.p (.bool false))), none⟩]
def fn1n13 : ACode := .seq (.region fn1r8 false) (.ret)
def fn1n14 : ACode := .cond (.t 28) (fn1n13) (.skip)
def fn1n15 : ACode := .seq (.region fn1r7 false) (fn1n14)
def fn1r9 : List AO := [⟨some 29, .mv (.t 5), none⟩, ⟨some 30, .fa 0 1 (.t 7), none⟩, ⟨some 31, .load false 1 (.t 30), none⟩, ⟨some 32, .len (.t 31), none⟩, ⟨some 33, .bin .add (.k (.p (.int .i64 1))) (.t 32), none⟩, ⟨some 34, .bin .mul (.t 29) (.t 33), none⟩, ⟨some 5, .mv (.t 34), none⟩]
def fn1r10 : List AO := [⟨some 35, .mv (.t 5), none⟩, ⟨some 36, .mv (.t 1), none⟩, ⟨some 37, .bin .gtr (.t 35) (.t 36), none⟩]
def fn1r11 : List AO := [⟨some 4, .mv (.k (.p (.bool false))), none⟩]
def fn1n19 : ACode := .seq (.region fn1r11 false) (.ret)
def fn1n20 : ACode := .cond (.t 37) (fn1n19) (.skip)
def fn1n21 : ACode := .seq (.region fn1r10 false) (fn1n20)
def fn1n22 : ACode := .seq (.region fn1r9 false) (fn1n21)
def fn1n23 : ACode := .seq (fn1n15) (fn1n22)
def fn1n24 : ACode := .seq (.region fn1r6 false) (fn1n23)
def fn1n25 : ACode := .block 1 (fn1n24)
def fn1r12 : List AO := [⟨some 38, .bin .add (.t 15) (.k (.p (.int .i64 1))), none⟩, ⟨some 15, .mv (.t 38), none⟩]
def fn1n27 : ACode := .seq (fn1n25) (.region fn1r12 false)
def fn1n28 : ACode := .seq (fn1n9) (fn1n27)
def fn1n29 : ACode := .seq (.region fn1r5 false) (fn1n28)
def fn1n30 : ACode := .loop (fn1n29)
def fn1n31 : ACode := .block 0 (fn1n30)
def fn1n32 : ACode := .seq (.region fn1r4 false) (fn1n31)
def fn1r13 : List AO := [⟨some 4, .mv (.k (.p (.bool true))), none⟩]
def fn1n34 : ACode := .seq (.region fn1r13 false) (.ret)
def fn1n35 : ACode := .seq (fn1n32) (fn1n34)
def fn1n36 : ACode := .seq (.region fn1r3 false) (fn1n35)
def fn1n37 : ACode := .seq (fn1n5) (fn1n36)
def fn1n38 : ACode := .seq (.region fn1r0 false) (fn1n37)
def fn1 : AFun := { nargs := 2, ntmps := 39, results := [.tmp 4], body := fn1n38 }

/-- credence/credenceref29.Small -/
def fn2r0 : List AO := [⟨some 2, .boxP (.t 0), none⟩, ⟨some 4, .mv (.k (.p (.bool false))), none⟩]
def fn2r1 : List AO := [⟨some 7, .fa 0 1 (.t 2), none⟩, ⟨some 8, .load false 1 (.t 7), none⟩, ⟨some 9, .len (.t 8), none⟩, ⟨some 10, .mv (.t 1), none⟩, ⟨some 11, .bin .gtr (.t 9) (.t 10), none⟩]
def fn2r2 : List AO := [⟨some 4, .mv (.k (.p (.bool false))), none⟩]
def fn2n3 : ACode := .seq (.region fn2r2 false) (.ret)
def fn2n4 : ACode := .cond (.t 11) (fn2n3) (.skip)
def fn2n5 : ACode := .seq (.region fn2r1 false) (fn2n4)
def fn2r3 : List AO := [⟨some 12, .fa 0 1 (.t 2), none⟩, ⟨some 13, .load false 1 (.t 12), none⟩, ⟨some 14, .len (.t 13), none⟩, ⟨some 15, .mv (.k (.p (.int .i64 0))), none⟩]
def fn2r4 : List AO := [⟨some 16, .bin .lss (.t 15) (.t 14), none⟩]
def fn2n8 : ACode := .cond (.t 16) (.skip) (.exit 0)
def fn2r5 : List AO := [⟨some 17, .ia 3 (.t 13) (.t 15), none⟩, ⟨some 18, .load true 3 (.t 17), none⟩, ⟨some 6, .alloc 0 [.p (.int .i64 0), .p (.int .i64 0), .e0], none⟩, ⟨none, .store 3 (.t 6) (.t 18), none⟩]
def fn2r6 : List AO := [⟨some 19, .fa 2 1 (.t 6), none⟩, ⟨some 20, .load false 1 (.t 19), none⟩, ⟨some 21, .len (.t 20), none⟩, ⟨some 22, .mv (.t 1), none⟩, ⟨some 23, .bin .gtr (.t 21) (.t 22), none⟩]
def fn2r7 : List AO := [⟨some 4, .mv (.k (.p (.bool false))), none⟩]
def fn2n12 : ACode := .seq (.region fn2r7 false) (.ret)
def fn2n13 : ACode := .cond (.t 23) (fn2n12) (.skip)
def fn2n14 : ACode := .seq (.region fn2r6 false) (fn2n13)
def fn2n15 : ACode := .seq (.region fn2r5 false) (fn2n14)
def fn2n16 : ACode := .block 1 (fn2n15)
def fn2r8 : List AO := [⟨some 24, .bin .add (.t 15) (.k (.p (.int .i64 1))), none⟩, ⟨some 15, .mv (.t 24), none⟩]
def fn2n18 : ACode := .seq (fn2n16) (.region fn2r8 false)
def fn2n19 : ACode := .seq (fn2n8) (fn2n18)
def fn2n20 : ACode := .seq (.region fn2r4 false) (fn2n19)
def fn2n21 : ACode := .loop (fn2n20)
def fn2n22 : ACode := .block 0 (fn2n21)
def fn2n23 : ACode := .seq (.region fn2r3 false) (fn2n22)
def fn2r9 : List AO := [⟨some 4, .mv (.k (.p (.bool true))), none⟩]
def fn2n25 : ACode := .seq (.region fn2r9 false) (.ret)
def fn2n26 : ACode := .seq (fn2n23) (fn2n25)
def fn2n27 : ACode := .seq (fn2n5) (fn2n26)
def fn2n28 : ACode := .seq (.region fn2r0 false) (fn2n27)
def fn2 : AFun := { nargs := 2, ntmps := 25, results := [.tmp 4], body := fn2n28 }

/-- credence/credencelaw29.Usable -/
def fn3r0 : List AO := [⟨some 3, .boxP (.t 0), none⟩, ⟨some 4, .boxP (.t 1), none⟩, ⟨some 6, .mv (.k (.p (.bool false))), none⟩]
def fn3r1 : List AO := [⟨some 7, .load true 1 (.t 3), none⟩, ⟨some 8, .mv (.t 2), none⟩, ⟨some 9, .call 1 [.t 7, .t 8], none⟩, ⟨some 10, .mv (.t 9), none⟩, ⟨some 11, .load true 1 (.t 4), (some (10, true))⟩, ⟨some 12, .call 2 [.t 11, .k (.p (.int .i64 60))], (some (10, true))⟩, ⟨some 13, .pick (.t 10) (.t 12) (.k (.p (.bool false))), none⟩, ⟨some 6, .mv (.t 13), none⟩]
def fn3n2 : ACode := .seq (.region fn3r1 false) (.ret)
def fn3n3 : ACode := .seq (.region fn3r0 false) (fn3n2)
def fn3 : AFun := { nargs := 3, ntmps := 14, results := [.tmp 6], body := fn3n3 }

/-- credence/bignat.trim -/
def fn7r0 : List AO := [⟨some 2, .mv (.k (.e0)), none⟩]
def fn7r1 : List AO := [⟨some 4, .mv (.t 0), none⟩, ⟨some 5, .len (.t 4), none⟩, ⟨some 3, .mv (.t 5), none⟩]
def fn7r2 : List AO := [⟨some 6, .mv (.t 3), none⟩, ⟨some 7, .bin .gtr (.t 6) (.k (.p (.int .i64 0))), none⟩, ⟨some 8, .mv (.t 7), none⟩, ⟨some 9, .mv (.t 0), (some (8, true))⟩, ⟨some 10, .mv (.t 3), (some (8, true))⟩, ⟨some 11, .bin .sub (.t 10) (.k (.p (.int .i64 1))), (some (8, true))⟩, ⟨some 12, .ia 1 (.t 9) (.t 11), (some (8, true))⟩, ⟨some 13, .load false 1 (.t 12), (some (8, true))⟩, ⟨some 14, .bin .eql (.t 13) (.k (.p (.int .u32 0))), (some (8, true))⟩, ⟨some 15, .pick (.t 8) (.t 14) (.k (.p (.bool false))), none⟩]
def fn7n3 : ACode := .cond (.t 15) (.skip) (.exit 0)
def fn7n4 : ACode := .seq (.region fn7r2 false) (fn7n3)
def fn7r3 : List AO := [⟨some 16, .mv (.t 3), none⟩, ⟨some 17, .bin .sub (.t 16) (.k (.p (.int .i64 1))), none⟩, ⟨some 3, .mv (.t 17), none⟩]
def fn7n6 : ACode := .block 1 (.region fn7r3 false)
def fn7n7 : ACode := .seq (fn7n4) (fn7n6)
def fn7n8 : ACode := .loop (fn7n7)
def fn7n9 : ACode := .block 0 (fn7n8)
def fn7r4 : List AO := [⟨some 18, .mv (.t 0), none⟩, ⟨some 19, .mv (.t 3), none⟩, ⟨some 20, .slice 1 (.t 18) none (some (.t 19)) none, none⟩, ⟨some 2, .mv (.t 20), none⟩]
def fn7n11 : ACode := .seq (.region fn7r4 false) (.ret)
def fn7n12 : ACode := .seq (fn7n9) (fn7n11)
def fn7n13 : ACode := .seq (.region fn7r1 false) (fn7n12)
def fn7n14 : ACode := .seq (.region fn7r0 false) (fn7n13)
def fn7 : AFun := { nargs := 1, ntmps := 21, results := [.tmp 2], body := fn7n14 }

/-- math/bits.Len32 -/
def fn8r0 : List AO := [⟨some 2, .mv (.k (.p (.int .i64 0))), none⟩]
def fn8r1 : List AO := [⟨some 3, .mv (.t 0), none⟩, ⟨some 4, .bin .geq (.t 3) (.k (.p (.int .u32 65536))), none⟩]
def fn8r2 : List AO := [⟨some 5, .mv (.t 0), none⟩, ⟨some 6, .bin .shr (.t 5) (.k (.p (.int .u64 16))), none⟩, ⟨some 0, .mv (.t 6), none⟩]
def fn8r3 : List AO := [⟨some 2, .mv (.k (.p (.int .i64 16))), none⟩]
def fn8n4 : ACode := .seq (.region fn8r2 false) (.region fn8r3 false)
def fn8n5 : ACode := .cond (.t 4) (fn8n4) (.skip)
def fn8n6 : ACode := .seq (.region fn8r1 false) (fn8n5)
def fn8r4 : List AO := [⟨some 7, .mv (.t 0), none⟩, ⟨some 8, .bin .geq (.t 7) (.k (.p (.int .u32 256))), none⟩]
def fn8r5 : List AO := [⟨some 9, .mv (.t 0), none⟩, ⟨some 10, .bin .shr (.t 9) (.k (.p (.int .u64 8))), none⟩, ⟨some 0, .mv (.t 10), none⟩]
def fn8r6 : List AO := [⟨some 11, .mv (.t 2), none⟩, ⟨some 12, .bin .add (.t 11) (.k (.p (.int .i64 8))), none⟩, ⟨some 2, .mv (.t 12), none⟩]
def fn8n10 : ACode := .seq (.region fn8r5 false) (.region fn8r6 false)
def fn8n11 : ACode := .cond (.t 8) (fn8n10) (.skip)
def fn8n12 : ACode := .seq (.region fn8r4 false) (fn8n11)
def fn8r7 : List AO := [⟨some 13, .mv (.t 2), none⟩, ⟨some 14, .mv (.t 0), none⟩, ⟨some 15, .conv .u8 (.t 14), none⟩, ⟨some 16, .sidx (.k (.p (.str ⟨#[0, 1, 2, 2, 3, 3, 3, 3, 4, 4, 4, 4, 4, 4, 4, 4, 5, 5, 5, 5, 5, 5, 5, 5, 5, 5, 5, 5, 5, 5, 5, 5, 6, 6, 6, 6, 6, 6, 6, 6, 6, 6, 6, 6, 6, 6, 6, 6, 6, 6, 6, 6, 6, 6, 6, 6, 6, 6, 6, 6, 6, 6, 6, 6, 7, 7, 7, 7, 7, 7, 7, 7, 7, 7, 7, 7, 7, 7, 7, 7, 7, 7, 7, 7, 7, 7, 7, 7, 7, 7, 7, 7, 7, 7, 7, 7, 7, 7, 7, 7, 7, 7, 7, 7, 7, 7, 7, 7, 7, 7, 7, 7, 7, 7, 7, 7, 7, 7, 7, 7, 7, 7, 7, 7, 7, 7, 7, 7, 8, 8, 8, 8, 8, 8, 8, 8, 8, 8, 8, 8, 8, 8, 8, 8, 8, 8, 8, 8, 8, 8, 8, 8, 8, 8, 8, 8, 8, 8, 8, 8, 8, 8, 8, 8, 8, 8, 8, 8, 8, 8, 8, 8, 8, 8, 8, 8, 8, 8, 8, 8, 8, 8, 8, 8, 8, 8, 8, 8, 8, 8, 8, 8, 8, 8, 8, 8, 8, 8, 8, 8, 8, 8, 8, 8, 8, 8, 8, 8, 8, 8, 8, 8, 8, 8, 8, 8, 8, 8, 8, 8, 8, 8, 8, 8, 8, 8, 8, 8, 8, 8, 8, 8, 8, 8, 8, 8, 8, 8, 8, 8, 8, 8, 8, 8, 8, 8, 8, 8, 8, 8, 8, 8, 8, 8, 8, 8]⟩))) (.t 15), none⟩, ⟨some 17, .conv .i64 (.t 16), none⟩, ⟨some 18, .bin .add (.t 13) (.t 17), none⟩, ⟨some 2, .mv (.t 18), none⟩]
def fn8n14 : ACode := .seq (.region fn8r7 false) (.ret)
def fn8n15 : ACode := .seq (fn8n12) (fn8n14)
def fn8n16 : ACode := .seq (fn8n6) (fn8n15)
def fn8n17 : ACode := .seq (.region fn8r0 false) (fn8n16)
def fn8 : AFun := { nargs := 1, ntmps := 19, results := [.tmp 2], body := fn8n17 }

/-- credence/bignat.BitLen -/
def fn9r0 : List AO := [⟨some 2, .mv (.k (.p (.int .i64 0))), none⟩]
def fn9r1 : List AO := [⟨some 3, .mv (.t 0), none⟩, ⟨some 4, .call 7 [.t 3], none⟩, ⟨some 0, .mv (.t 4), none⟩]
def fn9r2 : List AO := [⟨some 5, .mv (.t 0), none⟩, ⟨some 6, .len (.t 5), none⟩, ⟨some 7, .bin .eql (.t 6) (.k (.p (.int .i64 0))), none⟩]
def fn9r3 : List AO := [⟨some 2, .mv (.k (.p (.int .i64 0))), none⟩]
def fn9n4 : ACode := .seq (.region fn9r3 false) (.ret)
def fn9n5 : ACode := .cond (.t 7) (fn9n4) (.skip)
def fn9n6 : ACode := .seq (.region fn9r2 false) (fn9n5)
def fn9r4 : List AO := [⟨some 8, .mv (.t 0), none⟩, ⟨some 9, .len (.t 8), none⟩, ⟨some 10, .bin .sub (.t 9) (.k (.p (.int .i64 1))), none⟩, ⟨some 11, .bin .mul (.k (.p (.int .i64 32))) (.t 10), none⟩, ⟨some 12, .mv (.t 0), none⟩, ⟨some 13, .mv (.t 0), none⟩, ⟨some 14, .len (.t 13), none⟩, ⟨some 15, .bin .sub (.t 14) (.k (.p (.int .i64 1))), none⟩, ⟨some 16, .ia 1 (.t 12) (.t 15), none⟩, ⟨some 17, .load false 1 (.t 16), none⟩, ⟨some 18, .call 8 [.t 17], none⟩, ⟨some 19, .bin .add (.t 11) (.t 18), none⟩, ⟨some 2, .mv (.t 19), none⟩]
def fn9n8 : ACode := .seq (.region fn9r4 false) (.ret)
def fn9n9 : ACode := .seq (fn9n6) (fn9n8)
def fn9n10 : ACode := .seq (.region fn9r1 false) (fn9n9)
def fn9n11 : ACode := .seq (.region fn9r0 false) (fn9n10)
def fn9 : AFun := { nargs := 1, ntmps := 20, results := [.tmp 2], body := fn9n11 }

/-- credence/rational.one -/
def fn10r0 : List AO := [⟨some 0, .mv (.k (.e0)), none⟩]
def fn10r1 : List AO := [⟨some 1, .slP 1 1 [.p (.int .u32 0)] [(0, 1, .k (.p (.int .u32 1)))], none⟩, ⟨some 0, .mv (.t 1), none⟩]
def fn10n2 : ACode := .seq (.region fn10r1 false) (.ret)
def fn10n3 : ACode := .seq (.region fn10r0 false) (fn10n2)
def fn10 : AFun := { nargs := 0, ntmps := 2, results := [.tmp 0], body := fn10n3 }

/-- credence/rational.parts -/
def fn11r0 : List AO := [⟨some 1, .boxP (.t 0), none⟩, ⟨some 2, .mv (.k (.p (.bool false))), none⟩, ⟨some 3, .mv (.k (.e0)), none⟩, ⟨some 4, .mv (.k (.e0)), none⟩]
def fn11r1 : List AO := [⟨some 5, .fa 2 1 (.t 1), none⟩, ⟨some 6, .load false 1 (.t 5), none⟩, ⟨some 7, .call 9 [.t 6], none⟩, ⟨some 8, .bin .eql (.t 7) (.k (.p (.int .i64 0))), none⟩, ⟨some 9, .mv (.t 8), none⟩, ⟨some 10, .fa 1 1 (.t 1), (some (9, false))⟩, ⟨some 11, .load false 1 (.t 10), (some (9, false))⟩, ⟨some 12, .call 9 [.t 11], (some (9, false))⟩, ⟨some 13, .bin .eql (.t 12) (.k (.p (.int .i64 0))), (some (9, false))⟩, ⟨some 14, .pick (.t 9) (.k (.p (.bool true))) (.t 13), none⟩]
def fn11r2 : List AO := [⟨some 15, .call 10 [], none⟩, ⟨some 2, .mv (.k (.p (.bool false))), none⟩, ⟨some 3, .mv (.k (.e0)), none⟩, ⟨some 4, .mv (.t 15), none⟩]
def fn11n3 : ACode := .seq (.region fn11r2 false) (.ret)
def fn11n4 : ACode := .cond (.t 14) (fn11n3) (.skip)
def fn11n5 : ACode := .seq (.region fn11r1 false) (fn11n4)
def fn11r3 : List AO := [⟨some 16, .fa 0 1 (.t 1), none⟩, ⟨some 17, .load false 1 (.t 16), none⟩, ⟨some 18, .fa 1 1 (.t 1), none⟩, ⟨some 19, .load false 1 (.t 18), none⟩, ⟨some 20, .fa 2 1 (.t 1), none⟩, ⟨some 21, .load false 1 (.t 20), none⟩, ⟨some 2, .mv (.t 17), none⟩, ⟨some 3, .mv (.t 19), none⟩, ⟨some 4, .mv (.t 21), none⟩]
def fn11n7 : ACode := .seq (.region fn11r3 true) (.ret)
def fn11n8 : ACode := .seq (fn11n5) (fn11n7)
def fn11n9 : ACode := .seq (.region fn11r0 false) (fn11n8)
def fn11 : AFun := { nargs := 1, ntmps := 22, results := [.tmp 2, .tmp 3, .tmp 4], body := fn11n9 }

/-- credence/rational.Sign -/
def fn12r0 : List AO := [⟨some 1, .boxP (.t 0), none⟩, ⟨some 2, .mv (.k (.p (.int .i64 0))), none⟩]
def fn12r1 : List AO := [⟨some 7, .load true 3 (.t 1), none⟩, ⟨some 8, .call 11 [.t 7], none⟩, ⟨some 6, .mv (.t 8), none⟩, ⟨some 9, .ext 0 (.t 6), none⟩, ⟨some 10, .ext 1 (.t 6), none⟩, ⟨some 11, .ext 2 (.t 6), none⟩, ⟨some 3, .mv (.t 9), none⟩, ⟨some 4, .mv (.t 10), none⟩, ⟨some 5, .mv (.t 11), none⟩]
def fn12r2 : List AO := [⟨some 13, .mv (.t 4), none⟩, ⟨some 14, .call 9 [.t 13], none⟩, ⟨some 15, .bin .eql (.t 14) (.k (.p (.int .i64 0))), none⟩, ⟨some 12, .mv (.t 15), none⟩]
def fn12r3 : List AO := [⟨some 2, .mv (.k (.p (.int .i64 0))), none⟩]
def fn12n4 : ACode := .seq (.region fn12r3 false) (.ret)
def fn12r4 : List AO := [⟨some 17, .mv (.t 3), none⟩, ⟨some 16, .mv (.t 17), none⟩]
def fn12r5 : List AO := [⟨some 2, .mv (.k (.p (.int .i64 (-1)))), none⟩]
def fn12n7 : ACode := .seq (.region fn12r5 false) (.ret)
def fn12n8 : ACode := .cond (.t 16) (fn12n7) (.skip)
def fn12n9 : ACode := .seq (.region fn12r4 false) (fn12n8)
def fn12n10 : ACode := .cond (.t 12) (fn12n4) (fn12n9)
def fn12n11 : ACode := .seq (.region fn12r2 false) (fn12n10)
def fn12n12 : ACode := .block 0 (fn12n11)
def fn12r6 : List AO := [⟨some 2, .mv (.k (.p (.int .i64 1))), none⟩]
def fn12n14 : ACode := .seq (.region fn12r6 false) (.ret)
def fn12n15 : ACode := .seq (fn12n12) (fn12n14)
def fn12n16 : ACode := .seq (.region fn12r1 false) (fn12n15)
def fn12n17 : ACode := .seq (.region fn12r0 false) (fn12n16)
def fn12 : AFun := { nargs := 1, ntmps := 18, results := [.tmp 2], body := fn12n17 }

/-- credence/bignat.Cmp -/
def fn13r0 : List AO := [⟨some 4, .mv (.k (.p (.int .i64 0))), none⟩]
def fn13r1 : List AO := [⟨some 6, .mv (.t 0), none⟩, ⟨some 7, .call 7 [.t 6], none⟩, ⟨some 8, .mv (.t 1), none⟩, ⟨some 9, .call 7 [.t 8], none⟩, ⟨some 0, .mv (.t 7), none⟩, ⟨some 1, .mv (.t 9), none⟩]
def fn13r2 : List AO := [⟨some 11, .mv (.t 0), none⟩, ⟨some 12, .len (.t 11), none⟩, ⟨some 13, .mv (.t 1), none⟩, ⟨some 14, .len (.t 13), none⟩, ⟨some 15, .bin .lss (.t 12) (.t 14), none⟩, ⟨some 10, .mv (.t 15), none⟩]
def fn13r3 : List AO := [⟨some 4, .mv (.k (.p (.int .i64 (-1)))), none⟩]
def fn13n4 : ACode := .seq (.region fn13r3 false) (.ret)
def fn13r4 : List AO := [⟨some 17, .mv (.t 0), none⟩, ⟨some 18, .len (.t 17), none⟩, ⟨some 19, .mv (.t 1), none⟩, ⟨some 20, .len (.t 19), none⟩, ⟨some 21, .bin .gtr (.t 18) (.t 20), none⟩, ⟨some 16, .mv (.t 21), none⟩]
def fn13r5 : List AO := [⟨some 4, .mv (.k (.p (.int .i64 1))), none⟩]
def fn13n7 : ACode := .seq (.region fn13r5 false) (.ret)
def fn13n8 : ACode := .cond (.t 16) (fn13n7) (.skip)
def fn13n9 : ACode := .seq (.region fn13r4 false) (fn13n8)
def fn13n10 : ACode := .cond (.t 10) (fn13n4) (fn13n9)
def fn13n11 : ACode := .seq (.region fn13r2 false) (fn13n10)
def fn13n12 : ACode := .block 0 (fn13n11)
def fn13r6 : List AO := [⟨some 22, .mv (.t 0), none⟩, ⟨some 23, .len (.t 22), none⟩, ⟨some 24, .bin .sub (.t 23) (.k (.p (.int .i64 1))), none⟩, ⟨some 5, .mv (.t 24), none⟩]
def fn13r7 : List AO := [⟨some 25, .mv (.t 5), none⟩, ⟨some 26, .bin .geq (.t 25) (.k (.p (.int .i64 0))), none⟩]
def fn13n15 : ACode := .cond (.t 26) (.skip) (.exit 1)
def fn13n16 : ACode := .seq (.region fn13r7 false) (fn13n15)
def fn13r9 : List AO := [⟨some 29, .mv (.t 0), none⟩, ⟨some 30, .mv (.t 5), none⟩, ⟨some 31, .ia 1 (.t 29) (.t 30), none⟩, ⟨some 32, .load false 1 (.t 31), none⟩, ⟨some 33, .mv (.t 1), none⟩, ⟨some 34, .mv (.t 5), none⟩, ⟨some 35, .ia 1 (.t 33) (.t 34), none⟩, ⟨some 36, .load false 1 (.t 35), none⟩, ⟨some 37, .bin .neq (.t 32) (.t 36), none⟩]
def fn13r10 : List AO := [⟨some 38, .mv (.t 0), none⟩, ⟨some 39, .mv (.t 5), none⟩, ⟨some 40, .ia 1 (.t 38) (.t 39), none⟩, ⟨some 41, .load false 1 (.t 40), none⟩, ⟨some 42, .mv (.t 1), none⟩, ⟨some 43, .mv (.t 5), none⟩, ⟨some 44, .ia 1 (.t 42) (.t 43), none⟩, ⟨some 45, .load false 1 (.t 44), none⟩, ⟨some 46, .bin .lss (.t 41) (.t 45), none⟩]
def fn13r11 : List AO := [⟨some 4, .mv (.k (.p (.int .i64 (-1)))), none⟩]
def fn13n20 : ACode := .seq (.region fn13r11 false) (.ret)
def fn13n21 : ACode := .cond (.t 46) (fn13n20) (.skip)
def fn13n22 : ACode := .seq (.region fn13r10 true) (fn13n21)
def fn13r12 : List AO := [⟨some 4, .mv (.k (.p (.int .i64 1))), none⟩]
def fn13n24 : ACode := .seq (.region fn13r12 false) (.ret)
def fn13n25 : ACode := .seq (fn13n22) (fn13n24)
def fn13n26 : ACode := .cond (.t 37) (fn13n25) (.skip)
def fn13n27 : ACode := .seq (.region fn13r9 true) (fn13n26)
def fn13n28 : ACode := .block 2 (fn13n27)
def fn13r8 : List AO := [⟨some 27, .mv (.t 5), none⟩, ⟨some 28, .bin .sub (.t 27) (.k (.p (.int .i64 1))), none⟩, ⟨some 5, .mv (.t 28), none⟩]
def fn13n30 : ACode := .seq (fn13n28) (.region fn13r8 false)
def fn13n31 : ACode := .seq (fn13n16) (fn13n30)
def fn13n32 : ACode := .loop (fn13n31)
def fn13n33 : ACode := .block 1 (fn13n32)
def fn13n34 : ACode := .seq (.region fn13r6 false) (fn13n33)
def fn13r13 : List AO := [⟨some 4, .mv (.k (.p (.int .i64 0))), none⟩]
def fn13n36 : ACode := .seq (.region fn13r13 false) (.ret)
def fn13n37 : ACode := .seq (fn13n34) (fn13n36)
def fn13n38 : ACode := .seq (fn13n12) (fn13n37)
def fn13n39 : ACode := .seq (.region fn13r1 false) (fn13n38)
def fn13n40 : ACode := .seq (.region fn13r0 false) (fn13n39)
def fn13 : AFun := { nargs := 2, ntmps := 47, results := [.tmp 4], body := fn13n40 }

/-- credence/bignat.Mul -/
def fn14r0 : List AO := [⟨some 4, .mv (.k (.e0)), none⟩]
def fn14r1 : List AO := [⟨some 11, .mv (.t 0), none⟩, ⟨some 12, .call 7 [.t 11], none⟩, ⟨some 13, .mv (.t 1), none⟩, ⟨some 14, .call 7 [.t 13], none⟩, ⟨some 0, .mv (.t 12), none⟩, ⟨some 1, .mv (.t 14), none⟩]
def fn14r2 : List AO := [⟨some 15, .mv (.t 0), none⟩, ⟨some 16, .len (.t 15), none⟩, ⟨some 17, .bin .eql (.t 16) (.k (.p (.int .i64 0))), none⟩, ⟨some 18, .mv (.t 17), none⟩, ⟨some 19, .mv (.t 1), (some (18, false))⟩, ⟨some 20, .len (.t 19), (some (18, false))⟩, ⟨some 21, .bin .eql (.t 20) (.k (.p (.int .i64 0))), (some (18, false))⟩, ⟨some 22, .pick (.t 18) (.k (.p (.bool true))) (.t 21), none⟩]
def fn14r3 : List AO := [⟨some 4, .mv (.k (.e0)), none⟩]
def fn14n4 : ACode := .seq (.region fn14r3 false) (.ret)
def fn14n5 : ACode := .cond (.t 22) (fn14n4) (.skip)
def fn14n6 : ACode := .seq (.region fn14r2 false) (fn14n5)
def fn14r4 : List AO := [⟨some 23, .mv (.t 0), none⟩, ⟨some 24, .len (.t 23), none⟩, ⟨some 25, .mv (.t 1), none⟩, ⟨some 26, .len (.t 25), none⟩, ⟨some 27, .bin .add (.t 24) (.t 26), none⟩, ⟨some 28, .mk 0 1 4 [.p (.int .u32 0)] (.t 27) (.t 27), none⟩, ⟨some 5, .mv (.t 28), none⟩]
def fn14r5 : List AO := [⟨some 29, .mv (.t 0), none⟩, ⟨some 30, .len (.t 29), none⟩, ⟨some 31, .mv (.k (.p (.int .i64 0))), none⟩]
def fn14r6 : List AO := [⟨some 32, .bin .lss (.t 31) (.t 30), none⟩]
def fn14n10 : ACode := .cond (.t 32) (.skip) (.exit 0)
def fn14r7 : List AO := [⟨some 33, .mv (.t 31), none⟩, ⟨some 34, .ia 1 (.t 29) (.t 31), none⟩, ⟨some 35, .load false 1 (.t 34), none⟩, ⟨some 6, .mv (.t 33), none⟩, ⟨some 7, .mv (.t 35), none⟩]
def fn14r8 : List AO := [⟨some 8, .mv (.k (.p (.int .u64 0))), none⟩]
def fn14r9 : List AO := [⟨some 36, .mv (.t 1), none⟩, ⟨some 37, .len (.t 36), none⟩, ⟨some 38, .mv (.k (.p (.int .i64 0))), none⟩]
def fn14r10 : List AO := [⟨some 39, .bin .lss (.t 38) (.t 37), none⟩]
def fn14n15 : ACode := .cond (.t 39) (.skip) (.exit 2)
def fn14r11 : List AO := [⟨some 40, .mv (.t 38), none⟩, ⟨some 41, .ia 1 (.t 36) (.t 38), none⟩, ⟨some 42, .load false 1 (.t 41), none⟩, ⟨some 9, .mv (.t 40), none⟩, ⟨some 10, .mv (.t 42), none⟩]
def fn14r12 : List AO := [⟨some 43, .mv (.t 8), none⟩, ⟨some 44, .mv (.t 7), none⟩, ⟨some 45, .conv .u64 (.t 44), none⟩, ⟨some 46, .mv (.t 10), none⟩, ⟨some 47, .conv .u64 (.t 46), none⟩, ⟨some 48, .bin .mul (.t 45) (.t 47), none⟩, ⟨some 49, .mv (.t 5), none⟩, ⟨some 50, .mv (.t 6), none⟩, ⟨some 51, .mv (.t 9), none⟩, ⟨some 52, .bin .add (.t 50) (.t 51), none⟩, ⟨some 53, .ia 1 (.t 49) (.t 52), none⟩, ⟨some 54, .load false 1 (.t 53), none⟩, ⟨some 55, .conv .u64 (.t 54), none⟩, ⟨some 56, .bin .add (.t 48) (.t 55), none⟩, ⟨some 57, .bin .add (.t 43) (.t 56), none⟩, ⟨some 8, .mv (.t 57), none⟩]
def fn14r13 : List AO := [⟨some 58, .mv (.t 5), none⟩, ⟨some 59, .mv (.t 6), none⟩, ⟨some 60, .mv (.t 9), none⟩, ⟨some 61, .bin .add (.t 59) (.t 60), none⟩, ⟨some 62, .mv (.t 8), none⟩, ⟨some 63, .conv .u32 (.t 62), none⟩, ⟨some 64, .ia 1 (.t 58) (.t 61), none⟩, ⟨none, .store 1 (.t 64) (.t 63), none⟩]
def fn14r14 : List AO := [⟨some 65, .mv (.t 8), none⟩, ⟨some 66, .bin .shr (.t 65) (.k (.p (.int .u64 32))), none⟩, ⟨some 8, .mv (.t 66), none⟩]
def fn14n20 : ACode := .seq (.region fn14r13 false) (.region fn14r14 false)
def fn14n21 : ACode := .seq (.region fn14r12 false) (fn14n20)
def fn14n22 : ACode := .seq (.region fn14r11 false) (fn14n21)
def fn14n23 : ACode := .block 3 (fn14n22)
def fn14r15 : List AO := [⟨some 67, .bin .add (.t 38) (.k (.p (.int .i64 1))), none⟩, ⟨some 38, .mv (.t 67), none⟩]
def fn14n25 : ACode := .seq (fn14n23) (.region fn14r15 false)
def fn14n26 : ACode := .seq (fn14n15) (fn14n25)
def fn14n27 : ACode := .seq (.region fn14r10 false) (fn14n26)
def fn14n28 : ACode := .loop (fn14n27)
def fn14n29 : ACode := .block 2 (fn14n28)
def fn14n30 : ACode := .seq (.region fn14r9 false) (fn14n29)
def fn14r16 : List AO := [⟨some 68, .mv (.t 5), none⟩, ⟨some 69, .mv (.t 6), none⟩, ⟨some 70, .mv (.t 1), none⟩, ⟨some 71, .len (.t 70), none⟩, ⟨some 72, .bin .add (.t 69) (.t 71), none⟩, ⟨some 73, .mv (.t 8), none⟩, ⟨some 74, .conv .u32 (.t 73), none⟩, ⟨some 75, .ia 1 (.t 68) (.t 72), none⟩, ⟨none, .store 1 (.t 75) (.t 74), none⟩]
def fn14n32 : ACode := .seq (fn14n30) (.region fn14r16 false)
def fn14n33 : ACode := .seq (.region fn14r8 false) (fn14n32)
def fn14n34 : ACode := .seq (.region fn14r7 false) (fn14n33)
def fn14n35 : ACode := .block 1 (fn14n34)
def fn14r17 : List AO := [⟨some 76, .bin .add (.t 31) (.k (.p (.int .i64 1))), none⟩, ⟨some 31, .mv (.t 76), none⟩]
def fn14n37 : ACode := .seq (fn14n35) (.region fn14r17 false)
def fn14n38 : ACode := .seq (fn14n10) (fn14n37)
def fn14n39 : ACode := .seq (.region fn14r6 false) (fn14n38)
def fn14n40 : ACode := .loop (fn14n39)
def fn14n41 : ACode := .block 0 (fn14n40)
def fn14n42 : ACode := .seq (.region fn14r5 false) (fn14n41)
def fn14r18 : List AO := [⟨some 77, .mv (.t 5), none⟩, ⟨some 78, .callR 100 7 [.t 77], none⟩, ⟨some 4, .mv (.t 78), none⟩]
def fn14n44 : ACode := .seq (.region fn14r18 false) (.ret)
def fn14n45 : ACode := .seq (fn14n42) (fn14n44)
def fn14n46 : ACode := .seq (.region fn14r4 false) (fn14n45)
def fn14n47 : ACode := .seq (fn14n6) (fn14n46)
def fn14n48 : ACode := .seq (.region fn14r1 false) (fn14n47)
def fn14n49 : ACode := .seq (.region fn14r0 false) (fn14n48)
def fn14 : AFun := { nargs := 2, ntmps := 79, results := [.tmp 4], body := fn14n49 }

/-- credence/bignat.Add -/
def fn15r0 : List AO := [⟨some 4, .mv (.k (.e0)), none⟩]
def fn15r1 : List AO := [⟨some 8, .mv (.t 0), none⟩, ⟨some 9, .call 7 [.t 8], none⟩, ⟨some 10, .mv (.t 1), none⟩, ⟨some 11, .call 7 [.t 10], none⟩, ⟨some 0, .mv (.t 9), none⟩, ⟨some 1, .mv (.t 11), none⟩]
def fn15r2 : List AO := [⟨some 12, .mv (.t 0), none⟩, ⟨some 13, .len (.t 12), none⟩, ⟨some 14, .mv (.t 1), none⟩, ⟨some 15, .len (.t 14), none⟩, ⟨some 16, .bin .lss (.t 13) (.t 15), none⟩]
def fn15r3 : List AO := [⟨some 17, .mv (.t 1), none⟩, ⟨some 18, .mv (.t 0), none⟩, ⟨some 0, .mv (.t 17), none⟩, ⟨some 1, .mv (.t 18), none⟩]
def fn15n4 : ACode := .cond (.t 16) (.region fn15r3 false) (.skip)
def fn15n5 : ACode := .seq (.region fn15r2 false) (fn15n4)
def fn15r4 : List AO := [⟨some 19, .mv (.t 0), none⟩, ⟨some 20, .len (.t 19), none⟩, ⟨some 21, .bin .add (.t 20) (.k (.p (.int .i64 1))), none⟩, ⟨some 22, .mk 0 1 4 [.p (.int .u32 0)] (.t 21) (.t 21), none⟩, ⟨some 5, .mv (.t 22), none⟩]
def fn15r5 : List AO := [⟨some 6, .mv (.k (.p (.int .u64 0))), none⟩]
def fn15r6 : List AO := [⟨some 23, .mv (.t 0), none⟩, ⟨some 24, .len (.t 23), none⟩, ⟨some 25, .mv (.k (.p (.int .i64 0))), none⟩]
def fn15r7 : List AO := [⟨some 26, .bin .lss (.t 25) (.t 24), none⟩]
def fn15n10 : ACode := .cond (.t 26) (.skip) (.exit 0)
def fn15r8 : List AO := [⟨some 27, .mv (.t 25), none⟩, ⟨some 7, .mv (.t 27), none⟩]
def fn15r9 : List AO := [⟨some 28, .mv (.t 6), none⟩, ⟨some 29, .mv (.t 0), none⟩, ⟨some 30, .mv (.t 7), none⟩, ⟨some 31, .ia 1 (.t 29) (.t 30), none⟩, ⟨some 32, .load false 1 (.t 31), none⟩, ⟨some 33, .conv .u64 (.t 32), none⟩, ⟨some 34, .bin .add (.t 28) (.t 33), none⟩, ⟨some 6, .mv (.t 34), none⟩]
def fn15r10 : List AO := [⟨some 35, .mv (.t 7), none⟩, ⟨some 36, .mv (.t 1), none⟩, ⟨some 37, .len (.t 36), none⟩, ⟨some 38, .bin .lss (.t 35) (.t 37), none⟩]
def fn15r11 : List AO := [⟨some 39, .mv (.t 6), none⟩, ⟨some 40, .mv (.t 1), none⟩, ⟨some 41, .mv (.t 7), none⟩, ⟨some 42, .ia 1 (.t 40) (.t 41), none⟩, ⟨some 43, .load false 1 (.t 42), none⟩, ⟨some 44, .conv .u64 (.t 43), none⟩, ⟨some 45, .bin .add (.t 39) (.t 44), none⟩, ⟨some 6, .mv (.t 45), none⟩]
def fn15n15 : ACode := .cond (.t 38) (.region fn15r11 false) (.skip)
def fn15n16 : ACode := .seq (.region fn15r10 false) (fn15n15)
def fn15r12 : List AO := [⟨some 46, .mv (.t 5), none⟩, ⟨some 47, .mv (.t 7), none⟩, ⟨some 48, .mv (.t 6), none⟩, ⟨some 49, .conv .u32 (.t 48), none⟩, ⟨some 50, .ia 1 (.t 46) (.t 47), none⟩, ⟨none, .store 1 (.t 50) (.t 49), none⟩]
def fn15r13 : List AO := [⟨some 51, .mv (.t 6), none⟩, ⟨some 52, .bin .shr (.t 51) (.k (.p (.int .u64 32))), none⟩, ⟨some 6, .mv (.t 52), none⟩]
def fn15n19 : ACode := .seq (.region fn15r12 false) (.region fn15r13 false)
def fn15n20 : ACode := .seq (fn15n16) (fn15n19)
def fn15n21 : ACode := .seq (.region fn15r9 false) (fn15n20)
def fn15n22 : ACode := .seq (.region fn15r8 false) (fn15n21)
def fn15n23 : ACode := .block 1 (fn15n22)
def fn15r14 : List AO := [⟨some 53, .bin .add (.t 25) (.k (.p (.int .i64 1))), none⟩, ⟨some 25, .mv (.t 53), none⟩]
def fn15n25 : ACode := .seq (fn15n23) (.region fn15r14 false)
def fn15n26 : ACode := .seq (fn15n10) (fn15n25)
def fn15n27 : ACode := .seq (.region fn15r7 false) (fn15n26)
def fn15n28 : ACode := .loop (fn15n27)
def fn15n29 : ACode := .block 0 (fn15n28)
def fn15n30 : ACode := .seq (.region fn15r6 false) (fn15n29)
def fn15r15 : List AO := [⟨some 54, .mv (.t 5), none⟩, ⟨some 55, .mv (.t 0), none⟩, ⟨some 56, .len (.t 55), none⟩, ⟨some 57, .mv (.t 6), none⟩, ⟨some 58, .conv .u32 (.t 57), none⟩, ⟨some 59, .ia 1 (.t 54) (.t 56), none⟩, ⟨none, .store 1 (.t 59) (.t 58), none⟩]
def fn15r16 : List AO := [⟨some 60, .mv (.t 5), none⟩, ⟨some 61, .callR 100 7 [.t 60], none⟩, ⟨some 4, .mv (.t 61), none⟩]
def fn15n33 : ACode := .seq (.region fn15r16 false) (.ret)
def fn15n34 : ACode := .seq (.region fn15r15 false) (fn15n33)
def fn15n35 : ACode := .seq (fn15n30) (fn15n34)
def fn15n36 : ACode := .seq (.region fn15r5 false) (fn15n35)
def fn15n37 : ACode := .seq (.region fn15r4 false) (fn15n36)
def fn15n38 : ACode := .seq (fn15n5) (fn15n37)
def fn15n39 : ACode := .seq (.region fn15r1 false) (fn15n38)
def fn15n40 : ACode := .seq (.region fn15r0 false) (fn15n39)
def fn15 : AFun := { nargs := 2, ntmps := 62, results := [.tmp 4], body := fn15n40 }

/-- credence/bignat.clone -/
def fn16r0 : List AO := [⟨some 2, .mv (.k (.e0)), none⟩]
def fn16r1 : List AO := [⟨some 3, .mv (.t 0), none⟩, ⟨some 4, .call 7 [.t 3], none⟩, ⟨some 0, .mv (.t 4), none⟩]
def fn16r2 : List AO := [⟨some 5, .mv (.t 0), none⟩, ⟨some 6, .len (.t 5), none⟩, ⟨some 7, .bin .eql (.t 6) (.k (.p (.int .i64 0))), none⟩]
def fn16r3 : List AO := [⟨some 2, .mv (.k (.e0)), none⟩]
def fn16n4 : ACode := .seq (.region fn16r3 false) (.ret)
def fn16n5 : ACode := .cond (.t 7) (fn16n4) (.skip)
def fn16n6 : ACode := .seq (.region fn16r2 false) (fn16n5)
def fn16r4 : List AO := [⟨some 8, .mv (.t 0), none⟩, ⟨some 9, .app 0 1 4 (.k (.e0)) (.t 8), none⟩, ⟨some 2, .mv (.t 9), none⟩]
def fn16n8 : ACode := .seq (.region fn16r4 false) (.ret)
def fn16n9 : ACode := .seq (fn16n6) (fn16n8)
def fn16n10 : ACode := .seq (.region fn16r1 false) (fn16n9)
def fn16n11 : ACode := .seq (.region fn16r0 false) (fn16n10)
def fn16 : AFun := { nargs := 1, ntmps := 10, results := [.tmp 2], body := fn16n11 }

/-- credence/bignat.Normalize -/
def fn17r0 : List AO := [⟨some 2, .mv (.k (.e0)), none⟩]
def fn17r1 : List AO := [⟨some 3, .mv (.t 0), none⟩, ⟨some 4, .call 16 [.t 3], none⟩, ⟨some 2, .mv (.t 4), none⟩]
def fn17n2 : ACode := .seq (.region fn17r1 false) (.ret)
def fn17n3 : ACode := .seq (.region fn17r0 false) (fn17n2)
def fn17 : AFun := { nargs := 1, ntmps := 5, results := [.tmp 2], body := fn17n3 }

/-- credence/bignat.Uint64 -/
def fn18r0 : List AO := [⟨some 2, .mv (.k (.p (.int .u64 0))), none⟩, ⟨some 3, .mv (.k (.p (.bool false))), none⟩]
def fn18r1 : List AO := [⟨some 7, .mv (.t 0), none⟩, ⟨some 8, .call 7 [.t 7], none⟩, ⟨some 0, .mv (.t 8), none⟩]
def fn18r2 : List AO := [⟨some 9, .mv (.t 0), none⟩, ⟨some 10, .len (.t 9), none⟩, ⟨some 11, .bin .gtr (.t 10) (.k (.p (.int .i64 2))), none⟩]
def fn18r3 : List AO := [⟨some 2, .mv (.k (.p (.int .u64 0))), none⟩, ⟨some 3, .mv (.k (.p (.bool false))), none⟩]
def fn18n4 : ACode := .seq (.region fn18r3 false) (.ret)
def fn18n5 : ACode := .cond (.t 11) (fn18n4) (.skip)
def fn18n6 : ACode := .seq (.region fn18r2 false) (fn18n5)
def fn18r4 : List AO := [⟨some 4, .mv (.k (.p (.int .u64 0))), none⟩]
def fn18r5 : List AO := [⟨some 12, .mv (.t 0), none⟩, ⟨some 13, .len (.t 12), none⟩, ⟨some 14, .mv (.k (.p (.int .i64 0))), none⟩]
def fn18r6 : List AO := [⟨some 15, .bin .lss (.t 14) (.t 13), none⟩]
def fn18n10 : ACode := .cond (.t 15) (.skip) (.exit 0)
def fn18r7 : List AO := [⟨some 16, .mv (.t 14), none⟩, ⟨some 17, .ia 1 (.t 12) (.t 14), none⟩, ⟨some 18, .load false 1 (.t 17), none⟩, ⟨some 5, .mv (.t 16), none⟩, ⟨some 6, .mv (.t 18), none⟩]
def fn18r8 : List AO := [⟨some 19, .mv (.t 4), none⟩, ⟨some 20, .mv (.t 6), none⟩, ⟨some 21, .conv .u64 (.t 20), none⟩, ⟨some 22, .mv (.t 5), none⟩, ⟨some 23, .bin .mul (.k (.p (.int .i64 32))) (.t 22), none⟩, ⟨some 24, .bin .shl (.t 21) (.t 23), none⟩, ⟨some 25, .bin .or (.t 19) (.t 24), none⟩, ⟨some 4, .mv (.t 25), none⟩]
def fn18n13 : ACode := .seq (.region fn18r7 false) (.region fn18r8 false)
def fn18n14 : ACode := .block 1 (fn18n13)
def fn18r9 : List AO := [⟨some 26, .bin .add (.t 14) (.k (.p (.int .i64 1))), none⟩, ⟨some 14, .mv (.t 26), none⟩]
def fn18n16 : ACode := .seq (fn18n14) (.region fn18r9 false)
def fn18n17 : ACode := .seq (fn18n10) (fn18n16)
def fn18n18 : ACode := .seq (.region fn18r6 false) (fn18n17)
def fn18n19 : ACode := .loop (fn18n18)
def fn18n20 : ACode := .block 0 (fn18n19)
def fn18n21 : ACode := .seq (.region fn18r5 false) (fn18n20)
def fn18r10 : List AO := [⟨some 27, .mv (.t 4), none⟩, ⟨some 2, .mv (.t 27), none⟩, ⟨some 3, .mv (.k (.p (.bool true))), none⟩]
def fn18n23 : ACode := .seq (.region fn18r10 false) (.ret)
def fn18n24 : ACode := .seq (fn18n21) (fn18n23)
def fn18n25 : ACode := .seq (.region fn18r4 false) (fn18n24)
def fn18n26 : ACode := .seq (fn18n6) (fn18n25)
def fn18n27 : ACode := .seq (.region fn18r1 false) (fn18n26)
def fn18n28 : ACode := .seq (.region fn18r0 false) (fn18n27)
def fn18 : AFun := { nargs := 1, ntmps := 28, results := [.tmp 2, .tmp 3], body := fn18n28 }

/-- credence/bignat.FromUint64 -/
def fn19r0 : List AO := [⟨some 2, .mv (.k (.e0)), none⟩]
def fn19r1 : List AO := [⟨some 4, .mv (.t 0), none⟩, ⟨some 5, .bin .eql (.t 4) (.k (.p (.int .u64 0))), none⟩, ⟨some 3, .mv (.t 5), none⟩]
def fn19r2 : List AO := [⟨some 2, .mv (.k (.e0)), none⟩]
def fn19n3 : ACode := .seq (.region fn19r2 false) (.ret)
def fn19r3 : List AO := [⟨some 7, .mv (.t 0), none⟩, ⟨some 8, .bin .shr (.t 7) (.k (.p (.int .u64 32))), none⟩, ⟨some 9, .bin .eql (.t 8) (.k (.p (.int .u64 0))), none⟩, ⟨some 6, .mv (.t 9), none⟩]
def fn19r4 : List AO := [⟨some 10, .mv (.t 0), none⟩, ⟨some 11, .conv .u32 (.t 10), none⟩, ⟨some 12, .slP 1 1 [.p (.int .u32 0)] [(0, 1, .t 11)], none⟩, ⟨some 2, .mv (.t 12), none⟩]
def fn19n6 : ACode := .seq (.region fn19r4 false) (.ret)
def fn19n7 : ACode := .cond (.t 6) (fn19n6) (.skip)
def fn19n8 : ACode := .seq (.region fn19r3 false) (fn19n7)
def fn19n9 : ACode := .cond (.t 3) (fn19n3) (fn19n8)
def fn19n10 : ACode := .seq (.region fn19r1 false) (fn19n9)
def fn19n11 : ACode := .block 0 (fn19n10)
def fn19r5 : List AO := [⟨some 13, .mv (.t 0), none⟩, ⟨some 14, .conv .u32 (.t 13), none⟩, ⟨some 15, .mv (.t 0), none⟩, ⟨some 16, .bin .shr (.t 15) (.k (.p (.int .u64 32))), none⟩, ⟨some 17, .conv .u32 (.t 16), none⟩, ⟨some 18, .slP 2 1 [.p (.int .u32 0), .p (.int .u32 0)] [(0, 1, .t 14), (1, 1, .t 17)], none⟩, ⟨some 2, .mv (.t 18), none⟩]
def fn19n13 : ACode := .seq (.region fn19r5 false) (.ret)
def fn19n14 : ACode := .seq (fn19n11) (fn19n13)
def fn19n15 : ACode := .seq (.region fn19r0 false) (fn19n14)
def fn19 : AFun := { nargs := 1, ntmps := 19, results := [.tmp 2], body := fn19n15 }

/-- credence/bignat.gcdSmall -/
def fn20r0 : List AO := [⟨some 4, .mv (.k (.e0)), none⟩]
def fn20r1 : List AO := [⟨some 10, .mv (.t 0), none⟩, ⟨some 11, .call 18 [.t 10], none⟩, ⟨some 9, .mv (.t 11), none⟩, ⟨some 12, .ext 0 (.t 9), none⟩, ⟨some 13, .ext 1 (.t 9), none⟩, ⟨some 5, .mv (.t 12), none⟩, ⟨some 6, .mv (.t 13), none⟩]
def fn20r2 : List AO := [⟨some 15, .mv (.t 1), none⟩, ⟨some 16, .call 18 [.t 15], none⟩, ⟨some 14, .mv (.t 16), none⟩, ⟨some 17, .ext 0 (.t 14), none⟩, ⟨some 18, .ext 1 (.t 14), none⟩, ⟨some 7, .mv (.t 17), none⟩, ⟨some 8, .mv (.t 18), none⟩]
def fn20r3 : List AO := [⟨some 19, .mv (.t 7), none⟩, ⟨some 20, .bin .neq (.t 19) (.k (.p (.int .u64 0))), none⟩]
def fn20n4 : ACode := .cond (.t 20) (.skip) (.exit 0)
def fn20n5 : ACode := .seq (.region fn20r3 false) (fn20n4)
def fn20r4 : List AO := [⟨some 21, .mv (.t 7), none⟩, ⟨some 22, .mv (.t 5), none⟩, ⟨some 23, .mv (.t 7), none⟩, ⟨some 24, .bin .rem (.t 22) (.t 23), none⟩, ⟨some 5, .mv (.t 21), none⟩, ⟨some 7, .mv (.t 24), none⟩]
def fn20n7 : ACode := .block 1 (.region fn20r4 true)
def fn20n8 : ACode := .seq (fn20n5) (fn20n7)
def fn20n9 : ACode := .loop (fn20n8)
def fn20n10 : ACode := .block 0 (fn20n9)
def fn20r5 : List AO := [⟨some 25, .mv (.t 5), none⟩, ⟨some 26, .call 19 [.t 25], none⟩, ⟨some 4, .mv (.t 26), none⟩]
def fn20n12 : ACode := .seq (.region fn20r5 false) (.ret)
def fn20n13 : ACode := .seq (fn20n10) (fn20n12)
def fn20n14 : ACode := .seq (.region fn20r2 false) (fn20n13)
def fn20n15 : ACode := .seq (.region fn20r1 false) (fn20n14)
def fn20n16 : ACode := .seq (.region fn20r0 false) (fn20n15)
def fn20 : AFun := { nargs := 2, ntmps := 27, results := [.tmp 4], body := fn20n16 }

/-- credence/bignat.divSmall -/
def fn21r0 : List AO := [⟨some 4, .mv (.k (.e0)), none⟩, ⟨some 5, .mv (.k (.p (.int .u32 0))), none⟩]
def fn21r1 : List AO := [⟨some 9, .mv (.t 0), none⟩, ⟨some 10, .len (.t 9), none⟩, ⟨some 11, .mk 0 1 4 [.p (.int .u32 0)] (.t 10) (.t 10), none⟩, ⟨some 6, .mv (.t 11), none⟩]
def fn21r2 : List AO := [⟨some 7, .mv (.k (.p (.int .u64 0))), none⟩]
def fn21r3 : List AO := [⟨some 12, .mv (.t 0), none⟩, ⟨some 13, .len (.t 12), none⟩, ⟨some 14, .bin .sub (.t 13) (.k (.p (.int .i64 1))), none⟩, ⟨some 8, .mv (.t 14), none⟩]
def fn21r4 : List AO := [⟨some 15, .mv (.t 8), none⟩, ⟨some 16, .bin .geq (.t 15) (.k (.p (.int .i64 0))), none⟩]
def fn21n5 : ACode := .cond (.t 16) (.skip) (.exit 0)
def fn21n6 : ACode := .seq (.region fn21r4 false) (fn21n5)
def fn21r6 : List AO := [⟨some 19, .mv (.t 7), none⟩, ⟨some 20, .bin .shl (.t 19) (.k (.p (.int .u64 32))), none⟩, ⟨some 21, .mv (.t 0), none⟩, ⟨some 22, .mv (.t 8), none⟩, ⟨some 23, .ia 1 (.t 21) (.t 22), none⟩, ⟨some 24, .load false 1 (.t 23), none⟩, ⟨some 25, .conv .u64 (.t 24), none⟩, ⟨some 26, .bin .or (.t 20) (.t 25), none⟩, ⟨some 7, .mv (.t 26), none⟩]
def fn21r7 : List AO := [⟨some 27, .mv (.t 6), none⟩, ⟨some 28, .mv (.t 8), none⟩, ⟨some 29, .mv (.t 7), none⟩, ⟨some 30, .mv (.t 1), none⟩, ⟨some 31, .conv .u64 (.t 30), none⟩, ⟨some 32, .bin .quo (.t 29) (.t 31), none⟩, ⟨some 33, .conv .u32 (.t 32), none⟩, ⟨some 34, .ia 1 (.t 27) (.t 28), none⟩, ⟨none, .store 1 (.t 34) (.t 33), none⟩]
def fn21r8 : List AO := [⟨some 35, .mv (.t 7), none⟩, ⟨some 36, .mv (.t 1), none⟩, ⟨some 37, .conv .u64 (.t 36), none⟩, ⟨some 38, .bin .rem (.t 35) (.t 37), none⟩, ⟨some 7, .mv (.t 38), none⟩]
def fn21n10 : ACode := .seq (.region fn21r7 false) (.region fn21r8 false)
def fn21n11 : ACode := .seq (.region fn21r6 false) (fn21n10)
def fn21n12 : ACode := .block 1 (fn21n11)
def fn21r5 : List AO := [⟨some 17, .mv (.t 8), none⟩, ⟨some 18, .bin .sub (.t 17) (.k (.p (.int .i64 1))), none⟩, ⟨some 8, .mv (.t 18), none⟩]
def fn21n14 : ACode := .seq (fn21n12) (.region fn21r5 false)
def fn21n15 : ACode := .seq (fn21n6) (fn21n14)
def fn21n16 : ACode := .loop (fn21n15)
def fn21n17 : ACode := .block 0 (fn21n16)
def fn21n18 : ACode := .seq (.region fn21r3 false) (fn21n17)
def fn21r9 : List AO := [⟨some 39, .mv (.t 6), none⟩, ⟨some 40, .callR 100 7 [.t 39], none⟩, ⟨some 41, .mv (.t 7), none⟩, ⟨some 42, .conv .u32 (.t 41), none⟩, ⟨some 4, .mv (.t 40), none⟩, ⟨some 5, .mv (.t 42), none⟩]
def fn21n20 : ACode := .seq (.region fn21r9 false) (.ret)
def fn21n21 : ACode := .seq (fn21n18) (fn21n20)
def fn21n22 : ACode := .seq (.region fn21r2 false) (fn21n21)
def fn21n23 : ACode := .seq (.region fn21r1 false) (fn21n22)
def fn21n24 : ACode := .seq (.region fn21r0 false) (fn21n23)
def fn21 : AFun := { nargs := 2, ntmps := 43, results := [.tmp 4, .tmp 5], body := fn21n24 }

/-- math/bits.LeadingZeros32 -/
def fn22r0 : List AO := [⟨some 2, .mv (.k (.p (.int .i64 0))), none⟩]
def fn22r1 : List AO := [⟨some 3, .mv (.t 0), none⟩, ⟨some 4, .call 8 [.t 3], none⟩, ⟨some 5, .bin .sub (.k (.p (.int .i64 32))) (.t 4), none⟩, ⟨some 2, .mv (.t 5), none⟩]
def fn22n2 : ACode := .seq (.region fn22r1 false) (.ret)
def fn22n3 : ACode := .seq (.region fn22r0 false) (fn22n2)
def fn22 : AFun := { nargs := 1, ntmps := 6, results := [.tmp 2], body := fn22n3 }

/-- credence/bignat.shiftLeft -/
def fn23r0 : List AO := [⟨some 6, .mv (.k (.e0)), none⟩]
def fn23r1 : List AO := [⟨some 10, .mv (.t 2), none⟩, ⟨some 11, .mk 0 1 4 [.p (.int .u32 0)] (.t 10) (.t 10), none⟩, ⟨some 7, .mv (.t 11), none⟩]
def fn23r2 : List AO := [⟨some 8, .mv (.k (.p (.int .u64 0))), none⟩]
def fn23r3 : List AO := [⟨some 12, .mv (.t 7), none⟩, ⟨some 13, .len (.t 12), none⟩, ⟨some 14, .mv (.k (.p (.int .i64 0))), none⟩]
def fn23r4 : List AO := [⟨some 15, .bin .lss (.t 14) (.t 13), none⟩]
def fn23n5 : ACode := .cond (.t 15) (.skip) (.exit 0)
def fn23r5 : List AO := [⟨some 16, .mv (.t 14), none⟩, ⟨some 9, .mv (.t 16), none⟩]
def fn23r6 : List AO := [⟨some 17, .mv (.t 9), none⟩, ⟨some 18, .mv (.t 0), none⟩, ⟨some 19, .len (.t 18), none⟩, ⟨some 20, .bin .lss (.t 17) (.t 19), none⟩]
def fn23r7 : List AO := [⟨some 21, .mv (.t 8), none⟩, ⟨some 22, .mv (.t 0), none⟩, ⟨some 23, .mv (.t 9), none⟩, ⟨some 24, .ia 1 (.t 22) (.t 23), none⟩, ⟨some 25, .load false 1 (.t 24), none⟩, ⟨some 26, .conv .u64 (.t 25), none⟩, ⟨some 27, .mv (.t 1), none⟩, ⟨some 28, .bin .shl (.t 26) (.t 27), none⟩, ⟨some 29, .bin .or (.t 21) (.t 28), none⟩, ⟨some 8, .mv (.t 29), none⟩]
def fn23n9 : ACode := .cond (.t 20) (.region fn23r7 false) (.skip)
def fn23n10 : ACode := .seq (.region fn23r6 false) (fn23n9)
def fn23r8 : List AO := [⟨some 30, .mv (.t 7), none⟩, ⟨some 31, .mv (.t 9), none⟩, ⟨some 32, .mv (.t 8), none⟩, ⟨some 33, .conv .u32 (.t 32), none⟩, ⟨some 34, .ia 1 (.t 30) (.t 31), none⟩, ⟨none, .store 1 (.t 34) (.t 33), none⟩]
def fn23r9 : List AO := [⟨some 35, .mv (.t 8), none⟩, ⟨some 36, .bin .shr (.t 35) (.k (.p (.int .u64 32))), none⟩, ⟨some 8, .mv (.t 36), none⟩]
def fn23n13 : ACode := .seq (.region fn23r8 false) (.region fn23r9 false)
def fn23n14 : ACode := .seq (fn23n10) (fn23n13)
def fn23n15 : ACode := .seq (.region fn23r5 false) (fn23n14)
def fn23n16 : ACode := .block 1 (fn23n15)
def fn23r10 : List AO := [⟨some 37, .bin .add (.t 14) (.k (.p (.int .i64 1))), none⟩, ⟨some 14, .mv (.t 37), none⟩]
def fn23n18 : ACode := .seq (fn23n16) (.region fn23r10 false)
def fn23n19 : ACode := .seq (fn23n5) (fn23n18)
def fn23n20 : ACode := .seq (.region fn23r4 false) (fn23n19)
def fn23n21 : ACode := .loop (fn23n20)
def fn23n22 : ACode := .block 0 (fn23n21)
def fn23n23 : ACode := .seq (.region fn23r3 false) (fn23n22)
def fn23r11 : List AO := [⟨some 38, .mv (.t 7), none⟩, ⟨some 6, .mv (.t 38), none⟩]
def fn23n25 : ACode := .seq (.region fn23r11 false) (.ret)
def fn23n26 : ACode := .seq (fn23n23) (fn23n25)
def fn23n27 : ACode := .seq (.region fn23r2 false) (fn23n26)
def fn23n28 : ACode := .seq (.region fn23r1 false) (fn23n27)
def fn23n29 : ACode := .seq (.region fn23r0 false) (fn23n28)
def fn23 : AFun := { nargs := 3, ntmps := 39, results := [.tmp 6], body := fn23n29 }

/-- credence/bignat.subtractScaled -/
def fn24r0 : List AO := [⟨some 6, .mv (.k (.p (.bool false))), none⟩]
def fn24r1 : List AO := [⟨some 7, .mv (.k (.p (.int .u64 0))), none⟩]
def fn24r2 : List AO := [⟨some 14, .mv (.t 1), none⟩, ⟨some 15, .len (.t 14), none⟩, ⟨some 16, .mv (.k (.p (.int .i64 0))), none⟩]
def fn24r3 : List AO := [⟨some 17, .bin .lss (.t 16) (.t 15), none⟩]
def fn24n4 : ACode := .cond (.t 17) (.skip) (.exit 0)
def fn24r4 : List AO := [⟨some 18, .mv (.t 16), none⟩, ⟨some 19, .ia 1 (.t 14) (.t 16), none⟩, ⟨some 20, .load false 1 (.t 19), none⟩, ⟨some 8, .mv (.t 18), none⟩, ⟨some 9, .mv (.t 20), none⟩]
def fn24r5 : List AO := [⟨some 21, .mv (.t 2), none⟩, ⟨some 22, .mv (.t 9), none⟩, ⟨some 23, .conv .u64 (.t 22), none⟩, ⟨some 24, .bin .mul (.t 21) (.t 23), none⟩, ⟨some 25, .mv (.t 7), none⟩, ⟨some 26, .bin .add (.t 24) (.t 25), none⟩, ⟨some 10, .mv (.t 26), none⟩]
def fn24r6 : List AO := [⟨some 27, .mv (.t 10), none⟩, ⟨some 28, .conv .u32 (.t 27), none⟩, ⟨some 11, .mv (.t 28), none⟩]
def fn24r7 : List AO := [⟨some 29, .mv (.t 10), none⟩, ⟨some 30, .bin .shr (.t 29) (.k (.p (.int .u64 32))), none⟩, ⟨some 7, .mv (.t 30), none⟩]
def fn24r8 : List AO := [⟨some 31, .mv (.t 0), none⟩, ⟨some 32, .mv (.t 8), none⟩, ⟨some 33, .ia 1 (.t 31) (.t 32), none⟩, ⟨some 34, .load false 1 (.t 33), none⟩, ⟨some 35, .mv (.t 11), none⟩, ⟨some 36, .bin .lss (.t 34) (.t 35), none⟩]
def fn24r9 : List AO := [⟨some 37, .mv (.t 7), none⟩, ⟨some 38, .bin .add (.t 37) (.k (.p (.int .u64 1))), none⟩, ⟨some 7, .mv (.t 38), none⟩]
def fn24n11 : ACode := .cond (.t 36) (.region fn24r9 false) (.skip)
def fn24n12 : ACode := .seq (.region fn24r8 false) (fn24n11)
def fn24r10 : List AO := [⟨some 39, .mv (.t 0), none⟩, ⟨some 40, .mv (.t 8), none⟩, ⟨some 41, .ia 1 (.t 39) (.t 40), none⟩, ⟨some 42, .load false 1 (.t 41), none⟩, ⟨some 43, .mv (.t 11), none⟩, ⟨some 44, .bin .sub (.t 42) (.t 43), none⟩, ⟨some 45, .ia 1 (.t 39) (.t 40), none⟩, ⟨none, .store 1 (.t 45) (.t 44), none⟩]
def fn24n14 : ACode := .seq (fn24n12) (.region fn24r10 false)
def fn24n15 : ACode := .seq (.region fn24r7 false) (fn24n14)
def fn24n16 : ACode := .seq (.region fn24r6 false) (fn24n15)
def fn24n17 : ACode := .seq (.region fn24r5 false) (fn24n16)
def fn24n18 : ACode := .seq (.region fn24r4 false) (fn24n17)
def fn24n19 : ACode := .block 1 (fn24n18)
def fn24r11 : List AO := [⟨some 46, .bin .add (.t 16) (.k (.p (.int .i64 1))), none⟩, ⟨some 16, .mv (.t 46), none⟩]
def fn24n21 : ACode := .seq (fn24n19) (.region fn24r11 false)
def fn24n22 : ACode := .seq (fn24n4) (fn24n21)
def fn24n23 : ACode := .seq (.region fn24r3 false) (fn24n22)
def fn24n24 : ACode := .loop (fn24n23)
def fn24n25 : ACode := .block 0 (fn24n24)
def fn24n26 : ACode := .seq (.region fn24r2 false) (fn24n25)
def fn24r12 : List AO := [⟨some 47, .mv (.t 0), none⟩, ⟨some 48, .len (.t 47), none⟩, ⟨some 49, .bin .sub (.t 48) (.k (.p (.int .i64 1))), none⟩, ⟨some 12, .mv (.t 49), none⟩]
def fn24r13 : List AO := [⟨some 50, .mv (.t 0), none⟩, ⟨some 51, .mv (.t 12), none⟩, ⟨some 52, .ia 1 (.t 50) (.t 51), none⟩, ⟨some 53, .load false 1 (.t 52), none⟩, ⟨some 54, .conv .u64 (.t 53), none⟩, ⟨some 55, .mv (.t 7), none⟩, ⟨some 56, .bin .lss (.t 54) (.t 55), none⟩, ⟨some 13, .mv (.t 56), none⟩]
def fn24r14 : List AO := [⟨some 57, .mv (.t 0), none⟩, ⟨some 58, .mv (.t 12), none⟩, ⟨some 59, .ia 1 (.t 57) (.t 58), none⟩, ⟨some 60, .load false 1 (.t 59), none⟩, ⟨some 61, .mv (.t 7), none⟩, ⟨some 62, .conv .u32 (.t 61), none⟩, ⟨some 63, .bin .sub (.t 60) (.t 62), none⟩, ⟨some 64, .ia 1 (.t 57) (.t 58), none⟩, ⟨none, .store 1 (.t 64) (.t 63), none⟩]
def fn24r15 : List AO := [⟨some 65, .mv (.t 13), none⟩, ⟨some 6, .mv (.t 65), none⟩]
def fn24n31 : ACode := .seq (.region fn24r15 false) (.ret)
def fn24n32 : ACode := .seq (.region fn24r14 false) (fn24n31)
def fn24n33 : ACode := .seq (.region fn24r13 false) (fn24n32)
def fn24n34 : ACode := .seq (.region fn24r12 false) (fn24n33)
def fn24n35 : ACode := .seq (fn24n26) (fn24n34)
def fn24n36 : ACode := .seq (.region fn24r1 false) (fn24n35)
def fn24n37 : ACode := .seq (.region fn24r0 false) (fn24n36)
def fn24 : AFun := { nargs := 3, ntmps := 66, results := [.tmp 6], body := fn24n37 }

/-- credence/bignat.addBack -/
def fn25r0 : List AO := [⟨some 4, .mv (.k (.p (.int .u64 0))), none⟩]
def fn25r1 : List AO := [⟨some 7, .mv (.t 1), none⟩, ⟨some 8, .len (.t 7), none⟩, ⟨some 9, .mv (.k (.p (.int .i64 0))), none⟩]
def fn25r2 : List AO := [⟨some 10, .bin .lss (.t 9) (.t 8), none⟩]
def fn25n3 : ACode := .cond (.t 10) (.skip) (.exit 0)
def fn25r3 : List AO := [⟨some 11, .mv (.t 9), none⟩, ⟨some 12, .ia 1 (.t 7) (.t 9), none⟩, ⟨some 13, .load false 1 (.t 12), none⟩, ⟨some 5, .mv (.t 11), none⟩, ⟨some 6, .mv (.t 13), none⟩]
def fn25r4 : List AO := [⟨some 14, .mv (.t 4), none⟩, ⟨some 15, .mv (.t 0), none⟩, ⟨some 16, .mv (.t 5), none⟩, ⟨some 17, .ia 1 (.t 15) (.t 16), none⟩, ⟨some 18, .load false 1 (.t 17), none⟩, ⟨some 19, .conv .u64 (.t 18), none⟩, ⟨some 20, .mv (.t 6), none⟩, ⟨some 21, .conv .u64 (.t 20), none⟩, ⟨some 22, .bin .add (.t 19) (.t 21), none⟩, ⟨some 23, .bin .add (.t 14) (.t 22), none⟩, ⟨some 4, .mv (.t 23), none⟩]
def fn25r5 : List AO := [⟨some 24, .mv (.t 0), none⟩, ⟨some 25, .mv (.t 5), none⟩, ⟨some 26, .mv (.t 4), none⟩, ⟨some 27, .conv .u32 (.t 26), none⟩, ⟨some 28, .ia 1 (.t 24) (.t 25), none⟩, ⟨none, .store 1 (.t 28) (.t 27), none⟩]
def fn25r6 : List AO := [⟨some 29, .mv (.t 4), none⟩, ⟨some 30, .bin .shr (.t 29) (.k (.p (.int .u64 32))), none⟩, ⟨some 4, .mv (.t 30), none⟩]
def fn25n8 : ACode := .seq (.region fn25r5 false) (.region fn25r6 false)
def fn25n9 : ACode := .seq (.region fn25r4 false) (fn25n8)
def fn25n10 : ACode := .seq (.region fn25r3 false) (fn25n9)
def fn25n11 : ACode := .block 1 (fn25n10)
def fn25r7 : List AO := [⟨some 31, .bin .add (.t 9) (.k (.p (.int .i64 1))), none⟩, ⟨some 9, .mv (.t 31), none⟩]
def fn25n13 : ACode := .seq (fn25n11) (.region fn25r7 false)
def fn25n14 : ACode := .seq (fn25n3) (fn25n13)
def fn25n15 : ACode := .seq (.region fn25r2 false) (fn25n14)
def fn25n16 : ACode := .loop (fn25n15)
def fn25n17 : ACode := .block 0 (fn25n16)
def fn25n18 : ACode := .seq (.region fn25r1 false) (fn25n17)
def fn25r8 : List AO := [⟨some 32, .mv (.t 0), none⟩, ⟨some 33, .mv (.t 0), none⟩, ⟨some 34, .len (.t 33), none⟩, ⟨some 35, .bin .sub (.t 34) (.k (.p (.int .i64 1))), none⟩, ⟨some 36, .ia 1 (.t 32) (.t 35), none⟩, ⟨some 37, .load false 1 (.t 36), none⟩, ⟨some 38, .mv (.t 4), none⟩, ⟨some 39, .conv .u32 (.t 38), none⟩, ⟨some 40, .bin .add (.t 37) (.t 39), none⟩, ⟨some 41, .ia 1 (.t 32) (.t 35), none⟩, ⟨none, .store 1 (.t 41) (.t 40), none⟩]
def fn25n20 : ACode := .seq (fn25n18) (.region fn25r8 false)
def fn25n21 : ACode := .seq (.region fn25r0 false) (fn25n20)
def fn25 : AFun := { nargs := 2, ntmps := 42, results := [], body := fn25n21 }

/-- credence/bignat.divLong -/
def fn26r0 : List AO := [⟨some 4, .mv (.k (.e0)), none⟩, ⟨some 5, .mv (.k (.e0)), none⟩]
def fn26r1 : List AO := [⟨some 19, .mv (.t 1), none⟩, ⟨some 20, .len (.t 19), none⟩, ⟨some 6, .mv (.t 20), none⟩]
def fn26r2 : List AO := [⟨some 21, .mv (.t 1), none⟩, ⟨some 22, .mv (.t 6), none⟩, ⟨some 23, .bin .sub (.t 22) (.k (.p (.int .i64 1))), none⟩, ⟨some 24, .ia 1 (.t 21) (.t 23), none⟩, ⟨some 25, .load false 1 (.t 24), none⟩, ⟨some 26, .call 22 [.t 25], none⟩, ⟨some 27, .conv .u64 (.t 26), none⟩, ⟨some 7, .mv (.t 27), none⟩]
def fn26r3 : List AO := [⟨some 28, .mv (.t 0), none⟩, ⟨some 29, .mv (.t 7), none⟩, ⟨some 30, .mv (.t 0), none⟩, ⟨some 31, .len (.t 30), none⟩, ⟨some 32, .bin .add (.t 31) (.k (.p (.int .i64 1))), none⟩, ⟨some 33, .callR 100 23 [.t 28, .t 29, .t 32], none⟩, ⟨some 8, .mv (.t 33), none⟩]
def fn26r4 : List AO := [⟨some 34, .mv (.t 1), none⟩, ⟨some 35, .mv (.t 7), none⟩, ⟨some 36, .mv (.t 6), none⟩, ⟨some 37, .call 23 [.t 34, .t 35, .t 36], none⟩, ⟨some 9, .mv (.t 37), none⟩]
def fn26r5 : List AO := [⟨some 38, .mv (.t 0), none⟩, ⟨some 39, .len (.t 38), none⟩, ⟨some 40, .mv (.t 6), none⟩, ⟨some 41, .bin .sub (.t 39) (.t 40), none⟩, ⟨some 42, .bin .add (.t 41) (.k (.p (.int .i64 1))), none⟩, ⟨some 43, .mk 0 1 4 [.p (.int .u32 0)] (.t 42) (.t 42), none⟩, ⟨some 10, .mv (.t 43), none⟩]
def fn26r6 : List AO := [⟨some 44, .mv (.t 9), none⟩, ⟨some 45, .mv (.t 6), none⟩, ⟨some 46, .bin .sub (.t 45) (.k (.p (.int .i64 1))), none⟩, ⟨some 47, .ia 1 (.t 44) (.t 46), none⟩, ⟨some 48, .load false 1 (.t 47), none⟩, ⟨some 49, .conv .u64 (.t 48), none⟩, ⟨some 50, .mv (.t 9), none⟩, ⟨some 51, .mv (.t 6), none⟩, ⟨some 52, .bin .sub (.t 51) (.k (.p (.int .i64 2))), none⟩, ⟨some 53, .ia 1 (.t 50) (.t 52), none⟩, ⟨some 54, .load false 1 (.t 53), none⟩, ⟨some 55, .conv .u64 (.t 54), none⟩, ⟨some 11, .mv (.t 49), none⟩, ⟨some 12, .mv (.t 55), none⟩]
def fn26r7 : List AO := [⟨some 56, .mv (.t 0), none⟩, ⟨some 57, .len (.t 56), none⟩, ⟨some 58, .mv (.t 6), none⟩, ⟨some 59, .bin .sub (.t 57) (.t 58), none⟩, ⟨some 13, .mv (.t 59), none⟩]
def fn26r8 : List AO := [⟨some 60, .mv (.t 13), none⟩, ⟨some 61, .bin .geq (.t 60) (.k (.p (.int .i64 0))), none⟩]
def fn26n9 : ACode := .cond (.t 61) (.skip) (.exit 0)
def fn26n10 : ACode := .seq (.region fn26r8 false) (fn26n9)
def fn26r10 : List AO := [⟨some 64, .mv (.t 8), none⟩, ⟨some 65, .mv (.t 13), none⟩, ⟨some 66, .mv (.t 6), none⟩, ⟨some 67, .bin .add (.t 65) (.t 66), none⟩, ⟨some 68, .ia 1 (.t 64) (.t 67), none⟩, ⟨some 69, .load false 1 (.t 68), none⟩, ⟨some 70, .conv .u64 (.t 69), none⟩, ⟨some 71, .bin .shl (.t 70) (.k (.p (.int .u64 32))), none⟩, ⟨some 72, .mv (.t 8), none⟩, ⟨some 73, .mv (.t 13), none⟩, ⟨some 74, .mv (.t 6), none⟩, ⟨some 75, .bin .add (.t 73) (.t 74), none⟩, ⟨some 76, .bin .sub (.t 75) (.k (.p (.int .i64 1))), none⟩, ⟨some 77, .ia 1 (.t 72) (.t 76), none⟩, ⟨some 78, .load false 1 (.t 77), none⟩, ⟨some 79, .conv .u64 (.t 78), none⟩, ⟨some 80, .bin .or (.t 71) (.t 79), none⟩, ⟨some 14, .mv (.t 80), none⟩]
def fn26r11 : List AO := [⟨some 81, .mv (.t 14), none⟩, ⟨some 82, .mv (.t 11), none⟩, ⟨some 83, .bin .quo (.t 81) (.t 82), none⟩, ⟨some 84, .mv (.t 14), none⟩, ⟨some 85, .mv (.t 11), none⟩, ⟨some 86, .bin .rem (.t 84) (.t 85), none⟩, ⟨some 15, .mv (.t 83), none⟩, ⟨some 16, .mv (.t 86), none⟩]
def fn26r12 : List AO := [⟨some 87, .mv (.t 15), none⟩, ⟨some 88, .bin .shr (.t 87) (.k (.p (.int .u64 32))), none⟩, ⟨some 89, .bin .neq (.t 88) (.k (.p (.int .u64 0))), none⟩, ⟨some 90, .mv (.t 89), none⟩, ⟨some 91, .mv (.t 15), (some (90, false))⟩, ⟨some 92, .mv (.t 12), (some (90, false))⟩, ⟨some 93, .bin .mul (.t 91) (.t 92), (some (90, false))⟩, ⟨some 94, .mv (.t 16), (some (90, false))⟩, ⟨some 95, .bin .shl (.t 94) (.k (.p (.int .u64 32))), (some (90, false))⟩, ⟨some 96, .mv (.t 8), (some (90, false))⟩, ⟨some 97, .mv (.t 13), (some (90, false))⟩, ⟨some 98, .mv (.t 6), (some (90, false))⟩, ⟨some 99, .bin .add (.t 97) (.t 98), (some (90, false))⟩, ⟨some 100, .bin .sub (.t 99) (.k (.p (.int .i64 2))), (some (90, false))⟩, ⟨some 101, .ia 1 (.t 96) (.t 100), (some (90, false))⟩, ⟨some 102, .load false 1 (.t 101), (some (90, false))⟩, ⟨some 103, .conv .u64 (.t 102), (some (90, false))⟩, ⟨some 104, .bin .or (.t 95) (.t 103), (some (90, false))⟩, ⟨some 105, .bin .gtr (.t 93) (.t 104), (some (90, false))⟩, ⟨some 106, .pick (.t 90) (.k (.p (.bool true))) (.t 105), none⟩]
def fn26n14 : ACode := .cond (.t 106) (.skip) (.exit 2)
def fn26n15 : ACode := .seq (.region fn26r12 false) (fn26n14)
def fn26r13 : List AO := [⟨some 107, .mv (.t 15), none⟩, ⟨some 108, .bin .sub (.t 107) (.k (.p (.int .u64 1))), none⟩, ⟨some 15, .mv (.t 108), none⟩]
def fn26r14 : List AO := [⟨some 109, .mv (.t 16), none⟩, ⟨some 110, .mv (.t 11), none⟩, ⟨some 111, .bin .add (.t 109) (.t 110), none⟩, ⟨some 16, .mv (.t 111), none⟩]
def fn26r15 : List AO := [⟨some 112, .mv (.t 16), none⟩, ⟨some 113, .bin .shr (.t 112) (.k (.p (.int .u64 32))), none⟩, ⟨some 114, .bin .neq (.t 113) (.k (.p (.int .u64 0))), none⟩]
def fn26n19 : ACode := .cond (.t 114) (.exit 2) (.skip)
def fn26n20 : ACode := .seq (.region fn26r15 false) (fn26n19)
def fn26n21 : ACode := .seq (.region fn26r14 false) (fn26n20)
def fn26n22 : ACode := .seq (.region fn26r13 false) (fn26n21)
def fn26n23 : ACode := .block 3 (fn26n22)
def fn26n24 : ACode := .seq (fn26n15) (fn26n23)
def fn26n25 : ACode := .loop (fn26n24)
def fn26n26 : ACode := .block 2 (fn26n25)
def fn26r16 : List AO := [⟨some 115, .mv (.t 8), none⟩, ⟨some 116, .mv (.t 13), none⟩, ⟨some 117, .mv (.t 13), none⟩, ⟨some 118, .mv (.t 6), none⟩, ⟨some 119, .bin .add (.t 117) (.t 118), none⟩, ⟨some 120, .bin .add (.t 119) (.k (.p (.int .i64 1))), none⟩, ⟨some 121, .slice 1 (.t 115) (some (.t 116)) (some (.t 120)) none, none⟩, ⟨some 122, .mv (.t 9), none⟩, ⟨some 123, .mv (.t 15), none⟩, ⟨some 124, .callR 200 24 [.t 121, .t 122, .t 123], none⟩]
def fn26r17 : List AO := [⟨some 125, .mv (.t 15), none⟩, ⟨some 126, .bin .sub (.t 125) (.k (.p (.int .u64 1))), none⟩, ⟨some 15, .mv (.t 126), none⟩]
def fn26r18 : List AO := [⟨some 127, .mv (.t 8), none⟩, ⟨some 128, .mv (.t 13), none⟩, ⟨some 129, .mv (.t 13), none⟩, ⟨some 130, .mv (.t 6), none⟩, ⟨some 131, .bin .add (.t 129) (.t 130), none⟩, ⟨some 132, .bin .add (.t 131) (.k (.p (.int .i64 1))), none⟩, ⟨some 133, .slice 1 (.t 127) (some (.t 128)) (some (.t 132)) none, none⟩, ⟨some 134, .mv (.t 9), none⟩, ⟨some 135, .callR 300 25 [.t 133, .t 134], none⟩]
def fn26n30 : ACode := .seq (.region fn26r17 false) (.region fn26r18 false)
def fn26n31 : ACode := .cond (.t 124) (fn26n30) (.skip)
def fn26n32 : ACode := .seq (.region fn26r16 false) (fn26n31)
def fn26r19 : List AO := [⟨some 136, .mv (.t 10), none⟩, ⟨some 137, .mv (.t 13), none⟩, ⟨some 138, .mv (.t 15), none⟩, ⟨some 139, .conv .u32 (.t 138), none⟩, ⟨some 140, .ia 1 (.t 136) (.t 137), none⟩, ⟨none, .store 1 (.t 140) (.t 139), none⟩]
def fn26n34 : ACode := .seq (fn26n32) (.region fn26r19 false)
def fn26n35 : ACode := .seq (fn26n26) (fn26n34)
def fn26n36 : ACode := .seq (.region fn26r11 true) (fn26n35)
def fn26n37 : ACode := .seq (.region fn26r10 true) (fn26n36)
def fn26n38 : ACode := .block 1 (fn26n37)
def fn26r9 : List AO := [⟨some 62, .mv (.t 13), none⟩, ⟨some 63, .bin .sub (.t 62) (.k (.p (.int .i64 1))), none⟩, ⟨some 13, .mv (.t 63), none⟩]
def fn26n40 : ACode := .seq (fn26n38) (.region fn26r9 false)
def fn26n41 : ACode := .seq (fn26n10) (fn26n40)
def fn26n42 : ACode := .loop (fn26n41)
def fn26n43 : ACode := .block 0 (fn26n42)
def fn26n44 : ACode := .seq (.region fn26r7 false) (fn26n43)
def fn26r20 : List AO := [⟨some 141, .mv (.t 6), none⟩, ⟨some 142, .mk 1 1 4 [.p (.int .u32 0)] (.t 141) (.t 141), none⟩, ⟨some 17, .mv (.t 142), none⟩]
def fn26r21 : List AO := [⟨some 143, .mv (.t 17), none⟩, ⟨some 144, .len (.t 143), none⟩, ⟨some 145, .mv (.k (.p (.int .i64 0))), none⟩]
def fn26r22 : List AO := [⟨some 146, .bin .lss (.t 145) (.t 144), none⟩]
def fn26n48 : ACode := .cond (.t 146) (.skip) (.exit 4)
def fn26r23 : List AO := [⟨some 147, .mv (.t 145), none⟩, ⟨some 18, .mv (.t 147), none⟩]
def fn26r24 : List AO := [⟨some 148, .mv (.t 17), none⟩, ⟨some 149, .mv (.t 18), none⟩, ⟨some 150, .mv (.t 8), none⟩, ⟨some 151, .mv (.t 18), none⟩, ⟨some 152, .bin .add (.t 151) (.k (.p (.int .i64 1))), none⟩, ⟨some 153, .ia 1 (.t 150) (.t 152), none⟩, ⟨some 154, .load false 1 (.t 153), none⟩, ⟨some 155, .conv .u64 (.t 154), none⟩, ⟨some 156, .bin .shl (.t 155) (.k (.p (.int .u64 32))), none⟩, ⟨some 157, .mv (.t 8), none⟩, ⟨some 158, .mv (.t 18), none⟩, ⟨some 159, .ia 1 (.t 157) (.t 158), none⟩, ⟨some 160, .load false 1 (.t 159), none⟩, ⟨some 161, .conv .u64 (.t 160), none⟩, ⟨some 162, .bin .or (.t 156) (.t 161), none⟩, ⟨some 163, .mv (.t 7), none⟩, ⟨some 164, .bin .shr (.t 162) (.t 163), none⟩, ⟨some 165, .conv .u32 (.t 164), none⟩, ⟨some 166, .ia 1 (.t 148) (.t 149), none⟩, ⟨none, .store 1 (.t 166) (.t 165), none⟩]
def fn26n51 : ACode := .seq (.region fn26r23 false) (.region fn26r24 true)
def fn26n52 : ACode := .block 5 (fn26n51)
def fn26r25 : List AO := [⟨some 167, .bin .add (.t 145) (.k (.p (.int .i64 1))), none⟩, ⟨some 145, .mv (.t 167), none⟩]
def fn26n54 : ACode := .seq (fn26n52) (.region fn26r25 false)
def fn26n55 : ACode := .seq (fn26n48) (fn26n54)
def fn26n56 : ACode := .seq (.region fn26r22 false) (fn26n55)
def fn26n57 : ACode := .loop (fn26n56)
def fn26n58 : ACode := .block 4 (fn26n57)
def fn26n59 : ACode := .seq (.region fn26r21 false) (fn26n58)
def fn26r26 : List AO := [⟨some 168, .mv (.t 10), none⟩, ⟨some 169, .callR 400 7 [.t 168], none⟩, ⟨some 170, .mv (.t 17), none⟩, ⟨some 171, .callR 500 7 [.t 170], none⟩, ⟨some 4, .mv (.t 169), none⟩, ⟨some 5, .mv (.t 171), none⟩]
def fn26n61 : ACode := .seq (.region fn26r26 false) (.ret)
def fn26n62 : ACode := .seq (fn26n59) (fn26n61)
def fn26n63 : ACode := .seq (.region fn26r20 false) (fn26n62)
def fn26n64 : ACode := .seq (fn26n44) (fn26n63)
def fn26n65 : ACode := .seq (.region fn26r6 true) (fn26n64)
def fn26n66 : ACode := .seq (.region fn26r5 false) (fn26n65)
def fn26n67 : ACode := .seq (.region fn26r4 false) (fn26n66)
def fn26n68 : ACode := .seq (.region fn26r3 false) (fn26n67)
def fn26n69 : ACode := .seq (.region fn26r2 false) (fn26n68)
def fn26n70 : ACode := .seq (.region fn26r1 false) (fn26n69)
def fn26n71 : ACode := .seq (.region fn26r0 false) (fn26n70)
def fn26 : AFun := { nargs := 2, ntmps := 172, results := [.tmp 4, .tmp 5], body := fn26n71 }

/-- credence/bignat.DivMod -/
def fn27r0 : List AO := [⟨some 4, .mv (.k (.e0)), none⟩, ⟨some 5, .mv (.k (.e0)), none⟩, ⟨some 6, .mv (.k (.p (.bool false))), none⟩]
def fn27r1 : List AO := [⟨some 11, .mv (.t 0), none⟩, ⟨some 12, .call 7 [.t 11], none⟩, ⟨some 13, .mv (.t 1), none⟩, ⟨some 14, .call 7 [.t 13], none⟩, ⟨some 0, .mv (.t 12), none⟩, ⟨some 1, .mv (.t 14), none⟩]
def fn27r2 : List AO := [⟨some 16, .mv (.t 1), none⟩, ⟨some 17, .len (.t 16), none⟩, ⟨some 18, .bin .eql (.t 17) (.k (.p (.int .i64 0))), none⟩, ⟨some 15, .mv (.t 18), none⟩]
def fn27r3 : List AO := [⟨some 4, .mv (.k (.e0)), none⟩, ⟨some 5, .mv (.k (.e0)), none⟩, ⟨some 6, .mv (.k (.p (.bool false))), none⟩]
def fn27n4 : ACode := .seq (.region fn27r3 false) (.ret)
def fn27r4 : List AO := [⟨some 20, .mv (.t 0), none⟩, ⟨some 21, .mv (.t 1), none⟩, ⟨some 22, .call 13 [.t 20, .t 21], none⟩, ⟨some 23, .bin .lss (.t 22) (.k (.p (.int .i64 0))), none⟩, ⟨some 19, .mv (.t 23), none⟩]
def fn27r5 : List AO := [⟨some 24, .mv (.t 0), none⟩, ⟨some 25, .call 16 [.t 24], none⟩, ⟨some 4, .mv (.k (.e0)), none⟩, ⟨some 5, .mv (.t 25), none⟩, ⟨some 6, .mv (.k (.p (.bool true))), none⟩]
def fn27n7 : ACode := .seq (.region fn27r5 false) (.ret)
def fn27r6 : List AO := [⟨some 27, .mv (.t 1), none⟩, ⟨some 28, .len (.t 27), none⟩, ⟨some 29, .bin .eql (.t 28) (.k (.p (.int .i64 1))), none⟩, ⟨some 26, .mv (.t 29), none⟩]
def fn27r7 : List AO := [⟨some 31, .mv (.t 0), none⟩, ⟨some 32, .mv (.t 1), none⟩, ⟨some 33, .ia 1 (.t 32) (.k (.p (.int .i64 0))), none⟩, ⟨some 34, .load false 1 (.t 33), none⟩, ⟨some 35, .call 21 [.t 31, .t 34], none⟩, ⟨some 30, .mv (.t 35), none⟩, ⟨some 36, .ext 0 (.t 30), none⟩, ⟨some 37, .ext 1 (.t 30), none⟩, ⟨some 7, .mv (.t 36), none⟩, ⟨some 8, .mv (.t 37), none⟩]
def fn27r8 : List AO := [⟨some 38, .mv (.t 7), none⟩, ⟨some 39, .mv (.t 8), none⟩, ⟨some 40, .conv .u64 (.t 39), none⟩, ⟨some 41, .call 19 [.t 40], none⟩, ⟨some 4, .mv (.t 38), none⟩, ⟨some 5, .mv (.t 41), none⟩, ⟨some 6, .mv (.k (.p (.bool true))), none⟩]
def fn27n11 : ACode := .seq (.region fn27r8 false) (.ret)
def fn27n12 : ACode := .seq (.region fn27r7 false) (fn27n11)
def fn27n13 : ACode := .cond (.t 26) (fn27n12) (.skip)
def fn27n14 : ACode := .seq (.region fn27r6 false) (fn27n13)
def fn27n15 : ACode := .cond (.t 19) (fn27n7) (fn27n14)
def fn27n16 : ACode := .seq (.region fn27r4 false) (fn27n15)
def fn27n17 : ACode := .cond (.t 15) (fn27n4) (fn27n16)
def fn27n18 : ACode := .seq (.region fn27r2 false) (fn27n17)
def fn27n19 : ACode := .block 0 (fn27n18)
def fn27r9 : List AO := [⟨some 43, .mv (.t 0), none⟩, ⟨some 44, .mv (.t 1), none⟩, ⟨some 45, .call 26 [.t 43, .t 44], none⟩, ⟨some 42, .mv (.t 45), none⟩, ⟨some 46, .ext 0 (.t 42), none⟩, ⟨some 47, .ext 1 (.t 42), none⟩, ⟨some 9, .mv (.t 46), none⟩, ⟨some 10, .mv (.t 47), none⟩]
def fn27r10 : List AO := [⟨some 48, .mv (.t 9), none⟩, ⟨some 49, .mv (.t 10), none⟩, ⟨some 4, .mv (.t 48), none⟩, ⟨some 5, .mv (.t 49), none⟩, ⟨some 6, .mv (.k (.p (.bool true))), none⟩]
def fn27n22 : ACode := .seq (.region fn27r10 false) (.ret)
def fn27n23 : ACode := .seq (.region fn27r9 false) (fn27n22)
def fn27n24 : ACode := .seq (fn27n19) (fn27n23)
def fn27n25 : ACode := .seq (.region fn27r1 false) (fn27n24)
def fn27n26 : ACode := .seq (.region fn27r0 false) (fn27n25)
def fn27 : AFun := { nargs := 2, ntmps := 50, results := [.tmp 4, .tmp 5, .tmp 6], body := fn27n26 }

/-- credence/bignat.GCD -/
def fn28r0 : List AO := [⟨some 4, .mv (.k (.e0)), none⟩]
def fn28r1 : List AO := [⟨some 8, .mv (.t 0), none⟩, ⟨some 9, .call 16 [.t 8], none⟩, ⟨some 10, .mv (.t 1), none⟩, ⟨some 11, .call 16 [.t 10], none⟩, ⟨some 0, .mv (.t 9), none⟩, ⟨some 1, .mv (.t 11), none⟩]
def fn28r2 : List AO := [⟨some 12, .mv (.t 1), none⟩, ⟨some 13, .len (.t 12), none⟩, ⟨some 14, .bin .gtr (.t 13) (.k (.p (.int .i64 0))), none⟩]
def fn28n3 : ACode := .cond (.t 14) (.skip) (.exit 0)
def fn28n4 : ACode := .seq (.region fn28r2 false) (fn28n3)
def fn28r3 : List AO := [⟨some 15, .mv (.t 0), none⟩, ⟨some 16, .len (.t 15), none⟩, ⟨some 17, .bin .leq (.t 16) (.k (.p (.int .i64 2))), none⟩, ⟨some 18, .mv (.t 17), none⟩, ⟨some 19, .mv (.t 1), (some (18, true))⟩, ⟨some 20, .len (.t 19), (some (18, true))⟩, ⟨some 21, .bin .leq (.t 20) (.k (.p (.int .i64 2))), (some (18, true))⟩, ⟨some 22, .pick (.t 18) (.t 21) (.k (.p (.bool false))), none⟩]
def fn28r4 : List AO := [⟨some 23, .mv (.t 0), none⟩, ⟨some 24, .mv (.t 1), none⟩, ⟨some 25, .call 20 [.t 23, .t 24], none⟩, ⟨some 4, .mv (.t 25), none⟩]
def fn28n7 : ACode := .seq (.region fn28r4 false) (.ret)
def fn28n8 : ACode := .cond (.t 22) (fn28n7) (.skip)
def fn28n9 : ACode := .seq (.region fn28r3 false) (fn28n8)
def fn28r5 : List AO := [⟨some 27, .mv (.t 0), none⟩, ⟨some 28, .mv (.t 1), none⟩, ⟨some 29, .call 27 [.t 27, .t 28], none⟩, ⟨some 26, .mv (.t 29), none⟩, ⟨some 30, .ext 0 (.t 26), none⟩, ⟨some 31, .ext 1 (.t 26), none⟩, ⟨some 32, .ext 2 (.t 26), none⟩, ⟨some 5, .mv (.t 30), none⟩, ⟨some 6, .mv (.t 31), none⟩, ⟨some 7, .mv (.t 32), none⟩]
def fn28r6 : List AO := [⟨some 33, .mv (.t 1), none⟩, ⟨some 34, .mv (.t 6), none⟩, ⟨some 0, .mv (.t 33), none⟩, ⟨some 1, .mv (.t 34), none⟩]
def fn28n12 : ACode := .seq (.region fn28r5 false) (.region fn28r6 false)
def fn28n13 : ACode := .seq (fn28n9) (fn28n12)
def fn28n14 : ACode := .block 1 (fn28n13)
def fn28n15 : ACode := .seq (fn28n4) (fn28n14)
def fn28n16 : ACode := .loop (fn28n15)
def fn28n17 : ACode := .block 0 (fn28n16)
def fn28r7 : List AO := [⟨some 35, .mv (.t 0), none⟩, ⟨some 4, .mv (.t 35), none⟩]
def fn28n19 : ACode := .seq (.region fn28r7 false) (.ret)
def fn28n20 : ACode := .seq (fn28n17) (fn28n19)
def fn28n21 : ACode := .seq (.region fn28r1 false) (fn28n20)
def fn28n22 : ACode := .seq (.region fn28r0 false) (fn28n21)
def fn28 : AFun := { nargs := 2, ntmps := 36, results := [.tmp 4], body := fn28n22 }

/-- credence/rational.reduce -/
def fn29r0 : List AO := [⟨some 6, .alloc 0 [.p (.bool false), .e0, .e0], none⟩]
def fn29r1 : List AO := [⟨some 8, .mv (.t 1), none⟩, ⟨some 9, .call 17 [.t 8], none⟩, ⟨some 10, .mv (.t 2), none⟩, ⟨some 11, .call 17 [.t 10], none⟩, ⟨some 1, .mv (.t 9), none⟩, ⟨some 2, .mv (.t 11), none⟩]
def fn29r2 : List AO := [⟨some 12, .mv (.t 1), none⟩, ⟨some 13, .len (.t 12), none⟩, ⟨some 14, .bin .eql (.t 13) (.k (.p (.int .i64 0))), none⟩, ⟨some 15, .mv (.t 14), none⟩, ⟨some 16, .mv (.t 2), (some (15, false))⟩, ⟨some 17, .len (.t 16), (some (15, false))⟩, ⟨some 18, .bin .eql (.t 17) (.k (.p (.int .i64 0))), (some (15, false))⟩, ⟨some 19, .pick (.t 15) (.k (.p (.bool true))) (.t 18), none⟩]
def fn29r3 : List AO := [⟨some 20, .call 10 [], none⟩, ⟨some 21, .build [.p (.bool false), .e0, .e0] [(2, 1, .t 20)], none⟩, ⟨none, .store 3 (.t 6) (.t 21), none⟩]
def fn29n4 : ACode := .seq (.region fn29r3 false) (.ret)
def fn29n5 : ACode := .cond (.t 19) (fn29n4) (.skip)
def fn29n6 : ACode := .seq (.region fn29r2 false) (fn29n5)
def fn29r4 : List AO := [⟨some 22, .mv (.t 2), none⟩, ⟨some 23, .len (.t 22), none⟩, ⟨some 24, .bin .gtr (.t 23) (.k (.p (.int .i64 1))), none⟩, ⟨some 25, .mv (.t 24), none⟩, ⟨some 26, .mv (.t 2), (some (25, false))⟩, ⟨some 27, .ia 1 (.t 26) (.k (.p (.int .i64 0))), (some (25, false))⟩, ⟨some 28, .load false 1 (.t 27), (some (25, false))⟩, ⟨some 29, .bin .neq (.t 28) (.k (.p (.int .u32 1))), (some (25, false))⟩, ⟨some 30, .pick (.t 25) (.k (.p (.bool true))) (.t 29), none⟩]
def fn29r5 : List AO := [⟨some 31, .mv (.t 1), none⟩, ⟨some 32, .mv (.t 2), none⟩, ⟨some 33, .call 28 [.t 31, .t 32], none⟩, ⟨some 7, .mv (.t 33), none⟩]
def fn29r6 : List AO := [⟨some 34, .mv (.t 7), none⟩, ⟨some 35, .len (.t 34), none⟩, ⟨some 36, .bin .gtr (.t 35) (.k (.p (.int .i64 1))), none⟩, ⟨some 37, .mv (.t 36), none⟩, ⟨some 38, .mv (.t 7), (some (37, false))⟩, ⟨some 39, .ia 1 (.t 38) (.k (.p (.int .i64 0))), (some (37, false))⟩, ⟨some 40, .load false 1 (.t 39), (some (37, false))⟩, ⟨some 41, .bin .neq (.t 40) (.k (.p (.int .u32 1))), (some (37, false))⟩, ⟨some 42, .pick (.t 37) (.k (.p (.bool true))) (.t 41), none⟩]
def fn29r7 : List AO := [⟨some 44, .mv (.t 1), none⟩, ⟨some 45, .mv (.t 7), none⟩, ⟨some 46, .call 27 [.t 44, .t 45], none⟩, ⟨some 43, .mv (.t 46), none⟩, ⟨some 47, .ext 0 (.t 43), none⟩, ⟨some 48, .ext 1 (.t 43), none⟩, ⟨some 49, .ext 2 (.t 43), none⟩, ⟨some 1, .mv (.t 47), none⟩]
def fn29r8 : List AO := [⟨some 51, .mv (.t 2), none⟩, ⟨some 52, .mv (.t 7), none⟩, ⟨some 53, .call 27 [.t 51, .t 52], none⟩, ⟨some 50, .mv (.t 53), none⟩, ⟨some 54, .ext 0 (.t 50), none⟩, ⟨some 55, .ext 1 (.t 50), none⟩, ⟨some 56, .ext 2 (.t 50), none⟩, ⟨some 2, .mv (.t 54), none⟩]
def fn29n12 : ACode := .seq (.region fn29r7 false) (.region fn29r8 false)
def fn29n13 : ACode := .cond (.t 42) (fn29n12) (.skip)
def fn29n14 : ACode := .seq (.region fn29r6 false) (fn29n13)
def fn29n15 : ACode := .seq (.region fn29r5 false) (fn29n14)
def fn29n16 : ACode := .cond (.t 30) (fn29n15) (.skip)
def fn29n17 : ACode := .seq (.region fn29r4 false) (fn29n16)
def fn29r9 : List AO := [⟨some 57, .mv (.t 0), none⟩, ⟨some 58, .mv (.t 1), none⟩, ⟨some 59, .mv (.t 2), none⟩, ⟨some 60, .build [.p (.bool false), .e0, .e0] [(0, 1, .t 57), (1, 1, .t 58), (2, 1, .t 59)], none⟩, ⟨none, .store 3 (.t 6) (.t 60), none⟩]
def fn29n19 : ACode := .seq (.region fn29r9 false) (.ret)
def fn29n20 : ACode := .seq (fn29n17) (fn29n19)
def fn29n21 : ACode := .seq (fn29n6) (fn29n20)
def fn29n22 : ACode := .seq (.region fn29r1 false) (fn29n21)
def fn29n23 : ACode := .seq (.region fn29r0 false) (fn29n22)
def fn29 : AFun := { nargs := 3, ntmps := 61, results := [.cell true 3 6], body := fn29n23 }

/-- credence/bignat.Sub -/
def fn30r0 : List AO := [⟨some 4, .mv (.k (.e0)), none⟩, ⟨some 5, .mv (.k (.p (.bool false))), none⟩]
def fn30r1 : List AO := [⟨some 10, .mv (.t 0), none⟩, ⟨some 11, .call 7 [.t 10], none⟩, ⟨some 12, .mv (.t 1), none⟩, ⟨some 13, .call 7 [.t 12], none⟩, ⟨some 0, .mv (.t 11), none⟩, ⟨some 1, .mv (.t 13), none⟩]
def fn30r2 : List AO := [⟨some 14, .mv (.t 0), none⟩, ⟨some 15, .mv (.t 1), none⟩, ⟨some 16, .call 13 [.t 14, .t 15], none⟩, ⟨some 17, .bin .lss (.t 16) (.k (.p (.int .i64 0))), none⟩]
def fn30r3 : List AO := [⟨some 4, .mv (.k (.e0)), none⟩, ⟨some 5, .mv (.k (.p (.bool false))), none⟩]
def fn30n4 : ACode := .seq (.region fn30r3 false) (.ret)
def fn30n5 : ACode := .cond (.t 17) (fn30n4) (.skip)
def fn30n6 : ACode := .seq (.region fn30r2 false) (fn30n5)
def fn30r4 : List AO := [⟨some 18, .mv (.t 0), none⟩, ⟨some 19, .len (.t 18), none⟩, ⟨some 20, .mk 0 1 4 [.p (.int .u32 0)] (.t 19) (.t 19), none⟩, ⟨some 6, .mv (.t 20), none⟩]
def fn30r5 : List AO := [⟨some 7, .mv (.k (.p (.int .u64 0))), none⟩]
def fn30r6 : List AO := [⟨some 21, .mv (.t 0), none⟩, ⟨some 22, .len (.t 21), none⟩, ⟨some 23, .mv (.k (.p (.int .i64 0))), none⟩]
def fn30r7 : List AO := [⟨some 24, .bin .lss (.t 23) (.t 22), none⟩]
def fn30n11 : ACode := .cond (.t 24) (.skip) (.exit 0)
def fn30r8 : List AO := [⟨some 25, .mv (.t 23), none⟩, ⟨some 8, .mv (.t 25), none⟩]
def fn30r9 : List AO := [⟨some 26, .mv (.t 0), none⟩, ⟨some 27, .mv (.t 8), none⟩, ⟨some 28, .ia 1 (.t 26) (.t 27), none⟩, ⟨some 29, .load false 1 (.t 28), none⟩, ⟨some 30, .conv .u64 (.t 29), none⟩, ⟨some 31, .mv (.t 7), none⟩, ⟨some 32, .bin .sub (.t 30) (.t 31), none⟩, ⟨some 9, .mv (.t 32), none⟩]
def fn30r10 : List AO := [⟨some 33, .mv (.t 8), none⟩, ⟨some 34, .mv (.t 1), none⟩, ⟨some 35, .len (.t 34), none⟩, ⟨some 36, .bin .lss (.t 33) (.t 35), none⟩]
def fn30r11 : List AO := [⟨some 37, .mv (.t 9), none⟩, ⟨some 38, .mv (.t 1), none⟩, ⟨some 39, .mv (.t 8), none⟩, ⟨some 40, .ia 1 (.t 38) (.t 39), none⟩, ⟨some 41, .load false 1 (.t 40), none⟩, ⟨some 42, .conv .u64 (.t 41), none⟩, ⟨some 43, .bin .sub (.t 37) (.t 42), none⟩, ⟨some 9, .mv (.t 43), none⟩]
def fn30n16 : ACode := .cond (.t 36) (.region fn30r11 false) (.skip)
def fn30n17 : ACode := .seq (.region fn30r10 false) (fn30n16)
def fn30r12 : List AO := [⟨some 44, .mv (.t 6), none⟩, ⟨some 45, .mv (.t 8), none⟩, ⟨some 46, .mv (.t 9), none⟩, ⟨some 47, .conv .u32 (.t 46), none⟩, ⟨some 48, .ia 1 (.t 44) (.t 45), none⟩, ⟨none, .store 1 (.t 48) (.t 47), none⟩]
def fn30r13 : List AO := [⟨some 49, .mv (.t 9), none⟩, ⟨some 50, .bin .shr (.t 49) (.k (.p (.int .u64 63))), none⟩, ⟨some 7, .mv (.t 50), none⟩]
def fn30n20 : ACode := .seq (.region fn30r12 false) (.region fn30r13 false)
def fn30n21 : ACode := .seq (fn30n17) (fn30n20)
def fn30n22 : ACode := .seq (.region fn30r9 false) (fn30n21)
def fn30n23 : ACode := .seq (.region fn30r8 false) (fn30n22)
def fn30n24 : ACode := .block 1 (fn30n23)
def fn30r14 : List AO := [⟨some 51, .bin .add (.t 23) (.k (.p (.int .i64 1))), none⟩, ⟨some 23, .mv (.t 51), none⟩]
def fn30n26 : ACode := .seq (fn30n24) (.region fn30r14 false)
def fn30n27 : ACode := .seq (fn30n11) (fn30n26)
def fn30n28 : ACode := .seq (.region fn30r7 false) (fn30n27)
def fn30n29 : ACode := .loop (fn30n28)
def fn30n30 : ACode := .block 0 (fn30n29)
def fn30n31 : ACode := .seq (.region fn30r6 false) (fn30n30)
def fn30r15 : List AO := [⟨some 52, .mv (.t 6), none⟩, ⟨some 53, .callR 100 7 [.t 52], none⟩, ⟨some 4, .mv (.t 53), none⟩, ⟨some 5, .mv (.k (.p (.bool true))), none⟩]
def fn30n33 : ACode := .seq (.region fn30r15 false) (.ret)
def fn30n34 : ACode := .seq (fn30n31) (fn30n33)
def fn30n35 : ACode := .seq (.region fn30r5 false) (fn30n34)
def fn30n36 : ACode := .seq (.region fn30r4 false) (fn30n35)
def fn30n37 : ACode := .seq (fn30n6) (fn30n36)
def fn30n38 : ACode := .seq (.region fn30r1 false) (fn30n37)
def fn30n39 : ACode := .seq (.region fn30r0 false) (fn30n38)
def fn30 : AFun := { nargs := 2, ntmps := 54, results := [.tmp 4, .tmp 5], body := fn30n39 }

/-- credence/rational.Add -/
def fn31r0 : List AO := [⟨some 2, .boxP (.t 0), none⟩, ⟨some 3, .boxP (.t 1), none⟩, ⟨some 4, .alloc 0 [.p (.bool false), .e0, .e0], none⟩]
def fn31r1 : List AO := [⟨some 19, .load true 3 (.t 2), none⟩, ⟨some 20, .call 11 [.t 19], none⟩, ⟨some 18, .mv (.t 20), none⟩, ⟨some 21, .ext 0 (.t 18), none⟩, ⟨some 22, .ext 1 (.t 18), none⟩, ⟨some 23, .ext 2 (.t 18), none⟩, ⟨some 5, .mv (.t 21), none⟩, ⟨some 6, .mv (.t 22), none⟩, ⟨some 7, .mv (.t 23), none⟩]
def fn31r2 : List AO := [⟨some 25, .load true 3 (.t 3), none⟩, ⟨some 26, .call 11 [.t 25], none⟩, ⟨some 24, .mv (.t 26), none⟩, ⟨some 27, .ext 0 (.t 24), none⟩, ⟨some 28, .ext 1 (.t 24), none⟩, ⟨some 29, .ext 2 (.t 24), none⟩, ⟨some 8, .mv (.t 27), none⟩, ⟨some 9, .mv (.t 28), none⟩, ⟨some 10, .mv (.t 29), none⟩]
def fn31r3 : List AO := [⟨some 30, .mv (.t 6), none⟩, ⟨some 31, .mv (.t 9), none⟩, ⟨some 11, .mv (.t 30), none⟩, ⟨some 12, .mv (.t 31), none⟩]
def fn31r4 : List AO := [⟨some 32, .mv (.t 7), none⟩, ⟨some 13, .mv (.t 32), none⟩]
def fn31r5 : List AO := [⟨some 33, .mv (.t 7), none⟩, ⟨some 34, .mv (.t 10), none⟩, ⟨some 35, .call 13 [.t 33, .t 34], none⟩, ⟨some 36, .bin .neq (.t 35) (.k (.p (.int .i64 0))), none⟩]
def fn31r6 : List AO := [⟨some 37, .mv (.t 6), none⟩, ⟨some 38, .mv (.t 10), none⟩, ⟨some 39, .call 14 [.t 37, .t 38], none⟩, ⟨some 40, .mv (.t 9), none⟩, ⟨some 41, .mv (.t 7), none⟩, ⟨some 42, .call 14 [.t 40, .t 41], none⟩, ⟨some 43, .mv (.t 7), none⟩, ⟨some 44, .mv (.t 10), none⟩, ⟨some 45, .call 14 [.t 43, .t 44], none⟩, ⟨some 11, .mv (.t 39), none⟩, ⟨some 12, .mv (.t 42), none⟩, ⟨some 13, .mv (.t 45), none⟩]
def fn31n7 : ACode := .cond (.t 36) (.region fn31r6 false) (.skip)
def fn31n8 : ACode := .seq (.region fn31r5 false) (fn31n7)
def fn31r7 : List AO := [⟨some 46, .mv (.t 5), none⟩, ⟨some 47, .mv (.t 8), none⟩, ⟨some 48, .binB .eql (.t 46) (.t 47), none⟩]
def fn31r8 : List AO := [⟨some 49, .mv (.t 5), none⟩, ⟨some 50, .mv (.t 11), none⟩, ⟨some 51, .mv (.t 12), none⟩, ⟨some 52, .call 15 [.t 50, .t 51], none⟩, ⟨some 53, .mv (.t 13), none⟩, ⟨some 54, .call 29 [.t 49, .t 52, .t 53], none⟩, ⟨none, .store 3 (.t 4) (.t 54), none⟩]
def fn31n11 : ACode := .seq (.region fn31r8 false) (.ret)
def fn31n12 : ACode := .cond (.t 48) (fn31n11) (.skip)
def fn31n13 : ACode := .seq (.region fn31r7 false) (fn31n12)
def fn31r9 : List AO := [⟨some 56, .mv (.t 11), none⟩, ⟨some 57, .mv (.t 12), none⟩, ⟨some 58, .call 30 [.t 56, .t 57], none⟩, ⟨some 55, .mv (.t 58), none⟩, ⟨some 59, .ext 0 (.t 55), none⟩, ⟨some 60, .ext 1 (.t 55), none⟩, ⟨some 14, .mv (.t 59), none⟩, ⟨some 15, .mv (.t 60), none⟩]
def fn31r10 : List AO := [⟨some 61, .mv (.t 15), none⟩]
def fn31r11 : List AO := [⟨some 62, .mv (.t 5), none⟩, ⟨some 63, .mv (.t 14), none⟩, ⟨some 64, .mv (.t 13), none⟩, ⟨some 65, .call 29 [.t 62, .t 63, .t 64], none⟩, ⟨none, .store 3 (.t 4) (.t 65), none⟩]
def fn31n17 : ACode := .seq (.region fn31r11 false) (.ret)
def fn31n18 : ACode := .cond (.t 61) (fn31n17) (.skip)
def fn31n19 : ACode := .seq (.region fn31r10 false) (fn31n18)
def fn31n20 : ACode := .seq (.region fn31r9 false) (fn31n19)
def fn31r12 : List AO := [⟨some 67, .mv (.t 12), none⟩, ⟨some 68, .mv (.t 11), none⟩, ⟨some 69, .call 30 [.t 67, .t 68], none⟩, ⟨some 66, .mv (.t 69), none⟩, ⟨some 70, .ext 0 (.t 66), none⟩, ⟨some 71, .ext 1 (.t 66), none⟩, ⟨some 16, .mv (.t 70), none⟩, ⟨some 17, .mv (.t 71), none⟩]
def fn31r13 : List AO := [⟨some 72, .mv (.t 8), none⟩, ⟨some 73, .mv (.t 16), none⟩, ⟨some 74, .mv (.t 13), none⟩, ⟨some 75, .call 29 [.t 72, .t 73, .t 74], none⟩, ⟨none, .store 3 (.t 4) (.t 75), none⟩]
def fn31n23 : ACode := .seq (.region fn31r13 false) (.ret)
def fn31n24 : ACode := .seq (.region fn31r12 false) (fn31n23)
def fn31n25 : ACode := .seq (fn31n20) (fn31n24)
def fn31n26 : ACode := .seq (fn31n13) (fn31n25)
def fn31n27 : ACode := .seq (fn31n8) (fn31n26)
def fn31n28 : ACode := .seq (.region fn31r4 false) (fn31n27)
def fn31n29 : ACode := .seq (.region fn31r3 false) (fn31n28)
def fn31n30 : ACode := .seq (.region fn31r2 false) (fn31n29)
def fn31n31 : ACode := .seq (.region fn31r1 false) (fn31n30)
def fn31n32 : ACode := .seq (.region fn31r0 false) (fn31n31)
def fn31 : AFun := { nargs := 2, ntmps := 76, results := [.cell true 3 4], body := fn31n32 }

/-- credence/rational.Sum -/
def fn32r0 : List AO := [⟨some 2, .alloc 0 [.p (.bool false), .e0, .e0], none⟩]
def fn32r1 : List AO := [⟨some 6, .call 10 [], none⟩, ⟨some 7, .build [.p (.bool false), .e0, .e0] [(2, 1, .t 6)], none⟩, ⟨some 3, .alloc 1 [.p (.bool false), .e0, .e0], none⟩, ⟨none, .store 3 (.t 3) (.t 7), none⟩]
def fn32r2 : List AO := [⟨some 8, .mv (.t 0), none⟩, ⟨some 9, .len (.t 8), none⟩, ⟨some 10, .mv (.k (.p (.int .i64 0))), none⟩]
def fn32r3 : List AO := [⟨some 11, .bin .lss (.t 10) (.t 9), none⟩]
def fn32n4 : ACode := .cond (.t 11) (.skip) (.exit 0)
def fn32r4 : List AO := [⟨some 12, .ia 3 (.t 8) (.t 10), none⟩, ⟨some 13, .load true 3 (.t 12), none⟩, ⟨some 5, .alloc 2 [.p (.bool false), .e0, .e0], none⟩, ⟨none, .store 3 (.t 5) (.t 13), none⟩]
def fn32r5 : List AO := [⟨some 14, .load true 3 (.t 3), none⟩, ⟨some 15, .load true 3 (.t 5), none⟩, ⟨some 16, .call 31 [.t 14, .t 15], none⟩, ⟨none, .store 3 (.t 3) (.t 16), none⟩]
def fn32n7 : ACode := .seq (.region fn32r4 false) (.region fn32r5 false)
def fn32n8 : ACode := .block 1 (fn32n7)
def fn32r6 : List AO := [⟨some 17, .bin .add (.t 10) (.k (.p (.int .i64 1))), none⟩, ⟨some 10, .mv (.t 17), none⟩]
def fn32n10 : ACode := .seq (fn32n8) (.region fn32r6 false)
def fn32n11 : ACode := .seq (fn32n4) (fn32n10)
def fn32n12 : ACode := .seq (.region fn32r3 false) (fn32n11)
def fn32n13 : ACode := .loop (fn32n12)
def fn32n14 : ACode := .block 0 (fn32n13)
def fn32n15 : ACode := .seq (.region fn32r2 false) (fn32n14)
def fn32r7 : List AO := [⟨some 18, .load true 3 (.t 3), none⟩, ⟨none, .store 3 (.t 2) (.t 18), none⟩]
def fn32n17 : ACode := .seq (.region fn32r7 false) (.ret)
def fn32n18 : ACode := .seq (fn32n15) (fn32n17)
def fn32n19 : ACode := .seq (.region fn32r1 false) (fn32n18)
def fn32n20 : ACode := .seq (.region fn32r0 false) (fn32n19)
def fn32 : AFun := { nargs := 1, ntmps := 19, results := [.cell true 3 2], body := fn32n20 }

/-- credence/rational.Neg -/
def fn33r0 : List AO := [⟨some 1, .boxP (.t 0), none⟩, ⟨some 2, .alloc 0 [.p (.bool false), .e0, .e0], none⟩]
def fn33r1 : List AO := [⟨some 3, .fa 0 1 (.t 1), none⟩, ⟨some 4, .load false 1 (.t 3), none⟩, ⟨some 5, .un .not (.t 4), none⟩, ⟨some 6, .fa 1 1 (.t 1), none⟩, ⟨some 7, .load false 1 (.t 6), none⟩, ⟨some 8, .fa 2 1 (.t 1), none⟩, ⟨some 9, .load false 1 (.t 8), none⟩, ⟨some 10, .call 29 [.t 5, .t 7, .t 9], none⟩, ⟨none, .store 3 (.t 2) (.t 10), none⟩]
def fn33n2 : ACode := .seq (.region fn33r1 false) (.ret)
def fn33n3 : ACode := .seq (.region fn33r0 false) (fn33n2)
def fn33 : AFun := { nargs := 1, ntmps := 11, results := [.cell true 3 2], body := fn33n3 }

/-- credence/rational.Sub -/
def fn34r0 : List AO := [⟨some 2, .boxP (.t 0), none⟩, ⟨some 3, .boxP (.t 1), none⟩, ⟨some 4, .alloc 0 [.p (.bool false), .e0, .e0], none⟩]
def fn34r1 : List AO := [⟨some 5, .load true 3 (.t 2), none⟩, ⟨some 6, .load true 3 (.t 3), none⟩, ⟨some 7, .callP 33 [.t 6], none⟩, ⟨some 8, .callP 31 [.t 5, .t 7], none⟩, ⟨none, .store 3 (.t 4) (.t 8), none⟩]
def fn34n2 : ACode := .seq (.region fn34r1 true) (.ret)
def fn34n3 : ACode := .seq (.region fn34r0 false) (fn34n2)
def fn34 : AFun := { nargs := 2, ntmps := 9, results := [.cell true 3 4], body := fn34n3 }

/-- credence/rational.Complement -/
def fn35r0 : List AO := [⟨some 1, .boxP (.t 0), none⟩, ⟨some 2, .alloc 0 [.p (.bool false), .e0, .e0], none⟩]
def fn35r1 : List AO := [⟨some 3, .callP 10 [], none⟩, ⟨some 4, .callP 10 [], none⟩, ⟨some 5, .build [.p (.bool false), .e0, .e0] [(1, 1, .t 3), (2, 1, .t 4)], none⟩, ⟨some 6, .load true 3 (.t 1), none⟩, ⟨some 7, .callP 34 [.t 5, .t 6], none⟩, ⟨none, .store 3 (.t 2) (.t 7), none⟩]
def fn35n2 : ACode := .seq (.region fn35r1 true) (.ret)
def fn35n3 : ACode := .seq (.region fn35r0 false) (fn35n2)
def fn35 : AFun := { nargs := 1, ntmps := 8, results := [.cell true 3 2], body := fn35n3 }

/-- credence/worlds.Remainder -/
def fn36r0 : List AO := [⟨some 1, .boxP (.t 0), none⟩, ⟨some 2, .alloc 0 [.p (.bool false), .e0, .e0], none⟩]
def fn36r1 : List AO := [⟨some 3, .fa 0 1 (.t 1), none⟩, ⟨some 4, .load false 1 (.t 3), none⟩, ⟨some 5, .call 32 [.t 4], none⟩, ⟨some 6, .call 35 [.t 5], none⟩, ⟨none, .store 3 (.t 2) (.t 6), none⟩]
def fn36n2 : ACode := .seq (.region fn36r1 false) (.ret)
def fn36n3 : ACode := .seq (.region fn36r0 false) (fn36n2)
def fn36 : AFun := { nargs := 1, ntmps := 7, results := [.cell true 3 2], body := fn36n3 }

/-- credence/worlds.Valid -/
def fn37r0 : List AO := [⟨some 1, .boxP (.t 0), none⟩, ⟨some 2, .mv (.k (.p (.bool false))), none⟩]
def fn37r1 : List AO := [⟨some 7, .fa 0 1 (.t 1), none⟩, ⟨some 8, .load false 1 (.t 7), none⟩, ⟨some 9, .len (.t 8), none⟩, ⟨some 10, .bin .gtr (.t 9) (.k (.p (.int .i64 4096))), none⟩]
def fn37r2 : List AO := [⟨some 2, .mv (.k (.p (.bool false))), none⟩]
def fn37n3 : ACode := .seq (.region fn37r2 false) (.ret)
def fn37n4 : ACode := .cond (.t 10) (fn37n3) (.skip)
def fn37n5 : ACode := .seq (.region fn37r1 false) (fn37n4)
def fn37r3 : List AO := [⟨some 11, .fa 0 1 (.t 1), none⟩, ⟨some 12, .load false 1 (.t 11), none⟩, ⟨some 13, .len (.t 12), none⟩, ⟨some 14, .mv (.k (.p (.int .i64 0))), none⟩]
def fn37r4 : List AO := [⟨some 15, .bin .lss (.t 14) (.t 13), none⟩]
def fn37n8 : ACode := .cond (.t 15) (.skip) (.exit 0)
def fn37r5 : List AO := [⟨some 16, .ia 1 (.t 12) (.t 14), none⟩, ⟨some 17, .load true 1 (.t 16), none⟩, ⟨some 4, .alloc 0 [.e0], none⟩, ⟨none, .store 1 (.t 4) (.t 17), none⟩]
def fn37r6 : List AO := [⟨some 18, .fa 0 1 (.t 4), none⟩, ⟨some 19, .load false 1 (.t 18), none⟩, ⟨some 20, .len (.t 19), none⟩, ⟨some 21, .bin .gtr (.t 20) (.k (.p (.int .i64 16))), none⟩]
def fn37r7 : List AO := [⟨some 2, .mv (.k (.p (.bool false))), none⟩]
def fn37n12 : ACode := .seq (.region fn37r7 false) (.ret)
def fn37n13 : ACode := .cond (.t 21) (fn37n12) (.skip)
def fn37n14 : ACode := .seq (.region fn37r6 false) (fn37n13)
def fn37r8 : List AO := [⟨some 22, .fa 0 1 (.t 4), none⟩, ⟨some 23, .load false 1 (.t 22), none⟩, ⟨some 24, .len (.t 23), none⟩, ⟨some 25, .mv (.k (.p (.int .i64 0))), none⟩]
def fn37r9 : List AO := [⟨some 26, .bin .lss (.t 25) (.t 24), none⟩]
def fn37n17 : ACode := .cond (.t 26) (.skip) (.exit 2)
def fn37r10 : List AO := [⟨some 27, .ia 3 (.t 23) (.t 25), none⟩, ⟨some 28, .load true 3 (.t 27), none⟩, ⟨some 6, .alloc 1 [.p (.bool false), .e0, .e0], none⟩, ⟨none, .store 3 (.t 6) (.t 28), none⟩]
def fn37r11 : List AO := [⟨some 29, .load true 3 (.t 6), none⟩, ⟨some 30, .call 12 [.t 29], none⟩, ⟨some 31, .bin .lss (.t 30) (.k (.p (.int .i64 0))), none⟩]
def fn37r12 : List AO := [⟨some 2, .mv (.k (.p (.bool false))), none⟩]
def fn37n21 : ACode := .seq (.region fn37r12 false) (.ret)
def fn37n22 : ACode := .cond (.t 31) (fn37n21) (.skip)
def fn37n23 : ACode := .seq (.region fn37r11 false) (fn37n22)
def fn37n24 : ACode := .seq (.region fn37r10 false) (fn37n23)
def fn37n25 : ACode := .block 3 (fn37n24)
def fn37r13 : List AO := [⟨some 32, .bin .add (.t 25) (.k (.p (.int .i64 1))), none⟩, ⟨some 25, .mv (.t 32), none⟩]
def fn37n27 : ACode := .seq (fn37n25) (.region fn37r13 false)
def fn37n28 : ACode := .seq (fn37n17) (fn37n27)
def fn37n29 : ACode := .seq (.region fn37r9 false) (fn37n28)
def fn37n30 : ACode := .loop (fn37n29)
def fn37n31 : ACode := .block 2 (fn37n30)
def fn37n32 : ACode := .seq (.region fn37r8 false) (fn37n31)
def fn37r14 : List AO := [⟨some 33, .load true 1 (.t 4), none⟩, ⟨some 34, .call 36 [.t 33], none⟩, ⟨some 35, .call 12 [.t 34], none⟩, ⟨some 36, .bin .lss (.t 35) (.k (.p (.int .i64 0))), none⟩]
def fn37r15 : List AO := [⟨some 2, .mv (.k (.p (.bool false))), none⟩]
def fn37n35 : ACode := .seq (.region fn37r15 false) (.ret)
def fn37n36 : ACode := .cond (.t 36) (fn37n35) (.skip)
def fn37n37 : ACode := .seq (.region fn37r14 false) (fn37n36)
def fn37n38 : ACode := .seq (fn37n32) (fn37n37)
def fn37n39 : ACode := .seq (fn37n14) (fn37n38)
def fn37n40 : ACode := .seq (.region fn37r5 false) (fn37n39)
def fn37n41 : ACode := .block 1 (fn37n40)
def fn37r16 : List AO := [⟨some 37, .bin .add (.t 14) (.k (.p (.int .i64 1))), none⟩, ⟨some 14, .mv (.t 37), none⟩]
def fn37n43 : ACode := .seq (fn37n41) (.region fn37r16 false)
def fn37n44 : ACode := .seq (fn37n8) (fn37n43)
def fn37n45 : ACode := .seq (.region fn37r4 false) (fn37n44)
def fn37n46 : ACode := .loop (fn37n45)
def fn37n47 : ACode := .block 0 (fn37n46)
def fn37n48 : ACode := .seq (.region fn37r3 false) (fn37n47)
def fn37r17 : List AO := [⟨some 2, .mv (.k (.p (.bool true))), none⟩]
def fn37n50 : ACode := .seq (.region fn37r17 false) (.ret)
def fn37n51 : ACode := .seq (fn37n48) (fn37n50)
def fn37n52 : ACode := .seq (fn37n5) (fn37n51)
def fn37n53 : ACode := .seq (.region fn37r0 false) (fn37n52)
def fn37 : AFun := { nargs := 1, ntmps := 38, results := [.tmp 2], body := fn37n53 }

/-- (credence/circuit.set).meets -/
def fn38r0 : List AO := [⟨some 4, .mv (.k (.p (.bool false))), none⟩]
def fn38r1 : List AO := [⟨some 6, .mv (.t 0), none⟩, ⟨some 7, .len (.t 6), none⟩, ⟨some 8, .mv (.k (.p (.int .i64 0))), none⟩]
def fn38r2 : List AO := [⟨some 9, .bin .lss (.t 8) (.t 7), none⟩]
def fn38n3 : ACode := .cond (.t 9) (.skip) (.exit 0)
def fn38r3 : List AO := [⟨some 10, .mv (.t 8), none⟩, ⟨some 5, .mv (.t 10), none⟩]
def fn38r4 : List AO := [⟨some 11, .mv (.t 0), none⟩, ⟨some 12, .mv (.t 5), none⟩, ⟨some 13, .ia 1 (.t 11) (.t 12), none⟩, ⟨some 14, .load false 1 (.t 13), none⟩, ⟨some 15, .mv (.t 1), none⟩, ⟨some 16, .mv (.t 5), none⟩, ⟨some 17, .ia 1 (.t 15) (.t 16), none⟩, ⟨some 18, .load false 1 (.t 17), none⟩, ⟨some 19, .bin .and (.t 14) (.t 18), none⟩, ⟨some 20, .bin .neq (.t 19) (.k (.p (.int .u64 0))), none⟩]
def fn38r5 : List AO := [⟨some 4, .mv (.k (.p (.bool true))), none⟩]
def fn38n7 : ACode := .seq (.region fn38r5 false) (.ret)
def fn38n8 : ACode := .cond (.t 20) (fn38n7) (.skip)
def fn38n9 : ACode := .seq (.region fn38r4 true) (fn38n8)
def fn38n10 : ACode := .seq (.region fn38r3 false) (fn38n9)
def fn38n11 : ACode := .block 1 (fn38n10)
def fn38r6 : List AO := [⟨some 21, .bin .add (.t 8) (.k (.p (.int .i64 1))), none⟩, ⟨some 8, .mv (.t 21), none⟩]
def fn38n13 : ACode := .seq (fn38n11) (.region fn38r6 false)
def fn38n14 : ACode := .seq (fn38n3) (fn38n13)
def fn38n15 : ACode := .seq (.region fn38r2 false) (fn38n14)
def fn38n16 : ACode := .loop (fn38n15)
def fn38n17 : ACode := .block 0 (fn38n16)
def fn38n18 : ACode := .seq (.region fn38r1 false) (fn38n17)
def fn38r7 : List AO := [⟨some 4, .mv (.k (.p (.bool false))), none⟩]
def fn38n20 : ACode := .seq (.region fn38r7 false) (.ret)
def fn38n21 : ACode := .seq (fn38n18) (fn38n20)
def fn38n22 : ACode := .seq (.region fn38r0 false) (fn38n21)
def fn38 : AFun := { nargs := 2, ntmps := 22, results := [.tmp 4], body := fn38n22 }

/-- (credence/circuit.set).add -/
def fn39r0 : List AO := [⟨some 5, .mv (.t 0), none⟩, ⟨some 6, .len (.t 5), none⟩, ⟨some 7, .mv (.k (.p (.int .i64 0))), none⟩]
def fn39r1 : List AO := [⟨some 8, .bin .lss (.t 7) (.t 6), none⟩]
def fn39n2 : ACode := .cond (.t 8) (.skip) (.exit 0)
def fn39r2 : List AO := [⟨some 9, .mv (.t 7), none⟩, ⟨some 4, .mv (.t 9), none⟩]
def fn39r3 : List AO := [⟨some 10, .mv (.t 0), none⟩, ⟨some 11, .mv (.t 4), none⟩, ⟨some 12, .ia 1 (.t 10) (.t 11), none⟩, ⟨some 13, .load false 1 (.t 12), none⟩, ⟨some 14, .mv (.t 1), none⟩, ⟨some 15, .mv (.t 4), none⟩, ⟨some 16, .ia 1 (.t 14) (.t 15), none⟩, ⟨some 17, .load false 1 (.t 16), none⟩, ⟨some 18, .bin .or (.t 13) (.t 17), none⟩, ⟨some 19, .ia 1 (.t 10) (.t 11), none⟩, ⟨none, .store 1 (.t 19) (.t 18), none⟩]
def fn39n5 : ACode := .seq (.region fn39r2 false) (.region fn39r3 true)
def fn39n6 : ACode := .block 1 (fn39n5)
def fn39r4 : List AO := [⟨some 20, .bin .add (.t 7) (.k (.p (.int .i64 1))), none⟩, ⟨some 7, .mv (.t 20), none⟩]
def fn39n8 : ACode := .seq (fn39n6) (.region fn39r4 false)
def fn39n9 : ACode := .seq (fn39n2) (fn39n8)
def fn39n10 : ACode := .seq (.region fn39r1 false) (fn39n9)
def fn39n11 : ACode := .loop (fn39n10)
def fn39n12 : ACode := .block 0 (fn39n11)
def fn39n13 : ACode := .seq (.region fn39r0 false) (fn39n12)
def fn39 : AFun := { nargs := 2, ntmps := 21, results := [], body := fn39n13 }

/-- (credence/circuit.set).has -/
def fn40r0 : List AO := [⟨some 4, .mv (.k (.p (.bool false))), none⟩]
def fn40r1 : List AO := [⟨some 5, .mv (.t 0), none⟩, ⟨some 6, .mv (.t 1), none⟩, ⟨some 7, .bin .quo (.t 6) (.k (.p (.int .i64 64))), none⟩, ⟨some 8, .ia 1 (.t 5) (.t 7), none⟩, ⟨some 9, .load false 1 (.t 8), none⟩, ⟨some 10, .mv (.t 1), none⟩, ⟨some 11, .bin .rem (.t 10) (.k (.p (.int .i64 64))), none⟩, ⟨some 12, .bin .shr (.t 9) (.t 11), none⟩, ⟨some 13, .bin .and (.t 12) (.k (.p (.int .u64 1))), none⟩, ⟨some 14, .bin .eql (.t 13) (.k (.p (.int .u64 1))), none⟩, ⟨some 4, .mv (.t 14), none⟩]
def fn40n2 : ACode := .seq (.region fn40r1 false) (.ret)
def fn40n3 : ACode := .seq (.region fn40r0 false) (fn40n2)
def fn40 : AFun := { nargs := 2, ntmps := 15, results := [.tmp 4], body := fn40n3 }

/-- credence/circuit.validGate -/
def fn41r0 : List AO := [⟨some 4, .boxP (.t 0), none⟩, ⟨some 5, .boxP (.t 1), none⟩, ⟨some 8, .mv (.k (.e0)), none⟩, ⟨some 9, .mv (.k (.p (.bool false))), none⟩]
def fn41r1 : List AO := [⟨some 13, .fa 0 1 (.t 4), none⟩, ⟨some 14, .load false 1 (.t 13), none⟩, ⟨some 15, .len (.t 14), none⟩, ⟨some 16, .bin .add (.t 15) (.k (.p (.int .i64 63))), none⟩, ⟨some 17, .bin .quo (.t 16) (.k (.p (.int .i64 64))), none⟩, ⟨some 18, .mk 0 1 8 [.p (.int .u64 0)] (.t 17) (.t 17), none⟩, ⟨some 10, .mv (.t 18), none⟩]
def fn41r2 : List AO := [⟨some 19, .fa 2 1 (.t 5), none⟩, ⟨some 20, .load false 1 (.t 19), none⟩, ⟨some 21, .len (.t 20), none⟩, ⟨some 22, .mv (.k (.p (.int .i64 0))), none⟩]
def fn41r3 : List AO := [⟨some 23, .bin .lss (.t 22) (.t 21), none⟩]
def fn41n4 : ACode := .cond (.t 23) (.skip) (.exit 0)
def fn41r4 : List AO := [⟨some 24, .ia 1 (.t 20) (.t 22), none⟩, ⟨some 25, .load false 1 (.t 24), none⟩, ⟨some 12, .mv (.t 25), none⟩]
def fn41r5 : List AO := [⟨some 26, .mv (.t 12), none⟩, ⟨some 27, .bin .lss (.t 26) (.k (.p (.int .i64 0))), none⟩, ⟨some 28, .mv (.t 27), none⟩, ⟨some 29, .mv (.t 12), (some (28, false))⟩, ⟨some 30, .mv (.t 2), (some (28, false))⟩, ⟨some 31, .bin .geq (.t 29) (.t 30), (some (28, false))⟩, ⟨some 32, .pick (.t 28) (.k (.p (.bool true))) (.t 31), none⟩]
def fn41r6 : List AO := [⟨some 8, .mv (.k (.e0)), none⟩, ⟨some 9, .mv (.k (.p (.bool false))), none⟩]
def fn41n8 : ACode := .seq (.region fn41r6 false) (.ret)
def fn41n9 : ACode := .cond (.t 32) (fn41n8) (.skip)
def fn41n10 : ACode := .seq (.region fn41r5 false) (fn41n9)
def fn41r7 : List AO := [⟨some 33, .fa 0 1 (.t 5), none⟩, ⟨some 34, .load false 1 (.t 33), none⟩, ⟨some 35, .bin .eql (.t 34) (.k (.p (.int .i64 3))), none⟩, ⟨some 36, .mv (.t 35), none⟩, ⟨some 37, .fa 0 1 (.t 5), (some (36, false))⟩, ⟨some 38, .load false 1 (.t 37), (some (36, false))⟩, ⟨some 39, .bin .eql (.t 38) (.k (.p (.int .i64 4))), (some (36, false))⟩, ⟨some 40, .pick (.t 36) (.k (.p (.bool true))) (.t 39), none⟩, ⟨some 41, .mv (.t 40), none⟩, ⟨some 42, .mv (.t 10), (some (41, true))⟩, ⟨some 43, .mv (.t 3), (some (41, true))⟩, ⟨some 44, .mv (.t 12), (some (41, true))⟩, ⟨some 45, .ia 1 (.t 43) (.t 44), (some (41, true))⟩, ⟨some 46, .load false 1 (.t 45), (some (41, true))⟩, ⟨some 47, .call 38 [.t 42, .t 46], (some (41, true))⟩, ⟨some 48, .pick (.t 41) (.t 47) (.k (.p (.bool false))), none⟩]
def fn41r8 : List AO := [⟨some 8, .mv (.k (.e0)), none⟩, ⟨some 9, .mv (.k (.p (.bool false))), none⟩]
def fn41n13 : ACode := .seq (.region fn41r8 false) (.ret)
def fn41n14 : ACode := .cond (.t 48) (fn41n13) (.skip)
def fn41n15 : ACode := .seq (.region fn41r7 false) (fn41n14)
def fn41r9 : List AO := [⟨some 49, .mv (.t 10), none⟩, ⟨some 50, .mv (.t 3), none⟩, ⟨some 51, .mv (.t 12), none⟩, ⟨some 52, .ia 1 (.t 50) (.t 51), none⟩, ⟨some 53, .load false 1 (.t 52), none⟩, ⟨some 54, .callR 100 39 [.t 49, .t 53], none⟩]
def fn41n17 : ACode := .seq (fn41n15) (.region fn41r9 false)
def fn41n18 : ACode := .seq (fn41n10) (fn41n17)
def fn41n19 : ACode := .seq (.region fn41r4 false) (fn41n18)
def fn41n20 : ACode := .block 1 (fn41n19)
def fn41r10 : List AO := [⟨some 55, .bin .add (.t 22) (.k (.p (.int .i64 1))), none⟩, ⟨some 22, .mv (.t 55), none⟩]
def fn41n22 : ACode := .seq (fn41n20) (.region fn41r10 false)
def fn41n23 : ACode := .seq (fn41n4) (fn41n22)
def fn41n24 : ACode := .seq (.region fn41r3 false) (fn41n23)
def fn41n25 : ACode := .loop (fn41n24)
def fn41n26 : ACode := .block 0 (fn41n25)
def fn41n27 : ACode := .seq (.region fn41r2 false) (fn41n26)
def fn41r11 : List AO := [⟨some 56, .fa 0 1 (.t 5), none⟩, ⟨some 57, .load false 1 (.t 56), none⟩, ⟨some 58, .bin .eql (.t 57) (.k (.p (.int .i64 2))), none⟩]
def fn41r12 : List AO := [⟨some 59, .fa 1 1 (.t 5), none⟩, ⟨some 60, .load false 1 (.t 59), none⟩, ⟨some 61, .bin .lss (.t 60) (.k (.p (.int .i64 0))), none⟩, ⟨some 62, .mv (.t 61), none⟩, ⟨some 63, .fa 1 1 (.t 5), (some (62, false))⟩, ⟨some 64, .load false 1 (.t 63), (some (62, false))⟩, ⟨some 65, .fa 0 1 (.t 4), (some (62, false))⟩, ⟨some 66, .load false 1 (.t 65), (some (62, false))⟩, ⟨some 67, .len (.t 66), (some (62, false))⟩, ⟨some 68, .bin .geq (.t 64) (.t 67), (some (62, false))⟩, ⟨some 69, .pick (.t 62) (.k (.p (.bool true))) (.t 68), none⟩, ⟨some 70, .mv (.t 69), none⟩, ⟨some 71, .fa 2 1 (.t 5), (some (70, false))⟩, ⟨some 72, .load false 1 (.t 71), (some (70, false))⟩, ⟨some 73, .len (.t 72), (some (70, false))⟩, ⟨some 74, .fa 0 1 (.t 4), (some (70, false))⟩, ⟨some 75, .load false 1 (.t 74), (some (70, false))⟩, ⟨some 76, .fa 1 1 (.t 5), (some (70, false))⟩, ⟨some 77, .load false 1 (.t 76), (some (70, false))⟩, ⟨some 78, .ia 1 (.t 75) (.t 77), (some (70, false))⟩, ⟨some 79, .fa 0 1 (.t 78), (some (70, false))⟩, ⟨some 80, .load false 1 (.t 79), (some (70, false))⟩, ⟨some 81, .len (.t 80), (some (70, false))⟩, ⟨some 82, .bin .add (.t 81) (.k (.p (.int .i64 1))), (some (70, false))⟩, ⟨some 83, .bin .neq (.t 73) (.t 82), (some (70, false))⟩, ⟨some 84, .pick (.t 70) (.k (.p (.bool true))) (.t 83), none⟩, ⟨some 85, .mv (.t 84), none⟩, ⟨some 86, .mv (.t 10), (some (85, false))⟩, ⟨some 87, .fa 1 1 (.t 5), (some (85, false))⟩, ⟨some 88, .load false 1 (.t 87), (some (85, false))⟩, ⟨some 89, .call 40 [.t 86, .t 88], (some (85, false))⟩, ⟨some 90, .pick (.t 85) (.k (.p (.bool true))) (.t 89), none⟩]
def fn41r13 : List AO := [⟨some 8, .mv (.k (.e0)), none⟩, ⟨some 9, .mv (.k (.p (.bool false))), none⟩]
def fn41n31 : ACode := .seq (.region fn41r13 false) (.ret)
def fn41n32 : ACode := .cond (.t 90) (fn41n31) (.skip)
def fn41n33 : ACode := .seq (.region fn41r12 true) (fn41n32)
def fn41r14 : List AO := [⟨some 91, .mv (.t 10), none⟩, ⟨some 92, .fa 1 1 (.t 5), none⟩, ⟨some 93, .load false 1 (.t 92), none⟩, ⟨some 94, .bin .quo (.t 93) (.k (.p (.int .i64 64))), none⟩, ⟨some 95, .ia 1 (.t 91) (.t 94), none⟩, ⟨some 96, .load false 1 (.t 95), none⟩, ⟨some 97, .fa 1 1 (.t 5), none⟩, ⟨some 98, .load false 1 (.t 97), none⟩, ⟨some 99, .bin .rem (.t 98) (.k (.p (.int .i64 64))), none⟩, ⟨some 100, .bin .shl (.k (.p (.int .u64 1))) (.t 99), none⟩, ⟨some 101, .bin .or (.t 96) (.t 100), none⟩, ⟨some 102, .ia 1 (.t 91) (.t 94), none⟩, ⟨none, .store 1 (.t 102) (.t 101), none⟩]
def fn41r15 : List AO := [⟨some 103, .mv (.t 10), none⟩, ⟨some 8, .mv (.t 103), none⟩, ⟨some 9, .mv (.k (.p (.bool true))), none⟩]
def fn41n36 : ACode := .seq (.region fn41r15 false) (.ret)
def fn41n37 : ACode := .seq (.region fn41r14 true) (fn41n36)
def fn41n38 : ACode := .seq (fn41n33) (fn41n37)
def fn41n39 : ACode := .cond (.t 58) (fn41n38) (.skip)
def fn41n40 : ACode := .seq (.region fn41r11 false) (fn41n39)
def fn41r16 : List AO := [⟨some 104, .fa 1 1 (.t 5), none⟩, ⟨some 105, .load false 1 (.t 104), none⟩, ⟨some 106, .bin .neq (.t 105) (.k (.p (.int .i64 0))), none⟩]
def fn41r17 : List AO := [⟨some 8, .mv (.k (.e0)), none⟩, ⟨some 9, .mv (.k (.p (.bool false))), none⟩]
def fn41n43 : ACode := .seq (.region fn41r17 false) (.ret)
def fn41n44 : ACode := .cond (.t 106) (fn41n43) (.skip)
def fn41n45 : ACode := .seq (.region fn41r16 false) (fn41n44)
def fn41r18 : List AO := [⟨some 107, .fa 0 1 (.t 5), none⟩, ⟨some 108, .load false 1 (.t 107), none⟩]
def fn41r19 : List AO := [⟨some 110, .bin .eql (.t 108) (.k (.p (.int .i64 0))), none⟩, ⟨some 109, .mv (.t 110), none⟩]
def fn41r20 : List AO := [⟨some 111, .bin .eql (.t 108) (.k (.p (.int .i64 1))), none⟩, ⟨some 109, .mv (.t 111), none⟩]
def fn41n49 : ACode := .cond (.t 109) (.skip) (.region fn41r20 false)
def fn41n50 : ACode := .seq (.region fn41r19 false) (fn41n49)
def fn41r21 : List AO := [⟨some 112, .mv (.t 10), none⟩, ⟨some 113, .fa 2 1 (.t 5), none⟩, ⟨some 114, .load false 1 (.t 113), none⟩, ⟨some 115, .len (.t 114), none⟩, ⟨some 116, .bin .eql (.t 115) (.k (.p (.int .i64 0))), none⟩, ⟨some 8, .mv (.t 112), none⟩, ⟨some 9, .mv (.t 116), none⟩]
def fn41n52 : ACode := .seq (.region fn41r21 true) (.ret)
def fn41r22 : List AO := [⟨some 118, .bin .eql (.t 108) (.k (.p (.int .i64 5))), none⟩, ⟨some 117, .mv (.t 118), none⟩]
def fn41r23 : List AO := [⟨some 119, .mv (.t 10), none⟩, ⟨some 120, .fa 2 1 (.t 5), none⟩, ⟨some 121, .load false 1 (.t 120), none⟩, ⟨some 122, .len (.t 121), none⟩, ⟨some 123, .bin .eql (.t 122) (.k (.p (.int .i64 1))), none⟩, ⟨some 8, .mv (.t 119), none⟩, ⟨some 9, .mv (.t 123), none⟩]
def fn41n55 : ACode := .seq (.region fn41r23 true) (.ret)
def fn41n56 : ACode := .cond (.t 117) (fn41n55) (.skip)
def fn41n57 : ACode := .seq (.region fn41r22 false) (fn41n56)
def fn41n58 : ACode := .cond (.t 109) (fn41n52) (fn41n57)
def fn41n59 : ACode := .seq (fn41n50) (fn41n58)
def fn41n60 : ACode := .block 2 (fn41n59)
def fn41n61 : ACode := .seq (.region fn41r18 false) (fn41n60)
def fn41r24 : List AO := [⟨some 124, .mv (.t 10), none⟩, ⟨some 125, .fa 0 1 (.t 5), none⟩, ⟨some 126, .load false 1 (.t 125), none⟩, ⟨some 127, .bin .eql (.t 126) (.k (.p (.int .i64 3))), none⟩, ⟨some 128, .mv (.t 127), none⟩, ⟨some 129, .fa 0 1 (.t 5), (some (128, false))⟩, ⟨some 130, .load false 1 (.t 129), (some (128, false))⟩, ⟨some 131, .bin .eql (.t 130) (.k (.p (.int .i64 4))), (some (128, false))⟩, ⟨some 132, .pick (.t 128) (.k (.p (.bool true))) (.t 131), none⟩, ⟨some 8, .mv (.t 124), none⟩, ⟨some 9, .mv (.t 132), none⟩]
def fn41n63 : ACode := .seq (.region fn41r24 true) (.ret)
def fn41n64 : ACode := .seq (fn41n61) (fn41n63)
def fn41n65 : ACode := .seq (fn41n45) (fn41n64)
def fn41n66 : ACode := .seq (fn41n40) (fn41n65)
def fn41n67 : ACode := .seq (fn41n27) (fn41n66)
def fn41n68 : ACode := .seq (.region fn41r1 false) (fn41n67)
def fn41n69 : ACode := .seq (.region fn41r0 false) (fn41n68)
def fn41 : AFun := { nargs := 4, ntmps := 133, results := [.tmp 8, .tmp 9], body := fn41n69 }

/-- credence/circuit.Valid -/
def fn42r0 : List AO := [⟨some 2, .boxP (.t 0), none⟩, ⟨some 3, .boxP (.t 1), none⟩, ⟨some 4, .mv (.k (.p (.bool false))), none⟩]
def fn42r1 : List AO := [⟨some 11, .load true 1 (.t 2), none⟩, ⟨some 12, .call 37 [.t 11], none⟩, ⟨some 13, .un .not (.t 12), none⟩, ⟨some 14, .mv (.t 13), none⟩, ⟨some 15, .fa 0 1 (.t 3), (some (14, false))⟩, ⟨some 16, .load false 1 (.t 15), (some (14, false))⟩, ⟨some 17, .len (.t 16), (some (14, false))⟩, ⟨some 18, .bin .gtr (.t 17) (.k (.p (.int .i64 65536))), (some (14, false))⟩, ⟨some 19, .pick (.t 14) (.k (.p (.bool true))) (.t 18), none⟩]
def fn42r2 : List AO := [⟨some 4, .mv (.k (.p (.bool false))), none⟩]
def fn42n3 : ACode := .seq (.region fn42r2 false) (.ret)
def fn42n4 : ACode := .cond (.t 19) (fn42n3) (.skip)
def fn42n5 : ACode := .seq (.region fn42r1 false) (fn42n4)
def fn42r3 : List AO := [⟨some 5, .mv (.k (.p (.int .i64 0))), none⟩]
def fn42r4 : List AO := [⟨some 20, .fa 0 1 (.t 3), none⟩, ⟨some 21, .load false 1 (.t 20), none⟩, ⟨some 22, .len (.t 21), none⟩, ⟨some 23, .mk 0 1 24 [.e0] (.t 22) (.t 22), none⟩, ⟨some 6, .mv (.t 23), none⟩]
def fn42r5 : List AO := [⟨some 24, .fa 0 1 (.t 3), none⟩, ⟨some 25, .load false 1 (.t 24), none⟩, ⟨some 26, .len (.t 25), none⟩, ⟨some 27, .mv (.k (.p (.int .i64 0))), none⟩]
def fn42r6 : List AO := [⟨some 28, .bin .lss (.t 27) (.t 26), none⟩]
def fn42n10 : ACode := .cond (.t 28) (.skip) (.exit 0)
def fn42r7 : List AO := [⟨some 29, .mv (.t 27), none⟩, ⟨some 30, .ia 3 (.t 25) (.t 27), none⟩, ⟨some 31, .load true 3 (.t 30), none⟩, ⟨some 8, .alloc 1 [.p (.int .i64 0), .p (.int .i64 0), .e0], none⟩, ⟨some 7, .mv (.t 29), none⟩, ⟨none, .store 3 (.t 8) (.t 31), none⟩]
def fn42r8 : List AO := [⟨some 32, .mv (.t 5), none⟩, ⟨some 33, .fa 2 1 (.t 8), none⟩, ⟨some 34, .load false 1 (.t 33), none⟩, ⟨some 35, .len (.t 34), none⟩, ⟨some 36, .bin .add (.t 32) (.t 35), none⟩, ⟨some 5, .mv (.t 36), none⟩]
def fn42r9 : List AO := [⟨some 37, .mv (.t 5), none⟩, ⟨some 38, .bin .gtr (.t 37) (.k (.p (.int .i64 33554432))), none⟩]
def fn42r10 : List AO := [⟨some 4, .mv (.k (.p (.bool false))), none⟩]
def fn42n15 : ACode := .seq (.region fn42r10 false) (.ret)
def fn42n16 : ACode := .cond (.t 38) (fn42n15) (.skip)
def fn42n17 : ACode := .seq (.region fn42r9 false) (fn42n16)
def fn42r11 : List AO := [⟨some 40, .load true 1 (.t 2), none⟩, ⟨some 41, .load true 3 (.t 8), none⟩, ⟨some 42, .mv (.t 7), none⟩, ⟨some 43, .mv (.t 6), none⟩, ⟨some 44, .callR 100 41 [.t 40, .t 41, .t 42, .t 43], none⟩, ⟨some 39, .mv (.t 44), none⟩, ⟨some 45, .ext 0 (.t 39), none⟩, ⟨some 46, .ext 1 (.t 39), none⟩, ⟨some 9, .mv (.t 45), none⟩, ⟨some 10, .mv (.t 46), none⟩]
def fn42r12 : List AO := [⟨some 47, .mv (.t 10), none⟩, ⟨some 48, .un .not (.t 47), none⟩]
def fn42r13 : List AO := [⟨some 4, .mv (.k (.p (.bool false))), none⟩]
def fn42n21 : ACode := .seq (.region fn42r13 false) (.ret)
def fn42n22 : ACode := .cond (.t 48) (fn42n21) (.skip)
def fn42n23 : ACode := .seq (.region fn42r12 false) (fn42n22)
def fn42r14 : List AO := [⟨some 49, .mv (.t 6), none⟩, ⟨some 50, .mv (.t 7), none⟩, ⟨some 51, .mv (.t 9), none⟩, ⟨some 52, .ia 1 (.t 49) (.t 50), none⟩, ⟨none, .store 1 (.t 52) (.t 51), none⟩]
def fn42n25 : ACode := .seq (fn42n23) (.region fn42r14 false)
def fn42n26 : ACode := .seq (.region fn42r11 false) (fn42n25)
def fn42n27 : ACode := .seq (fn42n17) (fn42n26)
def fn42n28 : ACode := .seq (.region fn42r8 false) (fn42n27)
def fn42n29 : ACode := .seq (.region fn42r7 false) (fn42n28)
def fn42n30 : ACode := .block 1 (fn42n29)
def fn42r15 : List AO := [⟨some 53, .bin .add (.t 27) (.k (.p (.int .i64 1))), none⟩, ⟨some 27, .mv (.t 53), none⟩]
def fn42n32 : ACode := .seq (fn42n30) (.region fn42r15 false)
def fn42n33 : ACode := .seq (fn42n10) (fn42n32)
def fn42n34 : ACode := .seq (.region fn42r6 false) (fn42n33)
def fn42n35 : ACode := .loop (fn42n34)
def fn42n36 : ACode := .block 0 (fn42n35)
def fn42n37 : ACode := .seq (.region fn42r5 false) (fn42n36)
def fn42r16 : List AO := [⟨some 4, .mv (.k (.p (.bool true))), none⟩]
def fn42n39 : ACode := .seq (.region fn42r16 false) (.ret)
def fn42n40 : ACode := .seq (fn42n37) (fn42n39)
def fn42n41 : ACode := .seq (.region fn42r4 false) (fn42n40)
def fn42n42 : ACode := .seq (.region fn42r3 false) (fn42n41)
def fn42n43 : ACode := .seq (fn42n5) (fn42n42)
def fn42n44 : ACode := .seq (.region fn42r0 false) (fn42n43)
def fn42 : AFun := { nargs := 2, ntmps := 54, results := [.tmp 4], body := fn42n44 }

/-- credence/credenceref1.NatNorm -/
def fn58r0 : List AO := [⟨some 2, .mv (.k (.e0)), none⟩]
def fn58r1 : List AO := [⟨some 4, .mv (.t 0), none⟩, ⟨some 5, .len (.t 4), none⟩, ⟨some 3, .mv (.t 5), none⟩]
def fn58r2 : List AO := [⟨some 6, .mv (.t 3), none⟩, ⟨some 7, .bin .gtr (.t 6) (.k (.p (.int .i64 0))), none⟩, ⟨some 8, .mv (.t 7), none⟩, ⟨some 9, .mv (.t 0), (some (8, true))⟩, ⟨some 10, .mv (.t 3), (some (8, true))⟩, ⟨some 11, .bin .sub (.t 10) (.k (.p (.int .i64 1))), (some (8, true))⟩, ⟨some 12, .ia 1 (.t 9) (.t 11), (some (8, true))⟩, ⟨some 13, .load false 1 (.t 12), (some (8, true))⟩, ⟨some 14, .bin .eql (.t 13) (.k (.p (.int .u32 0))), (some (8, true))⟩, ⟨some 15, .pick (.t 8) (.t 14) (.k (.p (.bool false))), none⟩]
def fn58n3 : ACode := .cond (.t 15) (.skip) (.exit 0)
def fn58n4 : ACode := .seq (.region fn58r2 false) (fn58n3)
def fn58r3 : List AO := [⟨some 16, .mv (.t 3), none⟩, ⟨some 17, .bin .sub (.t 16) (.k (.p (.int .i64 1))), none⟩, ⟨some 3, .mv (.t 17), none⟩]
def fn58n6 : ACode := .block 1 (.region fn58r3 false)
def fn58n7 : ACode := .seq (fn58n4) (fn58n6)
def fn58n8 : ACode := .loop (fn58n7)
def fn58n9 : ACode := .block 0 (fn58n8)
def fn58r4 : List AO := [⟨some 18, .slO 0 0 1 [] [], none⟩, ⟨some 19, .mv (.t 0), none⟩, ⟨some 20, .mv (.t 3), none⟩, ⟨some 21, .slice 1 (.t 19) none (some (.t 20)) none, none⟩, ⟨some 22, .app 1 1 4 (.t 18) (.t 21), none⟩, ⟨some 2, .mv (.t 22), none⟩]
def fn58n11 : ACode := .seq (.region fn58r4 false) (.ret)
def fn58n12 : ACode := .seq (fn58n9) (fn58n11)
def fn58n13 : ACode := .seq (.region fn58r1 false) (fn58n12)
def fn58n14 : ACode := .seq (.region fn58r0 false) (fn58n13)
def fn58 : AFun := { nargs := 1, ntmps := 23, results := [.tmp 2], body := fn58n14 }

/-- credence/credenceref1.half -/
def fn61r0 : List AO := [⟨some 2, .mv (.k (.e0)), none⟩]
def fn61r1 : List AO := [⟨some 3, .mv (.k (.e0)), none⟩]
def fn61r2 : List AO := [⟨some 4, .mv (.k (.p (.int .i64 0))), none⟩]
def fn61r3 : List AO := [⟨some 6, .mv (.t 4), none⟩, ⟨some 7, .mv (.t 0), none⟩, ⟨some 8, .len (.t 7), none⟩, ⟨some 9, .bin .lss (.t 6) (.t 8), none⟩]
def fn61n4 : ACode := .cond (.t 9) (.skip) (.exit 0)
def fn61n5 : ACode := .seq (.region fn61r3 false) (fn61n4)
def fn61r5 : List AO := [⟨some 12, .mv (.t 0), none⟩, ⟨some 13, .mv (.t 4), none⟩, ⟨some 14, .ia 1 (.t 12) (.t 13), none⟩, ⟨some 15, .load false 1 (.t 14), none⟩, ⟨some 16, .bin .shr (.t 15) (.k (.p (.int .u64 1))), none⟩, ⟨some 5, .mv (.t 16), none⟩]
def fn61r6 : List AO := [⟨some 17, .mv (.t 4), none⟩, ⟨some 18, .bin .add (.t 17) (.k (.p (.int .i64 1))), none⟩, ⟨some 19, .mv (.t 0), none⟩, ⟨some 20, .len (.t 19), none⟩, ⟨some 21, .bin .lss (.t 18) (.t 20), none⟩]
def fn61r7 : List AO := [⟨some 22, .mv (.t 5), none⟩, ⟨some 23, .mv (.t 0), none⟩, ⟨some 24, .mv (.t 4), none⟩, ⟨some 25, .bin .add (.t 24) (.k (.p (.int .i64 1))), none⟩, ⟨some 26, .ia 1 (.t 23) (.t 25), none⟩, ⟨some 27, .load false 1 (.t 26), none⟩, ⟨some 28, .bin .shl (.t 27) (.k (.p (.int .u64 31))), none⟩, ⟨some 29, .bin .or (.t 22) (.t 28), none⟩, ⟨some 5, .mv (.t 29), none⟩]
def fn61n9 : ACode := .cond (.t 21) (.region fn61r7 false) (.skip)
def fn61n10 : ACode := .seq (.region fn61r6 false) (fn61n9)
def fn61r8 : List AO := [⟨some 30, .mv (.t 3), none⟩, ⟨some 31, .mv (.t 5), none⟩, ⟨some 32, .slP 1 1 [.p (.int .u32 0)] [(0, 1, .t 31)], none⟩, ⟨some 33, .app 0 1 4 (.t 30) (.t 32), none⟩, ⟨some 3, .mv (.t 33), none⟩]
def fn61n12 : ACode := .seq (fn61n10) (.region fn61r8 false)
def fn61n13 : ACode := .seq (.region fn61r5 false) (fn61n12)
def fn61n14 : ACode := .block 1 (fn61n13)
def fn61r4 : List AO := [⟨some 10, .mv (.t 4), none⟩, ⟨some 11, .bin .add (.t 10) (.k (.p (.int .i64 1))), none⟩, ⟨some 4, .mv (.t 11), none⟩]
def fn61n16 : ACode := .seq (fn61n14) (.region fn61r4 false)
def fn61n17 : ACode := .seq (fn61n5) (fn61n16)
def fn61n18 : ACode := .loop (fn61n17)
def fn61n19 : ACode := .block 0 (fn61n18)
def fn61n20 : ACode := .seq (.region fn61r2 false) (fn61n19)
def fn61r9 : List AO := [⟨some 34, .mv (.t 3), none⟩, ⟨some 35, .callR 100 58 [.t 34], none⟩, ⟨some 2, .mv (.t 35), none⟩]
def fn61n22 : ACode := .seq (.region fn61r9 false) (.ret)
def fn61n23 : ACode := .seq (fn61n20) (fn61n22)
def fn61n24 : ACode := .seq (.region fn61r1 false) (fn61n23)
def fn61n25 : ACode := .seq (.region fn61r0 false) (fn61n24)
def fn61 : AFun := { nargs := 1, ntmps := 36, results := [.tmp 2], body := fn61n25 }

/-- credence/credenceref1.NatCmp -/
def fn62r0 : List AO := [⟨some 4, .mv (.k (.p (.int .i64 0))), none⟩]
def fn62r1 : List AO := [⟨some 8, .mv (.t 0), none⟩, ⟨some 9, .call 58 [.t 8], none⟩, ⟨some 10, .mv (.t 1), none⟩, ⟨some 11, .call 58 [.t 10], none⟩, ⟨some 5, .mv (.t 9), none⟩, ⟨some 6, .mv (.t 11), none⟩]
def fn62r2 : List AO := [⟨some 12, .mv (.t 5), none⟩, ⟨some 13, .len (.t 12), none⟩, ⟨some 14, .mv (.t 6), none⟩, ⟨some 15, .len (.t 14), none⟩, ⟨some 16, .bin .neq (.t 13) (.t 15), none⟩]
def fn62r3 : List AO := [⟨some 17, .mv (.t 5), none⟩, ⟨some 18, .len (.t 17), none⟩, ⟨some 19, .mv (.t 6), none⟩, ⟨some 20, .len (.t 19), none⟩, ⟨some 21, .bin .lss (.t 18) (.t 20), none⟩]
def fn62r4 : List AO := [⟨some 4, .mv (.k (.p (.int .i64 (-1)))), none⟩]
def fn62n5 : ACode := .seq (.region fn62r4 false) (.ret)
def fn62n6 : ACode := .cond (.t 21) (fn62n5) (.skip)
def fn62n7 : ACode := .seq (.region fn62r3 false) (fn62n6)
def fn62r5 : List AO := [⟨some 4, .mv (.k (.p (.int .i64 1))), none⟩]
def fn62n9 : ACode := .seq (.region fn62r5 false) (.ret)
def fn62n10 : ACode := .seq (fn62n7) (fn62n9)
def fn62n11 : ACode := .cond (.t 16) (fn62n10) (.skip)
def fn62n12 : ACode := .seq (.region fn62r2 false) (fn62n11)
def fn62r6 : List AO := [⟨some 22, .mv (.t 5), none⟩, ⟨some 23, .len (.t 22), none⟩, ⟨some 24, .bin .sub (.t 23) (.k (.p (.int .i64 1))), none⟩, ⟨some 7, .mv (.t 24), none⟩]
def fn62r7 : List AO := [⟨some 25, .mv (.t 7), none⟩, ⟨some 26, .bin .geq (.t 25) (.k (.p (.int .i64 0))), none⟩]
def fn62n15 : ACode := .cond (.t 26) (.skip) (.exit 0)
def fn62n16 : ACode := .seq (.region fn62r7 false) (fn62n15)
def fn62r9 : List AO := [⟨some 29, .mv (.t 5), none⟩, ⟨some 30, .mv (.t 7), none⟩, ⟨some 31, .ia 1 (.t 29) (.t 30), none⟩, ⟨some 32, .load false 1 (.t 31), none⟩, ⟨some 33, .mv (.t 6), none⟩, ⟨some 34, .mv (.t 7), none⟩, ⟨some 35, .ia 1 (.t 33) (.t 34), none⟩, ⟨some 36, .load false 1 (.t 35), none⟩, ⟨some 37, .bin .lss (.t 32) (.t 36), none⟩]
def fn62r10 : List AO := [⟨some 4, .mv (.k (.p (.int .i64 (-1)))), none⟩]
def fn62n19 : ACode := .seq (.region fn62r10 false) (.ret)
def fn62n20 : ACode := .cond (.t 37) (fn62n19) (.skip)
def fn62n21 : ACode := .seq (.region fn62r9 true) (fn62n20)
def fn62r11 : List AO := [⟨some 38, .mv (.t 5), none⟩, ⟨some 39, .mv (.t 7), none⟩, ⟨some 40, .ia 1 (.t 38) (.t 39), none⟩, ⟨some 41, .load false 1 (.t 40), none⟩, ⟨some 42, .mv (.t 6), none⟩, ⟨some 43, .mv (.t 7), none⟩, ⟨some 44, .ia 1 (.t 42) (.t 43), none⟩, ⟨some 45, .load false 1 (.t 44), none⟩, ⟨some 46, .bin .gtr (.t 41) (.t 45), none⟩]
def fn62r12 : List AO := [⟨some 4, .mv (.k (.p (.int .i64 1))), none⟩]
def fn62n24 : ACode := .seq (.region fn62r12 false) (.ret)
def fn62n25 : ACode := .cond (.t 46) (fn62n24) (.skip)
def fn62n26 : ACode := .seq (.region fn62r11 true) (fn62n25)
def fn62n27 : ACode := .seq (fn62n21) (fn62n26)
def fn62n28 : ACode := .block 1 (fn62n27)
def fn62r8 : List AO := [⟨some 27, .mv (.t 7), none⟩, ⟨some 28, .bin .sub (.t 27) (.k (.p (.int .i64 1))), none⟩, ⟨some 7, .mv (.t 28), none⟩]
def fn62n30 : ACode := .seq (fn62n28) (.region fn62r8 false)
def fn62n31 : ACode := .seq (fn62n16) (fn62n30)
def fn62n32 : ACode := .loop (fn62n31)
def fn62n33 : ACode := .block 0 (fn62n32)
def fn62n34 : ACode := .seq (.region fn62r6 false) (fn62n33)
def fn62r13 : List AO := [⟨some 4, .mv (.k (.p (.int .i64 0))), none⟩]
def fn62n36 : ACode := .seq (.region fn62r13 false) (.ret)
def fn62n37 : ACode := .seq (fn62n34) (fn62n36)
def fn62n38 : ACode := .seq (fn62n12) (fn62n37)
def fn62n39 : ACode := .seq (.region fn62r1 false) (fn62n38)
def fn62n40 : ACode := .seq (.region fn62r0 false) (fn62n39)
def fn62 : AFun := { nargs := 2, ntmps := 47, results := [.tmp 4], body := fn62n40 }

/-- credence/credenceref1.NatSub -/
def fn63r0 : List AO := [⟨some 4, .mv (.k (.e0)), none⟩, ⟨some 5, .mv (.k (.p (.bool false))), none⟩]
def fn63r1 : List AO := [⟨some 11, .mv (.t 0), none⟩, ⟨some 12, .mv (.t 1), none⟩, ⟨some 13, .call 62 [.t 11, .t 12], none⟩, ⟨some 14, .bin .lss (.t 13) (.k (.p (.int .i64 0))), none⟩]
def fn63r2 : List AO := [⟨some 4, .mv (.k (.e0)), none⟩, ⟨some 5, .mv (.k (.p (.bool false))), none⟩]
def fn63n3 : ACode := .seq (.region fn63r2 false) (.ret)
def fn63n4 : ACode := .cond (.t 14) (fn63n3) (.skip)
def fn63n5 : ACode := .seq (.region fn63r1 false) (fn63n4)
def fn63r3 : List AO := [⟨some 15, .mv (.t 0), none⟩, ⟨some 16, .callR 100 58 [.t 15], none⟩, ⟨some 17, .mv (.t 1), none⟩, ⟨some 18, .call 58 [.t 17], none⟩, ⟨some 6, .mv (.t 16), none⟩, ⟨some 7, .mv (.t 18), none⟩]
def fn63r4 : List AO := [⟨some 8, .mv (.k (.p (.int .u64 0))), none⟩]
def fn63r5 : List AO := [⟨some 9, .mv (.k (.p (.int .i64 0))), none⟩]
def fn63r6 : List AO := [⟨some 19, .mv (.t 9), none⟩, ⟨some 20, .mv (.t 6), none⟩, ⟨some 21, .len (.t 20), none⟩, ⟨some 22, .bin .lss (.t 19) (.t 21), none⟩]
def fn63n10 : ACode := .cond (.t 22) (.skip) (.exit 0)
def fn63n11 : ACode := .seq (.region fn63r6 false) (fn63n10)
def fn63r8 : List AO := [⟨some 25, .mv (.t 8), none⟩, ⟨some 10, .mv (.t 25), none⟩]
def fn63r9 : List AO := [⟨some 26, .mv (.t 9), none⟩, ⟨some 27, .mv (.t 7), none⟩, ⟨some 28, .len (.t 27), none⟩, ⟨some 29, .bin .lss (.t 26) (.t 28), none⟩]
def fn63r10 : List AO := [⟨some 30, .mv (.t 10), none⟩, ⟨some 31, .mv (.t 7), none⟩, ⟨some 32, .mv (.t 9), none⟩, ⟨some 33, .ia 1 (.t 31) (.t 32), none⟩, ⟨some 34, .load false 1 (.t 33), none⟩, ⟨some 35, .conv .u64 (.t 34), none⟩, ⟨some 36, .bin .add (.t 30) (.t 35), none⟩, ⟨some 10, .mv (.t 36), none⟩]
def fn63n15 : ACode := .cond (.t 29) (.region fn63r10 false) (.skip)
def fn63n16 : ACode := .seq (.region fn63r9 false) (fn63n15)
def fn63r11 : List AO := [⟨some 8, .mv (.k (.p (.int .u64 0))), none⟩]
def fn63r12 : List AO := [⟨some 37, .mv (.t 6), none⟩, ⟨some 38, .mv (.t 9), none⟩, ⟨some 39, .ia 1 (.t 37) (.t 38), none⟩, ⟨some 40, .load false 1 (.t 39), none⟩, ⟨some 41, .conv .u64 (.t 40), none⟩, ⟨some 42, .mv (.t 10), none⟩, ⟨some 43, .bin .lss (.t 41) (.t 42), none⟩]
def fn63r13 : List AO := [⟨some 8, .mv (.k (.p (.int .u64 1))), none⟩]
def fn63n20 : ACode := .cond (.t 43) (.region fn63r13 false) (.skip)
def fn63n21 : ACode := .seq (.region fn63r12 false) (fn63n20)
def fn63r14 : List AO := [⟨some 44, .mv (.t 6), none⟩, ⟨some 45, .mv (.t 9), none⟩, ⟨some 46, .mv (.t 6), none⟩, ⟨some 47, .mv (.t 9), none⟩, ⟨some 48, .ia 1 (.t 46) (.t 47), none⟩, ⟨some 49, .load false 1 (.t 48), none⟩, ⟨some 50, .conv .u64 (.t 49), none⟩, ⟨some 51, .mv (.t 8), none⟩, ⟨some 52, .bin .shl (.t 51) (.k (.p (.int .u64 32))), none⟩, ⟨some 53, .bin .add (.t 50) (.t 52), none⟩, ⟨some 54, .mv (.t 10), none⟩, ⟨some 55, .bin .sub (.t 53) (.t 54), none⟩, ⟨some 56, .conv .u32 (.t 55), none⟩, ⟨some 57, .ia 1 (.t 44) (.t 45), none⟩, ⟨none, .store 1 (.t 57) (.t 56), none⟩]
def fn63n23 : ACode := .seq (fn63n21) (.region fn63r14 false)
def fn63n24 : ACode := .seq (.region fn63r11 false) (fn63n23)
def fn63n25 : ACode := .seq (fn63n16) (fn63n24)
def fn63n26 : ACode := .seq (.region fn63r8 false) (fn63n25)
def fn63n27 : ACode := .block 1 (fn63n26)
def fn63r7 : List AO := [⟨some 23, .mv (.t 9), none⟩, ⟨some 24, .bin .add (.t 23) (.k (.p (.int .i64 1))), none⟩, ⟨some 9, .mv (.t 24), none⟩]
def fn63n29 : ACode := .seq (fn63n27) (.region fn63r7 false)
def fn63n30 : ACode := .seq (fn63n11) (fn63n29)
def fn63n31 : ACode := .loop (fn63n30)
def fn63n32 : ACode := .block 0 (fn63n31)
def fn63n33 : ACode := .seq (.region fn63r5 false) (fn63n32)
def fn63r15 : List AO := [⟨some 58, .mv (.t 6), none⟩, ⟨some 59, .callR 200 58 [.t 58], none⟩, ⟨some 4, .mv (.t 59), none⟩, ⟨some 5, .mv (.k (.p (.bool true))), none⟩]
def fn63n35 : ACode := .seq (.region fn63r15 false) (.ret)
def fn63n36 : ACode := .seq (fn63n33) (fn63n35)
def fn63n37 : ACode := .seq (.region fn63r4 false) (fn63n36)
def fn63n38 : ACode := .seq (.region fn63r3 false) (fn63n37)
def fn63n39 : ACode := .seq (fn63n5) (fn63n38)
def fn63n40 : ACode := .seq (.region fn63r0 false) (fn63n39)
def fn63 : AFun := { nargs := 2, ntmps := 60, results := [.tmp 4, .tmp 5], body := fn63n40 }

/-- credence/credenceref1.double -/
def fn64r0 : List AO := [⟨some 4, .mv (.k (.e0)), none⟩]
def fn64r1 : List AO := [⟨some 5, .mv (.k (.e0)), none⟩]
def fn64r2 : List AO := [⟨some 6, .mv (.k (.p (.int .i64 0))), none⟩]
def fn64r3 : List AO := [⟨some 7, .mv (.t 6), none⟩, ⟨some 8, .mv (.t 0), none⟩, ⟨some 9, .len (.t 8), none⟩, ⟨some 10, .bin .lss (.t 7) (.t 9), none⟩]
def fn64n4 : ACode := .cond (.t 10) (.skip) (.exit 0)
def fn64n5 : ACode := .seq (.region fn64r3 false) (fn64n4)
def fn64r5 : List AO := [⟨some 13, .mv (.t 5), none⟩, ⟨some 14, .mv (.t 0), none⟩, ⟨some 15, .mv (.t 6), none⟩, ⟨some 16, .ia 1 (.t 14) (.t 15), none⟩, ⟨some 17, .load false 1 (.t 16), none⟩, ⟨some 18, .bin .shl (.t 17) (.k (.p (.int .u64 1))), none⟩, ⟨some 19, .mv (.t 1), none⟩, ⟨some 20, .bin .or (.t 18) (.t 19), none⟩, ⟨some 21, .slP 1 1 [.p (.int .u32 0)] [(0, 1, .t 20)], none⟩, ⟨some 22, .app 0 1 4 (.t 13) (.t 21), none⟩, ⟨some 5, .mv (.t 22), none⟩]
def fn64r6 : List AO := [⟨some 23, .mv (.t 0), none⟩, ⟨some 24, .mv (.t 6), none⟩, ⟨some 25, .ia 1 (.t 23) (.t 24), none⟩, ⟨some 26, .load false 1 (.t 25), none⟩, ⟨some 27, .bin .shr (.t 26) (.k (.p (.int .u64 31))), none⟩, ⟨some 1, .mv (.t 27), none⟩]
def fn64n8 : ACode := .seq (.region fn64r5 false) (.region fn64r6 false)
def fn64n9 : ACode := .block 1 (fn64n8)
def fn64r4 : List AO := [⟨some 11, .mv (.t 6), none⟩, ⟨some 12, .bin .add (.t 11) (.k (.p (.int .i64 1))), none⟩, ⟨some 6, .mv (.t 12), none⟩]
def fn64n11 : ACode := .seq (fn64n9) (.region fn64r4 false)
def fn64n12 : ACode := .seq (fn64n5) (fn64n11)
def fn64n13 : ACode := .loop (fn64n12)
def fn64n14 : ACode := .block 0 (fn64n13)
def fn64n15 : ACode := .seq (.region fn64r2 false) (fn64n14)
def fn64r7 : List AO := [⟨some 28, .mv (.t 5), none⟩, ⟨some 29, .mv (.t 1), none⟩, ⟨some 30, .slP 1 1 [.p (.int .u32 0)] [(0, 1, .t 29)], none⟩, ⟨some 31, .app 1 1 4 (.t 28) (.t 30), none⟩, ⟨some 32, .callR 100 58 [.t 31], none⟩, ⟨some 4, .mv (.t 32), none⟩]
def fn64n17 : ACode := .seq (.region fn64r7 false) (.ret)
def fn64n18 : ACode := .seq (fn64n15) (fn64n17)
def fn64n19 : ACode := .seq (.region fn64r1 false) (fn64n18)
def fn64n20 : ACode := .seq (.region fn64r0 false) (fn64n19)
def fn64 : AFun := { nargs := 2, ntmps := 33, results := [.tmp 4], body := fn64n20 }

/-- credence/credenceref1.NatGCD -/
def fn65r0 : List AO := [⟨some 4, .mv (.k (.e0)), none⟩]
def fn65r1 : List AO := [⟨some 9, .mv (.t 0), none⟩, ⟨some 10, .call 58 [.t 9], none⟩, ⟨some 11, .mv (.t 1), none⟩, ⟨some 12, .call 58 [.t 11], none⟩, ⟨some 5, .mv (.t 10), none⟩, ⟨some 6, .mv (.t 12), none⟩]
def fn65r2 : List AO := [⟨some 13, .mv (.t 5), none⟩, ⟨some 14, .len (.t 13), none⟩, ⟨some 15, .bin .eql (.t 14) (.k (.p (.int .i64 0))), none⟩]
def fn65r3 : List AO := [⟨some 16, .mv (.t 6), none⟩, ⟨some 4, .mv (.t 16), none⟩]
def fn65n4 : ACode := .seq (.region fn65r3 false) (.ret)
def fn65n5 : ACode := .cond (.t 15) (fn65n4) (.skip)
def fn65n6 : ACode := .seq (.region fn65r2 false) (fn65n5)
def fn65r4 : List AO := [⟨some 17, .mv (.t 6), none⟩, ⟨some 18, .len (.t 17), none⟩, ⟨some 19, .bin .eql (.t 18) (.k (.p (.int .i64 0))), none⟩]
def fn65r5 : List AO := [⟨some 20, .mv (.t 5), none⟩, ⟨some 4, .mv (.t 20), none⟩]
def fn65n9 : ACode := .seq (.region fn65r5 false) (.ret)
def fn65n10 : ACode := .cond (.t 19) (fn65n9) (.skip)
def fn65n11 : ACode := .seq (.region fn65r4 false) (fn65n10)
def fn65r6 : List AO := [⟨some 7, .mv (.k (.p (.int .i64 0))), none⟩]
def fn65r7 : List AO := [⟨some 21, .mv (.t 5), none⟩, ⟨some 22, .ia 1 (.t 21) (.k (.p (.int .i64 0))), none⟩, ⟨some 23, .load false 1 (.t 22), none⟩, ⟨some 24, .bin .and (.t 23) (.k (.p (.int .u32 1))), none⟩, ⟨some 25, .bin .eql (.t 24) (.k (.p (.int .u32 0))), none⟩, ⟨some 26, .mv (.t 25), none⟩, ⟨some 27, .mv (.t 6), (some (26, true))⟩, ⟨some 28, .ia 1 (.t 27) (.k (.p (.int .i64 0))), (some (26, true))⟩, ⟨some 29, .load false 1 (.t 28), (some (26, true))⟩, ⟨some 30, .bin .and (.t 29) (.k (.p (.int .u32 1))), (some (26, true))⟩, ⟨some 31, .bin .eql (.t 30) (.k (.p (.int .u32 0))), (some (26, true))⟩, ⟨some 32, .pick (.t 26) (.t 31) (.k (.p (.bool false))), none⟩]
def fn65n14 : ACode := .cond (.t 32) (.skip) (.exit 0)
def fn65n15 : ACode := .seq (.region fn65r7 false) (fn65n14)
def fn65r8 : List AO := [⟨some 33, .mv (.t 5), none⟩, ⟨some 34, .call 61 [.t 33], none⟩, ⟨some 35, .mv (.t 6), none⟩, ⟨some 36, .call 61 [.t 35], none⟩, ⟨some 5, .mv (.t 34), none⟩, ⟨some 6, .mv (.t 36), none⟩]
def fn65r9 : List AO := [⟨some 37, .mv (.t 7), none⟩, ⟨some 38, .bin .add (.t 37) (.k (.p (.int .i64 1))), none⟩, ⟨some 7, .mv (.t 38), none⟩]
def fn65n18 : ACode := .seq (.region fn65r8 false) (.region fn65r9 false)
def fn65n19 : ACode := .block 1 (fn65n18)
def fn65n20 : ACode := .seq (fn65n15) (fn65n19)
def fn65n21 : ACode := .loop (fn65n20)
def fn65n22 : ACode := .block 0 (fn65n21)
def fn65r10 : List AO := [⟨some 39, .mv (.t 6), none⟩, ⟨some 40, .len (.t 39), none⟩, ⟨some 41, .bin .gtr (.t 40) (.k (.p (.int .i64 0))), none⟩]
def fn65n24 : ACode := .cond (.t 41) (.skip) (.exit 2)
def fn65n25 : ACode := .seq (.region fn65r10 false) (fn65n24)
def fn65r11 : List AO := [⟨some 42, .mv (.t 5), none⟩, ⟨some 43, .ia 1 (.t 42) (.k (.p (.int .i64 0))), none⟩, ⟨some 44, .load false 1 (.t 43), none⟩, ⟨some 45, .bin .and (.t 44) (.k (.p (.int .u32 1))), none⟩, ⟨some 46, .bin .eql (.t 45) (.k (.p (.int .u32 0))), none⟩]
def fn65n27 : ACode := .cond (.t 46) (.skip) (.exit 4)
def fn65n28 : ACode := .seq (.region fn65r11 false) (fn65n27)
def fn65r12 : List AO := [⟨some 47, .mv (.t 5), none⟩, ⟨some 48, .call 61 [.t 47], none⟩, ⟨some 5, .mv (.t 48), none⟩]
def fn65n30 : ACode := .block 5 (.region fn65r12 false)
def fn65n31 : ACode := .seq (fn65n28) (fn65n30)
def fn65n32 : ACode := .loop (fn65n31)
def fn65n33 : ACode := .block 4 (fn65n32)
def fn65r13 : List AO := [⟨some 49, .mv (.t 6), none⟩, ⟨some 50, .ia 1 (.t 49) (.k (.p (.int .i64 0))), none⟩, ⟨some 51, .load false 1 (.t 50), none⟩, ⟨some 52, .bin .and (.t 51) (.k (.p (.int .u32 1))), none⟩, ⟨some 53, .bin .eql (.t 52) (.k (.p (.int .u32 0))), none⟩]
def fn65n35 : ACode := .cond (.t 53) (.skip) (.exit 6)
def fn65n36 : ACode := .seq (.region fn65r13 false) (fn65n35)
def fn65r14 : List AO := [⟨some 54, .mv (.t 6), none⟩, ⟨some 55, .call 61 [.t 54], none⟩, ⟨some 6, .mv (.t 55), none⟩]
def fn65n38 : ACode := .block 7 (.region fn65r14 false)
def fn65n39 : ACode := .seq (fn65n36) (fn65n38)
def fn65n40 : ACode := .loop (fn65n39)
def fn65n41 : ACode := .block 6 (fn65n40)
def fn65r15 : List AO := [⟨some 56, .mv (.t 5), none⟩, ⟨some 57, .mv (.t 6), none⟩, ⟨some 58, .call 62 [.t 56, .t 57], none⟩, ⟨some 59, .bin .gtr (.t 58) (.k (.p (.int .i64 0))), none⟩]
def fn65r16 : List AO := [⟨some 60, .mv (.t 6), none⟩, ⟨some 61, .mv (.t 5), none⟩, ⟨some 5, .mv (.t 60), none⟩, ⟨some 6, .mv (.t 61), none⟩]
def fn65n44 : ACode := .cond (.t 59) (.region fn65r16 false) (.skip)
def fn65n45 : ACode := .seq (.region fn65r15 false) (fn65n44)
def fn65r17 : List AO := [⟨some 63, .mv (.t 6), none⟩, ⟨some 64, .mv (.t 5), none⟩, ⟨some 65, .call 63 [.t 63, .t 64], none⟩, ⟨some 62, .mv (.t 65), none⟩, ⟨some 66, .ext 0 (.t 62), none⟩, ⟨some 67, .ext 1 (.t 62), none⟩, ⟨some 6, .mv (.t 66), none⟩]
def fn65n47 : ACode := .seq (fn65n45) (.region fn65r17 false)
def fn65n48 : ACode := .seq (fn65n41) (fn65n47)
def fn65n49 : ACode := .seq (fn65n33) (fn65n48)
def fn65n50 : ACode := .block 3 (fn65n49)
def fn65n51 : ACode := .seq (fn65n25) (fn65n50)
def fn65n52 : ACode := .loop (fn65n51)
def fn65n53 : ACode := .block 2 (fn65n52)
def fn65r18 : List AO := [⟨some 8, .mv (.k (.p (.int .i64 0))), none⟩]
def fn65r19 : List AO := [⟨some 68, .mv (.t 8), none⟩, ⟨some 69, .mv (.t 7), none⟩, ⟨some 70, .bin .lss (.t 68) (.t 69), none⟩]
def fn65n56 : ACode := .cond (.t 70) (.skip) (.exit 8)
def fn65n57 : ACode := .seq (.region fn65r19 false) (fn65n56)
def fn65r21 : List AO := [⟨some 73, .mv (.t 5), none⟩, ⟨some 74, .call 64 [.t 73, .k (.p (.int .u32 0))], none⟩, ⟨some 5, .mv (.t 74), none⟩]
def fn65n59 : ACode := .block 9 (.region fn65r21 false)
def fn65r20 : List AO := [⟨some 71, .mv (.t 8), none⟩, ⟨some 72, .bin .add (.t 71) (.k (.p (.int .i64 1))), none⟩, ⟨some 8, .mv (.t 72), none⟩]
def fn65n61 : ACode := .seq (fn65n59) (.region fn65r20 false)
def fn65n62 : ACode := .seq (fn65n57) (fn65n61)
def fn65n63 : ACode := .loop (fn65n62)
def fn65n64 : ACode := .block 8 (fn65n63)
def fn65n65 : ACode := .seq (.region fn65r18 false) (fn65n64)
def fn65r22 : List AO := [⟨some 75, .mv (.t 5), none⟩, ⟨some 4, .mv (.t 75), none⟩]
def fn65n67 : ACode := .seq (.region fn65r22 false) (.ret)
def fn65n68 : ACode := .seq (fn65n65) (fn65n67)
def fn65n69 : ACode := .seq (fn65n53) (fn65n68)
def fn65n70 : ACode := .seq (fn65n22) (fn65n69)
def fn65n71 : ACode := .seq (.region fn65r6 false) (fn65n70)
def fn65n72 : ACode := .seq (fn65n11) (fn65n71)
def fn65n73 : ACode := .seq (fn65n6) (fn65n72)
def fn65n74 : ACode := .seq (.region fn65r1 false) (fn65n73)
def fn65n75 : ACode := .seq (.region fn65r0 false) (fn65n74)
def fn65 : AFun := { nargs := 2, ntmps := 76, results := [.tmp 4], body := fn65n75 }

/-- credence/credenceref1.NatDivMod -/
def fn66r0 : List AO := [⟨some 4, .mv (.k (.e0)), none⟩, ⟨some 5, .mv (.k (.e0)), none⟩, ⟨some 6, .mv (.k (.p (.bool false))), none⟩]
def fn66r1 : List AO := [⟨some 12, .mv (.t 0), none⟩, ⟨some 13, .call 58 [.t 12], none⟩, ⟨some 14, .mv (.t 1), none⟩, ⟨some 15, .call 58 [.t 14], none⟩, ⟨some 7, .mv (.t 13), none⟩, ⟨some 8, .mv (.t 15), none⟩]
def fn66r2 : List AO := [⟨some 16, .mv (.t 8), none⟩, ⟨some 17, .len (.t 16), none⟩, ⟨some 18, .bin .eql (.t 17) (.k (.p (.int .i64 0))), none⟩]
def fn66r3 : List AO := [⟨some 4, .mv (.k (.e0)), none⟩, ⟨some 5, .mv (.k (.e0)), none⟩, ⟨some 6, .mv (.k (.p (.bool false))), none⟩]
def fn66n4 : ACode := .seq (.region fn66r3 false) (.ret)
def fn66n5 : ACode := .cond (.t 18) (fn66n4) (.skip)
def fn66n6 : ACode := .seq (.region fn66r2 false) (fn66n5)
def fn66r4 : List AO := [⟨some 19, .mv (.t 7), none⟩, ⟨some 20, .len (.t 19), none⟩, ⟨some 21, .mk 0 1 4 [.p (.int .u32 0)] (.t 20) (.t 20), none⟩, ⟨some 9, .mv (.t 21), none⟩]
def fn66r5 : List AO := [⟨some 10, .mv (.k (.e0)), none⟩]
def fn66r6 : List AO := [⟨some 22, .mv (.t 7), none⟩, ⟨some 23, .len (.t 22), none⟩, ⟨some 24, .bin .mul (.k (.p (.int .i64 32))) (.t 23), none⟩, ⟨some 25, .bin .sub (.t 24) (.k (.p (.int .i64 1))), none⟩, ⟨some 11, .mv (.t 25), none⟩]
def fn66r7 : List AO := [⟨some 26, .mv (.t 11), none⟩, ⟨some 27, .bin .geq (.t 26) (.k (.p (.int .i64 0))), none⟩]
def fn66n11 : ACode := .cond (.t 27) (.skip) (.exit 0)
def fn66n12 : ACode := .seq (.region fn66r7 false) (fn66n11)
def fn66r9 : List AO := [⟨some 30, .mv (.t 10), none⟩, ⟨some 31, .mv (.t 7), none⟩, ⟨some 32, .mv (.t 11), none⟩, ⟨some 33, .bin .quo (.t 32) (.k (.p (.int .i64 32))), none⟩, ⟨some 34, .ia 1 (.t 31) (.t 33), none⟩, ⟨some 35, .load false 1 (.t 34), none⟩, ⟨some 36, .mv (.t 11), none⟩, ⟨some 37, .bin .rem (.t 36) (.k (.p (.int .i64 32))), none⟩, ⟨some 38, .conv .u64 (.t 37), none⟩, ⟨some 39, .bin .shr (.t 35) (.t 38), none⟩, ⟨some 40, .bin .and (.t 39) (.k (.p (.int .u32 1))), none⟩, ⟨some 41, .call 64 [.t 30, .t 40], none⟩, ⟨some 10, .mv (.t 41), none⟩]
def fn66r10 : List AO := [⟨some 42, .mv (.t 10), none⟩, ⟨some 43, .mv (.t 8), none⟩, ⟨some 44, .call 62 [.t 42, .t 43], none⟩, ⟨some 45, .bin .geq (.t 44) (.k (.p (.int .i64 0))), none⟩]
def fn66r11 : List AO := [⟨some 47, .mv (.t 10), none⟩, ⟨some 48, .mv (.t 8), none⟩, ⟨some 49, .call 63 [.t 47, .t 48], none⟩, ⟨some 46, .mv (.t 49), none⟩, ⟨some 50, .ext 0 (.t 46), none⟩, ⟨some 51, .ext 1 (.t 46), none⟩, ⟨some 10, .mv (.t 50), none⟩]
def fn66r12 : List AO := [⟨some 52, .mv (.t 9), none⟩, ⟨some 53, .mv (.t 11), none⟩, ⟨some 54, .bin .quo (.t 53) (.k (.p (.int .i64 32))), none⟩, ⟨some 55, .mv (.t 9), none⟩, ⟨some 56, .mv (.t 11), none⟩, ⟨some 57, .bin .quo (.t 56) (.k (.p (.int .i64 32))), none⟩, ⟨some 58, .ia 1 (.t 55) (.t 57), none⟩, ⟨some 59, .load false 1 (.t 58), none⟩, ⟨some 60, .mv (.t 11), none⟩, ⟨some 61, .bin .rem (.t 60) (.k (.p (.int .i64 32))), none⟩, ⟨some 62, .conv .u64 (.t 61), none⟩, ⟨some 63, .bin .shl (.k (.p (.int .u32 1))) (.t 62), none⟩, ⟨some 64, .bin .or (.t 59) (.t 63), none⟩, ⟨some 65, .ia 1 (.t 52) (.t 54), none⟩, ⟨none, .store 1 (.t 65) (.t 64), none⟩]
def fn66n17 : ACode := .seq (.region fn66r11 false) (.region fn66r12 false)
def fn66n18 : ACode := .cond (.t 45) (fn66n17) (.skip)
def fn66n19 : ACode := .seq (.region fn66r10 false) (fn66n18)
def fn66n20 : ACode := .seq (.region fn66r9 false) (fn66n19)
def fn66n21 : ACode := .block 1 (fn66n20)
def fn66r8 : List AO := [⟨some 28, .mv (.t 11), none⟩, ⟨some 29, .bin .sub (.t 28) (.k (.p (.int .i64 1))), none⟩, ⟨some 11, .mv (.t 29), none⟩]
def fn66n23 : ACode := .seq (fn66n21) (.region fn66r8 false)
def fn66n24 : ACode := .seq (fn66n12) (fn66n23)
def fn66n25 : ACode := .loop (fn66n24)
def fn66n26 : ACode := .block 0 (fn66n25)
def fn66n27 : ACode := .seq (.region fn66r6 false) (fn66n26)
def fn66r13 : List AO := [⟨some 66, .mv (.t 9), none⟩, ⟨some 67, .callR 100 58 [.t 66], none⟩, ⟨some 68, .mv (.t 10), none⟩, ⟨some 69, .call 58 [.t 68], none⟩, ⟨some 4, .mv (.t 67), none⟩, ⟨some 5, .mv (.t 69), none⟩, ⟨some 6, .mv (.k (.p (.bool true))), none⟩]
def fn66n29 : ACode := .seq (.region fn66r13 false) (.ret)
def fn66n30 : ACode := .seq (fn66n27) (fn66n29)
def fn66n31 : ACode := .seq (.region fn66r5 false) (fn66n30)
def fn66n32 : ACode := .seq (.region fn66r4 false) (fn66n31)
def fn66n33 : ACode := .seq (fn66n6) (fn66n32)
def fn66n34 : ACode := .seq (.region fn66r1 false) (fn66n33)
def fn66n35 : ACode := .seq (.region fn66r0 false) (fn66n34)
def fn66 : AFun := { nargs := 2, ntmps := 70, results := [.tmp 4, .tmp 5, .tmp 6], body := fn66n35 }

/-- credence/credenceref1.NatOf -/
def fn59r0 : List AO := [⟨some 2, .mv (.k (.e0)), none⟩]
def fn59r1 : List AO := [⟨some 3, .mv (.t 0), none⟩, ⟨some 4, .conv .u32 (.t 3), none⟩, ⟨some 5, .mv (.t 0), none⟩, ⟨some 6, .bin .shr (.t 5) (.k (.p (.int .u64 32))), none⟩, ⟨some 7, .conv .u32 (.t 6), none⟩, ⟨some 8, .slP 2 1 [.p (.int .u32 0), .p (.int .u32 0)] [(0, 1, .t 4), (1, 1, .t 7)], none⟩, ⟨some 9, .call 58 [.t 8], none⟩, ⟨some 2, .mv (.t 9), none⟩]
def fn59n2 : ACode := .seq (.region fn59r1 false) (.ret)
def fn59n3 : ACode := .seq (.region fn59r0 false) (fn59n2)
def fn59 : AFun := { nargs := 1, ntmps := 10, results := [.tmp 2], body := fn59n3 }

/-- credence/credenceref1.frac -/
def fn67r0 : List AO := [⟨some 6, .alloc 0 [.p (.bool false), .e0, .e0], none⟩]
def fn67r1 : List AO := [⟨some 14, .mv (.t 1), none⟩, ⟨some 15, .mv (.t 2), none⟩, ⟨some 16, .call 65 [.t 14, .t 15], none⟩, ⟨some 7, .mv (.t 16), none⟩]
def fn67r2 : List AO := [⟨some 18, .mv (.t 1), none⟩, ⟨some 19, .mv (.t 7), none⟩, ⟨some 20, .call 66 [.t 18, .t 19], none⟩, ⟨some 17, .mv (.t 20), none⟩, ⟨some 21, .ext 0 (.t 17), none⟩, ⟨some 22, .ext 1 (.t 17), none⟩, ⟨some 23, .ext 2 (.t 17), none⟩, ⟨some 8, .mv (.t 21), none⟩, ⟨some 9, .mv (.t 22), none⟩, ⟨some 10, .mv (.t 23), none⟩]
def fn67r3 : List AO := [⟨some 25, .mv (.t 2), none⟩, ⟨some 26, .mv (.t 7), none⟩, ⟨some 27, .call 66 [.t 25, .t 26], none⟩, ⟨some 24, .mv (.t 27), none⟩, ⟨some 28, .ext 0 (.t 24), none⟩, ⟨some 29, .ext 1 (.t 24), none⟩, ⟨some 30, .ext 2 (.t 24), none⟩, ⟨some 11, .mv (.t 28), none⟩, ⟨some 12, .mv (.t 29), none⟩, ⟨some 13, .mv (.t 30), none⟩]
def fn67r4 : List AO := [⟨some 31, .mv (.t 10), none⟩, ⟨some 32, .un .not (.t 31), none⟩, ⟨some 33, .mv (.t 32), none⟩, ⟨some 34, .mv (.t 8), (some (33, false))⟩, ⟨some 35, .len (.t 34), (some (33, false))⟩, ⟨some 36, .bin .eql (.t 35) (.k (.p (.int .i64 0))), (some (33, false))⟩, ⟨some 37, .pick (.t 33) (.k (.p (.bool true))) (.t 36), none⟩, ⟨some 38, .mv (.t 37), none⟩, ⟨some 39, .mv (.t 11), (some (38, false))⟩, ⟨some 40, .len (.t 39), (some (38, false))⟩, ⟨some 41, .bin .eql (.t 40) (.k (.p (.int .i64 0))), (some (38, false))⟩, ⟨some 42, .pick (.t 38) (.k (.p (.bool true))) (.t 41), none⟩]
def fn67r5 : List AO := [⟨some 43, .call 59 [.k (.p (.int .u64 1))], none⟩, ⟨some 44, .build [.p (.bool false), .e0, .e0] [(2, 1, .t 43)], none⟩, ⟨none, .store 3 (.t 6) (.t 44), none⟩]
def fn67n6 : ACode := .seq (.region fn67r5 false) (.ret)
def fn67n7 : ACode := .cond (.t 42) (fn67n6) (.skip)
def fn67n8 : ACode := .seq (.region fn67r4 false) (fn67n7)
def fn67r6 : List AO := [⟨some 45, .mv (.t 0), none⟩, ⟨some 46, .mv (.t 8), none⟩, ⟨some 47, .mv (.t 11), none⟩, ⟨some 48, .build [.p (.bool false), .e0, .e0] [(0, 1, .t 45), (1, 1, .t 46), (2, 1, .t 47)], none⟩, ⟨none, .store 3 (.t 6) (.t 48), none⟩]
def fn67n10 : ACode := .seq (.region fn67r6 false) (.ret)
def fn67n11 : ACode := .seq (fn67n8) (fn67n10)
def fn67n12 : ACode := .seq (.region fn67r3 false) (fn67n11)
def fn67n13 : ACode := .seq (.region fn67r2 false) (fn67n12)
def fn67n14 : ACode := .seq (.region fn67r1 false) (fn67n13)
def fn67n15 : ACode := .seq (.region fn67r0 false) (fn67n14)
def fn67 : AFun := { nargs := 3, ntmps := 49, results := [.cell true 3 6], body := fn67n15 }

/-- credence/credenceref1.FracNorm -/
def fn83r0 : List AO := [⟨some 1, .boxP (.t 0), none⟩, ⟨some 2, .alloc 0 [.p (.bool false), .e0, .e0], none⟩]
def fn83r1 : List AO := [⟨some 3, .fa 0 1 (.t 1), none⟩, ⟨some 4, .load false 1 (.t 3), none⟩, ⟨some 5, .fa 1 1 (.t 1), none⟩, ⟨some 6, .load false 1 (.t 5), none⟩, ⟨some 7, .fa 2 1 (.t 1), none⟩, ⟨some 8, .load false 1 (.t 7), none⟩, ⟨some 9, .call 67 [.t 4, .t 6, .t 8], none⟩, ⟨none, .store 3 (.t 2) (.t 9), none⟩]
def fn83n2 : ACode := .seq (.region fn83r1 false) (.ret)
def fn83n3 : ACode := .seq (.region fn83r0 false) (fn83n2)
def fn83 : AFun := { nargs := 1, ntmps := 10, results := [.cell true 3 2], body := fn83n3 }

/-- credence/credenceref1.FracSign -/
def fn84r0 : List AO := [⟨some 1, .boxP (.t 0), none⟩, ⟨some 2, .mv (.k (.p (.int .i64 0))), none⟩]
def fn84r1 : List AO := [⟨some 4, .load true 3 (.t 1), none⟩, ⟨some 5, .call 83 [.t 4], none⟩, ⟨some 3, .alloc 0 [.p (.bool false), .e0, .e0], none⟩, ⟨none, .store 3 (.t 3) (.t 5), none⟩]
def fn84r2 : List AO := [⟨some 7, .fa 1 1 (.t 3), none⟩, ⟨some 8, .load false 1 (.t 7), none⟩, ⟨some 9, .len (.t 8), none⟩, ⟨some 10, .bin .eql (.t 9) (.k (.p (.int .i64 0))), none⟩, ⟨some 6, .mv (.t 10), none⟩]
def fn84r3 : List AO := [⟨some 2, .mv (.k (.p (.int .i64 0))), none⟩]
def fn84n4 : ACode := .seq (.region fn84r3 false) (.ret)
def fn84r4 : List AO := [⟨some 12, .fa 0 1 (.t 3), none⟩, ⟨some 13, .load false 1 (.t 12), none⟩, ⟨some 11, .mv (.t 13), none⟩]
def fn84r5 : List AO := [⟨some 2, .mv (.k (.p (.int .i64 (-1)))), none⟩]
def fn84n7 : ACode := .seq (.region fn84r5 false) (.ret)
def fn84n8 : ACode := .cond (.t 11) (fn84n7) (.skip)
def fn84n9 : ACode := .seq (.region fn84r4 false) (fn84n8)
def fn84n10 : ACode := .cond (.t 6) (fn84n4) (fn84n9)
def fn84n11 : ACode := .seq (.region fn84r2 false) (fn84n10)
def fn84n12 : ACode := .block 0 (fn84n11)
def fn84r6 : List AO := [⟨some 2, .mv (.k (.p (.int .i64 1))), none⟩]
def fn84n14 : ACode := .seq (.region fn84r6 false) (.ret)
def fn84n15 : ACode := .seq (fn84n12) (fn84n14)
def fn84n16 : ACode := .seq (.region fn84r1 false) (fn84n15)
def fn84n17 : ACode := .seq (.region fn84r0 false) (fn84n16)
def fn84 : AFun := { nargs := 1, ntmps := 14, results := [.tmp 2], body := fn84n17 }

/-- credence/credenceref1.FracInt -/
def fn72r0 : List AO := [⟨some 2, .alloc 0 [.p (.bool false), .e0, .e0], none⟩]
def fn72r1 : List AO := [⟨some 3, .mv (.t 0), none⟩, ⟨some 4, .bin .lss (.t 3) (.k (.p (.int .i64 0))), none⟩]
def fn72r2 : List AO := [⟨some 5, .mv (.t 0), none⟩, ⟨some 6, .bin .add (.t 5) (.k (.p (.int .i64 1))), none⟩, ⟨some 7, .un .neg (.t 6), none⟩, ⟨some 8, .conv .u64 (.t 7), none⟩, ⟨some 9, .bin .add (.t 8) (.k (.p (.int .u64 1))), none⟩, ⟨some 10, .call 59 [.t 9], none⟩, ⟨some 11, .call 59 [.k (.p (.int .u64 1))], none⟩, ⟨some 12, .call 67 [.k (.p (.bool true)), .t 10, .t 11], none⟩, ⟨none, .store 3 (.t 2) (.t 12), none⟩]
def fn72n3 : ACode := .seq (.region fn72r2 false) (.ret)
def fn72n4 : ACode := .cond (.t 4) (fn72n3) (.skip)
def fn72n5 : ACode := .seq (.region fn72r1 false) (fn72n4)
def fn72r3 : List AO := [⟨some 13, .mv (.t 0), none⟩, ⟨some 14, .conv .u64 (.t 13), none⟩, ⟨some 15, .call 59 [.t 14], none⟩, ⟨some 16, .call 59 [.k (.p (.int .u64 1))], none⟩, ⟨some 17, .call 67 [.k (.p (.bool false)), .t 15, .t 16], none⟩, ⟨none, .store 3 (.t 2) (.t 17), none⟩]
def fn72n7 : ACode := .seq (.region fn72r3 false) (.ret)
def fn72n8 : ACode := .seq (fn72n5) (fn72n7)
def fn72n9 : ACode := .seq (.region fn72r0 false) (fn72n8)
def fn72 : AFun := { nargs := 1, ntmps := 18, results := [.cell true 3 2], body := fn72n9 }

/-- credence/credenceref1.NatMul -/
def fn85r0 : List AO := [⟨some 4, .mv (.k (.e0)), none⟩]
def fn85r1 : List AO := [⟨some 9, .mv (.t 0), none⟩, ⟨some 10, .len (.t 9), none⟩, ⟨some 11, .mv (.t 1), none⟩, ⟨some 12, .len (.t 11), none⟩, ⟨some 13, .bin .add (.t 10) (.t 12), none⟩, ⟨some 14, .mk 0 1 4 [.p (.int .u32 0)] (.t 13) (.t 13), none⟩, ⟨some 5, .mv (.t 14), none⟩]
def fn85r2 : List AO := [⟨some 6, .mv (.k (.p (.int .i64 0))), none⟩]
def fn85r3 : List AO := [⟨some 15, .mv (.t 6), none⟩, ⟨some 16, .mv (.t 0), none⟩, ⟨some 17, .len (.t 16), none⟩, ⟨some 18, .bin .lss (.t 15) (.t 17), none⟩]
def fn85n4 : ACode := .cond (.t 18) (.skip) (.exit 0)
def fn85n5 : ACode := .seq (.region fn85r3 false) (fn85n4)
def fn85r5 : List AO := [⟨some 7, .mv (.k (.p (.int .u64 0))), none⟩]
def fn85r6 : List AO := [⟨some 8, .mv (.k (.p (.int .i64 0))), none⟩]
def fn85r7 : List AO := [⟨some 21, .mv (.t 8), none⟩, ⟨some 22, .mv (.t 1), none⟩, ⟨some 23, .len (.t 22), none⟩, ⟨some 24, .bin .lss (.t 21) (.t 23), none⟩]
def fn85n9 : ACode := .cond (.t 24) (.skip) (.exit 2)
def fn85n10 : ACode := .seq (.region fn85r7 false) (fn85n9)
def fn85r9 : List AO := [⟨some 27, .mv (.t 7), none⟩, ⟨some 28, .mv (.t 5), none⟩, ⟨some 29, .mv (.t 6), none⟩, ⟨some 30, .mv (.t 8), none⟩, ⟨some 31, .bin .add (.t 29) (.t 30), none⟩, ⟨some 32, .ia 1 (.t 28) (.t 31), none⟩, ⟨some 33, .load false 1 (.t 32), none⟩, ⟨some 34, .conv .u64 (.t 33), none⟩, ⟨some 35, .bin .add (.t 27) (.t 34), none⟩, ⟨some 36, .mv (.t 0), none⟩, ⟨some 37, .mv (.t 6), none⟩, ⟨some 38, .ia 1 (.t 36) (.t 37), none⟩, ⟨some 39, .load false 1 (.t 38), none⟩, ⟨some 40, .conv .u64 (.t 39), none⟩, ⟨some 41, .mv (.t 1), none⟩, ⟨some 42, .mv (.t 8), none⟩, ⟨some 43, .ia 1 (.t 41) (.t 42), none⟩, ⟨some 44, .load false 1 (.t 43), none⟩, ⟨some 45, .conv .u64 (.t 44), none⟩, ⟨some 46, .bin .mul (.t 40) (.t 45), none⟩, ⟨some 47, .bin .add (.t 35) (.t 46), none⟩, ⟨some 7, .mv (.t 47), none⟩]
def fn85r10 : List AO := [⟨some 48, .mv (.t 5), none⟩, ⟨some 49, .mv (.t 6), none⟩, ⟨some 50, .mv (.t 8), none⟩, ⟨some 51, .bin .add (.t 49) (.t 50), none⟩, ⟨some 52, .mv (.t 7), none⟩, ⟨some 53, .conv .u32 (.t 52), none⟩, ⟨some 54, .ia 1 (.t 48) (.t 51), none⟩, ⟨none, .store 1 (.t 54) (.t 53), none⟩]
def fn85r11 : List AO := [⟨some 55, .mv (.t 7), none⟩, ⟨some 56, .bin .shr (.t 55) (.k (.p (.int .u64 32))), none⟩, ⟨some 7, .mv (.t 56), none⟩]
def fn85n14 : ACode := .seq (.region fn85r10 false) (.region fn85r11 false)
def fn85n15 : ACode := .seq (.region fn85r9 true) (fn85n14)
def fn85n16 : ACode := .block 3 (fn85n15)
def fn85r8 : List AO := [⟨some 25, .mv (.t 8), none⟩, ⟨some 26, .bin .add (.t 25) (.k (.p (.int .i64 1))), none⟩, ⟨some 8, .mv (.t 26), none⟩]
def fn85n18 : ACode := .seq (fn85n16) (.region fn85r8 false)
def fn85n19 : ACode := .seq (fn85n10) (fn85n18)
def fn85n20 : ACode := .loop (fn85n19)
def fn85n21 : ACode := .block 2 (fn85n20)
def fn85n22 : ACode := .seq (.region fn85r6 false) (fn85n21)
def fn85r12 : List AO := [⟨some 57, .mv (.t 5), none⟩, ⟨some 58, .mv (.t 6), none⟩, ⟨some 59, .mv (.t 1), none⟩, ⟨some 60, .len (.t 59), none⟩, ⟨some 61, .bin .add (.t 58) (.t 60), none⟩, ⟨some 62, .mv (.t 7), none⟩, ⟨some 63, .conv .u32 (.t 62), none⟩, ⟨some 64, .ia 1 (.t 57) (.t 61), none⟩, ⟨none, .store 1 (.t 64) (.t 63), none⟩]
def fn85n24 : ACode := .seq (fn85n22) (.region fn85r12 false)
def fn85n25 : ACode := .seq (.region fn85r5 false) (fn85n24)
def fn85n26 : ACode := .block 1 (fn85n25)
def fn85r4 : List AO := [⟨some 19, .mv (.t 6), none⟩, ⟨some 20, .bin .add (.t 19) (.k (.p (.int .i64 1))), none⟩, ⟨some 6, .mv (.t 20), none⟩]
def fn85n28 : ACode := .seq (fn85n26) (.region fn85r4 false)
def fn85n29 : ACode := .seq (fn85n5) (fn85n28)
def fn85n30 : ACode := .loop (fn85n29)
def fn85n31 : ACode := .block 0 (fn85n30)
def fn85n32 : ACode := .seq (.region fn85r2 false) (fn85n31)
def fn85r13 : List AO := [⟨some 65, .mv (.t 5), none⟩, ⟨some 66, .callR 100 58 [.t 65], none⟩, ⟨some 4, .mv (.t 66), none⟩]
def fn85n34 : ACode := .seq (.region fn85r13 false) (.ret)
def fn85n35 : ACode := .seq (fn85n32) (fn85n34)
def fn85n36 : ACode := .seq (.region fn85r1 false) (fn85n35)
def fn85n37 : ACode := .seq (.region fn85r0 false) (fn85n36)
def fn85 : AFun := { nargs := 2, ntmps := 67, results := [.tmp 4], body := fn85n37 }

/-- credence/credenceref1.NatAdd -/
def fn86r0 : List AO := [⟨some 4, .mv (.k (.e0)), none⟩]
def fn86r1 : List AO := [⟨some 5, .mv (.k (.e0)), none⟩]
def fn86r2 : List AO := [⟨some 6, .mv (.k (.p (.int .u64 0))), none⟩]
def fn86r3 : List AO := [⟨some 7, .mv (.k (.p (.int .i64 0))), none⟩]
def fn86r4 : List AO := [⟨some 8, .mv (.t 7), none⟩, ⟨some 9, .mv (.t 0), none⟩, ⟨some 10, .len (.t 9), none⟩, ⟨some 11, .bin .lss (.t 8) (.t 10), none⟩, ⟨some 12, .mv (.t 11), none⟩, ⟨some 13, .mv (.t 7), (some (12, false))⟩, ⟨some 14, .mv (.t 1), (some (12, false))⟩, ⟨some 15, .len (.t 14), (some (12, false))⟩, ⟨some 16, .bin .lss (.t 13) (.t 15), (some (12, false))⟩, ⟨some 17, .pick (.t 12) (.k (.p (.bool true))) (.t 16), none⟩]
def fn86n5 : ACode := .cond (.t 17) (.skip) (.exit 0)
def fn86n6 : ACode := .seq (.region fn86r4 false) (fn86n5)
def fn86r6 : List AO := [⟨some 20, .mv (.t 7), none⟩, ⟨some 21, .mv (.t 0), none⟩, ⟨some 22, .len (.t 21), none⟩, ⟨some 23, .bin .lss (.t 20) (.t 22), none⟩]
def fn86r7 : List AO := [⟨some 24, .mv (.t 6), none⟩, ⟨some 25, .mv (.t 0), none⟩, ⟨some 26, .mv (.t 7), none⟩, ⟨some 27, .ia 1 (.t 25) (.t 26), none⟩, ⟨some 28, .load false 1 (.t 27), none⟩, ⟨some 29, .conv .u64 (.t 28), none⟩, ⟨some 30, .bin .add (.t 24) (.t 29), none⟩, ⟨some 6, .mv (.t 30), none⟩]
def fn86n9 : ACode := .cond (.t 23) (.region fn86r7 false) (.skip)
def fn86n10 : ACode := .seq (.region fn86r6 false) (fn86n9)
def fn86r8 : List AO := [⟨some 31, .mv (.t 7), none⟩, ⟨some 32, .mv (.t 1), none⟩, ⟨some 33, .len (.t 32), none⟩, ⟨some 34, .bin .lss (.t 31) (.t 33), none⟩]
def fn86r9 : List AO := [⟨some 35, .mv (.t 6), none⟩, ⟨some 36, .mv (.t 1), none⟩, ⟨some 37, .mv (.t 7), none⟩, ⟨some 38, .ia 1 (.t 36) (.t 37), none⟩, ⟨some 39, .load false 1 (.t 38), none⟩, ⟨some 40, .conv .u64 (.t 39), none⟩, ⟨some 41, .bin .add (.t 35) (.t 40), none⟩, ⟨some 6, .mv (.t 41), none⟩]
def fn86n13 : ACode := .cond (.t 34) (.region fn86r9 false) (.skip)
def fn86n14 : ACode := .seq (.region fn86r8 false) (fn86n13)
def fn86r10 : List AO := [⟨some 42, .mv (.t 5), none⟩, ⟨some 43, .mv (.t 6), none⟩, ⟨some 44, .conv .u32 (.t 43), none⟩, ⟨some 45, .slP 1 1 [.p (.int .u32 0)] [(0, 1, .t 44)], none⟩, ⟨some 46, .app 0 1 4 (.t 42) (.t 45), none⟩, ⟨some 5, .mv (.t 46), none⟩]
def fn86r11 : List AO := [⟨some 47, .mv (.t 6), none⟩, ⟨some 48, .bin .shr (.t 47) (.k (.p (.int .u64 32))), none⟩, ⟨some 6, .mv (.t 48), none⟩]
def fn86n17 : ACode := .seq (.region fn86r10 false) (.region fn86r11 false)
def fn86n18 : ACode := .seq (fn86n14) (fn86n17)
def fn86n19 : ACode := .seq (fn86n10) (fn86n18)
def fn86n20 : ACode := .block 1 (fn86n19)
def fn86r5 : List AO := [⟨some 18, .mv (.t 7), none⟩, ⟨some 19, .bin .add (.t 18) (.k (.p (.int .i64 1))), none⟩, ⟨some 7, .mv (.t 19), none⟩]
def fn86n22 : ACode := .seq (fn86n20) (.region fn86r5 false)
def fn86n23 : ACode := .seq (fn86n6) (fn86n22)
def fn86n24 : ACode := .loop (fn86n23)
def fn86n25 : ACode := .block 0 (fn86n24)
def fn86n26 : ACode := .seq (.region fn86r3 false) (fn86n25)
def fn86r12 : List AO := [⟨some 49, .mv (.t 5), none⟩, ⟨some 50, .mv (.t 6), none⟩, ⟨some 51, .conv .u32 (.t 50), none⟩, ⟨some 52, .slP 1 1 [.p (.int .u32 0)] [(0, 1, .t 51)], none⟩, ⟨some 53, .app 1 1 4 (.t 49) (.t 52), none⟩, ⟨some 54, .callR 100 58 [.t 53], none⟩, ⟨some 4, .mv (.t 54), none⟩]
def fn86n28 : ACode := .seq (.region fn86r12 false) (.ret)
def fn86n29 : ACode := .seq (fn86n26) (fn86n28)
def fn86n30 : ACode := .seq (.region fn86r2 false) (fn86n29)
def fn86n31 : ACode := .seq (.region fn86r1 false) (fn86n30)
def fn86n32 : ACode := .seq (.region fn86r0 false) (fn86n31)
def fn86 : AFun := { nargs := 2, ntmps := 55, results := [.tmp 4], body := fn86n32 }

/-- credence/credenceref1.FracAdd -/
def fn87r0 : List AO := [⟨some 2, .boxP (.t 0), none⟩, ⟨some 3, .boxP (.t 1), none⟩, ⟨some 4, .alloc 0 [.p (.bool false), .e0, .e0], none⟩]
def fn87r1 : List AO := [⟨some 14, .load true 3 (.t 2), none⟩, ⟨some 15, .callP 83 [.t 14], none⟩, ⟨some 16, .load true 3 (.t 3), none⟩, ⟨some 17, .callP 83 [.t 16], none⟩, ⟨some 5, .alloc 1 [.p (.bool false), .e0, .e0], none⟩, ⟨some 6, .alloc 2 [.p (.bool false), .e0, .e0], none⟩, ⟨none, .store 3 (.t 5) (.t 15), none⟩, ⟨none, .store 3 (.t 6) (.t 17), none⟩]
def fn87r2 : List AO := [⟨some 18, .fa 1 1 (.t 5), none⟩, ⟨some 19, .load false 1 (.t 18), none⟩, ⟨some 20, .fa 2 1 (.t 6), none⟩, ⟨some 21, .load false 1 (.t 20), none⟩, ⟨some 22, .callP 85 [.t 19, .t 21], none⟩, ⟨some 23, .fa 1 1 (.t 6), none⟩, ⟨some 24, .load false 1 (.t 23), none⟩, ⟨some 25, .fa 2 1 (.t 5), none⟩, ⟨some 26, .load false 1 (.t 25), none⟩, ⟨some 27, .callP 85 [.t 24, .t 26], none⟩, ⟨some 7, .mv (.t 22), none⟩, ⟨some 8, .mv (.t 27), none⟩]
def fn87r3 : List AO := [⟨some 28, .fa 2 1 (.t 5), none⟩, ⟨some 29, .load false 1 (.t 28), none⟩, ⟨some 30, .fa 2 1 (.t 6), none⟩, ⟨some 31, .load false 1 (.t 30), none⟩, ⟨some 32, .call 85 [.t 29, .t 31], none⟩, ⟨some 9, .mv (.t 32), none⟩]
def fn87r4 : List AO := [⟨some 33, .fa 0 1 (.t 5), none⟩, ⟨some 34, .load false 1 (.t 33), none⟩, ⟨some 35, .fa 0 1 (.t 6), none⟩, ⟨some 36, .load false 1 (.t 35), none⟩, ⟨some 37, .binB .eql (.t 34) (.t 36), none⟩]
def fn87r5 : List AO := [⟨some 38, .fa 0 1 (.t 5), none⟩, ⟨some 39, .load false 1 (.t 38), none⟩, ⟨some 40, .mv (.t 7), none⟩, ⟨some 41, .mv (.t 8), none⟩, ⟨some 42, .callP 86 [.t 40, .t 41], none⟩, ⟨some 43, .mv (.t 9), none⟩, ⟨some 44, .callP 67 [.t 39, .t 42, .t 43], none⟩, ⟨none, .store 3 (.t 4) (.t 44), none⟩]
def fn87n6 : ACode := .seq (.region fn87r5 true) (.ret)
def fn87n7 : ACode := .cond (.t 37) (fn87n6) (.skip)
def fn87n8 : ACode := .seq (.region fn87r4 false) (fn87n7)
def fn87r6 : List AO := [⟨some 45, .mv (.t 7), none⟩, ⟨some 46, .mv (.t 8), none⟩, ⟨some 47, .call 62 [.t 45, .t 46], none⟩, ⟨some 48, .bin .geq (.t 47) (.k (.p (.int .i64 0))), none⟩]
def fn87r7 : List AO := [⟨some 50, .mv (.t 7), none⟩, ⟨some 51, .mv (.t 8), none⟩, ⟨some 52, .call 63 [.t 50, .t 51], none⟩, ⟨some 49, .mv (.t 52), none⟩, ⟨some 53, .ext 0 (.t 49), none⟩, ⟨some 54, .ext 1 (.t 49), none⟩, ⟨some 10, .mv (.t 53), none⟩, ⟨some 11, .mv (.t 54), none⟩]
def fn87r8 : List AO := [⟨some 55, .fa 0 1 (.t 5), none⟩, ⟨some 56, .load false 1 (.t 55), none⟩, ⟨some 57, .mv (.t 10), none⟩, ⟨some 58, .mv (.t 9), none⟩, ⟨some 59, .call 67 [.t 56, .t 57, .t 58], none⟩, ⟨none, .store 3 (.t 4) (.t 59), none⟩]
def fn87n12 : ACode := .seq (.region fn87r8 false) (.ret)
def fn87n13 : ACode := .seq (.region fn87r7 false) (fn87n12)
def fn87n14 : ACode := .cond (.t 48) (fn87n13) (.skip)
def fn87n15 : ACode := .seq (.region fn87r6 false) (fn87n14)
def fn87r9 : List AO := [⟨some 61, .mv (.t 8), none⟩, ⟨some 62, .mv (.t 7), none⟩, ⟨some 63, .call 63 [.t 61, .t 62], none⟩, ⟨some 60, .mv (.t 63), none⟩, ⟨some 64, .ext 0 (.t 60), none⟩, ⟨some 65, .ext 1 (.t 60), none⟩, ⟨some 12, .mv (.t 64), none⟩, ⟨some 13, .mv (.t 65), none⟩]
def fn87r10 : List AO := [⟨some 66, .fa 0 1 (.t 6), none⟩, ⟨some 67, .load false 1 (.t 66), none⟩, ⟨some 68, .mv (.t 12), none⟩, ⟨some 69, .mv (.t 9), none⟩, ⟨some 70, .call 67 [.t 67, .t 68, .t 69], none⟩, ⟨none, .store 3 (.t 4) (.t 70), none⟩]
def fn87n18 : ACode := .seq (.region fn87r10 false) (.ret)
def fn87n19 : ACode := .seq (.region fn87r9 false) (fn87n18)
def fn87n20 : ACode := .seq (fn87n15) (fn87n19)
def fn87n21 : ACode := .seq (fn87n8) (fn87n20)
def fn87n22 : ACode := .seq (.region fn87r3 false) (fn87n21)
def fn87n23 : ACode := .seq (.region fn87r2 true) (fn87n22)
def fn87n24 : ACode := .seq (.region fn87r1 true) (fn87n23)
def fn87n25 : ACode := .seq (.region fn87r0 false) (fn87n24)
def fn87 : AFun := { nargs := 2, ntmps := 71, results := [.cell true 3 4], body := fn87n25 }

/-- credence/credenceref1.FracSum -/
def fn88r0 : List AO := [⟨some 2, .alloc 0 [.p (.bool false), .e0, .e0], none⟩]
def fn88r1 : List AO := [⟨some 5, .call 72 [.k (.p (.int .i64 0))], none⟩, ⟨some 3, .alloc 1 [.p (.bool false), .e0, .e0], none⟩, ⟨none, .store 3 (.t 3) (.t 5), none⟩]
def fn88r2 : List AO := [⟨some 4, .mv (.k (.p (.int .i64 0))), none⟩]
def fn88r3 : List AO := [⟨some 6, .mv (.t 4), none⟩, ⟨some 7, .mv (.t 0), none⟩, ⟨some 8, .len (.t 7), none⟩, ⟨some 9, .bin .lss (.t 6) (.t 8), none⟩]
def fn88n4 : ACode := .cond (.t 9) (.skip) (.exit 0)
def fn88n5 : ACode := .seq (.region fn88r3 false) (fn88n4)
def fn88r5 : List AO := [⟨some 12, .load true 3 (.t 3), none⟩, ⟨some 13, .mv (.t 0), none⟩, ⟨some 14, .mv (.t 4), none⟩, ⟨some 15, .ia 3 (.t 13) (.t 14), none⟩, ⟨some 16, .load true 3 (.t 15), none⟩, ⟨some 17, .callP 87 [.t 12, .t 16], none⟩, ⟨none, .store 3 (.t 3) (.t 17), none⟩]
def fn88n7 : ACode := .block 1 (.region fn88r5 true)
def fn88r4 : List AO := [⟨some 10, .mv (.t 4), none⟩, ⟨some 11, .bin .add (.t 10) (.k (.p (.int .i64 1))), none⟩, ⟨some 4, .mv (.t 11), none⟩]
def fn88n9 : ACode := .seq (fn88n7) (.region fn88r4 false)
def fn88n10 : ACode := .seq (fn88n5) (fn88n9)
def fn88n11 : ACode := .loop (fn88n10)
def fn88n12 : ACode := .block 0 (fn88n11)
def fn88n13 : ACode := .seq (.region fn88r2 false) (fn88n12)
def fn88r6 : List AO := [⟨some 18, .load true 3 (.t 3), none⟩, ⟨none, .store 3 (.t 2) (.t 18), none⟩]
def fn88n15 : ACode := .seq (.region fn88r6 false) (.ret)
def fn88n16 : ACode := .seq (fn88n13) (fn88n15)
def fn88n17 : ACode := .seq (.region fn88r1 false) (fn88n16)
def fn88n18 : ACode := .seq (.region fn88r0 false) (fn88n17)
def fn88 : AFun := { nargs := 1, ntmps := 19, results := [.cell true 3 2], body := fn88n18 }

/-- credence/credenceref22.One -/
def fn73r0 : List AO := [⟨some 0, .alloc 0 [.p (.bool false), .e0, .e0], none⟩]
def fn73r1 : List AO := [⟨some 1, .call 72 [.k (.p (.int .i64 1))], none⟩, ⟨none, .store 3 (.t 0) (.t 1), none⟩]
def fn73n2 : ACode := .seq (.region fn73r1 false) (.ret)
def fn73n3 : ACode := .seq (.region fn73r0 false) (fn73n2)
def fn73 : AFun := { nargs := 0, ntmps := 2, results := [.cell true 3 0], body := fn73n3 }

/-- credence/credenceref1.FracNeg -/
def fn89r0 : List AO := [⟨some 1, .boxP (.t 0), none⟩, ⟨some 2, .alloc 0 [.p (.bool false), .e0, .e0], none⟩]
def fn89r1 : List AO := [⟨some 3, .fa 0 1 (.t 1), none⟩, ⟨some 4, .load false 1 (.t 3), none⟩, ⟨some 5, .un .not (.t 4), none⟩, ⟨some 6, .fa 1 1 (.t 1), none⟩, ⟨some 7, .load false 1 (.t 6), none⟩, ⟨some 8, .fa 2 1 (.t 1), none⟩, ⟨some 9, .load false 1 (.t 8), none⟩, ⟨some 10, .call 67 [.t 5, .t 7, .t 9], none⟩, ⟨none, .store 3 (.t 2) (.t 10), none⟩]
def fn89n2 : ACode := .seq (.region fn89r1 false) (.ret)
def fn89n3 : ACode := .seq (.region fn89r0 false) (fn89n2)
def fn89 : AFun := { nargs := 1, ntmps := 11, results := [.cell true 3 2], body := fn89n3 }

/-- credence/credenceref1.FracSub -/
def fn90r0 : List AO := [⟨some 2, .boxP (.t 0), none⟩, ⟨some 3, .boxP (.t 1), none⟩, ⟨some 4, .alloc 0 [.p (.bool false), .e0, .e0], none⟩]
def fn90r1 : List AO := [⟨some 5, .load true 3 (.t 2), none⟩, ⟨some 6, .load true 3 (.t 3), none⟩, ⟨some 7, .callP 89 [.t 6], none⟩, ⟨some 8, .callP 87 [.t 5, .t 7], none⟩, ⟨none, .store 3 (.t 4) (.t 8), none⟩]
def fn90n2 : ACode := .seq (.region fn90r1 true) (.ret)
def fn90n3 : ACode := .seq (.region fn90r0 false) (fn90n2)
def fn90 : AFun := { nargs := 2, ntmps := 9, results := [.cell true 3 4], body := fn90n3 }

/-- credence/credenceref1.FracCmp -/
def fn91r0 : List AO := [⟨some 2, .boxP (.t 0), none⟩, ⟨some 3, .boxP (.t 1), none⟩, ⟨some 4, .mv (.k (.p (.int .i64 0))), none⟩]
def fn91r1 : List AO := [⟨some 5, .load true 3 (.t 2), none⟩, ⟨some 6, .load true 3 (.t 3), none⟩, ⟨some 7, .call 90 [.t 5, .t 6], none⟩, ⟨some 8, .call 84 [.t 7], none⟩, ⟨some 4, .mv (.t 8), none⟩]
def fn91n2 : ACode := .seq (.region fn91r1 false) (.ret)
def fn91n3 : ACode := .seq (.region fn91r0 false) (fn91n2)
def fn91 : AFun := { nargs := 2, ntmps := 9, results := [.tmp 4], body := fn91n3 }

/-- credence/credenceref22.SpaceValid -/
def fn92r0 : List AO := [⟨some 1, .boxP (.t 0), none⟩, ⟨some 2, .mv (.k (.p (.bool false))), none⟩]
def fn92r1 : List AO := [⟨some 7, .fa 0 1 (.t 1), none⟩, ⟨some 8, .load false 1 (.t 7), none⟩, ⟨some 9, .len (.t 8), none⟩, ⟨some 10, .bin .gtr (.t 9) (.k (.p (.int .i64 4096))), none⟩]
def fn92r2 : List AO := [⟨some 2, .mv (.k (.p (.bool false))), none⟩]
def fn92n3 : ACode := .seq (.region fn92r2 false) (.ret)
def fn92n4 : ACode := .cond (.t 10) (fn92n3) (.skip)
def fn92n5 : ACode := .seq (.region fn92r1 false) (fn92n4)
def fn92r3 : List AO := [⟨some 11, .fa 0 1 (.t 1), none⟩, ⟨some 12, .load false 1 (.t 11), none⟩, ⟨some 13, .len (.t 12), none⟩, ⟨some 14, .mv (.k (.p (.int .i64 0))), none⟩]
def fn92r4 : List AO := [⟨some 15, .bin .lss (.t 14) (.t 13), none⟩]
def fn92n8 : ACode := .cond (.t 15) (.skip) (.exit 0)
def fn92r5 : List AO := [⟨some 16, .ia 1 (.t 12) (.t 14), none⟩, ⟨some 17, .load true 1 (.t 16), none⟩, ⟨some 4, .alloc 0 [.e0], none⟩, ⟨none, .store 1 (.t 4) (.t 17), none⟩]
def fn92r6 : List AO := [⟨some 18, .fa 0 1 (.t 4), none⟩, ⟨some 19, .load false 1 (.t 18), none⟩, ⟨some 20, .len (.t 19), none⟩, ⟨some 21, .bin .gtr (.t 20) (.k (.p (.int .i64 16))), none⟩]
def fn92r7 : List AO := [⟨some 2, .mv (.k (.p (.bool false))), none⟩]
def fn92n12 : ACode := .seq (.region fn92r7 false) (.ret)
def fn92n13 : ACode := .cond (.t 21) (fn92n12) (.skip)
def fn92n14 : ACode := .seq (.region fn92r6 false) (fn92n13)
def fn92r8 : List AO := [⟨some 22, .fa 0 1 (.t 4), none⟩, ⟨some 23, .load false 1 (.t 22), none⟩, ⟨some 24, .len (.t 23), none⟩, ⟨some 25, .mv (.k (.p (.int .i64 0))), none⟩]
def fn92r9 : List AO := [⟨some 26, .bin .lss (.t 25) (.t 24), none⟩]
def fn92n17 : ACode := .cond (.t 26) (.skip) (.exit 2)
def fn92r10 : List AO := [⟨some 27, .ia 3 (.t 23) (.t 25), none⟩, ⟨some 28, .load true 3 (.t 27), none⟩, ⟨some 6, .alloc 1 [.p (.bool false), .e0, .e0], none⟩, ⟨none, .store 3 (.t 6) (.t 28), none⟩]
def fn92r11 : List AO := [⟨some 29, .load true 3 (.t 6), none⟩, ⟨some 30, .call 84 [.t 29], none⟩, ⟨some 31, .bin .lss (.t 30) (.k (.p (.int .i64 0))), none⟩]
def fn92r12 : List AO := [⟨some 2, .mv (.k (.p (.bool false))), none⟩]
def fn92n21 : ACode := .seq (.region fn92r12 false) (.ret)
def fn92n22 : ACode := .cond (.t 31) (fn92n21) (.skip)
def fn92n23 : ACode := .seq (.region fn92r11 false) (fn92n22)
def fn92n24 : ACode := .seq (.region fn92r10 false) (fn92n23)
def fn92n25 : ACode := .block 3 (fn92n24)
def fn92r13 : List AO := [⟨some 32, .bin .add (.t 25) (.k (.p (.int .i64 1))), none⟩, ⟨some 25, .mv (.t 32), none⟩]
def fn92n27 : ACode := .seq (fn92n25) (.region fn92r13 false)
def fn92n28 : ACode := .seq (fn92n17) (fn92n27)
def fn92n29 : ACode := .seq (.region fn92r9 false) (fn92n28)
def fn92n30 : ACode := .loop (fn92n29)
def fn92n31 : ACode := .block 2 (fn92n30)
def fn92n32 : ACode := .seq (.region fn92r8 false) (fn92n31)
def fn92r14 : List AO := [⟨some 33, .fa 0 1 (.t 4), none⟩, ⟨some 34, .load false 1 (.t 33), none⟩, ⟨some 35, .call 88 [.t 34], none⟩, ⟨some 36, .call 73 [], none⟩, ⟨some 37, .call 91 [.t 35, .t 36], none⟩, ⟨some 38, .bin .gtr (.t 37) (.k (.p (.int .i64 0))), none⟩]
def fn92r15 : List AO := [⟨some 2, .mv (.k (.p (.bool false))), none⟩]
def fn92n35 : ACode := .seq (.region fn92r15 false) (.ret)
def fn92n36 : ACode := .cond (.t 38) (fn92n35) (.skip)
def fn92n37 : ACode := .seq (.region fn92r14 false) (fn92n36)
def fn92n38 : ACode := .seq (fn92n32) (fn92n37)
def fn92n39 : ACode := .seq (fn92n14) (fn92n38)
def fn92n40 : ACode := .seq (.region fn92r5 false) (fn92n39)
def fn92n41 : ACode := .block 1 (fn92n40)
def fn92r16 : List AO := [⟨some 39, .bin .add (.t 14) (.k (.p (.int .i64 1))), none⟩, ⟨some 14, .mv (.t 39), none⟩]
def fn92n43 : ACode := .seq (fn92n41) (.region fn92r16 false)
def fn92n44 : ACode := .seq (fn92n8) (fn92n43)
def fn92n45 : ACode := .seq (.region fn92r4 false) (fn92n44)
def fn92n46 : ACode := .loop (fn92n45)
def fn92n47 : ACode := .block 0 (fn92n46)
def fn92n48 : ACode := .seq (.region fn92r3 false) (fn92n47)
def fn92r17 : List AO := [⟨some 2, .mv (.k (.p (.bool true))), none⟩]
def fn92n50 : ACode := .seq (.region fn92r17 false) (.ret)
def fn92n51 : ACode := .seq (fn92n48) (fn92n50)
def fn92n52 : ACode := .seq (fn92n5) (fn92n51)
def fn92n53 : ACode := .seq (.region fn92r0 false) (fn92n52)
def fn92 : AFun := { nargs := 1, ntmps := 40, results := [.tmp 2], body := fn92n53 }

/-- (*credence/credenceref29.set).has -/
def fn93r0 : List AO := [⟨some 4, .mv (.k (.p (.bool false))), none⟩]
def fn93r1 : List AO := [⟨some 5, .mv (.t 1), none⟩, ⟨some 6, .bin .geq (.t 5) (.k (.p (.int .i64 0))), none⟩, ⟨some 7, .mv (.t 6), none⟩, ⟨some 8, .mv (.t 1), (some (7, true))⟩, ⟨some 9, .bin .lss (.t 8) (.k (.p (.int .i64 4096))), (some (7, true))⟩, ⟨some 10, .pick (.t 7) (.t 9) (.k (.p (.bool false))), none⟩, ⟨some 11, .mv (.t 10), none⟩, ⟨some 12, .mv (.t 0), (some (11, true))⟩, ⟨some 13, .mv (.t 1), (some (11, true))⟩, ⟨some 14, .bin .quo (.t 13) (.k (.p (.int .i64 64))), (some (11, true))⟩, ⟨some 15, .nck (.t 12), (some (11, true))⟩, ⟨some 16, .iaA 64 1 (.t 15) (.t 14), (some (11, true))⟩, ⟨some 17, .load false 1 (.t 16), (some (11, true))⟩, ⟨some 18, .mv (.t 1), (some (11, true))⟩, ⟨some 19, .bin .rem (.t 18) (.k (.p (.int .i64 64))), (some (11, true))⟩, ⟨some 20, .conv .u64 (.t 19), (some (11, true))⟩, ⟨some 21, .bin .shr (.t 17) (.t 20), (some (11, true))⟩, ⟨some 22, .bin .and (.t 21) (.k (.p (.int .u64 1))), (some (11, true))⟩, ⟨some 23, .bin .eql (.t 22) (.k (.p (.int .u64 1))), (some (11, true))⟩, ⟨some 24, .pick (.t 11) (.t 23) (.k (.p (.bool false))), none⟩, ⟨some 4, .mv (.t 24), none⟩]
def fn93n2 : ACode := .seq (.region fn93r1 false) (.ret)
def fn93n3 : ACode := .seq (.region fn93r0 false) (fn93n2)
def fn93 : AFun := { nargs := 2, ntmps := 25, results := [.tmp 4], body := fn93n3 }

/-- (*credence/credenceref29.set).add -/
def fn94r0 : List AO := [⟨some 5, .mv (.k (.p (.int .i64 0))), none⟩]
def fn94r1 : List AO := [⟨some 6, .bin .lss (.t 5) (.k (.p (.int .i64 64))), none⟩]
def fn94n2 : ACode := .cond (.t 6) (.skip) (.exit 0)
def fn94r2 : List AO := [⟨some 7, .mv (.t 5), none⟩, ⟨some 4, .mv (.t 7), none⟩]
def fn94r3 : List AO := [⟨some 8, .mv (.t 0), none⟩, ⟨some 9, .mv (.t 4), none⟩, ⟨some 10, .mv (.t 0), none⟩, ⟨some 11, .mv (.t 4), none⟩, ⟨some 12, .nck (.t 10), none⟩, ⟨some 13, .iaA 64 1 (.t 12) (.t 11), none⟩, ⟨some 14, .load false 1 (.t 13), none⟩, ⟨some 15, .mv (.t 1), none⟩, ⟨some 16, .mv (.t 4), none⟩, ⟨some 17, .nck (.t 15), none⟩, ⟨some 18, .iaA 64 1 (.t 17) (.t 16), none⟩, ⟨some 19, .load false 1 (.t 18), none⟩, ⟨some 20, .bin .or (.t 14) (.t 19), none⟩, ⟨some 21, .nck (.t 8), none⟩, ⟨some 22, .iaA 64 1 (.t 21) (.t 9), none⟩, ⟨none, .store 1 (.t 22) (.t 20), none⟩]
def fn94n5 : ACode := .seq (.region fn94r2 false) (.region fn94r3 true)
def fn94n6 : ACode := .block 1 (fn94n5)
def fn94r4 : List AO := [⟨some 23, .bin .add (.t 5) (.k (.p (.int .i64 1))), none⟩, ⟨some 5, .mv (.t 23), none⟩]
def fn94n8 : ACode := .seq (fn94n6) (.region fn94r4 false)
def fn94n9 : ACode := .seq (fn94n2) (fn94n8)
def fn94n10 : ACode := .seq (.region fn94r1 false) (fn94n9)
def fn94n11 : ACode := .loop (fn94n10)
def fn94n12 : ACode := .block 0 (fn94n11)
def fn94n13 : ACode := .seq (.region fn94r0 false) (fn94n12)
def fn94 : AFun := { nargs := 2, ntmps := 24, results := [], body := fn94n13 }

/-- (*credence/credenceref29.set).meets -/
def fn95r0 : List AO := [⟨some 4, .mv (.k (.p (.bool false))), none⟩]
def fn95r1 : List AO := [⟨some 6, .mv (.k (.p (.int .i64 0))), none⟩]
def fn95r2 : List AO := [⟨some 7, .bin .lss (.t 6) (.k (.p (.int .i64 64))), none⟩]
def fn95n3 : ACode := .cond (.t 7) (.skip) (.exit 0)
def fn95r3 : List AO := [⟨some 8, .mv (.t 6), none⟩, ⟨some 5, .mv (.t 8), none⟩]
def fn95r4 : List AO := [⟨some 9, .mv (.t 0), none⟩, ⟨some 10, .mv (.t 5), none⟩, ⟨some 11, .nck (.t 9), none⟩, ⟨some 12, .iaA 64 1 (.t 11) (.t 10), none⟩, ⟨some 13, .load false 1 (.t 12), none⟩, ⟨some 14, .mv (.t 1), none⟩, ⟨some 15, .mv (.t 5), none⟩, ⟨some 16, .nck (.t 14), none⟩, ⟨some 17, .iaA 64 1 (.t 16) (.t 15), none⟩, ⟨some 18, .load false 1 (.t 17), none⟩, ⟨some 19, .bin .and (.t 13) (.t 18), none⟩, ⟨some 20, .bin .neq (.t 19) (.k (.p (.int .u64 0))), none⟩]
def fn95r5 : List AO := [⟨some 4, .mv (.k (.p (.bool true))), none⟩]
def fn95n7 : ACode := .seq (.region fn95r5 false) (.ret)
def fn95n8 : ACode := .cond (.t 20) (fn95n7) (.skip)
def fn95n9 : ACode := .seq (.region fn95r4 true) (fn95n8)
def fn95n10 : ACode := .seq (.region fn95r3 false) (fn95n9)
def fn95n11 : ACode := .block 1 (fn95n10)
def fn95r6 : List AO := [⟨some 21, .bin .add (.t 6) (.k (.p (.int .i64 1))), none⟩, ⟨some 6, .mv (.t 21), none⟩]
def fn95n13 : ACode := .seq (fn95n11) (.region fn95r6 false)
def fn95n14 : ACode := .seq (fn95n3) (fn95n13)
def fn95n15 : ACode := .seq (.region fn95r2 false) (fn95n14)
def fn95n16 : ACode := .loop (fn95n15)
def fn95n17 : ACode := .block 0 (fn95n16)
def fn95n18 : ACode := .seq (.region fn95r1 false) (fn95n17)
def fn95r7 : List AO := [⟨some 4, .mv (.k (.p (.bool false))), none⟩]
def fn95n20 : ACode := .seq (.region fn95r7 false) (.ret)
def fn95n21 : ACode := .seq (fn95n18) (fn95n20)
def fn95n22 : ACode := .seq (.region fn95r0 false) (fn95n21)
def fn95 : AFun := { nargs := 2, ntmps := 22, results := [.tmp 4], body := fn95n22 }

/-- credence/credenceref29.Valid -/
def fn96r0 : List AO := [⟨some 2, .boxP (.t 0), none⟩, ⟨some 3, .boxP (.t 1), none⟩, ⟨some 4, .mv (.k (.p (.bool false))), none⟩]
def fn96r1 : List AO := [⟨some 15, .load true 1 (.t 2), none⟩, ⟨some 16, .call 92 [.t 15], none⟩, ⟨some 17, .un .not (.t 16), none⟩, ⟨some 18, .mv (.t 17), none⟩, ⟨some 19, .fa 0 1 (.t 3), (some (18, false))⟩, ⟨some 20, .load false 1 (.t 19), (some (18, false))⟩, ⟨some 21, .len (.t 20), (some (18, false))⟩, ⟨some 22, .bin .gtr (.t 21) (.k (.p (.int .i64 65536))), (some (18, false))⟩, ⟨some 23, .pick (.t 18) (.k (.p (.bool true))) (.t 22), none⟩]
def fn96r2 : List AO := [⟨some 4, .mv (.k (.p (.bool false))), none⟩]
def fn96n3 : ACode := .seq (.region fn96r2 false) (.ret)
def fn96n4 : ACode := .cond (.t 23) (fn96n3) (.skip)
def fn96n5 : ACode := .seq (.region fn96r1 false) (fn96n4)
def fn96r3 : List AO := [⟨some 5, .mv (.k (.p (.int .i64 0))), none⟩]
def fn96r4 : List AO := [⟨some 24, .fa 0 1 (.t 3), none⟩, ⟨some 25, .load false 1 (.t 24), none⟩, ⟨some 26, .len (.t 25), none⟩, ⟨some 27, .mk 0 64 512 [.p (.int .u64 0), .p (.int .u64 0), .p (.int .u64 0), .p (.int .u64 0), .p (.int .u64 0), .p (.int .u64 0), .p (.int .u64 0), .p (.int .u64 0), .p (.int .u64 0), .p (.int .u64 0), .p (.int .u64 0), .p (.int .u64 0), .p (.int .u64 0), .p (.int .u64 0), .p (.int .u64 0), .p (.int .u64 0), .p (.int .u64 0), .p (.int .u64 0), .p (.int .u64 0), .p (.int .u64 0), .p (.int .u64 0), .p (.int .u64 0), .p (.int .u64 0), .p (.int .u64 0), .p (.int .u64 0), .p (.int .u64 0), .p (.int .u64 0), .p (.int .u64 0), .p (.int .u64 0), .p (.int .u64 0), .p (.int .u64 0), .p (.int .u64 0), .p (.int .u64 0), .p (.int .u64 0), .p (.int .u64 0), .p (.int .u64 0), .p (.int .u64 0), .p (.int .u64 0), .p (.int .u64 0), .p (.int .u64 0), .p (.int .u64 0), .p (.int .u64 0), .p (.int .u64 0), .p (.int .u64 0), .p (.int .u64 0), .p (.int .u64 0), .p (.int .u64 0), .p (.int .u64 0), .p (.int .u64 0), .p (.int .u64 0), .p (.int .u64 0), .p (.int .u64 0), .p (.int .u64 0), .p (.int .u64 0), .p (.int .u64 0), .p (.int .u64 0), .p (.int .u64 0), .p (.int .u64 0), .p (.int .u64 0), .p (.int .u64 0), .p (.int .u64 0), .p (.int .u64 0), .p (.int .u64 0), .p (.int .u64 0)] (.t 26) (.t 26), none⟩, ⟨some 6, .mv (.t 27), none⟩]
def fn96r5 : List AO := [⟨some 28, .fa 0 1 (.t 3), none⟩, ⟨some 29, .load false 1 (.t 28), none⟩, ⟨some 30, .len (.t 29), none⟩, ⟨some 31, .mv (.k (.p (.int .i64 0))), none⟩]
def fn96r6 : List AO := [⟨some 32, .bin .lss (.t 31) (.t 30), none⟩]
def fn96n10 : ACode := .cond (.t 32) (.skip) (.exit 0)
def fn96r7 : List AO := [⟨some 33, .mv (.t 31), none⟩, ⟨some 34, .ia 3 (.t 29) (.t 31), none⟩, ⟨some 35, .load true 3 (.t 34), none⟩, ⟨some 8, .alloc 1 [.p (.int .i64 0), .p (.int .i64 0), .e0], none⟩, ⟨some 7, .mv (.t 33), none⟩, ⟨none, .store 3 (.t 8) (.t 35), none⟩]
def fn96r8 : List AO := [⟨some 36, .fa 2 1 (.t 8), none⟩, ⟨some 37, .load false 1 (.t 36), none⟩, ⟨some 38, .len (.t 37), none⟩, ⟨some 39, .mv (.t 5), none⟩, ⟨some 40, .bin .sub (.k (.p (.int .i64 33554432))) (.t 39), none⟩, ⟨some 41, .bin .gtr (.t 38) (.t 40), none⟩]
def fn96r9 : List AO := [⟨some 4, .mv (.k (.p (.bool false))), none⟩]
def fn96n14 : ACode := .seq (.region fn96r9 false) (.ret)
def fn96n15 : ACode := .cond (.t 41) (fn96n14) (.skip)
def fn96n16 : ACode := .seq (.region fn96r8 false) (fn96n15)
def fn96r10 : List AO := [⟨some 42, .mv (.t 5), none⟩, ⟨some 43, .fa 2 1 (.t 8), none⟩, ⟨some 44, .load false 1 (.t 43), none⟩, ⟨some 45, .len (.t 44), none⟩, ⟨some 46, .bin .add (.t 42) (.t 45), none⟩, ⟨some 5, .mv (.t 46), none⟩]
def fn96r11 : List AO := [⟨some 47, .fa 2 1 (.t 8), none⟩, ⟨some 48, .load false 1 (.t 47), none⟩, ⟨some 49, .len (.t 48), none⟩, ⟨some 50, .mv (.k (.p (.int .i64 0))), none⟩]
def fn96r12 : List AO := [⟨some 51, .bin .lss (.t 50) (.t 49), none⟩]
def fn96n20 : ACode := .cond (.t 51) (.skip) (.exit 2)
def fn96r13 : List AO := [⟨some 52, .ia 1 (.t 48) (.t 50), none⟩, ⟨some 53, .load false 1 (.t 52), none⟩, ⟨some 10, .mv (.t 53), none⟩]
def fn96r14 : List AO := [⟨some 54, .mv (.t 10), none⟩, ⟨some 55, .bin .lss (.t 54) (.k (.p (.int .i64 0))), none⟩, ⟨some 56, .mv (.t 55), none⟩, ⟨some 57, .mv (.t 10), (some (56, false))⟩, ⟨some 58, .mv (.t 7), (some (56, false))⟩, ⟨some 59, .bin .geq (.t 57) (.t 58), (some (56, false))⟩, ⟨some 60, .pick (.t 56) (.k (.p (.bool true))) (.t 59), none⟩]
def fn96r15 : List AO := [⟨some 4, .mv (.k (.p (.bool false))), none⟩]
def fn96n24 : ACode := .seq (.region fn96r15 false) (.ret)
def fn96n25 : ACode := .cond (.t 60) (fn96n24) (.skip)
def fn96n26 : ACode := .seq (.region fn96r14 false) (fn96n25)
def fn96n27 : ACode := .seq (.region fn96r13 false) (fn96n26)
def fn96n28 : ACode := .block 3 (fn96n27)
def fn96r16 : List AO := [⟨some 61, .bin .add (.t 50) (.k (.p (.int .i64 1))), none⟩, ⟨some 50, .mv (.t 61), none⟩]
def fn96n30 : ACode := .seq (fn96n28) (.region fn96r16 false)
def fn96n31 : ACode := .seq (fn96n20) (fn96n30)
def fn96n32 : ACode := .seq (.region fn96r12 false) (fn96n31)
def fn96n33 : ACode := .loop (fn96n32)
def fn96n34 : ACode := .block 2 (fn96n33)
def fn96n35 : ACode := .seq (.region fn96r11 false) (fn96n34)
def fn96r17 : List AO := [⟨some 62, .fa 0 1 (.t 8), none⟩, ⟨some 63, .load false 1 (.t 62), none⟩, ⟨some 64, .bin .neq (.t 63) (.k (.p (.int .i64 2))), none⟩, ⟨some 65, .mv (.t 64), none⟩, ⟨some 66, .fa 1 1 (.t 8), (some (65, true))⟩, ⟨some 67, .load false 1 (.t 66), (some (65, true))⟩, ⟨some 68, .bin .neq (.t 67) (.k (.p (.int .i64 0))), (some (65, true))⟩, ⟨some 69, .pick (.t 65) (.t 68) (.k (.p (.bool false))), none⟩]
def fn96r18 : List AO := [⟨some 4, .mv (.k (.p (.bool false))), none⟩]
def fn96n38 : ACode := .seq (.region fn96r18 false) (.ret)
def fn96n39 : ACode := .cond (.t 69) (fn96n38) (.skip)
def fn96n40 : ACode := .seq (.region fn96r17 false) (fn96n39)
def fn96r19 : List AO := [⟨some 70, .fa 0 1 (.t 8), none⟩, ⟨some 71, .load false 1 (.t 70), none⟩]
def fn96r21 : List AO := [⟨some 73, .bin .eql (.t 71) (.k (.p (.int .i64 0))), none⟩, ⟨some 72, .mv (.t 73), none⟩]
def fn96r22 : List AO := [⟨some 74, .bin .eql (.t 71) (.k (.p (.int .i64 1))), none⟩, ⟨some 72, .mv (.t 74), none⟩]
def fn96n44 : ACode := .cond (.t 72) (.skip) (.region fn96r22 false)
def fn96n45 : ACode := .seq (.region fn96r21 false) (fn96n44)
def fn96r23 : List AO := [⟨some 75, .fa 2 1 (.t 8), none⟩, ⟨some 76, .load false 1 (.t 75), none⟩, ⟨some 77, .len (.t 76), none⟩, ⟨some 78, .bin .neq (.t 77) (.k (.p (.int .i64 0))), none⟩]
def fn96r24 : List AO := [⟨some 4, .mv (.k (.p (.bool false))), none⟩]
def fn96n48 : ACode := .seq (.region fn96r24 false) (.ret)
def fn96n49 : ACode := .cond (.t 78) (fn96n48) (.skip)
def fn96n50 : ACode := .seq (.region fn96r23 false) (fn96n49)
def fn96r25 : List AO := [⟨some 80, .bin .eql (.t 71) (.k (.p (.int .i64 2))), none⟩, ⟨some 79, .mv (.t 80), none⟩]
def fn96r26 : List AO := [⟨some 81, .fa 1 1 (.t 8), none⟩, ⟨some 82, .load false 1 (.t 81), none⟩, ⟨some 83, .bin .lss (.t 82) (.k (.p (.int .i64 0))), none⟩, ⟨some 84, .mv (.t 83), none⟩, ⟨some 85, .fa 1 1 (.t 8), (some (84, false))⟩, ⟨some 86, .load false 1 (.t 85), (some (84, false))⟩, ⟨some 87, .fa 0 1 (.t 2), (some (84, false))⟩, ⟨some 88, .load false 1 (.t 87), (some (84, false))⟩, ⟨some 89, .len (.t 88), (some (84, false))⟩, ⟨some 90, .bin .geq (.t 86) (.t 89), (some (84, false))⟩, ⟨some 91, .pick (.t 84) (.k (.p (.bool true))) (.t 90), none⟩, ⟨some 92, .mv (.t 91), none⟩, ⟨some 93, .fa 2 1 (.t 8), (some (92, false))⟩, ⟨some 94, .load false 1 (.t 93), (some (92, false))⟩, ⟨some 95, .len (.t 94), (some (92, false))⟩, ⟨some 96, .fa 0 1 (.t 2), (some (92, false))⟩, ⟨some 97, .load false 1 (.t 96), (some (92, false))⟩, ⟨some 98, .fa 1 1 (.t 8), (some (92, false))⟩, ⟨some 99, .load false 1 (.t 98), (some (92, false))⟩, ⟨some 100, .ia 1 (.t 97) (.t 99), (some (92, false))⟩, ⟨some 101, .fa 0 1 (.t 100), (some (92, false))⟩, ⟨some 102, .load false 1 (.t 101), (some (92, false))⟩, ⟨some 103, .len (.t 102), (some (92, false))⟩, ⟨some 104, .bin .add (.t 103) (.k (.p (.int .i64 1))), (some (92, false))⟩, ⟨some 105, .bin .neq (.t 95) (.t 104), (some (92, false))⟩, ⟨some 106, .pick (.t 92) (.k (.p (.bool true))) (.t 105), none⟩]
def fn96r27 : List AO := [⟨some 4, .mv (.k (.p (.bool false))), none⟩]
def fn96n54 : ACode := .seq (.region fn96r27 false) (.ret)
def fn96n55 : ACode := .cond (.t 106) (fn96n54) (.skip)
def fn96n56 : ACode := .seq (.region fn96r26 true) (fn96n55)
def fn96r28 : List AO := [⟨some 107, .fa 2 1 (.t 8), none⟩, ⟨some 108, .load false 1 (.t 107), none⟩, ⟨some 109, .len (.t 108), none⟩, ⟨some 110, .mv (.k (.p (.int .i64 0))), none⟩]
def fn96r29 : List AO := [⟨some 111, .bin .lss (.t 110) (.t 109), none⟩]
def fn96n59 : ACode := .cond (.t 111) (.skip) (.exit 5)
def fn96r30 : List AO := [⟨some 112, .ia 1 (.t 108) (.t 110), none⟩, ⟨some 113, .load false 1 (.t 112), none⟩, ⟨some 12, .mv (.t 113), none⟩]
def fn96r31 : List AO := [⟨some 114, .mv (.t 6), none⟩, ⟨some 115, .mv (.t 12), none⟩, ⟨some 116, .ia 64 (.t 114) (.t 115), none⟩, ⟨some 117, .fa 1 1 (.t 8), none⟩, ⟨some 118, .load false 1 (.t 117), none⟩, ⟨some 119, .call 93 [.t 116, .t 118], none⟩]
def fn96r32 : List AO := [⟨some 4, .mv (.k (.p (.bool false))), none⟩]
def fn96n63 : ACode := .seq (.region fn96r32 false) (.ret)
def fn96n64 : ACode := .cond (.t 119) (fn96n63) (.skip)
def fn96n65 : ACode := .seq (.region fn96r31 true) (fn96n64)
def fn96r33 : List AO := [⟨some 120, .mv (.t 6), none⟩, ⟨some 121, .mv (.t 7), none⟩, ⟨some 122, .ia 64 (.t 120) (.t 121), none⟩, ⟨some 123, .mv (.t 6), none⟩, ⟨some 124, .mv (.t 12), none⟩, ⟨some 125, .ia 64 (.t 123) (.t 124), none⟩, ⟨some 126, .callR 100 94 [.t 122, .t 125], none⟩]
def fn96n67 : ACode := .seq (fn96n65) (.region fn96r33 true)
def fn96n68 : ACode := .seq (.region fn96r30 false) (fn96n67)
def fn96n69 : ACode := .block 6 (fn96n68)
def fn96r34 : List AO := [⟨some 127, .bin .add (.t 110) (.k (.p (.int .i64 1))), none⟩, ⟨some 110, .mv (.t 127), none⟩]
def fn96n71 : ACode := .seq (fn96n69) (.region fn96r34 false)
def fn96n72 : ACode := .seq (fn96n59) (fn96n71)
def fn96n73 : ACode := .seq (.region fn96r29 false) (fn96n72)
def fn96n74 : ACode := .loop (fn96n73)
def fn96n75 : ACode := .block 5 (fn96n74)
def fn96n76 : ACode := .seq (.region fn96r28 false) (fn96n75)
def fn96r35 : List AO := [⟨some 128, .mv (.t 6), none⟩, ⟨some 129, .mv (.t 7), none⟩, ⟨some 130, .fa 1 1 (.t 8), none⟩, ⟨some 131, .load false 1 (.t 130), none⟩, ⟨some 132, .bin .quo (.t 131) (.k (.p (.int .i64 64))), none⟩, ⟨some 133, .mv (.t 6), none⟩, ⟨some 134, .mv (.t 7), none⟩, ⟨some 135, .fa 1 1 (.t 8), none⟩, ⟨some 136, .load false 1 (.t 135), none⟩, ⟨some 137, .bin .quo (.t 136) (.k (.p (.int .i64 64))), none⟩, ⟨some 138, .ia 64 (.t 133) (.t 134), none⟩, ⟨some 139, .iaA 64 1 (.t 138) (.t 137), none⟩, ⟨some 140, .load false 1 (.t 139), none⟩, ⟨some 141, .fa 1 1 (.t 8), none⟩, ⟨some 142, .load false 1 (.t 141), none⟩, ⟨some 143, .bin .rem (.t 142) (.k (.p (.int .i64 64))), none⟩, ⟨some 144, .conv .u64 (.t 143), none⟩, ⟨some 145, .bin .shl (.k (.p (.int .u64 1))) (.t 144), none⟩, ⟨some 146, .bin .or (.t 140) (.t 145), none⟩, ⟨some 147, .ia 64 (.t 128) (.t 129), none⟩, ⟨some 148, .iaA 64 1 (.t 147) (.t 132), none⟩, ⟨none, .store 1 (.t 148) (.t 146), none⟩]
def fn96n78 : ACode := .seq (fn96n76) (.region fn96r35 true)
def fn96n79 : ACode := .seq (fn96n56) (fn96n78)
def fn96r36 : List AO := [⟨some 150, .bin .eql (.t 71) (.k (.p (.int .i64 3))), none⟩, ⟨some 149, .mv (.t 150), none⟩]
def fn96r37 : List AO := [⟨some 151, .bin .eql (.t 71) (.k (.p (.int .i64 4))), none⟩, ⟨some 149, .mv (.t 151), none⟩]
def fn96n82 : ACode := .cond (.t 149) (.skip) (.region fn96r37 false)
def fn96n83 : ACode := .seq (.region fn96r36 false) (fn96n82)
def fn96r38 : List AO := [⟨some 152, .fa 2 1 (.t 8), none⟩, ⟨some 153, .load false 1 (.t 152), none⟩, ⟨some 154, .len (.t 153), none⟩, ⟨some 155, .mv (.k (.p (.int .i64 0))), none⟩]
def fn96r39 : List AO := [⟨some 156, .bin .lss (.t 155) (.t 154), none⟩]
def fn96n86 : ACode := .cond (.t 156) (.skip) (.exit 7)
def fn96r40 : List AO := [⟨some 157, .ia 1 (.t 153) (.t 155), none⟩, ⟨some 158, .load false 1 (.t 157), none⟩, ⟨some 14, .mv (.t 158), none⟩]
def fn96r41 : List AO := [⟨some 159, .mv (.t 6), none⟩, ⟨some 160, .mv (.t 7), none⟩, ⟨some 161, .ia 64 (.t 159) (.t 160), none⟩, ⟨some 162, .mv (.t 6), none⟩, ⟨some 163, .mv (.t 14), none⟩, ⟨some 164, .ia 64 (.t 162) (.t 163), none⟩, ⟨some 165, .call 95 [.t 161, .t 164], none⟩]
def fn96r42 : List AO := [⟨some 4, .mv (.k (.p (.bool false))), none⟩]
def fn96n90 : ACode := .seq (.region fn96r42 false) (.ret)
def fn96n91 : ACode := .cond (.t 165) (fn96n90) (.skip)
def fn96n92 : ACode := .seq (.region fn96r41 true) (fn96n91)
def fn96r43 : List AO := [⟨some 166, .mv (.t 6), none⟩, ⟨some 167, .mv (.t 7), none⟩, ⟨some 168, .ia 64 (.t 166) (.t 167), none⟩, ⟨some 169, .mv (.t 6), none⟩, ⟨some 170, .mv (.t 14), none⟩, ⟨some 171, .ia 64 (.t 169) (.t 170), none⟩, ⟨some 172, .callR 200 94 [.t 168, .t 171], none⟩]
def fn96n94 : ACode := .seq (fn96n92) (.region fn96r43 true)
def fn96n95 : ACode := .seq (.region fn96r40 false) (fn96n94)
def fn96n96 : ACode := .block 8 (fn96n95)
def fn96r44 : List AO := [⟨some 173, .bin .add (.t 155) (.k (.p (.int .i64 1))), none⟩, ⟨some 155, .mv (.t 173), none⟩]
def fn96n98 : ACode := .seq (fn96n96) (.region fn96r44 false)
def fn96n99 : ACode := .seq (fn96n86) (fn96n98)
def fn96n100 : ACode := .seq (.region fn96r39 false) (fn96n99)
def fn96n101 : ACode := .loop (fn96n100)
def fn96n102 : ACode := .block 7 (fn96n101)
def fn96n103 : ACode := .seq (.region fn96r38 false) (fn96n102)
def fn96r45 : List AO := [⟨some 175, .bin .eql (.t 71) (.k (.p (.int .i64 5))), none⟩, ⟨some 174, .mv (.t 175), none⟩]
def fn96r46 : List AO := [⟨some 176, .fa 2 1 (.t 8), none⟩, ⟨some 177, .load false 1 (.t 176), none⟩, ⟨some 178, .len (.t 177), none⟩, ⟨some 179, .bin .neq (.t 178) (.k (.p (.int .i64 1))), none⟩]
def fn96r47 : List AO := [⟨some 4, .mv (.k (.p (.bool false))), none⟩]
def fn96n107 : ACode := .seq (.region fn96r47 false) (.ret)
def fn96n108 : ACode := .cond (.t 179) (fn96n107) (.skip)
def fn96n109 : ACode := .seq (.region fn96r46 false) (fn96n108)
def fn96r48 : List AO := [⟨some 180, .mv (.t 6), none⟩, ⟨some 181, .mv (.t 7), none⟩, ⟨some 182, .mv (.t 6), none⟩, ⟨some 183, .fa 2 1 (.t 8), none⟩, ⟨some 184, .load false 1 (.t 183), none⟩, ⟨some 185, .ia 1 (.t 184) (.k (.p (.int .i64 0))), none⟩, ⟨some 186, .load false 1 (.t 185), none⟩, ⟨some 187, .ia 64 (.t 182) (.t 186), none⟩, ⟨some 188, .load true 64 (.t 187), none⟩, ⟨some 189, .ia 64 (.t 180) (.t 181), none⟩, ⟨none, .store 64 (.t 189) (.t 188), none⟩]
def fn96n111 : ACode := .seq (fn96n109) (.region fn96r48 false)
def fn96r20 : List AO := [⟨some 4, .mv (.k (.p (.bool false))), none⟩]
def fn96n113 : ACode := .seq (.region fn96r20 false) (.ret)
def fn96n114 : ACode := .cond (.t 174) (fn96n111) (fn96n113)
def fn96n115 : ACode := .seq (.region fn96r45 false) (fn96n114)
def fn96n116 : ACode := .cond (.t 149) (fn96n103) (fn96n115)
def fn96n117 : ACode := .seq (fn96n83) (fn96n116)
def fn96n118 : ACode := .cond (.t 79) (fn96n79) (fn96n117)
def fn96n119 : ACode := .seq (.region fn96r25 false) (fn96n118)
def fn96n120 : ACode := .cond (.t 72) (fn96n50) (fn96n119)
def fn96n121 : ACode := .seq (fn96n45) (fn96n120)
def fn96n122 : ACode := .block 4 (fn96n121)
def fn96n123 : ACode := .seq (.region fn96r19 false) (fn96n122)
def fn96n124 : ACode := .seq (fn96n40) (fn96n123)
def fn96n125 : ACode := .seq (fn96n35) (fn96n124)
def fn96n126 : ACode := .seq (.region fn96r10 false) (fn96n125)
def fn96n127 : ACode := .seq (fn96n16) (fn96n126)
def fn96n128 : ACode := .seq (.region fn96r7 false) (fn96n127)
def fn96n129 : ACode := .block 1 (fn96n128)
def fn96r49 : List AO := [⟨some 190, .bin .add (.t 31) (.k (.p (.int .i64 1))), none⟩, ⟨some 31, .mv (.t 190), none⟩]
def fn96n131 : ACode := .seq (fn96n129) (.region fn96r49 false)
def fn96n132 : ACode := .seq (fn96n10) (fn96n131)
def fn96n133 : ACode := .seq (.region fn96r6 false) (fn96n132)
def fn96n134 : ACode := .loop (fn96n133)
def fn96n135 : ACode := .block 0 (fn96n134)
def fn96n136 : ACode := .seq (.region fn96r5 false) (fn96n135)
def fn96r50 : List AO := [⟨some 4, .mv (.k (.p (.bool true))), none⟩]
def fn96n138 : ACode := .seq (.region fn96r50 false) (.ret)
def fn96n139 : ACode := .seq (fn96n136) (fn96n138)
def fn96n140 : ACode := .seq (.region fn96r4 false) (fn96n139)
def fn96n141 : ACode := .seq (.region fn96r3 false) (fn96n140)
def fn96n142 : ACode := .seq (fn96n5) (fn96n141)
def fn96n143 : ACode := .seq (.region fn96r0 false) (fn96n142)
def fn96 : AFun := { nargs := 2, ntmps := 191, results := [.tmp 4], body := fn96n143 }

/-- credence/credencelaw26.Blocks -/
def fn5r0 : List AO := [⟨some 2, .alloc 0 [.e0], none⟩]
def fn5r1 : List AO := [⟨some 6, .slP 1 1 [.p (.int .u32 0)] [(0, 1, .k (.p (.int .u32 1)))], none⟩, ⟨some 7, .slP 1 1 [.p (.int .u32 0)] [(0, 1, .k (.p (.int .u32 2)))], none⟩, ⟨some 8, .build [.p (.bool false), .e0, .e0] [(1, 1, .t 6), (2, 1, .t 7)], none⟩, ⟨some 3, .alloc 1 [.p (.bool false), .e0, .e0], none⟩, ⟨none, .store 3 (.t 3) (.t 8), none⟩]
def fn5r2 : List AO := [⟨some 4, .alloc 2 [.e0], none⟩]
def fn5r3 : List AO := [⟨some 5, .mv (.k (.p (.int .i64 0))), none⟩]
def fn5r4 : List AO := [⟨some 9, .mv (.t 5), none⟩, ⟨some 10, .mv (.t 0), none⟩, ⟨some 11, .bin .lss (.t 9) (.t 10), none⟩]
def fn5n5 : ACode := .cond (.t 11) (.skip) (.exit 0)
def fn5n6 : ACode := .seq (.region fn5r4 false) (fn5n5)
def fn5r6 : List AO := [⟨some 14, .fa 0 1 (.t 4), none⟩, ⟨some 15, .load false 1 (.t 14), none⟩, ⟨some 16, .load true 3 (.t 3), none⟩, ⟨some 17, .slP 1 3 [.p (.bool false), .e0, .e0] [(0, 3, .t 16)], none⟩, ⟨some 18, .build [.e0] [(0, 1, .t 17)], none⟩, ⟨some 19, .slP 1 1 [.e0] [(0, 1, .t 18)], none⟩, ⟨some 20, .app 3 1 24 (.t 15) (.t 19), none⟩, ⟨some 21, .fa 0 1 (.t 4), none⟩, ⟨none, .store 1 (.t 21) (.t 20), none⟩]
def fn5n8 : ACode := .block 1 (.region fn5r6 false)
def fn5r5 : List AO := [⟨some 12, .mv (.t 5), none⟩, ⟨some 13, .bin .add (.t 12) (.k (.p (.int .i64 1))), none⟩, ⟨some 5, .mv (.t 13), none⟩]
def fn5n10 : ACode := .seq (fn5n8) (.region fn5r5 false)
def fn5n11 : ACode := .seq (fn5n6) (fn5n10)
def fn5n12 : ACode := .loop (fn5n11)
def fn5n13 : ACode := .block 0 (fn5n12)
def fn5n14 : ACode := .seq (.region fn5r3 false) (fn5n13)
def fn5r7 : List AO := [⟨some 22, .load true 1 (.t 4), none⟩, ⟨none, .store 1 (.t 2) (.t 22), none⟩]
def fn5n16 : ACode := .seq (.region fn5r7 false) (.ret)
def fn5n17 : ACode := .seq (fn5n14) (fn5n16)
def fn5n18 : ACode := .seq (.region fn5r2 false) (fn5n17)
def fn5n19 : ACode := .seq (.region fn5r1 false) (fn5n18)
def fn5n20 : ACode := .seq (.region fn5r0 false) (fn5n19)
def fn5 : AFun := { nargs := 1, ntmps := 23, results := [.cell true 1 2], body := fn5n20 }

/-- credence/credencelaw29.Example -/
def fn6r0 : List AO := [⟨some 0, .alloc 0 [.e0], none⟩]
def fn6r1 : List AO := [⟨some 1, .build [.p (.int .i64 0), .p (.int .i64 0), .e0] [(0, 1, .k (.p (.int .i64 0)))], none⟩, ⟨some 2, .build [.p (.int .i64 0), .p (.int .i64 0), .e0] [(0, 1, .k (.p (.int .i64 1)))], none⟩, ⟨some 3, .slP 2 1 [.p (.int .i64 0), .p (.int .i64 0)] [(0, 1, .k (.p (.int .i64 1))), (1, 1, .k (.p (.int .i64 0)))], none⟩, ⟨some 4, .build [.p (.int .i64 0), .p (.int .i64 0), .e0] [(0, 1, .k (.p (.int .i64 2))), (1, 1, .k (.p (.int .i64 0))), (2, 1, .t 3)], none⟩, ⟨some 5, .slP 2 1 [.p (.int .i64 0), .p (.int .i64 0)] [(0, 1, .k (.p (.int .i64 1))), (1, 1, .k (.p (.int .i64 0)))], none⟩, ⟨some 6, .build [.p (.int .i64 0), .p (.int .i64 0), .e0] [(0, 1, .k (.p (.int .i64 2))), (1, 1, .k (.p (.int .i64 1))), (2, 1, .t 5)], none⟩, ⟨some 7, .slP 2 1 [.p (.int .i64 0), .p (.int .i64 0)] [(0, 1, .k (.p (.int .i64 1))), (1, 1, .k (.p (.int .i64 0)))], none⟩, ⟨some 8, .build [.p (.int .i64 0), .p (.int .i64 0), .e0] [(0, 1, .k (.p (.int .i64 2))), (1, 1, .k (.p (.int .i64 2))), (2, 1, .t 7)], none⟩, ⟨some 9, .slP 2 1 [.p (.int .i64 0), .p (.int .i64 0)] [(0, 1, .k (.p (.int .i64 3))), (1, 1, .k (.p (.int .i64 4)))], none⟩, ⟨some 10, .build [.p (.int .i64 0), .p (.int .i64 0), .e0] [(0, 1, .k (.p (.int .i64 4))), (2, 1, .t 9)], none⟩, ⟨some 11, .slP 2 1 [.p (.int .i64 0), .p (.int .i64 0)] [(0, 1, .k (.p (.int .i64 2))), (1, 1, .k (.p (.int .i64 5)))], none⟩, ⟨some 12, .build [.p (.int .i64 0), .p (.int .i64 0), .e0] [(0, 1, .k (.p (.int .i64 3))), (2, 1, .t 11)], none⟩, ⟨some 13, .slP 7 3 [.p (.int .i64 0), .p (.int .i64 0), .e0, .p (.int .i64 0), .p (.int .i64 0), .e0, .p (.int .i64 0), .p (.int .i64 0), .e0, .p (.int .i64 0), .p (.int .i64 0), .e0, .p (.int .i64 0), .p (.int .i64 0), .e0, .p (.int .i64 0), .p (.int .i64 0), .e0, .p (.int .i64 0), .p (.int .i64 0), .e0] [(0, 3, .t 1), (3, 3, .t 2), (6, 3, .t 4), (9, 3, .t 6), (12, 3, .t 8), (15, 3, .t 10), (18, 3, .t 12)], none⟩, ⟨some 14, .build [.e0] [(0, 1, .t 13)], none⟩, ⟨none, .store 1 (.t 0) (.t 14), none⟩]
def fn6n2 : ACode := .seq (.region fn6r1 false) (.ret)
def fn6n3 : ACode := .seq (.region fn6r0 false) (fn6n2)
def fn6 : AFun := { nargs := 0, ntmps := 15, results := [.cell true 1 0], body := fn6n3 }

/-- credence/assign.Zero -/
def fn43r0 : List AO := [⟨some 0, .alloc 0 [.p (.bool false), .e0, .e0], none⟩]
def fn43r1 : List AO := [⟨some 1, .call 19 [.k (.p (.int .u64 1))], none⟩, ⟨some 2, .build [.p (.bool false), .e0, .e0] [(2, 1, .t 1)], none⟩, ⟨none, .store 3 (.t 0) (.t 2), none⟩]
def fn43n2 : ACode := .seq (.region fn43r1 false) (.ret)
def fn43n3 : ACode := .seq (.region fn43r0 false) (fn43n2)
def fn43 : AFun := { nargs := 0, ntmps := 3, results := [.cell true 3 0], body := fn43n3 }

/-- credence/circuit.Used -/
def fn44r0 : List AO := [⟨some 2, .mv (.k (.e0)), none⟩]
def fn44r1 : List AO := [⟨some 7, .mv (.t 0), none⟩, ⟨some 8, .len (.t 7), none⟩, ⟨some 9, .mk 0 1 1 [.p (.bool false)] (.t 8) (.t 8), none⟩, ⟨some 3, .mv (.t 9), none⟩]
def fn44r2 : List AO := [⟨some 10, .mv (.t 0), none⟩, ⟨some 11, .len (.t 10), none⟩, ⟨some 12, .bin .gtr (.t 11) (.k (.p (.int .i64 0))), none⟩]
def fn44r3 : List AO := [⟨some 13, .mv (.t 3), none⟩, ⟨some 14, .mv (.t 0), none⟩, ⟨some 15, .len (.t 14), none⟩, ⟨some 16, .bin .sub (.t 15) (.k (.p (.int .i64 1))), none⟩, ⟨some 17, .ia 1 (.t 13) (.t 16), none⟩, ⟨none, .store 1 (.t 17) (.k (.p (.bool true))), none⟩]
def fn44n4 : ACode := .cond (.t 12) (.region fn44r3 false) (.skip)
def fn44n5 : ACode := .seq (.region fn44r2 false) (fn44n4)
def fn44r4 : List AO := [⟨some 18, .mv (.t 0), none⟩, ⟨some 19, .len (.t 18), none⟩, ⟨some 20, .bin .sub (.t 19) (.k (.p (.int .i64 1))), none⟩, ⟨some 4, .mv (.t 20), none⟩]
def fn44r5 : List AO := [⟨some 21, .mv (.t 4), none⟩, ⟨some 22, .bin .geq (.t 21) (.k (.p (.int .i64 0))), none⟩]
def fn44n8 : ACode := .cond (.t 22) (.skip) (.exit 0)
def fn44n9 : ACode := .seq (.region fn44r5 false) (fn44n8)
def fn44r7 : List AO := [⟨some 25, .mv (.t 3), none⟩, ⟨some 26, .mv (.t 4), none⟩, ⟨some 27, .ia 1 (.t 25) (.t 26), none⟩, ⟨some 28, .load false 1 (.t 27), none⟩]
def fn44r8 : List AO := [⟨some 29, .mv (.t 0), none⟩, ⟨some 30, .mv (.t 4), none⟩, ⟨some 31, .ia 3 (.t 29) (.t 30), none⟩, ⟨some 32, .fa 2 1 (.t 31), none⟩, ⟨some 33, .load false 1 (.t 32), none⟩, ⟨some 34, .len (.t 33), none⟩, ⟨some 35, .mv (.k (.p (.int .i64 0))), none⟩]
def fn44r9 : List AO := [⟨some 36, .bin .lss (.t 35) (.t 34), none⟩]
def fn44n13 : ACode := .cond (.t 36) (.skip) (.exit 2)
def fn44r10 : List AO := [⟨some 37, .ia 1 (.t 33) (.t 35), none⟩, ⟨some 38, .load false 1 (.t 37), none⟩, ⟨some 6, .mv (.t 38), none⟩]
def fn44r11 : List AO := [⟨some 39, .mv (.t 3), none⟩, ⟨some 40, .mv (.t 6), none⟩, ⟨some 41, .ia 1 (.t 39) (.t 40), none⟩, ⟨none, .store 1 (.t 41) (.k (.p (.bool true))), none⟩]
def fn44n16 : ACode := .seq (.region fn44r10 false) (.region fn44r11 false)
def fn44n17 : ACode := .block 3 (fn44n16)
def fn44r12 : List AO := [⟨some 42, .bin .add (.t 35) (.k (.p (.int .i64 1))), none⟩, ⟨some 35, .mv (.t 42), none⟩]
def fn44n19 : ACode := .seq (fn44n17) (.region fn44r12 false)
def fn44n20 : ACode := .seq (fn44n13) (fn44n19)
def fn44n21 : ACode := .seq (.region fn44r9 false) (fn44n20)
def fn44n22 : ACode := .loop (fn44n21)
def fn44n23 : ACode := .block 2 (fn44n22)
def fn44n24 : ACode := .seq (.region fn44r8 false) (fn44n23)
def fn44n25 : ACode := .cond (.t 28) (fn44n24) (.skip)
def fn44n26 : ACode := .seq (.region fn44r7 false) (fn44n25)
def fn44n27 : ACode := .block 1 (fn44n26)
def fn44r6 : List AO := [⟨some 23, .mv (.t 4), none⟩, ⟨some 24, .bin .sub (.t 23) (.k (.p (.int .i64 1))), none⟩, ⟨some 4, .mv (.t 24), none⟩]
def fn44n29 : ACode := .seq (fn44n27) (.region fn44r6 false)
def fn44n30 : ACode := .seq (fn44n9) (fn44n29)
def fn44n31 : ACode := .loop (fn44n30)
def fn44n32 : ACode := .block 0 (fn44n31)
def fn44n33 : ACode := .seq (.region fn44r4 false) (fn44n32)
def fn44r13 : List AO := [⟨some 43, .mv (.t 3), none⟩, ⟨some 2, .mv (.t 43), none⟩]
def fn44n35 : ACode := .seq (.region fn44r13 false) (.ret)
def fn44n36 : ACode := .seq (fn44n33) (fn44n35)
def fn44n37 : ACode := .seq (fn44n5) (fn44n36)
def fn44n38 : ACode := .seq (.region fn44r1 false) (fn44n37)
def fn44n39 : ACode := .seq (.region fn44r0 false) (fn44n38)
def fn44 : AFun := { nargs := 1, ntmps := 44, results := [.tmp 2], body := fn44n39 }

/-- credence/assign.One -/
def fn45r0 : List AO := [⟨some 0, .alloc 0 [.p (.bool false), .e0, .e0], none⟩]
def fn45r1 : List AO := [⟨some 1, .call 19 [.k (.p (.int .u64 1))], none⟩, ⟨some 2, .call 19 [.k (.p (.int .u64 1))], none⟩, ⟨some 3, .build [.p (.bool false), .e0, .e0] [(1, 1, .t 1), (2, 1, .t 2)], none⟩, ⟨none, .store 3 (.t 0) (.t 3), none⟩]
def fn45n2 : ACode := .seq (.region fn45r1 false) (.ret)
def fn45n3 : ACode := .seq (.region fn45r0 false) (fn45n2)
def fn45 : AFun := { nargs := 0, ntmps := 4, results := [.cell true 3 0], body := fn45n3 }

/-- credence/rational.Normalize -/
def fn46r0 : List AO := [⟨some 1, .boxP (.t 0), none⟩, ⟨some 2, .alloc 0 [.p (.bool false), .e0, .e0], none⟩]
def fn46r1 : List AO := [⟨some 3, .fa 0 1 (.t 1), none⟩, ⟨some 4, .load false 1 (.t 3), none⟩, ⟨some 5, .fa 1 1 (.t 1), none⟩, ⟨some 6, .load false 1 (.t 5), none⟩, ⟨some 7, .fa 2 1 (.t 1), none⟩, ⟨some 8, .load false 1 (.t 7), none⟩, ⟨some 9, .call 29 [.t 4, .t 6, .t 8], none⟩, ⟨none, .store 3 (.t 2) (.t 9), none⟩]
def fn46n2 : ACode := .seq (.region fn46r1 false) (.ret)
def fn46n3 : ACode := .seq (.region fn46r0 false) (fn46n2)
def fn46 : AFun := { nargs := 1, ntmps := 10, results := [.cell true 3 2], body := fn46n3 }

/-- credence/assign.Choice -/
def fn47r0 : List AO := [⟨some 2, .boxP (.t 0), none⟩, ⟨some 4, .alloc 0 [.p (.bool false), .e0, .e0], none⟩]
def fn47r1 : List AO := [⟨some 5, .mv (.t 1), none⟩, ⟨some 6, .bin .lss (.t 5) (.k (.p (.int .i64 0))), none⟩]
def fn47r2 : List AO := [⟨some 7, .load true 1 (.t 2), none⟩, ⟨some 8, .call 36 [.t 7], none⟩, ⟨none, .store 3 (.t 4) (.t 8), none⟩]
def fn47n3 : ACode := .seq (.region fn47r2 false) (.ret)
def fn47n4 : ACode := .cond (.t 6) (fn47n3) (.skip)
def fn47n5 : ACode := .seq (.region fn47r1 false) (fn47n4)
def fn47r3 : List AO := [⟨some 9, .fa 0 1 (.t 2), none⟩, ⟨some 10, .load false 1 (.t 9), none⟩, ⟨some 11, .mv (.t 1), none⟩, ⟨some 12, .ia 3 (.t 10) (.t 11), none⟩, ⟨some 13, .load true 3 (.t 12), none⟩, ⟨some 14, .call 46 [.t 13], none⟩, ⟨none, .store 3 (.t 4) (.t 14), none⟩]
def fn47n7 : ACode := .seq (.region fn47r3 false) (.ret)
def fn47n8 : ACode := .seq (fn47n5) (fn47n7)
def fn47n9 : ACode := .seq (.region fn47r0 false) (fn47n8)
def fn47 : AFun := { nargs := 2, ntmps := 15, results := [.cell true 3 4], body := fn47n9 }

/-- credence/rational.Mul -/
def fn48r0 : List AO := [⟨some 2, .boxP (.t 0), none⟩, ⟨some 3, .boxP (.t 1), none⟩, ⟨some 4, .alloc 0 [.p (.bool false), .e0, .e0], none⟩]
def fn48r1 : List AO := [⟨some 12, .load true 3 (.t 2), none⟩, ⟨some 13, .call 11 [.t 12], none⟩, ⟨some 11, .mv (.t 13), none⟩, ⟨some 14, .ext 0 (.t 11), none⟩, ⟨some 15, .ext 1 (.t 11), none⟩, ⟨some 16, .ext 2 (.t 11), none⟩, ⟨some 5, .mv (.t 14), none⟩, ⟨some 6, .mv (.t 15), none⟩, ⟨some 7, .mv (.t 16), none⟩]
def fn48r2 : List AO := [⟨some 18, .load true 3 (.t 3), none⟩, ⟨some 19, .call 11 [.t 18], none⟩, ⟨some 17, .mv (.t 19), none⟩, ⟨some 20, .ext 0 (.t 17), none⟩, ⟨some 21, .ext 1 (.t 17), none⟩, ⟨some 22, .ext 2 (.t 17), none⟩, ⟨some 8, .mv (.t 20), none⟩, ⟨some 9, .mv (.t 21), none⟩, ⟨some 10, .mv (.t 22), none⟩]
def fn48r3 : List AO := [⟨some 23, .mv (.t 5), none⟩, ⟨some 24, .mv (.t 8), none⟩, ⟨some 25, .binB .neq (.t 23) (.t 24), none⟩, ⟨some 26, .mv (.t 6), none⟩, ⟨some 27, .mv (.t 9), none⟩, ⟨some 28, .call 14 [.t 26, .t 27], none⟩, ⟨some 29, .mv (.t 7), none⟩, ⟨some 30, .mv (.t 10), none⟩, ⟨some 31, .call 14 [.t 29, .t 30], none⟩, ⟨some 32, .call 29 [.t 25, .t 28, .t 31], none⟩, ⟨none, .store 3 (.t 4) (.t 32), none⟩]
def fn48n4 : ACode := .seq (.region fn48r3 false) (.ret)
def fn48n5 : ACode := .seq (.region fn48r2 false) (fn48n4)
def fn48n6 : ACode := .seq (.region fn48r1 false) (fn48n5)
def fn48n7 : ACode := .seq (.region fn48r0 false) (fn48n6)
def fn48 : AFun := { nargs := 2, ntmps := 33, results := [.cell true 3 4], body := fn48n7 }

/-- credence/rational.Product -/
def fn49r0 : List AO := [⟨some 2, .alloc 0 [.p (.bool false), .e0, .e0], none⟩]
def fn49r1 : List AO := [⟨some 6, .call 10 [], none⟩, ⟨some 7, .call 10 [], none⟩, ⟨some 8, .build [.p (.bool false), .e0, .e0] [(1, 1, .t 6), (2, 1, .t 7)], none⟩, ⟨some 3, .alloc 1 [.p (.bool false), .e0, .e0], none⟩, ⟨none, .store 3 (.t 3) (.t 8), none⟩]
def fn49r2 : List AO := [⟨some 9, .mv (.t 0), none⟩, ⟨some 10, .len (.t 9), none⟩, ⟨some 11, .mv (.k (.p (.int .i64 0))), none⟩]
def fn49r3 : List AO := [⟨some 12, .bin .lss (.t 11) (.t 10), none⟩]
def fn49n4 : ACode := .cond (.t 12) (.skip) (.exit 0)
def fn49r4 : List AO := [⟨some 13, .ia 3 (.t 9) (.t 11), none⟩, ⟨some 14, .load true 3 (.t 13), none⟩, ⟨some 5, .alloc 2 [.p (.bool false), .e0, .e0], none⟩, ⟨none, .store 3 (.t 5) (.t 14), none⟩]
def fn49r5 : List AO := [⟨some 15, .load true 3 (.t 3), none⟩, ⟨some 16, .load true 3 (.t 5), none⟩, ⟨some 17, .call 48 [.t 15, .t 16], none⟩, ⟨none, .store 3 (.t 3) (.t 17), none⟩]
def fn49n7 : ACode := .seq (.region fn49r4 false) (.region fn49r5 false)
def fn49n8 : ACode := .block 1 (fn49n7)
def fn49r6 : List AO := [⟨some 18, .bin .add (.t 11) (.k (.p (.int .i64 1))), none⟩, ⟨some 11, .mv (.t 18), none⟩]
def fn49n10 : ACode := .seq (fn49n8) (.region fn49r6 false)
def fn49n11 : ACode := .seq (fn49n4) (fn49n10)
def fn49n12 : ACode := .seq (.region fn49r3 false) (fn49n11)
def fn49n13 : ACode := .loop (fn49n12)
def fn49n14 : ACode := .block 0 (fn49n13)
def fn49n15 : ACode := .seq (.region fn49r2 false) (fn49n14)
def fn49r7 : List AO := [⟨some 19, .load true 3 (.t 3), none⟩, ⟨none, .store 3 (.t 2) (.t 19), none⟩]
def fn49n17 : ACode := .seq (.region fn49r7 false) (.ret)
def fn49n18 : ACode := .seq (fn49n15) (fn49n17)
def fn49n19 : ACode := .seq (.region fn49r1 false) (fn49n18)
def fn49n20 : ACode := .seq (.region fn49r0 false) (fn49n19)
def fn49 : AFun := { nargs := 1, ntmps := 20, results := [.cell true 3 2], body := fn49n20 }

/-- credence/circuit.gateProbability -/
def fn50r0 : List AO := [⟨some 3, .boxP (.t 0), none⟩, ⟨some 4, .boxP (.t 1), none⟩, ⟨some 6, .alloc 0 [.p (.bool false), .e0, .e0], none⟩]
def fn50r1 : List AO := [⟨some 7, .mv (.k (.e0)), none⟩]
def fn50r2 : List AO := [⟨some 15, .fa 0 1 (.t 4), none⟩, ⟨some 16, .load false 1 (.t 15), none⟩]
def fn50r3 : List AO := [⟨some 18, .bin .eql (.t 16) (.k (.p (.int .i64 1))), none⟩, ⟨some 17, .mv (.t 18), none⟩]
def fn50r4 : List AO := [⟨some 19, .call 45 [], none⟩, ⟨none, .store 3 (.t 6) (.t 19), none⟩]
def fn50n5 : ACode := .seq (.region fn50r4 false) (.ret)
def fn50r5 : List AO := [⟨some 21, .bin .eql (.t 16) (.k (.p (.int .i64 2))), none⟩, ⟨some 20, .mv (.t 21), none⟩]
def fn50r6 : List AO := [⟨some 22, .fa 2 1 (.t 4), none⟩, ⟨some 23, .load false 1 (.t 22), none⟩, ⟨some 24, .len (.t 23), none⟩, ⟨some 25, .mv (.k (.p (.int .i64 0))), none⟩]
def fn50r7 : List AO := [⟨some 26, .bin .lss (.t 25) (.t 24), none⟩]
def fn50n9 : ACode := .cond (.t 26) (.skip) (.exit 1)
def fn50r8 : List AO := [⟨some 27, .mv (.t 25), none⟩, ⟨some 28, .ia 1 (.t 23) (.t 25), none⟩, ⟨some 29, .load false 1 (.t 28), none⟩, ⟨some 8, .mv (.t 27), none⟩, ⟨some 9, .mv (.t 29), none⟩]
def fn50r9 : List AO := [⟨some 30, .mv (.t 8), none⟩, ⟨some 10, .mv (.t 30), none⟩]
def fn50r10 : List AO := [⟨some 31, .mv (.t 8), none⟩, ⟨some 32, .fa 2 1 (.t 4), none⟩, ⟨some 33, .load false 1 (.t 32), none⟩, ⟨some 34, .len (.t 33), none⟩, ⟨some 35, .bin .sub (.t 34) (.k (.p (.int .i64 1))), none⟩, ⟨some 36, .bin .eql (.t 31) (.t 35), none⟩]
def fn50r11 : List AO := [⟨some 10, .mv (.k (.p (.int .i64 (-1)))), none⟩]
def fn50n14 : ACode := .cond (.t 36) (.region fn50r11 false) (.skip)
def fn50n15 : ACode := .seq (.region fn50r10 false) (fn50n14)
def fn50r12 : List AO := [⟨some 37, .mv (.t 7), none⟩, ⟨some 38, .fa 0 1 (.t 3), none⟩, ⟨some 39, .load false 1 (.t 38), none⟩, ⟨some 40, .fa 1 1 (.t 4), none⟩, ⟨some 41, .load false 1 (.t 40), none⟩, ⟨some 42, .ia 1 (.t 39) (.t 41), none⟩, ⟨some 43, .load true 1 (.t 42), none⟩, ⟨some 44, .mv (.t 10), none⟩, ⟨some 45, .callP 47 [.t 43, .t 44], none⟩, ⟨some 46, .mv (.t 2), none⟩, ⟨some 47, .mv (.t 9), none⟩, ⟨some 48, .ia 3 (.t 46) (.t 47), none⟩, ⟨some 49, .load true 3 (.t 48), none⟩, ⟨some 50, .callP 48 [.t 45, .t 49], none⟩, ⟨some 51, .slP 1 3 [.p (.bool false), .e0, .e0] [(0, 3, .t 50)], none⟩, ⟨some 52, .app 1 3 56 (.t 37) (.t 51), none⟩, ⟨some 7, .mv (.t 52), none⟩]
def fn50n17 : ACode := .seq (fn50n15) (.region fn50r12 true)
def fn50n18 : ACode := .seq (.region fn50r9 false) (fn50n17)
def fn50n19 : ACode := .seq (.region fn50r8 false) (fn50n18)
def fn50n20 : ACode := .block 2 (fn50n19)
def fn50r13 : List AO := [⟨some 53, .bin .add (.t 25) (.k (.p (.int .i64 1))), none⟩, ⟨some 25, .mv (.t 53), none⟩]
def fn50n22 : ACode := .seq (fn50n20) (.region fn50r13 false)
def fn50n23 : ACode := .seq (fn50n9) (fn50n22)
def fn50n24 : ACode := .seq (.region fn50r7 false) (fn50n23)
def fn50n25 : ACode := .loop (fn50n24)
def fn50n26 : ACode := .block 1 (fn50n25)
def fn50n27 : ACode := .seq (.region fn50r6 false) (fn50n26)
def fn50r14 : List AO := [⟨some 54, .mv (.t 7), none⟩, ⟨some 55, .callR 100 32 [.t 54], none⟩, ⟨none, .store 3 (.t 6) (.t 55), none⟩]
def fn50n29 : ACode := .seq (.region fn50r14 false) (.ret)
def fn50n30 : ACode := .seq (fn50n27) (fn50n29)
def fn50r15 : List AO := [⟨some 57, .bin .eql (.t 16) (.k (.p (.int .i64 3))), none⟩, ⟨some 56, .mv (.t 57), none⟩]
def fn50r16 : List AO := [⟨some 58, .fa 2 1 (.t 4), none⟩, ⟨some 59, .load false 1 (.t 58), none⟩, ⟨some 60, .len (.t 59), none⟩, ⟨some 61, .mv (.k (.p (.int .i64 0))), none⟩]
def fn50r17 : List AO := [⟨some 62, .bin .lss (.t 61) (.t 60), none⟩]
def fn50n34 : ACode := .cond (.t 62) (.skip) (.exit 3)
def fn50r18 : List AO := [⟨some 63, .ia 1 (.t 59) (.t 61), none⟩, ⟨some 64, .load false 1 (.t 63), none⟩, ⟨some 12, .mv (.t 64), none⟩]
def fn50r19 : List AO := [⟨some 65, .mv (.t 7), none⟩, ⟨some 66, .mv (.t 2), none⟩, ⟨some 67, .mv (.t 12), none⟩, ⟨some 68, .ia 3 (.t 66) (.t 67), none⟩, ⟨some 69, .load true 3 (.t 68), none⟩, ⟨some 70, .slP 1 3 [.p (.bool false), .e0, .e0] [(0, 3, .t 69)], none⟩, ⟨some 71, .app 2 3 56 (.t 65) (.t 70), none⟩, ⟨some 7, .mv (.t 71), none⟩]
def fn50n37 : ACode := .seq (.region fn50r18 false) (.region fn50r19 false)
def fn50n38 : ACode := .block 4 (fn50n37)
def fn50r20 : List AO := [⟨some 72, .bin .add (.t 61) (.k (.p (.int .i64 1))), none⟩, ⟨some 61, .mv (.t 72), none⟩]
def fn50n40 : ACode := .seq (fn50n38) (.region fn50r20 false)
def fn50n41 : ACode := .seq (fn50n34) (fn50n40)
def fn50n42 : ACode := .seq (.region fn50r17 false) (fn50n41)
def fn50n43 : ACode := .loop (fn50n42)
def fn50n44 : ACode := .block 3 (fn50n43)
def fn50n45 : ACode := .seq (.region fn50r16 false) (fn50n44)
def fn50r21 : List AO := [⟨some 73, .mv (.t 7), none⟩, ⟨some 74, .callR 29000 49 [.t 73], none⟩, ⟨none, .store 3 (.t 6) (.t 74), none⟩]
def fn50n47 : ACode := .seq (.region fn50r21 false) (.ret)
def fn50n48 : ACode := .seq (fn50n45) (fn50n47)
def fn50r22 : List AO := [⟨some 76, .bin .eql (.t 16) (.k (.p (.int .i64 4))), none⟩, ⟨some 75, .mv (.t 76), none⟩]
def fn50r23 : List AO := [⟨some 77, .fa 2 1 (.t 4), none⟩, ⟨some 78, .load false 1 (.t 77), none⟩, ⟨some 79, .len (.t 78), none⟩, ⟨some 80, .mv (.k (.p (.int .i64 0))), none⟩]
def fn50r24 : List AO := [⟨some 81, .bin .lss (.t 80) (.t 79), none⟩]
def fn50n52 : ACode := .cond (.t 81) (.skip) (.exit 5)
def fn50r25 : List AO := [⟨some 82, .ia 1 (.t 78) (.t 80), none⟩, ⟨some 83, .load false 1 (.t 82), none⟩, ⟨some 14, .mv (.t 83), none⟩]
def fn50r26 : List AO := [⟨some 84, .mv (.t 7), none⟩, ⟨some 85, .mv (.t 2), none⟩, ⟨some 86, .mv (.t 14), none⟩, ⟨some 87, .ia 3 (.t 85) (.t 86), none⟩, ⟨some 88, .load true 3 (.t 87), none⟩, ⟨some 89, .call 35 [.t 88], none⟩, ⟨some 90, .slP 1 3 [.p (.bool false), .e0, .e0] [(0, 3, .t 89)], none⟩, ⟨some 91, .app 3 3 56 (.t 84) (.t 90), none⟩, ⟨some 7, .mv (.t 91), none⟩]
def fn50n55 : ACode := .seq (.region fn50r25 false) (.region fn50r26 false)
def fn50n56 : ACode := .block 6 (fn50n55)
def fn50r27 : List AO := [⟨some 92, .bin .add (.t 80) (.k (.p (.int .i64 1))), none⟩, ⟨some 80, .mv (.t 92), none⟩]
def fn50n58 : ACode := .seq (fn50n56) (.region fn50r27 false)
def fn50n59 : ACode := .seq (fn50n52) (fn50n58)
def fn50n60 : ACode := .seq (.region fn50r24 false) (fn50n59)
def fn50n61 : ACode := .loop (fn50n60)
def fn50n62 : ACode := .block 5 (fn50n61)
def fn50n63 : ACode := .seq (.region fn50r23 false) (fn50n62)
def fn50r28 : List AO := [⟨some 93, .mv (.t 7), none⟩, ⟨some 94, .callR 39700 49 [.t 93], none⟩, ⟨some 95, .call 35 [.t 94], none⟩, ⟨none, .store 3 (.t 6) (.t 95), none⟩]
def fn50n65 : ACode := .seq (.region fn50r28 false) (.ret)
def fn50n66 : ACode := .seq (fn50n63) (fn50n65)
def fn50r29 : List AO := [⟨some 97, .bin .eql (.t 16) (.k (.p (.int .i64 5))), none⟩, ⟨some 96, .mv (.t 97), none⟩]
def fn50r30 : List AO := [⟨some 98, .mv (.t 2), none⟩, ⟨some 99, .fa 2 1 (.t 4), none⟩, ⟨some 100, .load false 1 (.t 99), none⟩, ⟨some 101, .ia 1 (.t 100) (.k (.p (.int .i64 0))), none⟩, ⟨some 102, .load false 1 (.t 101), none⟩, ⟨some 103, .ia 3 (.t 98) (.t 102), none⟩, ⟨some 104, .load true 3 (.t 103), none⟩, ⟨some 105, .call 35 [.t 104], none⟩, ⟨none, .store 3 (.t 6) (.t 105), none⟩]
def fn50n69 : ACode := .seq (.region fn50r30 false) (.ret)
def fn50n70 : ACode := .cond (.t 96) (fn50n69) (.skip)
def fn50n71 : ACode := .seq (.region fn50r29 false) (fn50n70)
def fn50n72 : ACode := .cond (.t 75) (fn50n66) (fn50n71)
def fn50n73 : ACode := .seq (.region fn50r22 false) (fn50n72)
def fn50n74 : ACode := .cond (.t 56) (fn50n48) (fn50n73)
def fn50n75 : ACode := .seq (.region fn50r15 false) (fn50n74)
def fn50n76 : ACode := .cond (.t 20) (fn50n30) (fn50n75)
def fn50n77 : ACode := .seq (.region fn50r5 false) (fn50n76)
def fn50n78 : ACode := .cond (.t 17) (fn50n5) (fn50n77)
def fn50n79 : ACode := .seq (.region fn50r3 false) (fn50n78)
def fn50n80 : ACode := .block 0 (fn50n79)
def fn50n81 : ACode := .seq (.region fn50r2 false) (fn50n80)
def fn50r31 : List AO := [⟨some 106, .call 43 [], none⟩, ⟨none, .store 3 (.t 6) (.t 106), none⟩]
def fn50n83 : ACode := .seq (.region fn50r31 false) (.ret)
def fn50n84 : ACode := .seq (fn50n81) (fn50n83)
def fn50n85 : ACode := .seq (.region fn50r1 false) (fn50n84)
def fn50n86 : ACode := .seq (.region fn50r0 false) (fn50n85)
def fn50 : AFun := { nargs := 3, ntmps := 107, results := [.cell true 3 6], body := fn50n86 }

/-- credence/circuit.Probabilities -/
def fn51r0 : List AO := [⟨some 2, .boxP (.t 0), none⟩, ⟨some 3, .boxP (.t 1), none⟩, ⟨some 4, .mv (.k (.e0)), none⟩]
def fn51r1 : List AO := [⟨some 9, .fa 0 1 (.t 3), none⟩, ⟨some 10, .load false 1 (.t 9), none⟩, ⟨some 11, .len (.t 10), none⟩, ⟨some 12, .mk 0 3 56 [.p (.bool false), .e0, .e0] (.t 11) (.t 11), none⟩, ⟨some 5, .mv (.t 12), none⟩]
def fn51r2 : List AO := [⟨some 13, .fa 0 1 (.t 3), none⟩, ⟨some 14, .load false 1 (.t 13), none⟩, ⟨some 15, .call 44 [.t 14], none⟩, ⟨some 6, .mv (.t 15), none⟩]
def fn51r3 : List AO := [⟨some 16, .fa 0 1 (.t 3), none⟩, ⟨some 17, .load false 1 (.t 16), none⟩, ⟨some 18, .len (.t 17), none⟩, ⟨some 19, .mv (.k (.p (.int .i64 0))), none⟩]
def fn51r4 : List AO := [⟨some 20, .bin .lss (.t 19) (.t 18), none⟩]
def fn51n5 : ACode := .cond (.t 20) (.skip) (.exit 0)
def fn51r5 : List AO := [⟨some 21, .mv (.t 19), none⟩, ⟨some 22, .ia 3 (.t 17) (.t 19), none⟩, ⟨some 23, .load true 3 (.t 22), none⟩, ⟨some 8, .alloc 1 [.p (.int .i64 0), .p (.int .i64 0), .e0], none⟩, ⟨some 7, .mv (.t 21), none⟩, ⟨none, .store 3 (.t 8) (.t 23), none⟩]
def fn51r6 : List AO := [⟨some 24, .mv (.t 6), none⟩, ⟨some 25, .mv (.t 7), none⟩, ⟨some 26, .ia 1 (.t 24) (.t 25), none⟩, ⟨some 27, .load false 1 (.t 26), none⟩]
def fn51r7 : List AO := [⟨some 28, .mv (.t 5), none⟩, ⟨some 29, .mv (.t 7), none⟩, ⟨some 30, .load true 1 (.t 2), none⟩, ⟨some 31, .load true 3 (.t 8), none⟩, ⟨some 32, .mv (.t 5), none⟩, ⟨some 33, .callR 100 50 [.t 30, .t 31, .t 32], none⟩, ⟨some 34, .ia 3 (.t 28) (.t 29), none⟩, ⟨none, .store 3 (.t 34) (.t 33), none⟩]
def fn51n9 : ACode := .cond (.t 27) (.region fn51r7 false) (.skip)
def fn51n10 : ACode := .seq (.region fn51r6 false) (fn51n9)
def fn51n11 : ACode := .seq (.region fn51r5 false) (fn51n10)
def fn51n12 : ACode := .block 1 (fn51n11)
def fn51r8 : List AO := [⟨some 35, .bin .add (.t 19) (.k (.p (.int .i64 1))), none⟩, ⟨some 19, .mv (.t 35), none⟩]
def fn51n14 : ACode := .seq (fn51n12) (.region fn51r8 false)
def fn51n15 : ACode := .seq (fn51n5) (fn51n14)
def fn51n16 : ACode := .seq (.region fn51r4 false) (fn51n15)
def fn51n17 : ACode := .loop (fn51n16)
def fn51n18 : ACode := .block 0 (fn51n17)
def fn51n19 : ACode := .seq (.region fn51r3 false) (fn51n18)
def fn51r9 : List AO := [⟨some 36, .mv (.t 5), none⟩, ⟨some 4, .mv (.t 36), none⟩]
def fn51n21 : ACode := .seq (.region fn51r9 false) (.ret)
def fn51n22 : ACode := .seq (fn51n19) (fn51n21)
def fn51n23 : ACode := .seq (.region fn51r2 false) (fn51n22)
def fn51n24 : ACode := .seq (.region fn51r1 false) (fn51n23)
def fn51n25 : ACode := .seq (.region fn51r0 false) (fn51n24)
def fn51 : AFun := { nargs := 2, ntmps := 37, results := [.tmp 4], body := fn51n25 }

/-- credence/circuit.Probability -/
def fn69r0 : List AO := [⟨some 2, .boxP (.t 0), none⟩, ⟨some 3, .boxP (.t 1), none⟩, ⟨some 4, .alloc 0 [.p (.bool false), .e0, .e0], none⟩, ⟨some 5, .mv (.k (.p (.int .i64 0))), none⟩]
def fn69r1 : List AO := [⟨some 6, .load true 1 (.t 2), none⟩, ⟨some 7, .load true 1 (.t 3), none⟩, ⟨some 8, .call 42 [.t 6, .t 7], none⟩, ⟨some 9, .un .not (.t 8), none⟩]
def fn69r2 : List AO := [⟨some 10, .build [.p (.bool false), .e0, .e0] [], none⟩, ⟨none, .store 3 (.t 4) (.t 10), none⟩, ⟨some 5, .mv (.k (.p (.int .i64 1))), none⟩]
def fn69n3 : ACode := .seq (.region fn69r2 false) (.ret)
def fn69n4 : ACode := .cond (.t 9) (fn69n3) (.skip)
def fn69n5 : ACode := .seq (.region fn69r1 false) (fn69n4)
def fn69r3 : List AO := [⟨some 11, .fa 0 1 (.t 3), none⟩, ⟨some 12, .load false 1 (.t 11), none⟩, ⟨some 13, .len (.t 12), none⟩, ⟨some 14, .bin .eql (.t 13) (.k (.p (.int .i64 0))), none⟩]
def fn69r4 : List AO := [⟨some 15, .call 43 [], none⟩, ⟨none, .store 3 (.t 4) (.t 15), none⟩, ⟨some 5, .mv (.k (.p (.int .i64 0))), none⟩]
def fn69n8 : ACode := .seq (.region fn69r4 false) (.ret)
def fn69n9 : ACode := .cond (.t 14) (fn69n8) (.skip)
def fn69n10 : ACode := .seq (.region fn69r3 false) (fn69n9)
def fn69r5 : List AO := [⟨some 16, .load true 1 (.t 2), none⟩, ⟨some 17, .load true 1 (.t 3), none⟩, ⟨some 18, .callP 51 [.t 16, .t 17], none⟩, ⟨some 19, .fa 0 1 (.t 3), none⟩, ⟨some 20, .load false 1 (.t 19), none⟩, ⟨some 21, .len (.t 20), none⟩, ⟨some 22, .bin .sub (.t 21) (.k (.p (.int .i64 1))), none⟩, ⟨some 23, .ia 3 (.t 18) (.t 22), none⟩, ⟨some 24, .load true 3 (.t 23), none⟩, ⟨none, .store 3 (.t 4) (.t 24), none⟩, ⟨some 5, .mv (.k (.p (.int .i64 0))), none⟩]
def fn69n12 : ACode := .seq (.region fn69r5 true) (.ret)
def fn69n13 : ACode := .seq (fn69n10) (fn69n12)
def fn69n14 : ACode := .seq (fn69n5) (fn69n13)
def fn69n15 : ACode := .seq (.region fn69r0 false) (fn69n14)
def fn69 : AFun := { nargs := 2, ntmps := 25, results := [.cell true 3 4, .tmp 5], body := fn69n15 }

/-- credence/rational.magnitude -/
def fn168r0 : List AO := [⟨some 2, .mv (.k (.e0)), none⟩]
def fn168r1 : List AO := [⟨some 3, .mv (.t 0), none⟩, ⟨some 4, .bin .lss (.t 3) (.k (.p (.int .i64 0))), none⟩]
def fn168r2 : List AO := [⟨some 5, .mv (.t 0), none⟩, ⟨some 6, .bin .add (.t 5) (.k (.p (.int .i64 1))), none⟩, ⟨some 7, .un .neg (.t 6), none⟩, ⟨some 8, .conv .u64 (.t 7), none⟩, ⟨some 9, .bin .add (.t 8) (.k (.p (.int .u64 1))), none⟩, ⟨some 10, .call 19 [.t 9], none⟩, ⟨some 2, .mv (.t 10), none⟩]
def fn168n3 : ACode := .seq (.region fn168r2 false) (.ret)
def fn168n4 : ACode := .cond (.t 4) (fn168n3) (.skip)
def fn168n5 : ACode := .seq (.region fn168r1 false) (fn168n4)
def fn168r3 : List AO := [⟨some 11, .mv (.t 0), none⟩, ⟨some 12, .conv .u64 (.t 11), none⟩, ⟨some 13, .call 19 [.t 12], none⟩, ⟨some 2, .mv (.t 13), none⟩]
def fn168n7 : ACode := .seq (.region fn168r3 false) (.ret)
def fn168n8 : ACode := .seq (fn168n5) (fn168n7)
def fn168n9 : ACode := .seq (.region fn168r0 false) (fn168n8)
def fn168 : AFun := { nargs := 1, ntmps := 14, results := [.tmp 2], body := fn168n9 }

/-- credence/rational.New -/
def fn169r0 : List AO := [⟨some 4, .alloc 0 [.p (.bool false), .e0, .e0], none⟩, ⟨some 5, .mv (.k (.p (.int .i64 0))), none⟩]
def fn169r1 : List AO := [⟨some 6, .mv (.t 1), none⟩, ⟨some 7, .bin .eql (.t 6) (.k (.p (.int .i64 0))), none⟩]
def fn169r2 : List AO := [⟨some 8, .build [.p (.bool false), .e0, .e0] [], none⟩, ⟨none, .store 3 (.t 4) (.t 8), none⟩, ⟨some 5, .mv (.k (.p (.int .i64 20))), none⟩]
def fn169n3 : ACode := .seq (.region fn169r2 false) (.ret)
def fn169n4 : ACode := .cond (.t 7) (fn169n3) (.skip)
def fn169n5 : ACode := .seq (.region fn169r1 false) (fn169n4)
def fn169r3 : List AO := [⟨some 9, .mv (.t 0), none⟩, ⟨some 10, .bin .lss (.t 9) (.k (.p (.int .i64 0))), none⟩, ⟨some 11, .mv (.t 1), none⟩, ⟨some 12, .bin .lss (.t 11) (.k (.p (.int .i64 0))), none⟩, ⟨some 13, .binB .neq (.t 10) (.t 12), none⟩, ⟨some 14, .mv (.t 0), none⟩, ⟨some 15, .call 168 [.t 14], none⟩, ⟨some 16, .mv (.t 1), none⟩, ⟨some 17, .call 168 [.t 16], none⟩, ⟨some 18, .call 29 [.t 13, .t 15, .t 17], none⟩, ⟨none, .store 3 (.t 4) (.t 18), none⟩, ⟨some 5, .mv (.k (.p (.int .i64 0))), none⟩]
def fn169n7 : ACode := .seq (.region fn169r3 false) (.ret)
def fn169n8 : ACode := .seq (fn169n5) (fn169n7)
def fn169n9 : ACode := .seq (.region fn169r0 false) (fn169n8)
def fn169 : AFun := { nargs := 2, ntmps := 19, results := [.cell true 3 4, .tmp 5], body := fn169n9 }

/-- credence/worlds.radix -/
def fn170r0 : List AO := [⟨some 1, .boxP (.t 0), none⟩, ⟨some 2, .mv (.k (.p (.int .i64 0))), none⟩]
def fn170r1 : List AO := [⟨some 3, .fa 0 1 (.t 1), none⟩, ⟨some 4, .load false 1 (.t 3), none⟩, ⟨some 5, .len (.t 4), none⟩, ⟨some 6, .bin .add (.t 5) (.k (.p (.int .i64 1))), none⟩, ⟨some 2, .mv (.t 6), none⟩]
def fn170n2 : ACode := .seq (.region fn170r1 false) (.ret)
def fn170n3 : ACode := .seq (.region fn170r0 false) (fn170n2)
def fn170 : AFun := { nargs := 1, ntmps := 7, results := [.tmp 2], body := fn170n3 }

/-- credence/worlds.Count -/
def fn171r0 : List AO := [⟨some 1, .boxP (.t 0), none⟩, ⟨some 2, .mv (.k (.e0)), none⟩]
def fn171r1 : List AO := [⟨some 6, .load true 1 (.t 1), none⟩, ⟨some 7, .call 37 [.t 6], none⟩, ⟨some 8, .un .not (.t 7), none⟩]
def fn171r2 : List AO := [⟨some 2, .mv (.k (.e0)), none⟩]
def fn171n3 : ACode := .seq (.region fn171r2 false) (.ret)
def fn171n4 : ACode := .cond (.t 8) (fn171n3) (.skip)
def fn171n5 : ACode := .seq (.region fn171r1 false) (fn171n4)
def fn171r3 : List AO := [⟨some 9, .call 19 [.k (.p (.int .u64 1))], none⟩, ⟨some 3, .mv (.t 9), none⟩]
def fn171r4 : List AO := [⟨some 10, .fa 0 1 (.t 1), none⟩, ⟨some 11, .load false 1 (.t 10), none⟩, ⟨some 12, .len (.t 11), none⟩, ⟨some 13, .mv (.k (.p (.int .i64 0))), none⟩]
def fn171r5 : List AO := [⟨some 14, .bin .lss (.t 13) (.t 12), none⟩]
def fn171n9 : ACode := .cond (.t 14) (.skip) (.exit 0)
def fn171r6 : List AO := [⟨some 15, .ia 1 (.t 11) (.t 13), none⟩, ⟨some 16, .load true 1 (.t 15), none⟩, ⟨some 5, .alloc 0 [.e0], none⟩, ⟨none, .store 1 (.t 5) (.t 16), none⟩]
def fn171r7 : List AO := [⟨some 17, .mv (.t 3), none⟩, ⟨some 18, .load true 1 (.t 5), none⟩, ⟨some 19, .call 170 [.t 18], none⟩, ⟨some 20, .conv .u64 (.t 19), none⟩, ⟨some 21, .call 19 [.t 20], none⟩, ⟨some 22, .call 14 [.t 17, .t 21], none⟩, ⟨some 3, .mv (.t 22), none⟩]
def fn171n12 : ACode := .seq (.region fn171r6 false) (.region fn171r7 false)
def fn171n13 : ACode := .block 1 (fn171n12)
def fn171r8 : List AO := [⟨some 23, .bin .add (.t 13) (.k (.p (.int .i64 1))), none⟩, ⟨some 13, .mv (.t 23), none⟩]
def fn171n15 : ACode := .seq (fn171n13) (.region fn171r8 false)
def fn171n16 : ACode := .seq (fn171n9) (fn171n15)
def fn171n17 : ACode := .seq (.region fn171r5 false) (fn171n16)
def fn171n18 : ACode := .loop (fn171n17)
def fn171n19 : ACode := .block 0 (fn171n18)
def fn171n20 : ACode := .seq (.region fn171r4 false) (fn171n19)
def fn171r9 : List AO := [⟨some 24, .mv (.t 3), none⟩, ⟨some 2, .mv (.t 24), none⟩]
def fn171n22 : ACode := .seq (.region fn171r9 false) (.ret)
def fn171n23 : ACode := .seq (fn171n20) (fn171n22)
def fn171n24 : ACode := .seq (.region fn171r3 false) (fn171n23)
def fn171n25 : ACode := .seq (fn171n5) (fn171n24)
def fn171n26 : ACode := .seq (.region fn171r0 false) (fn171n25)
def fn171 : AFun := { nargs := 1, ntmps := 25, results := [.tmp 2], body := fn171n26 }

/-- credence/circuit.CountModels -/
def fn172r0 : List AO := [⟨some 2, .boxP (.t 0), none⟩, ⟨some 3, .boxP (.t 1), none⟩, ⟨some 4, .mv (.k (.e0)), none⟩, ⟨some 5, .mv (.k (.p (.int .i64 0))), none⟩]
def fn172r1 : List AO := [⟨some 13, .load true 1 (.t 2), none⟩, ⟨some 14, .load true 1 (.t 3), none⟩, ⟨some 15, .call 42 [.t 13, .t 14], none⟩, ⟨some 16, .un .not (.t 15), none⟩]
def fn172r2 : List AO := [⟨some 4, .mv (.k (.e0)), none⟩, ⟨some 5, .mv (.k (.p (.int .i64 1))), none⟩]
def fn172n3 : ACode := .seq (.region fn172r2 false) (.ret)
def fn172n4 : ACode := .cond (.t 16) (fn172n3) (.skip)
def fn172n5 : ACode := .seq (.region fn172r1 false) (fn172n4)
def fn172r3 : List AO := [⟨some 17, .fa 0 1 (.t 2), none⟩, ⟨some 18, .load false 1 (.t 17), none⟩, ⟨some 19, .len (.t 18), none⟩, ⟨some 20, .mk 0 1 24 [.e0] (.t 19) (.t 19), none⟩, ⟨some 21, .build [.e0] [(0, 1, .t 20)], none⟩, ⟨some 6, .alloc 1 [.e0], none⟩, ⟨none, .store 1 (.t 6) (.t 21), none⟩]
def fn172r4 : List AO := [⟨some 22, .fa 0 1 (.t 2), none⟩, ⟨some 23, .load false 1 (.t 22), none⟩, ⟨some 24, .len (.t 23), none⟩, ⟨some 25, .mv (.k (.p (.int .i64 0))), none⟩]
def fn172r5 : List AO := [⟨some 26, .bin .lss (.t 25) (.t 24), none⟩]
def fn172n9 : ACode := .cond (.t 26) (.skip) (.exit 0)
def fn172r6 : List AO := [⟨some 27, .mv (.t 25), none⟩, ⟨some 28, .ia 1 (.t 23) (.t 25), none⟩, ⟨some 29, .load true 1 (.t 28), none⟩, ⟨some 8, .alloc 2 [.e0], none⟩, ⟨some 7, .mv (.t 27), none⟩, ⟨none, .store 1 (.t 8) (.t 29), none⟩]
def fn172r7 : List AO := [⟨some 30, .fa 0 1 (.t 8), none⟩, ⟨some 31, .load false 1 (.t 30), none⟩, ⟨some 32, .len (.t 31), none⟩, ⟨some 33, .mv (.k (.p (.int .i64 0))), none⟩]
def fn172r8 : List AO := [⟨some 34, .bin .lss (.t 33) (.t 32), none⟩]
def fn172n13 : ACode := .cond (.t 34) (.skip) (.exit 2)
def fn172r9 : List AO := [⟨some 36, .fa 0 1 (.t 8), none⟩, ⟨some 37, .load false 1 (.t 36), none⟩, ⟨some 38, .len (.t 37), none⟩, ⟨some 39, .bin .add (.t 38) (.k (.p (.int .i64 1))), none⟩, ⟨some 40, .call 169 [.k (.p (.int .i64 1)), .t 39], none⟩, ⟨some 35, .mv (.t 40), none⟩, ⟨some 41, .ext 0 (.t 35), none⟩, ⟨some 42, .ext 1 (.t 35), none⟩, ⟨some 9, .alloc 3 [.p (.bool false), .e0, .e0], none⟩, ⟨none, .store 3 (.t 9) (.t 41), none⟩, ⟨some 10, .mv (.t 42), none⟩]
def fn172r10 : List AO := [⟨some 43, .fa 0 1 (.t 6), none⟩, ⟨some 44, .loadS 1 (.t 43), none⟩, ⟨some 45, .mv (.t 7), none⟩, ⟨some 46, .fa 0 1 (.t 6), none⟩, ⟨some 47, .load false 1 (.t 46), none⟩, ⟨some 48, .mv (.t 7), none⟩, ⟨some 49, .ia 1 (.t 47) (.t 48), none⟩, ⟨some 50, .fa 0 1 (.t 49), none⟩, ⟨some 51, .load false 1 (.t 50), none⟩, ⟨some 52, .load true 3 (.t 9), none⟩, ⟨some 53, .slP 1 3 [.p (.bool false), .e0, .e0] [(0, 3, .t 52)], none⟩, ⟨some 54, .app 4 3 56 (.t 51) (.t 53), none⟩, ⟨some 55, .ia 1 (.t 44) (.t 45), none⟩, ⟨some 56, .fa 0 1 (.t 55), none⟩, ⟨none, .store 1 (.t 56) (.t 54), none⟩]
def fn172n16 : ACode := .seq (.region fn172r9 false) (.region fn172r10 true)
def fn172n17 : ACode := .block 3 (fn172n16)
def fn172r11 : List AO := [⟨some 57, .bin .add (.t 33) (.k (.p (.int .i64 1))), none⟩, ⟨some 33, .mv (.t 57), none⟩]
def fn172n19 : ACode := .seq (fn172n17) (.region fn172r11 false)
def fn172n20 : ACode := .seq (fn172n13) (fn172n19)
def fn172n21 : ACode := .seq (.region fn172r8 false) (fn172n20)
def fn172n22 : ACode := .loop (fn172n21)
def fn172n23 : ACode := .block 2 (fn172n22)
def fn172n24 : ACode := .seq (.region fn172r7 false) (fn172n23)
def fn172n25 : ACode := .seq (.region fn172r6 false) (fn172n24)
def fn172n26 : ACode := .block 1 (fn172n25)
def fn172r12 : List AO := [⟨some 58, .bin .add (.t 25) (.k (.p (.int .i64 1))), none⟩, ⟨some 25, .mv (.t 58), none⟩]
def fn172n28 : ACode := .seq (fn172n26) (.region fn172r12 false)
def fn172n29 : ACode := .seq (fn172n9) (fn172n28)
def fn172n30 : ACode := .seq (.region fn172r5 false) (fn172n29)
def fn172n31 : ACode := .loop (fn172n30)
def fn172n32 : ACode := .block 0 (fn172n31)
def fn172n33 : ACode := .seq (.region fn172r4 false) (fn172n32)
def fn172r13 : List AO := [⟨some 60, .load true 1 (.t 6), none⟩, ⟨some 61, .load true 1 (.t 3), none⟩, ⟨some 62, .call 69 [.t 60, .t 61], none⟩, ⟨some 59, .mv (.t 62), none⟩, ⟨some 63, .ext 0 (.t 59), none⟩, ⟨some 64, .ext 1 (.t 59), none⟩, ⟨some 11, .alloc 5 [.p (.bool false), .e0, .e0], none⟩, ⟨none, .store 3 (.t 11) (.t 63), none⟩, ⟨some 12, .mv (.t 64), none⟩]
def fn172r14 : List AO := [⟨some 65, .load true 3 (.t 11), none⟩, ⟨some 66, .load true 1 (.t 2), none⟩, ⟨some 67, .callP 171 [.t 66], none⟩, ⟨some 68, .callP 45 [], none⟩, ⟨some 69, .fld false 2 1 (.t 68), none⟩, ⟨some 70, .build [.p (.bool false), .e0, .e0] [(1, 1, .t 67), (2, 1, .t 69)], none⟩, ⟨some 71, .callP 48 [.t 65, .t 70], none⟩, ⟨some 72, .fld false 1 1 (.t 71), none⟩, ⟨some 4, .mv (.t 72), none⟩, ⟨some 5, .mv (.k (.p (.int .i64 0))), none⟩]
def fn172n36 : ACode := .seq (.region fn172r14 true) (.ret)
def fn172n37 : ACode := .seq (.region fn172r13 false) (fn172n36)
def fn172n38 : ACode := .seq (fn172n33) (fn172n37)
def fn172n39 : ACode := .seq (.region fn172r3 false) (fn172n38)
def fn172n40 : ACode := .seq (fn172n5) (fn172n39)
def fn172n41 : ACode := .seq (.region fn172r0 false) (fn172n40)
def fn172 : AFun := { nargs := 2, ntmps := 73, results := [.tmp 4, .tmp 5], body := fn172n41 }

/-- credence/credenceref1.size -/
def fn60r0 : List AO := [⟨some 2, .mv (.k (.e0)), none⟩]
def fn60r1 : List AO := [⟨some 3, .mv (.t 0), none⟩, ⟨some 4, .bin .lss (.t 3) (.k (.p (.int .i64 0))), none⟩]
def fn60r2 : List AO := [⟨some 5, .mv (.t 0), none⟩, ⟨some 6, .bin .add (.t 5) (.k (.p (.int .i64 1))), none⟩, ⟨some 7, .un .neg (.t 6), none⟩, ⟨some 8, .conv .u64 (.t 7), none⟩, ⟨some 9, .bin .add (.t 8) (.k (.p (.int .u64 1))), none⟩, ⟨some 10, .call 59 [.t 9], none⟩, ⟨some 2, .mv (.t 10), none⟩]
def fn60n3 : ACode := .seq (.region fn60r2 false) (.ret)
def fn60n4 : ACode := .cond (.t 4) (fn60n3) (.skip)
def fn60n5 : ACode := .seq (.region fn60r1 false) (fn60n4)
def fn60r3 : List AO := [⟨some 11, .mv (.t 0), none⟩, ⟨some 12, .conv .u64 (.t 11), none⟩, ⟨some 13, .call 59 [.t 12], none⟩, ⟨some 2, .mv (.t 13), none⟩]
def fn60n7 : ACode := .seq (.region fn60r3 false) (.ret)
def fn60n8 : ACode := .seq (fn60n5) (fn60n7)
def fn60n9 : ACode := .seq (.region fn60r0 false) (fn60n8)
def fn60 : AFun := { nargs := 1, ntmps := 14, results := [.tmp 2], body := fn60n9 }

/-- credence/credenceref1.FracNew -/
def fn68r0 : List AO := [⟨some 4, .alloc 0 [.p (.bool false), .e0, .e0], none⟩, ⟨some 5, .mv (.k (.p (.int .i64 0))), none⟩]
def fn68r1 : List AO := [⟨some 6, .mv (.t 1), none⟩, ⟨some 7, .bin .eql (.t 6) (.k (.p (.int .i64 0))), none⟩]
def fn68r2 : List AO := [⟨some 8, .build [.p (.bool false), .e0, .e0] [], none⟩, ⟨none, .store 3 (.t 4) (.t 8), none⟩, ⟨some 5, .mv (.k (.p (.int .i64 20))), none⟩]
def fn68n3 : ACode := .seq (.region fn68r2 false) (.ret)
def fn68n4 : ACode := .cond (.t 7) (fn68n3) (.skip)
def fn68n5 : ACode := .seq (.region fn68r1 false) (fn68n4)
def fn68r3 : List AO := [⟨some 9, .mv (.t 0), none⟩, ⟨some 10, .bin .lss (.t 9) (.k (.p (.int .i64 0))), none⟩, ⟨some 11, .mv (.t 1), none⟩, ⟨some 12, .bin .lss (.t 11) (.k (.p (.int .i64 0))), none⟩, ⟨some 13, .binB .neq (.t 10) (.t 12), none⟩, ⟨some 14, .mv (.t 0), none⟩, ⟨some 15, .call 60 [.t 14], none⟩, ⟨some 16, .mv (.t 1), none⟩, ⟨some 17, .call 60 [.t 16], none⟩, ⟨some 18, .call 67 [.t 13, .t 15, .t 17], none⟩, ⟨none, .store 3 (.t 4) (.t 18), none⟩, ⟨some 5, .mv (.k (.p (.int .i64 0))), none⟩]
def fn68n7 : ACode := .seq (.region fn68r3 false) (.ret)
def fn68n8 : ACode := .seq (fn68n5) (fn68n7)
def fn68n9 : ACode := .seq (.region fn68r0 false) (fn68n8)
def fn68 : AFun := { nargs := 2, ntmps := 19, results := [.cell true 3 4, .tmp 5], body := fn68n9 }

end Go.Av
