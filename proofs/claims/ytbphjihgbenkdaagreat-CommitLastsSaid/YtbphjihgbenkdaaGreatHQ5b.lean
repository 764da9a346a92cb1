/- Lemmas for the row. Conditions: none. -/
import Derived.Test.YtbphjihgbenkdaaGreatHQ5a
import Derived.Test.YtbphjihgbenkdaaGreatHQ5o
import Derived.Test.YtbphjihgbenkdaaGreatChecked
import Derived.KernelRfl
namespace Go.Proofs.YtbphjihgbenkdaaGreat.HQ
set_option linter.unusedVariables false
set_option linter.unusedSectionVars false
set_option linter.unusedSimpArgs false
open Go Go.Proofs
set_option maxRecDepth 100000
def a180 : Ann := (.n none .z (.n none (.n (some [.t 2 (.sc .kb)]) .z .z) .z))
def a137 : Ann := (.n none .z (.n none (.n none (.n (some [.t 11 (.sc .kb)]) .z .z) .z) .z))
def a185 : Ann := .z
def a186 : Ann := (.n none .z (.n none .z (.n none (.n none .z (.n (some [.t 3 (.sc (.ki .u32))]) (.n (some [.t 3 (.sc (.ki .u32)), .t 7 (.sc (.ki .i64))]) (.n none .z (.n none .z (.n none (.n none (.n none .z (.n none .z (.n none .z (.n (some [.t 3 (.sc (.ki .u32))]) (.n (some [.t 3 (.sc (.ki .u32)), .t 16 (.sc (.ki .i64))]) .z .z) .z)))) .z) .z))) .z) .z)) .z)))
def a204 : Ann := (.n none .z (.n none .z (.n none .z (.n none .z (.n none (.n none (.n (some [.t 27 (.sc .kb)]) .z .z) .z) .z)))))
def a203 : Ann := (.n none .z (.n none (.n (some [.t 3 (.sc .ks)]) (.n none (.n none .z (.n none (.n none (.n (some [.t 19 (.sc .kb)]) .z .z) .z) .z)) .z) .z) .z))
def a181 : Ann := .z
def a138 : Ann := (.n none .z (.n none .z (.n none (.n none .z (.n (some []) (.r 94685864 [3]) .z)) .z)))
def a87 : Ann := (.n none .z (.n none (.n none (.n none .z (.n none .z (.n none (.n (some [.t 11 (.sc .kb)]) .z .z) .z))) .z) .z))
def a182 : Ann := (.n none .z (.n none .z (.n none .z (.n none (.r 91115101 [2]) .z))))
def a139 : Ann := .z
def a90 : Ann := .z
def a143 : Ann := .z
def a94 : Ann := (.n none .z (.n none (.n none (.n (some [.t 26 (.sc .kb)]) .z .z) .z) .z))
def a142 : Ann := (.n none .z (.n none .z (.n none (.n none .z (.n (some []) (.n (some [.t 3 (.sc (.ki .u64)), .t 4 (.sc (.ki .i64))]) (.n none .z (.n none (.n none (.n none .z (.n none (.n none (.n (some [.t 31 (.sc .kb)]) .z .z) .z) .z)) .z) .z)) .z) .z)) .z)))
def a91 : Ann := (.n none .z (.n none .z (.n none (.n none (.n (some [.t 15 (.sc .kb)]) .z .z) .z) .z)))
def a92 : Ann := (.n none .z (.n none (.n (some [.t 2 (.sc .kb)]) .z .z) .z))
def a95 : Ann := .z
def a140 : Ann := (.n none .z (.n none .z (.n none .z (.n none .z (.n none (.n (some [.t 2 (.sc (.ki .i64)), .t 3 (.sc .ks), .t 4 (.sc .kb)]) .z .z) .z)))))
def a88 : Ann := (.n none .z (.n none .z (.n none .z (.n none (.n none .z (.n (some []) (.r 69547369 [2, 3, 4, 5, 6]) .z)) (.n none (.n none (.r 3 []) (.r 1 [45])) .z)))))
def a42 : Ann := (.n none .z (.n none .z (.n none .z (.n none .z (.n none (.n none .z (.n (some [.x 6 (some [.ks, .kl])]) (.n (some [.t 18 (.sc (.ki .i64)), .x 6 (some [.ks, .kl])]) (.n none .z (.n none .z (.n none (.n (some [.x 6 (some [.ks, .kl])]) (.n none .z (.n none .z (.n none .z (.n none (.n (some [.t 44 (.sc .kb)]) .z .z) .z)))) .z) .z))) .z) .z)) .z)))))
def a141 : Ann := (.n none .z (.n none .z (.n none (.n none .z (.n (some []) (.n (some [.t 9 (.sc (.ki .i64))]) .z .z) .z)) .z)))
def a89 : Ann := .z
def a144 : Ann := .z
def a183 : Ann := (.n none .z (.n none (.n (some [.t 2 (.sc .kb)]) .z .z) .z))
def a165 : Ann := (.n none .z (.n none (.n (some [.t 4 (.sc .kb)]) .z .z) .z))
def a184 : Ann := .z
def a145 : Ann := (.n none .z (.n none (.n (some [.t 8 (.sc .kb)]) .z .z) .z))
def a93 : Ann := (.n none .z (.n none .z (.n none .z (.n none (.n none .z (.n (some []) (.n (some [.t 6 (.sc (.ki .i64))]) (.n none .z (.n none (.n none .z (.n none .z (.n none (.n none (.n (some [.t 25 (.sc .kb)]) .z .z) .z) .z))) .z)) .z) .z)) .z))))
def a43 : Ann := .z
def a96 : Ann := (.n none .z (.n none .z (.n none .z (.n none .z (.n none (.n none .z (.n (some [.t 7 (.sc .kl)]) (.n (some [.t 7 (.sc .kl), .t 8 (.sc (.ki .i64))]) (.n none .z (.n none (.n none .z (.n none (.n none .z (.n (some [.x 9 (some [(.ki .i64), .kb, .ks])]) .z .z)) (.n none (.n none (.n (some [.t 34 (.sc .kb)]) .z .z) .z) .z))) .z)) .z) .z)) .z)))))
def a97 : Ann := (.n none .z (.n (some []) (.n (some [.t 10 (.sc (.ki .i64))]) .z .z) .z))
def a44 : Ann := (.n none .z (.n none .z (.n none (.n none .z (.n (some [.t 6 (.sc (.ki .i64))]) (.n (some [.t 6 (.sc (.ki .i64)), .t 14 (.sc (.ki .i64))]) .z .z) .z)) .z)))
def a98 : Ann := (.n none .z (.n (some []) (.n (some [.t 8 (.sc (.ki .i64))]) (.n none .z (.n none .z (.n none (.n (some []) (.n none .z (.n none .z (.n none (.n (some [.t 5 (.sc (.ki .i64))]) (.n (some [.t 5 (.sc (.ki .i64))]) .z .z) .z) .z))) .z) .z))) .z) .z))
def a99 : Ann := .z
def a100 : Ann := .z
def a101 : Ann := .z
def a146 : Ann := .z
def a102 : Ann := .z
def a75 : Ann := .z
def a147 : Ann := (.n none .z (.n none (.n none .z (.n (some []) (.n (some [.t 11 (.sc (.ki .i64))]) .z .z) .z)) .z))
def a103 : Ann := .z
def a148 : Ann := .z
def a149 : Ann := .z
def a104 : Ann := .z
def a45 : Ann := (.n none .z (.n none .z (.n none .z (.n none .z (.n none .z (.n none .z (.n none .z (.n none (.n none (.r 12 []) (.r 1 [43])) .z))))))))
def a205 : Ann := (.n none .z (.n none .z (.n (some []) (.n (some [.t 12 (.sc (.ki .i64))]) .z .z) .z)))
def a188 : Ann := .z
def a187 : Ann := (.n none .z (.n none .z (.n none .z (.n none (.r 71670451 [2]) .z))))
def a150 : Ann := .z
def a151 : Ann := (.n none .z (.n (some []) (.n (some [.t 8 (.sc (.ki .i64))]) .z .z) .z))
def a105 : Ann := (.n none .z (.n none .z (.n none (.n none .z (.n (some []) (.r 38705704 [3]) .z)) .z)))
def a46 : Ann := .z
def a106 : Ann := (.n none .z (.n none .z (.n none (.n none .z (.n (some []) (.n (some [.t 9 (.sc (.ki .i64))]) .z .z) .z)) .z)))
def a107 : Ann := .z
def a47 : Ann := .z
def a48 : Ann := .z
def a49 : Ann := .z
def a11 : Ann := .z
def a12 : Ann := .z
def a14 : Ann := (.n none .z (.n none (.n none (.n (some [.t 10 (.sc .kb)]) .z .z) .z) .z))
def a16 : Ann := .z
def a72 : Ann := .z
def a73 : Ann := .z
def a74 : Ann := .z
def a23 : Ann := (.n none .z (.n none .z (.n none (.n none (.r 11 []) (.r 1 [16])) .z)))
def a25 : Ann := .z
def a31 : Ann := (.n none .z (.n none (.n (some [.t 4 (.sc .kb)]) .z .z) .z))
def a131 : Ann := (.n none .z (.n none (.n none (.n (some [.t 20 (.sc .kb)]) .z .z) .z) .z))
def a76 : Ann := (.n none .z (.n none .z (.n none (.n none .z (.n (some []) (.n (some [.t 14 (.sc (.ki .i64))]) .z .z) .z)) .z)))
def a118 : Ann := .z
def a59 : Ann := .z
def a117 : Ann := (.n none .z (.n none (.n (some [.t 4 (.sc .kb)]) .z .z) .z))
def a58 : Ann := .z
def a60 : Ann := .z
def a132 : Ann := .z
def a77 : Ann := (.n none .z (.n none .z (.n none .z (.n none (.n none .z (.n (some [.x 3 none]) (.n (some [.t 15 (.sc (.ki .i64)), .x 3 none]) .z .z) .z)) (.n none (.n none .z (.n (some [.x 3 none]) (.n (some [.t 29 (.sc (.ki .i64)), .x 3 none]) .z .z) .z)) (.n none (.n none .z (.n (some [.x 3 none]) (.n (some [.t 46 (.sc (.ki .i64)), .x 3 none]) .z .z) .z)) .z))))))
def a32 : Ann := (.n none .z (.n none (.n (some [.t 2 (.sc .kb)]) (.r 12 []) (.r 1 [9])) .z))
def a119 : Ann := .z
def a61 : Ann := (.n none .z (.n none (.n none (.n none (.r 6 []) (.r 1 [12])) .z) (.n none .z (.n none (.n none (.r 6 []) (.r 1 [26])) (.n none .z (.n none (.n none .z (.n none .z (.n (some []) .z .z))) .z))))))
def a28 : Ann := (.n none .z (.n none (.n (some [.t 4 (.sc .kb)]) .z .z) .z))
def a80 : Ann := (.n none .z (.n none (.n none (.n (some [.t 18 (.sc .kb)]) .z .z) .z) .z))
def a198 : Ann := .z
def a166 : Ann := .z
def a167 : Ann := .z
def a210 : Ann := (.n none .z (.n none .z (.n (some []) (.n (some [.t 12 (.sc (.ki .i64))]) .z .z) .z)))
def a199 : Ann := .z
def a168 : Ann := (.n none .z (.n none .z (.n none .z (.n none (.n none .z (.n (some []) (.r 89324821 [5]) .z)) .z))))
def a120 : Ann := (.n none .z (.n none .z (.n none .z (.n none .z (.n none (.n none .z (.n (some []) (.n none (.n none (.r 16 []) (.r 1 [34])) .z) .z)) (.n none (.n none (.r 11 []) (.r 1 [54])) .z))))))
def a121 : Ann := .z
def a62 : Ann := (.n none .z (.n none .z (.n none (.n none (.n none .z (.n none .z (.n none (.n none (.r 6 []) (.r 1 [27])) .z))) .z) (.n none (.n none (.r 6 []) (.r 1 [34])) .z))))
def a122 : Ann := .z
def a63 : Ann := .z
def a51 : Ann := .z
def a81 : Ann := (.n none .z (.n none (.n none (.n (some [.t 18 (.sc .kb)]) .z .z) .z) .z))
def a200 : Ann := (.n none .z (.n none .z (.n (some []) (.n (some [.t 12 (.sc (.ki .i64))]) .z .z) .z)))
def a169 : Ann := .z
def a170 : Ann := .z
def a171 : Ann := (.n none .z (.n none .z (.n none (.n none .z (.n (some []) (.r 82349159 [4, 5, 7]) .z)) .z)))
def a196 : Ann := (.n none .z (.n none (.n (some [.t 2 (.sc .kb)]) .z .z) .z))
def a172 : Ann := (.n none .z (.n none (.n none (.n (some [.t 11 (.sc .kb)]) .z .z) .z) .z))
def a195 : Ann := (.n none .z (.n none (.n (some [.t 4 (.sc .kb)]) .z .z) .z))
def a173 : Ann := (.n none .z (.n none .z (.n none (.n none (.n (some [.t 36 (.sc .kb)]) .z .z) .z) .z)))
def a123 : Ann := (.n none .z (.n none .z (.n none .z (.n none .z (.n none (.n none .z (.n (some []) (.r 45135019 [3]) .z)) (.n none .z (.n none (.n none .z (.n (some []) (.n (some [.t 57 (.sc (.ki .i64))]) (.n none .z (.n none .z (.n none (.n (some []) .z .z) .z))) .z) .z)) .z)))))))
def a71 : Ann := (.n none .z (.n none (.n none (.n (some [.t 14 (.sc .kb)]) .z .z) .z) .z))
def a174 : Ann := .z
def a124 : Ann := (.n none .z (.n none .z (.n (some []) (.n (some [.t 10 (.sc (.ki .i64))]) .z .z) .z)))
def a201 : Ann := (.n none .z (.n none .z (.n none (.n none .z (.n none .z (.n (some [.t 0 (.sc .kl)]) .z .z))) .z)))
def a175 : Ann := (.n none .z (.n none .z (.n none (.n none .z (.n (some [.t 3 (.sc (.ki .i64))]) (.n (some [.t 3 (.sc (.ki .i64)), .t 11 (.sc (.ki .i64))]) .z .z) .z)) (.n none .z (.n none (.n none .z (.n (some [.t 6 (.sc .kl)]) (.n (some [.t 6 (.sc .kl), .t 27 (.sc (.ki .i64))]) .z .z) .z)) .z)))))
def a125 : Ann := .z
def a126 : Ann := .z
def a64 : Ann := (.n none .z (.n none .z (.n none .z (.n none .z (.n none (.n none (.r 6 []) (.r 1 [25])) (.n none (.n none (.r 6 []) (.r 1 [32])) .z))))))
def a17 : Ann := (.n none .z (.n none (.n none (.n (some [.t 10 (.sc .kb)]) .z .z) .z) (.n none (.n none .z (.n (some []) .z .z)) .z)))
def a20 : Ann := .z
def a84 : Ann := .z
def a134 : Ann := .z
def a85 : Ann := (.n none .z (.n none (.n none (.r 6 [4, 7]) (.r 1 [])) .z))
def a39 : Ann := (.n none .z (.n none (.n none .z (.n (some [.t 0 (.sc .kp)]) .z .z)) (.n none (.n none (.r 12 [17, 19]) (.r 1 [])) .z)))
def a40 : Ann := .z
def a177 : Ann := .z
def a176 : Ann := (.n none .z (.n none .z (.n none .z (.n none (.n (some [.t 9 (.sc (.ki .i64))]) (.n (some [.t 9 (.sc (.ki .i64)), .t 10 (.sc (.ki .i64))]) .z .z) .z) (.n none (.n (some [.t 6 (.sc (.ki .i64)), .t 7 (.sc .kb)]) .z .z) .z)))))
def a135 : Ann := .z
def a86 : Ann := (.n none .z (.n none .z (.n none .z (.n none (.n none .z (.n (some []) .z .z)) .z))))
def a41 : Ann := (.n none .z (.n none (.n none (.n none .z (.n none .z (.n none (.n (some [.t 10 (.sc .kb)]) .z .z) .z))) .z) .z))
def a9 : Ann := (.n none .z (.n none .z (.n none .z (.n none .z (.n none .z (.n none .z (.n none (.n (some [.t 0 (.sc .kb)]) .z .z) .z)))))))
def a10 : Ann := (.n none .z (.n none .z (.n none (.n none .z (.n (some []) (.n (some [.t 10 (.sc (.ki .i64))]) (.n none .z (.n none .z (.n none (.n none (.n none .z (.n none (.n (some [.t 27 (.sc .kb)]) .z .z) .z)) .z) .z))) .z) .z)) .z)))
def a152 : Ann := .z
def a213 : Ann := (.n none .z (.n none (.n (some [.t 4 (.sc .kb)]) .z .z) .z))
def a212 : Ann := (.n none .z (.n none (.n none .z (.n (some []) (.n (some [.t 8 (.sc (.ki .i64))]) .z .z) .z)) .z))
def a206 : Ann := .z
def a189 : Ann := (.n none .z (.n none .z (.n none .z (.n none .z (.n none (.n none .z (.n (some []) .z .z)) .z)))))
def a153 : Ann := (.n none .z (.n none (.n none (.n none (.r 11 []) (.r 1 [10])) .z) .z))
def a108 : Ann := (.n none .z (.n none (.n none (.n none .z (.n none .z (.n none (.n (some [.t 14 (.sc .kb)]) .z .z) .z))) .z) .z))
def a223 : Ann := .z
def a222 : Ann := (.n none .z (.n none .z (.n none .z (.n none (.n (some [.t 9 (.sc (.ki .i64))]) (.n (some [.t 9 (.sc (.ki .i64)), .t 10 (.sc (.ki .i64))]) .z .z) .z) (.n none (.n (some [.t 6 (.sc (.ki .i64)), .t 7 (.sc .kb)]) .z .z) .z)))))
def a214 : Ann := .z
def a207 : Ann := .z
def a190 : Ann := (.n none .z (.n none (.n none .z (.n (some []) .z .z)) .z))
def a154 : Ann := (.n none .z (.n none (.n none (.n none .z (.n none .z (.n none (.n (some [.t 12 (.sc .kb)]) .z .z) .z))) .z) .z))
def a155 : Ann := (.n none .z (.n none (.n none (.n (some [.t 13 (.sc .kb)]) .z .z) .z) .z))
def a109 : Ann := .z
def a208 : Ann := (.n none .z (.n none .z (.n none .z (.n none (.n none .z (.n (some []) .z (.n none (.r 11 []) (.r 1 [30])))) .z))))
def a191 : Ann := (.n none .z (.n none (.n none (.n (some [.t 20 (.sc .kb)]) .z .z) .z) .z))
def a192 : Ann := (.n none .z (.n none (.n none (.n (some [.t 13 (.sc .kb)]) .z .z) .z) (.n none .z (.n none (.n (some [.t 7 (.sc .kl)]) (.n (some [.t 7 (.sc .kl)]) .z .z) .z) .z))))
def a156 : Ann := .z
def a110 : Ann := (.n none .z (.n none .z (.n none (.n none .z (.n (some []) .z .z)) .z)))
def a193 : Ann := .z
def a157 : Ann := .z
def a111 : Ann := (.n none .z (.n none .z (.n none (.n none .z (.n (some []) .z .z)) .z)))
def a158 : Ann := .z
def a112 : Ann := (.n none .z (.n none .z (.n none (.n none .z (.n (some []) .z .z)) .z)))
def a159 : Ann := (.n none .z (.n none .z (.n none (.n none (.n none (.n (some [.t 18 (.sc .kb)]) .z .z) (.n none .z (.n none (.n (some [.t 37 (.sc .kb)]) .z .z) .z))) .z) .z)))
def a113 : Ann := (.n none .z (.n none (.n none (.n (some [.t 18 (.sc .kb)]) .z .z) .z) (.n none .z (.n none (.n none .z (.n (some [.t 8 (.sc (.ki .i64))]) .z .z)) (.n none (.n none .z (.n (some []) .z .z)) .z)))))
def a194 : Ann := (.n none .z (.n none (.n none (.n (some [.t 15 (.sc .kb)]) .z .z) .z) .z))
def a160 : Ann := .z
def a114 : Ann := (.n none .z (.n none .z (.n none (.n none .z (.n (some []) .z .z)) .z)))
def a161 : Ann := (.n none .z (.n none (.n none (.n (some [.t 25 (.sc .kb)]) .z .z) .z) .z))
def a162 : Ann := (.n none .z (.n none (.n none (.n (some [.t 13 (.sc .kb)]) .z .z) .z) .z))
def a163 : Ann := (.n none .z (.n none (.n none (.n (some [.t 20 (.sc .kb)]) .z .z) .z) .z))
def a115 : Ann := (.n none .z (.n none (.n none (.n none .z (.n none .z (.n none (.n (some [.t 13 (.sc .kb)]) .z .z) .z))) .z) (.n none .z (.n none .z (.n none (.n none (.r 16 []) (.r 1 [41, 44])) .z)))))
def a50 : Ann := .z
def a52 : Ann := (.n none .z (.n none (.n none (.n (some [.t 16 (.sc .kb)]) .z .z) .z) .z))
def a53 : Ann := (.n none .z (.n none (.n none (.n (some [.t 16 (.sc .kb)]) .z .z) .z) .z))
def a54 : Ann := .z
def a55 : Ann := (.n none .z (.n none (.n none (.n (some [.t 16 (.sc .kb)]) .z .z) .z) .z))
def a197 : Ann := (.n none .z (.n (some []) (.n (some [.t 3 (.sc (.ki .i64))]) .z .z) .z))
def a164 : Ann := .z
def a116 : Ann := (.n none .z (.n none .z (.n none (.n none .z (.n (some []) (.r 49475106 [3]) .z)) .z)))
def a56 : Ann := .z
def a57 : Ann := (.n none .z (.n none .z (.n (some []) (.n (some [.t 10 (.sc (.ki .i64))]) (.n none .z (.n none .z (.n none (.n (some []) (.n none .z (.n none (.n (some [.t 21 (.sc .kb)]) .z .z) .z)) .z) .z))) .z) .z)))
def a13 : Ann := (.n none .z (.n none .z (.n none (.n none .z (.n (some [.t 5 (.sc .kl)]) (.n (some [.t 5 (.sc .kl), .t 15 (.sc (.ki .i64))]) (.n none .z (.n none .z (.n none (.n none (.n none .z (.n none .z (.n none (.n none .z (.n (some []) (.n (some [.t 26 (.sc (.ki .i64))]) .z .z) .z)) (.n none .z (.n none .z (.n none .z (.n none (.n none .z (.n (some []) (.n none .z (.n (some []) (.n (some [.t 64 (.sc (.ki .i64))]) .z .z) .z)) .z)) .z))))))) .z) .z))) .z) .z)) .z)))
def a15 : Ann := (.n none .z (.n none .z (.n none (.n none .z (.n (some [.x 3 none]) (.n (some [.t 9 (.sc (.ki .i64)), .x 3 none]) .z .z) .z)) (.n none (.n none .z (.n (some [.x 3 none]) (.n (some [.t 26 (.sc (.ki .i64)), .x 3 none]) .z .z) .z)) (.n none (.n none .z (.n (some [.x 3 none]) (.n (some [.t 44 (.sc (.ki .i64)), .x 3 none]) .z .z) .z)) .z)))))
def a18 : Ann := (.n none .z (.n none .z (.n none (.n none (.n (some [.t 26 (.sc .kb)]) .z .z) .z) (.n none (.n (some [.t 2 (.sc .kb)]) .z .z) .z))))
def a65 : Ann := (.n none .z (.n none (.n none .z (.n (some []) (.n (some [.t 5 (.sc (.ki .i64))]) .z .z) .z)) .z))
def a127 : Ann := (.n none .z (.n none (.n (some [.t 2 (.sc .kb)]) .z .z) .z))
def a128 : Ann := .z
def a129 : Ann := (.n none .z (.n none (.n none (.n (some [.t 15 (.sc .kb)]) .z .z) .z) (.n none .z (.n none (.n none .z (.n (some [.t 7 (.sc .ks)]) (.n (some [.t 7 (.sc .ks), .t 8 (.sc (.ki .i64))]) (.n none (.n none (.n (some [.t 26 (.sc .kb)]) .z .z) .z) (.n none (.n none (.n none .z (.n none (.n none .z (.n (some [.t 9 (.sc (.ki .i64))]) .z .z)) .z)) .z) .z)) .z) .z)) .z))))
def a66 : Ann := (.n none .z (.n none (.n none .z (.n (some []) .z .z)) .z))
def a67 : Ann := (.n none .z (.n none (.n none .z (.n (some []) .z .z)) .z))
def a68 : Ann := (.n none .z (.n none (.n none .z (.n (some []) .z .z)) .z))
def a69 : Ann := (.n none .z (.n none (.n none (.n (some [.t 14 (.sc .kb)]) .z .z) .z) (.n none (.n none (.n (some [.t 26 (.sc .kb)]) .z .z) (.n (some []) .z .z)) .z)))
def a130 : Ann := (.n none .z (.n none (.n none (.n (some [.t 17 (.sc .kb)]) .z .z) .z) (.n none .z (.n none (.n none .z (.n (some [.t 5 (.sc .ks)]) (.n (some [.t 5 (.sc .ks), .t 6 (.sc (.ki .i64))]) .z .z) .z)) .z))))
def a70 : Ann := (.n none .z (.n none (.n none .z (.n (some []) .z .z)) .z))
def a19 : Ann := (.n none .z (.n none .z (.n none .z (.n none (.n none .z (.n (some [.t 9 (.sc (.ki .i64)), .x 3 none]) (.n (some [.t 9 (.sc (.ki .i64)), .t 20 (.sc (.ki .i64)), .x 3 none]) (.n none .z (.n none .z (.n none (.n (some [.t 9 (.sc (.ki .i64)), .x 3 none]) .z .z) .z))) .z) .z)) .z))))
def a3 : Ann := (.n none .z (.n none .z (.n none (.n none (.n (some [.t 37 (.sc .kb)]) .z .z) .z) (.n none .z (.n none .z (.n none .z (.n none (.n none .z (.n (some [.t 8 (.sc .kl)]) (.n (some [.t 8 (.sc .kl), .t 48 (.sc (.ki .i64))]) .z .z) .z)) (.n none .z (.n none .z (.n none .z (.n none (.n none .z (.n (some [.x 11 none, .x 12 none]) (.n (some [.t 13 (.sc (.ki .i64)), .t 64 (.sc (.ki .i64)), .x 11 none, .x 12 none]) (.n none .z (.n none .z (.n none (.n none (.n none .z (.n none .z (.n none .z (.n none .z (.n none (.n none (.n (some [.t 91 (.sc .kb)]) .z .z) (.n (some [.t 13 (.sc (.ki .i64)), .x 11 none, .x 12 none]) (.n none .z (.n none (.n none .z (.n (some [.t 19 (.sc .kl)]) (.n (some [.t 19 (.sc .kl), .t 98 (.sc (.ki .i64))]) (.n none .z (.n none .z (.n none (.n (some [.t 19 (.sc .kl)]) .z .z) .z))) .z) .z)) (.n none .z (.n none (.n none .z (.n none (.n (some [.t 126 (.sc .kb)]) .z .z) (.n (some [.x 12 none]) .z .z))) .z)))) .z)) (.n none (.n none (.n (some [.t 156 (.sc .kb)]) .z .z) .z) (.n none .z (.n (some []) (.n (some [.t 157 (.sc (.ki .i64))]) .z .z) .z)))))))) .z) .z))) .z) .z)) .z)))))))))))
def a24 : Ann := (.n none .z (.n none (.n none .z (.n (some []) (.n (some [.t 16 (.sc (.ki .i64))]) (.n none .z (.n none .z (.n none (.n none (.n none .z (.n none (.n none .z (.n none (.n none (.n none .z (.n (some [.x 7 (some [(.ki .i64), .kb, .ks])]) .z .z)) .z) .z)) .z)) .z) .z))) .z) .z)) (.n none .z (.n none .z (.n (some []) (.n (some [.t 47 (.sc (.ki .i64))]) .z .z) .z)))))
def a4 : Ann := (.n none .z (.n none .z (.n none (.n none (.n (some [.t 44 (.sc .kb)]) .z .z) .z) (.n none .z (.n none .z (.n none .z (.n none .z (.n none (.n none .z (.n (some [.t 13 (.sc .kl)]) (.n (some [.t 13 (.sc .kl), .t 56 (.sc (.ki .i64))]) .z .z) .z)) (.n none (.n none .z (.n (some []) (.n (some [.t 70 (.sc (.ki .i64))]) .z .z) .z)) (.n none .z (.n none .z (.n none (.n none .z (.n (some [.x 19 none]) (.n (some [.t 92 (.sc (.ki .i64)), .x 19 none]) (.n none .z (.n none .z (.n none (.n (some [.x 19 none]) (.n none .z (.n none .z (.n none (.n (some [.t 113 (.sc .kb)]) .z .z) (.n none (.n none .z (.n none .z (.n none (.n none .z (.n none (.n none .z (.n (some [.t 25 (.sc .kl)]) (.n (some [.t 25 (.sc .kl), .t 130 (.sc (.ki .i64))]) (.n none .z (.n none .z (.n none (.n (some [.t 25 (.sc .kl)]) .z .z) .z))) .z) .z)) .z)) .z))) .z)))) .z) .z))) .z) .z)) (.n none .z (.n none .z (.n none .z (.n none .z (.n none (.n (some [.t 8 (.sc .kb)]) .z .z) .z)))))))))))))))))
def a5 : Ann := (.n none .z (.n none .z (.n none (.n none (.n (some [.t 29 (.sc .kb)]) .z .z) .z) (.n none .z (.n none .z (.n none .z (.n none .z (.n none (.n none (.r 7 []) (.r 1 [52])) (.n none .z (.n none (.n none .z (.n (some [.t 2 (.sc (.ki .i64))]) .z .z)) (.n none .z (.n none (.n none .z (.n (some [.t 14 (.sc (.ki .i64))]) (.n (some [.t 14 (.sc (.ki .i64)), .t 15 (.sc (.ki .i64))]) (.n none (.n none (.n (some [.t 69 (.sc .kb)]) .z .z) .z) (.n none (.n none (.n none (.n none (.n (some [.t 86 (.sc .kb)]) .z .z) .z) (.n none (.n none .z (.n (some [.t 14 (.sc (.ki .i64))]) .z .z)) .z)) .z) .z)) .z) .z)) (.n none (.n (some [.t 6 (.sc .kb)]) .z .z) .z)))))))))))))
def a6 : Ann := (.n none .z (.n none .z (.n none (.n none (.n (some [.t 41 (.sc .kb)]) .z .z) .z) (.n none .z (.n none .z (.n none .z (.n none .z (.n none (.n none .z (.n (some [.t 12 (.sc .kl), .t 13 (.sc .kl)]) (.n (some [.t 12 (.sc .kl), .t 13 (.sc .kl), .t 52 (.sc (.ki .i64))]) .z .z) .z)) (.n none .z (.n none .z (.n none (.n none (.n (some [.t 87 (.sc .kb)]) .z .z) (.n (some []) .z .z)) (.n none (.n none .z (.n (some []) (.n (some [.t 18 (.sc (.ki .i64)), .t 94 (.sc (.ki .i64))]) (.n none .z (.n none .z (.n none (.n none (.n none .z (.n none .z (.n none (.n none (.r 12 []) (.r 1 [112])) (.n none (.n (some [.t 25 (.sc .kb)]) .z .z) (.n none (.n none .z (.n (some [.t 18 (.sc (.ki .i64))]) .z .z)) (.n none .z (.n none (.n none (.n (some [.t 180 (.sc .kb)]) (.r 40 []) (.r 1 [159, 162, 174, 177])) .z) .z))))))) .z) .z))) .z) .z)) (.n none .z (.n none (.n (some [.t 8 (.sc .kb)]) .z .z) .z))))))))))))))
def a37 : Ann := .z
def a7 : Ann := (.n none .z (.n none .z (.n none (.n none (.n (some [.t 27 (.sc .kb)]) .z .z) .z) (.n none .z (.n none .z (.n none .z (.n none .z (.n none (.n none .z (.n (some []) .z .z)) (.n none (.n none .z (.n (some []) (.n (some [.t 12 (.sc (.ki .i64))]) (.n none (.n none (.n (some [.t 54 (.sc .kb)]) .z .z) .z) .z) .z) .z)) (.n none .z (.n none .z (.n none (.n none .z (.n (some []) (.n (some [.t 13 (.sc (.ki .i64)), .t 64 (.sc (.ki .i64))]) (.n none .z (.n none .z (.n none (.n none (.n none .z (.n none .z (.n none .z (.n none (.n none (.n (some [.t 86 (.sc .kb)]) .z .z) (.n (some [.t 17 (.sc (.ki .i64))]) .z .z)) (.n none .z (.n none .z (.n none (.n (some [.t 122 (.sc .kb)]) .z .z) .z))))))) .z) .z))) .z) .z)) (.n none (.n (some [.t 6 (.sc .kb)]) .z .z) .z)))))))))))))
def a8 : Ann := (.n none .z (.n none .z (.n none (.n none (.n (some [.t 37 (.sc .kb)]) .z .z) .z) (.n none .z (.n none .z (.n none .z (.n none .z (.n none .z (.n none (.n none .z (.n (some [.x 13 none]) (.n (some [.t 14 (.sc (.ki .i64))]) (.n none .z (.n none (.n none (.n none .z (.n none .z (.n none .z (.n none .z (.n none (.n none (.n (some [.t 77 (.sc .kb)]) .z .z) (.n (some [.t 19 (.sc (.ki .i64))]) .z .z)) (.n none (.n none (.n (some [.t 87 (.sc .kb)]) .z .z) (.n none (.n none (.n none .z (.n (some []) (.n (some [.t 88 (.sc (.ki .i64))]) .z .z) .z)) .z) .z)) (.n none (.n none (.n (some [.t 104 (.sc .kb)]) .z .z) .z) (.n none .z (.n none .z (.n none .z (.n none .z (.n none (.n (some [.t 147 (.sc .kb)]) .z .z) .z)))))))))))) .z) .z)) .z) .z)) (.n none .z (.n none .z (.n none (.n (some [.t 8 (.sc .kb)]) .z .z) .z))))))))))))
noncomputable def s138_0 : Nat × Site := (sitesF Tryz.f138 a138).getD 0 (0, ⟨0, #[], .skip, .skip⟩)
noncomputable def s182_0 : Nat × Site := (sitesF Tryz.f182 a182).getD 0 (0, ⟨0, #[], .skip, .skip⟩)
noncomputable def s88_0 : Nat × Site := (sitesF Tryz.f88 a88).getD 0 (0, ⟨0, #[], .skip, .skip⟩)
noncomputable def s187_0 : Nat × Site := (sitesF Tryz.f187 a187).getD 0 (0, ⟨0, #[], .skip, .skip⟩)
noncomputable def s105_0 : Nat × Site := (sitesF Tryz.f105 a105).getD 0 (0, ⟨0, #[], .skip, .skip⟩)
noncomputable def s168_0 : Nat × Site := (sitesF Tryz.f168 a168).getD 0 (0, ⟨0, #[], .skip, .skip⟩)
noncomputable def s171_0 : Nat × Site := (sitesF Tryz.f171 a171).getD 0 (0, ⟨0, #[], .skip, .skip⟩)
noncomputable def s123_0 : Nat × Site := (sitesF Tryz.f123 a123).getD 0 (0, ⟨0, #[], .skip, .skip⟩)
noncomputable def s116_0 : Nat × Site := (sitesF Tryz.f116 a116).getD 0 (0, ⟨0, #[], .skip, .skip⟩)
noncomputable def es : List (Nat × Site) := [s138_0, s182_0, s88_0, s187_0, s105_0, s168_0, s171_0, s123_0, s116_0]
instance : Sites := ⟨fun k _ sz ps a b => siteIn es k sz ps a b⟩
section
variable {D : DD} (hD : DOk Tryz.prog noG D)
include hD
theorem fk {l : List (Nat × (List HV → M HV))} (hl : ∀ f h, lk l f = some h → FnOk Tryz.prog noG f h) (esc : List Nat) (an : Ann) {f : Nat} {fn : Func} {F : List HV → M HV} (hf : Tryz.prog.funcs[f]? = some fn) (fv : List Sh1 := []) (h1 : (match fn.body with | some c => (assigned c).all (fun t => Nat.blt t fn.ntmps) | none => false) = true := by kernel_rfl) (h2 : (fn.name == "runtime.NumGoroutine") = false := by kernel_rfl) (h3 : emp (sitesF fn an) = true := by kernel_rfl) (hd : fnD ⟨lk l, D, noG⟩ Tryz.prog esc an fn fv = F := by kernel_rfl) : FnOk Tryz.prog noG f F :=
 hd ▸ fn_ok (E := ⟨lk l, D, noG⟩) ⟨hl, hD⟩ mixed hf h1 h2 (hst_none h3)
theorem fkS {l : List (Nat × (List HV → M HV))} (hl : ∀ f h, lk l f = some h → FnOk Tryz.prog noG f h) (esc : List Nat) (an : Ann) {f : Nat} {fn : Func} {F : List HV → M HV} (hf : Tryz.prog.funcs[f]? = some fn) (h3 : ∀ e ∈ sitesF fn an, e ∈ es) (fv : List Sh1 := []) (h1 : (match fn.body with | some c => (assigned c).all (fun t => Nat.blt t fn.ntmps) | none => false) = true := by kernel_rfl) (h2 : (fn.name == "runtime.NumGoroutine") = false := by kernel_rfl) (hd : fnD ⟨lk l, D, noG⟩ Tryz.prog esc an fn fv = F := by kernel_rfl) : FnOk Tryz.prog noG f F :=
 hd ▸ fn_ok (E := ⟨lk l, D, noG⟩) ⟨hl, hD⟩ mixed hf h1 h2 (hst_of (fun _ _ _ _ _ h => h) h3)
theorem ok180 : FnOk Tryz.prog noG 180 (f_disk_good D) := fk hD lk_nil [] a180 Tryz.func180
theorem ok137 : FnOk Tryz.prog noG 137 (f_disk_Disk_Read D) := fk hD (lk_cons (ok180 hD) lk_nil) [] a137 Tryz.func137
theorem ok185 : FnOk Tryz.prog noG 185 (f_wafer_foots D) := fk hD lk_nil [] a185 Tryz.func185
theorem ok186 : FnOk Tryz.prog noG 186 (f_wafer_Sum D) := fk hD lk_nil [] a186 Tryz.func186
theorem ok204 : FnOk Tryz.prog noG 204 (f_wafer_Open D) := fk hD (lk_cons (ok185 hD) (lk_cons (ok186 hD) lk_nil)) [] a204 Tryz.func204
theorem ok203 : FnOk Tryz.prog noG 203 (f_wafer_All_1 D) := fk hD (lk_cons (ok204 hD) lk_nil) [] a203 Tryz.func203 (fv := [.sc .kp])
theorem ok181 : FnOk Tryz.prog noG 181 (f_wafer_All D) := fk hD lk_nil [1] a181 Tryz.func181
theorem ok138 : FnOk Tryz.prog noG 138 (f_wafer_Whole D) := fkS hD (lk_cons (ok181 hD) lk_nil) [3] a138 Tryz.func138 (by
 rw [show sitesF Tryz.f138 a138 = [s138_0] by kernel_rfl]
 intro e he
 simp only [List.mem_cons, List.not_mem_nil, or_false] at he
 rcases he with rfl <;> simp [es])
theorem ok87 : FnOk Tryz.prog noG 87 (f_wal_Open D) := fk hD (lk_cons (ok137 hD) (lk_cons (ok138 hD) lk_nil)) [31] a87 Tryz.func87
theorem ok182 : FnOk Tryz.prog noG 182 (f_wal_Log_All_1 D) := fkS hD (lk_cons (ok137 hD) (lk_cons (ok181 hD) lk_nil)) [2] a182 Tryz.func182 (by
 rw [show sitesF Tryz.f182 a182 = [s182_0] by kernel_rfl]
 intro e he
 simp only [List.mem_cons, List.not_mem_nil, or_false] at he
 rcases he with rfl <;> simp [es]) (fv := [.sc .kp])
theorem ok139 : FnOk Tryz.prog noG 139 (f_wal_Log_All D) := fk hD lk_nil [1] a139 Tryz.func139
theorem ok90 : FnOk Tryz.prog noG 90 (f_stylus_Of D) := fk hD lk_nil [5] a90 Tryz.func90
theorem ok143 : FnOk Tryz.prog noG 143 (f_stylus_Reader_Spoil D) := fk hD lk_nil [] a143 Tryz.func143
theorem ok94 : FnOk Tryz.prog noG 94 (f_stylus_Reader_Raw D) := fk hD (lk_cons (ok143 hD) lk_nil) [] a94 Tryz.func94
theorem ok142 : FnOk Tryz.prog noG 142 (f_stylus_Reader_word D) := fk hD (lk_cons (ok94 hD) (lk_cons (ok143 hD) lk_nil)) [] a142 Tryz.func142
theorem ok91 : FnOk Tryz.prog noG 91 (f_stylus_Reader_Nat D) := fk hD (lk_cons (ok142 hD) (lk_cons (ok143 hD) lk_nil)) [] a91 Tryz.func91
theorem ok92 : FnOk Tryz.prog noG 92 (f_stylus_Reader_Bad D) := fk hD lk_nil [] a92 Tryz.func92
theorem ok95 : FnOk Tryz.prog noG 95 (f_stylus_Reader_Left D) := fk hD lk_nil [] a95 Tryz.func95
theorem ok140 : FnOk Tryz.prog noG 140 (f_vault_first D) := fk hD (lk_cons (ok90 hD) (lk_cons (ok91 hD) (lk_cons (ok92 hD) (lk_cons (ok94 hD) (lk_cons (ok95 hD) lk_nil))))) [] a140 Tryz.func140
theorem ok88 : FnOk Tryz.prog noG 88 (f_vault_look D) := fkS hD (lk_cons (ok139 hD) lk_nil) [2, 3, 4, 5, 6] a88 Tryz.func88 (by
 rw [show sitesF Tryz.f88 a88 = [s88_0] by kernel_rfl]
 intro e he
 simp only [List.mem_cons, List.not_mem_nil, or_false] at he
 rcases he with rfl <;> simp [es])
theorem ok42 : FnOk Tryz.prog noG 42 (f_vault_Open D) := fk hD (lk_cons (ok87 hD) (lk_cons (ok88 hD) lk_nil)) [17] a42 Tryz.func42
theorem ok141 : FnOk Tryz.prog noG 141 (f_cell_New_file_File D) := fk hD lk_nil [7] a141 Tryz.func141
theorem ok89 : FnOk Tryz.prog noG 89 (f_tome_New D) := fk hD (lk_cons (ok141 hD) lk_nil) [4] a89 Tryz.func89
theorem ok144 : FnOk Tryz.prog noG 144 (f_stylus_Reader_Text D) := fk hD (lk_cons (ok91 hD) (lk_cons (ok94 hD) lk_nil)) [] a144 Tryz.func144
theorem ok183 : FnOk Tryz.prog noG 183 (f_file_Good D) := fk hD lk_nil [] a183 Tryz.func183
theorem ok165 : FnOk Tryz.prog noG 165 (f_cell_Row_file_File_is D) := fk hD lk_nil [] a165 Tryz.func165
theorem ok184 : FnOk Tryz.prog noG 184 (f_cell_Row_file_File_Set D) := fk hD (lk_cons (ok165 hD) lk_nil) [] a184 Tryz.func184
theorem ok145 : FnOk Tryz.prog noG 145 (f_tome_Tome_Set D) := fk hD (lk_cons (ok183 hD) (lk_cons (ok184 hD) lk_nil)) [] a145 Tryz.func145
theorem ok93 : FnOk Tryz.prog noG 93 (f_tome_Read D) := fk hD (lk_cons (ok89 hD) (lk_cons (ok90 hD) (lk_cons (ok91 hD) (lk_cons (ok92 hD) (lk_cons (ok95 hD) (lk_cons (ok144 hD) (lk_cons (ok145 hD) lk_nil))))))) [] a93 Tryz.func93
theorem ok43 : FnOk Tryz.prog noG 43 (f_world_read D) := fk hD (lk_cons (ok89 hD) (lk_cons (ok90 hD) (lk_cons (ok91 hD) (lk_cons (ok92 hD) (lk_cons (ok93 hD) (lk_cons (ok94 hD) (lk_cons (ok95 hD) lk_nil))))))) [] a43 Tryz.func43
theorem ok96 : FnOk Tryz.prog noG 96 (f_redo_Read D) := fk hD (lk_cons (ok90 hD) (lk_cons (ok91 hD) (lk_cons (ok92 hD) (lk_cons (ok95 hD) (lk_cons (ok144 hD) lk_nil))))) [] a96 Tryz.func96
theorem ok97 : FnOk Tryz.prog noG 97 (f_redo_Apply D) := fk hD (lk_cons (ok145 hD) lk_nil) [] a97 Tryz.func97
theorem ok44 : FnOk Tryz.prog noG 44 (f_redo_Replay D) := fk hD (lk_cons (ok96 hD) (lk_cons (ok97 hD) lk_nil)) [] a44 Tryz.func44
theorem ok98 : FnOk Tryz.prog noG 98 (f_stylus_Stylus_Nat D) := fk hD lk_nil [] a98 Tryz.func98
theorem ok99 : FnOk Tryz.prog noG 99 (f_stylus_Stylus_Raw D) := fk hD lk_nil [] a99 Tryz.func99
theorem ok100 : FnOk Tryz.prog noG 100 (f_stylus_Stylus_Bytes D) := fk hD lk_nil [] a100 Tryz.func100
theorem ok101 : FnOk Tryz.prog noG 101 (f_wal_Log_Area D) := fk hD lk_nil [] a101 Tryz.func101
theorem ok146 : FnOk Tryz.prog noG 146 (f_disk_Disk_Reset D) := fk hD (lk_cons (ok180 hD) lk_nil) [] a146 Tryz.func146
theorem ok102 : FnOk Tryz.prog noG 102 (f_wal_Log_Clear D) := fk hD (lk_cons (ok146 hD) lk_nil) [] a102 Tryz.func102
theorem ok75 : FnOk Tryz.prog noG 75 (f_disk_Disk_land D) := fk hD lk_nil [] a75 Tryz.func75
theorem ok147 : FnOk Tryz.prog noG 147 (f_disk_Disk_Sync D) := fk hD (lk_cons (ok75 hD) lk_nil) [] a147 Tryz.func147
theorem ok103 : FnOk Tryz.prog noG 103 (f_wal_Log_Force D) := fk hD (lk_cons (ok147 hD) lk_nil) [] a103 Tryz.func103
theorem ok148 : FnOk Tryz.prog noG 148 (f_wafer_Close D) := fk hD (lk_cons (ok185 hD) (lk_cons (ok186 hD) lk_nil)) [] a148 Tryz.func148
theorem ok149 : FnOk Tryz.prog noG 149 (f_disk_Disk_Append D) := fk hD (lk_cons (ok180 hD) lk_nil) [] a149 Tryz.func149
theorem ok104 : FnOk Tryz.prog noG 104 (f_wal_Log_Append D) := fk hD (lk_cons (ok148 hD) (lk_cons (ok149 hD) lk_nil)) [] a104 Tryz.func104
theorem ok45 : FnOk Tryz.prog noG 45 (f_vault_Vault_Settle D) := fk hD (lk_cons (ok87 hD) (lk_cons (ok98 hD) (lk_cons (ok99 hD) (lk_cons (ok100 hD) (lk_cons (ok101 hD) (lk_cons (ok102 hD) (lk_cons (ok103 hD) (lk_cons (ok104 hD) lk_nil)))))))) [19, 26] a45 Tryz.func45
theorem ok205 : FnOk Tryz.prog noG 205 (f_cell_Row_file_File_All_1 D) := fk hD lk_nil [] a205 Tryz.func205 (fv := [.sc .kp])
theorem ok188 : FnOk Tryz.prog noG 188 (f_cell_Row_file_File_All D) := fk hD lk_nil [1] a188 Tryz.func188
theorem ok187 : FnOk Tryz.prog noG 187 (f_tome_Tome_All_1 D) := fkS hD (lk_cons (ok188 hD) lk_nil) [2] a187 Tryz.func187 (by
 rw [show sitesF Tryz.f187 a187 = [s187_0] by kernel_rfl]
 intro e he
 simp only [List.mem_cons, List.not_mem_nil, or_false] at he
 rcases he with rfl <;> simp [es]) (fv := [.sc .kp])
theorem ok150 : FnOk Tryz.prog noG 150 (f_tome_Tome_All D) := fk hD lk_nil [1] a150 Tryz.func150
theorem ok151 : FnOk Tryz.prog noG 151 (f_stylus_Stylus_Text D) := fk hD (lk_cons (ok98 hD) (lk_cons (ok99 hD) lk_nil)) [15] a151 Tryz.func151
theorem ok105 : FnOk Tryz.prog noG 105 (f_tome_Tome_Bytes D) := fkS hD (lk_cons (ok100 hD) (lk_cons (ok150 hD) lk_nil)) [3, 7] a105 Tryz.func105 (by
 rw [show sitesF Tryz.f105 a105 = [s105_0] by kernel_rfl]
 intro e he
 simp only [List.mem_cons, List.not_mem_nil, or_false] at he
 rcases he with rfl <;> simp [es])
theorem ok46 : FnOk Tryz.prog noG 46 (f_world_image D) := fk hD (lk_cons (ok98 hD) (lk_cons (ok99 hD) (lk_cons (ok100 hD) (lk_cons (ok105 hD) lk_nil)))) [7, 10] a46 Tryz.func46
theorem ok106 : FnOk Tryz.prog noG 106 (f_cell_New_int D) := fk hD lk_nil [7] a106 Tryz.func106
theorem ok107 : FnOk Tryz.prog noG 107 (f_feed_New D) := fk hD (lk_cons (ok106 hD) lk_nil) [3] a107 Tryz.func107
theorem ok47 : FnOk Tryz.prog noG 47 (f_attempt_NewView D) := fk hD (lk_cons (ok89 hD) (lk_cons (ok106 hD) (lk_cons (ok107 hD) lk_nil))) [5] a47 Tryz.func47
theorem ok48 : FnOk Tryz.prog noG 48 (f_wire_New D) := fk hD lk_nil [2] a48 Tryz.func48
theorem ok49 : FnOk Tryz.prog noG 49 (f_token_New D) := fk hD lk_nil [2] a49 Tryz.func49
theorem ok11 : FnOk Tryz.prog noG 11 (f_world_Open D) := fk hD (lk_cons (ok42 hD) (lk_cons (ok43 hD) (lk_cons (ok44 hD) (lk_cons (ok45 hD) (lk_cons (ok46 hD) (lk_cons (ok47 hD) (lk_cons (ok48 hD) (lk_cons (ok49 hD) lk_nil)))))))) [62] a11 Tryz.func11
theorem ok12 : FnOk Tryz.prog noG 12 (f_disk_New D) := fk hD lk_nil [2] a12 Tryz.func12
theorem ok14 : FnOk Tryz.prog noG 14 (f_commit_New D) := fk hD lk_nil [14] a14 Tryz.func14
theorem ok16 : FnOk Tryz.prog noG 16 (f_commit_Commit_Phase D) := fk hD lk_nil [] a16 Tryz.func16
theorem ok72 : FnOk Tryz.prog noG 72 (f_draft_Draft_int_Len D) := fk hD lk_nil [] a72 Tryz.func72
theorem ok73 : FnOk Tryz.prog noG 73 (f_sheet_Sheet_Draft D) := fk hD lk_nil [] a73 Tryz.func73
theorem ok74 : FnOk Tryz.prog noG 74 (f_draft_Draft_file_File_Len D) := fk hD lk_nil [] a74 Tryz.func74
theorem ok23 : FnOk Tryz.prog noG 23 (f_attempt_Attempt_Writes D) := fk hD (lk_cons (ok72 hD) (lk_cons (ok73 hD) (lk_cons (ok74 hD) lk_nil))) [] a23 Tryz.func23
theorem ok25 : FnOk Tryz.prog noG 25 (f_world_World_Token D) := fk hD lk_nil [] a25 Tryz.func25
theorem ok31 : FnOk Tryz.prog noG 31 (f_token_Token_Free D) := fk hD lk_nil [] a31 Tryz.func31
theorem ok131 : FnOk Tryz.prog noG 131 (f_reads_Now_Of D) := fk hD lk_nil [] a131 Tryz.func131
theorem ok76 : FnOk Tryz.prog noG 76 (f_reads_Set_Valid D) := fk hD (lk_cons (ok131 hD) lk_nil) [] a76 Tryz.func76
theorem ok118 : FnOk Tryz.prog noG 118 (f_cell_Row_file_File_Get D) := fk hD (lk_cons (ok165 hD) lk_nil) [] a118 Tryz.func118
theorem ok59 : FnOk Tryz.prog noG 59 (f_tome_Tome_Get D) := fk hD (lk_cons (ok118 hD) lk_nil) [] a59 Tryz.func59
theorem ok117 : FnOk Tryz.prog noG 117 (f_cell_Row_int_is D) := fk hD lk_nil [] a117 Tryz.func117
theorem ok58 : FnOk Tryz.prog noG 58 (f_cell_Row_int_Get D) := fk hD (lk_cons (ok117 hD) lk_nil) [] a58 Tryz.func58
theorem ok60 : FnOk Tryz.prog noG 60 (f_feed_Feed_Place D) := fk hD (lk_cons (ok58 hD) lk_nil) [] a60 Tryz.func60
theorem ok132 : FnOk Tryz.prog noG 132 (f_cell_Row_int_Version D) := fk hD (lk_cons (ok58 hD) lk_nil) [] a132 Tryz.func132
theorem ok77 : FnOk Tryz.prog noG 77 (f_attempt_View_Now D) := fk hD (lk_cons (ok59 hD) (lk_cons (ok60 hD) (lk_cons (ok132 hD) lk_nil))) [] a77 Tryz.func77
theorem ok32 : FnOk Tryz.prog noG 32 (f_attempt_Attempt_Valid D) := fk hD (lk_cons (ok76 hD) (lk_cons (ok77 hD) lk_nil)) [] a32 Tryz.func32
theorem ok119 : FnOk Tryz.prog noG 119 (f_token_Token_Lock D) := fk hD (lk_cons (ok31 hD) lk_nil) [] a119 Tryz.func119
theorem ok61 : FnOk Tryz.prog noG 61 (f_commit_Commit_check D) := fk hD (lk_cons (ok23 hD) (lk_cons (ok25 hD) (lk_cons (ok31 hD) (lk_cons (ok32 hD) (lk_cons (ok119 hD) lk_nil))))) [] a61 Tryz.func61
theorem ok28 : FnOk Tryz.prog noG 28 (f_token_Token_Sure D) := fk hD lk_nil [] a28 Tryz.func28
theorem ok80 : FnOk Tryz.prog noG 80 (f_token_Token_Unlock D) := fk hD lk_nil [] a80 Tryz.func80
theorem ok198 : FnOk Tryz.prog noG 198 (f_wal_Log_Size D) := fk hD lk_nil [] a198 Tryz.func198
theorem ok166 : FnOk Tryz.prog noG 166 (f_vault_Vault_Size D) := fk hD (lk_cons (ok198 hD) lk_nil) [] a166 Tryz.func166
theorem ok167 : FnOk Tryz.prog noG 167 (f_vault_Vault_Append D) := fk hD (lk_cons (ok104 hD) lk_nil) [] a167 Tryz.func167
theorem ok210 : FnOk Tryz.prog noG 210 (f_draft_Draft_file_File_All_1 D) := fk hD lk_nil [] a210 Tryz.func210 (fv := [.sc .kp])
theorem ok199 : FnOk Tryz.prog noG 199 (f_draft_Draft_file_File_All D) := fk hD lk_nil [1] a199 Tryz.func199
theorem ok168 : FnOk Tryz.prog noG 168 (f_redo_Bytes D) := fkS hD (lk_cons (ok98 hD) (lk_cons (ok100 hD) (lk_cons (ok199 hD) lk_nil))) [5, 9, 12] a168 Tryz.func168 (by
 rw [show sitesF Tryz.f168 a168 = [s168_0] by kernel_rfl]
 intro e he
 simp only [List.mem_cons, List.not_mem_nil, or_false] at he
 rcases he with rfl <;> simp [es])
theorem ok120 : FnOk Tryz.prog noG 120 (f_world_World_Write D) := fk hD (lk_cons (ok45 hD) (lk_cons (ok46 hD) (lk_cons (ok166 hD) (lk_cons (ok167 hD) (lk_cons (ok168 hD) lk_nil))))) [] a120 Tryz.func120
theorem ok121 : FnOk Tryz.prog noG 121 (f_attempt_Attempt_State D) := fk hD lk_nil [] a121 Tryz.func121
theorem ok62 : FnOk Tryz.prog noG 62 (f_commit_Commit_write D) := fk hD (lk_cons (ok25 hD) (lk_cons (ok28 hD) (lk_cons (ok73 hD) (lk_cons (ok80 hD) (lk_cons (ok120 hD) (lk_cons (ok121 hD) lk_nil)))))) [] a62 Tryz.func62
theorem ok122 : FnOk Tryz.prog noG 122 (f_vault_Vault_Force D) := fk hD (lk_cons (ok103 hD) lk_nil) [] a122 Tryz.func122
theorem ok63 : FnOk Tryz.prog noG 63 (f_world_World_Force D) := fk hD (lk_cons (ok122 hD) lk_nil) [] a63 Tryz.func63
theorem ok51 : FnOk Tryz.prog noG 51 (f_attempt_Attempt_Acts D) := fk hD lk_nil [] a51 Tryz.func51
theorem ok81 : FnOk Tryz.prog noG 81 (f_token_Token_Drop D) := fk hD lk_nil [] a81 Tryz.func81
theorem ok200 : FnOk Tryz.prog noG 200 (f_draft_Draft_int_All_1 D) := fk hD lk_nil [] a200 Tryz.func200 (fv := [.sc .kp])
theorem ok169 : FnOk Tryz.prog noG 169 (f_draft_Draft_int_All D) := fk hD lk_nil [1] a169 Tryz.func169
theorem ok170 : FnOk Tryz.prog noG 170 (f_cell_Row_int_Set D) := fk hD (lk_cons (ok117 hD) lk_nil) [] a170 Tryz.func170
theorem ok171 : FnOk Tryz.prog noG 171 (f_sheet_Sheet_Over D) := fkS hD (lk_cons (ok73 hD) (lk_cons (ok199 hD) lk_nil)) [4, 5, 7] a171 Tryz.func171 (by
 rw [show sitesF Tryz.f171 a171 = [s171_0] by kernel_rfl]
 intro e he
 simp only [List.mem_cons, List.not_mem_nil, or_false] at he
 rcases he with rfl <;> simp [es])
theorem ok196 : FnOk Tryz.prog noG 196 (f_cursor_is D) := fk hD lk_nil [] a196 Tryz.func196
theorem ok172 : FnOk Tryz.prog noG 172 (f_cursor_Cursor_Read D) := fk hD (lk_cons (ok196 hD) lk_nil) [] a172 Tryz.func172
theorem ok195 : FnOk Tryz.prog noG 195 (f_feed_Feed_is D) := fk hD lk_nil [] a195 Tryz.func195
theorem ok173 : FnOk Tryz.prog noG 173 (f_feed_Feed_Take D) := fk hD (lk_cons (ok60 hD) (lk_cons (ok170 hD) (lk_cons (ok195 hD) lk_nil))) [] a173 Tryz.func173
theorem ok123 : FnOk Tryz.prog noG 123 (f_attempt_Attempt_Land D) := fkS hD (lk_cons (ok32 hD) (lk_cons (ok60 hD) (lk_cons (ok169 hD) (lk_cons (ok171 hD) (lk_cons (ok172 hD) (lk_cons (ok173 hD) lk_nil)))))) [3] a123 Tryz.func123 (by
 rw [show sitesF Tryz.f123 a123 = [s123_0] by kernel_rfl]
 intro e he
 simp only [List.mem_cons, List.not_mem_nil, or_false] at he
 rcases he with rfl <;> simp [es])
theorem ok71 : FnOk Tryz.prog noG 71 (f_wire_Wire_at D) := fk hD lk_nil [] a71 Tryz.func71
theorem ok174 : FnOk Tryz.prog noG 174 (f_wire_Wire_Push D) := fk hD (lk_cons (ok71 hD) lk_nil) [] a174 Tryz.func174
theorem ok124 : FnOk Tryz.prog noG 124 (f_world_World_Send D) := fk hD (lk_cons (ok174 hD) lk_nil) [] a124 Tryz.func124
theorem ok201 : FnOk Tryz.prog noG 201 (f_slices_Grow_acts_Out_acts_Out D) := fk hD lk_nil [] a201 Tryz.func201
theorem ok175 : FnOk Tryz.prog noG 175 (f_slices_Concat_acts_Out_acts_Out D) := fk hD (lk_cons (ok201 hD) lk_nil) [] a175 Tryz.func175
theorem ok125 : FnOk Tryz.prog noG 125 (f_acts_Acts_Output D) := fk hD (lk_cons (ok175 hD) lk_nil) [13] a125 Tryz.func125
theorem ok126 : FnOk Tryz.prog noG 126 (f_world_World_Done D) := fk hD lk_nil [] a126 Tryz.func126
theorem ok64 : FnOk Tryz.prog noG 64 (f_commit_Commit_land D) := fk hD (lk_cons (ok25 hD) (lk_cons (ok51 hD) (lk_cons (ok80 hD) (lk_cons (ok81 hD) (lk_cons (ok123 hD) (lk_cons (ok124 hD) (lk_cons (ok125 hD) (lk_cons (ok126 hD) lk_nil)))))))) [] a64 Tryz.func64
theorem ok17 : FnOk Tryz.prog noG 17 (f_commit_Commit_Step D) := fk hD (lk_cons (ok61 hD) (lk_cons (ok62 hD) (lk_cons (ok63 hD) (lk_cons (ok64 hD) lk_nil)))) [] a17 Tryz.func17
theorem ok20 : FnOk Tryz.prog noG 20 (f_world_World_Blocks D) := fk hD lk_nil [] a20 Tryz.func20
theorem ok84 : FnOk Tryz.prog noG 84 (f_reads_New D) := fk hD lk_nil [5] a84 Tryz.func84
theorem ok134 : FnOk Tryz.prog noG 134 (f_sheet_New D) := fk hD lk_nil [2, 4] a134 Tryz.func134
theorem ok85 : FnOk Tryz.prog noG 85 (f_mark_Fresh D) := fk hD (lk_cons (ok134 hD) lk_nil) [4, 7] a85 Tryz.func85
theorem ok39 : FnOk Tryz.prog noG 39 (f_attempt_New D) := fk hD (lk_cons (ok47 hD) (lk_cons (ok84 hD) (lk_cons (ok85 hD) lk_nil))) [17, 19, 21] a39 Tryz.func39
theorem ok40 : FnOk Tryz.prog noG 40 (f_world_World_View D) := fk hD lk_nil [] a40 Tryz.func40
theorem ok177 : FnOk Tryz.prog noG 177 (f_draft_by_int D) := fk hD lk_nil [] a177 Tryz.func177
theorem ok176 : FnOk Tryz.prog noG 176 (f_slices_BinarySearchFunc_draft_entry_int_draft_entry_int_int D) := fk hD lk_nil [] a176 Tryz.func176
theorem ok135 : FnOk Tryz.prog noG 135 (f_draft_Draft_int_find D) := fk hD (lk_cons (ok176 hD) lk_nil) [] a135 Tryz.func135
theorem ok86 : FnOk Tryz.prog noG 86 (f_draft_Draft_int_Put D) := fk hD (lk_cons (ok135 hD) (lk_cons (ok136 hD) lk_nil)) [35] a86 Tryz.func86
theorem ok41 : FnOk Tryz.prog noG 41 (f_attempt_Attempt_Store D) := fk hD (lk_cons (ok86 hD) lk_nil) [] a41 Tryz.func41
theorem ok9 : FnOk Tryz.prog noG 9 (f_law22_alive D) := fk hD (lk_cons (ok11 hD) (lk_cons (ok12 hD) (lk_cons (ok14 hD) (lk_cons (ok16 hD) (lk_cons (ok17 hD) (lk_cons (ok20 hD) (lk_cons (ok39 hD) (lk_cons (ok40 hD) (lk_cons (ok41 hD) lk_nil))))))))) [] a9 Tryz.func9
theorem ok10 : FnOk Tryz.prog noG 10 (f_law22_great D) := fk hD lk_nil [] a10 Tryz.func10
theorem ok152 : FnOk Tryz.prog noG 152 (f_draft_Draft_int_Get D) := fk hD (lk_cons (ok135 hD) lk_nil) [] a152 Tryz.func152
theorem ok213 : FnOk Tryz.prog noG 213 (f_reads_Set_place_1 D) := fk hD lk_nil [] a213 Tryz.func213 (fv := [.sc .kp, .sc .kp])
theorem ok212 : FnOk Tryz.prog noG 212 (f_slices_IndexFunc_reads_Entry_reads_Entry D) := fk hD lk_nil [] a212 Tryz.func212
theorem ok206 : FnOk Tryz.prog noG 206 (f_reads_Set_place D) := fk hD (lk_cons (ok212 hD) lk_nil) [4, 5] a206 Tryz.func206
theorem ok189 : FnOk Tryz.prog noG 189 (f_reads_Set_Note D) := fk hD (lk_cons (ok76 hD) (lk_cons (ok131 hD) (lk_cons (ok206 hD) lk_nil))) [] a189 Tryz.func189
theorem ok153 : FnOk Tryz.prog noG 153 (f_attempt_Attempt_note D) := fk hD (lk_cons (ok77 hD) (lk_cons (ok189 hD) lk_nil)) [] a153 Tryz.func153
theorem ok108 : FnOk Tryz.prog noG 108 (f_attempt_Attempt_Load D) := fk hD (lk_cons (ok58 hD) (lk_cons (ok152 hD) (lk_cons (ok153 hD) lk_nil))) [] a108 Tryz.func108
theorem ok223 : FnOk Tryz.prog noG 223 (f_draft_by_file_File D) := fk hD lk_nil [] a223 Tryz.func223
theorem ok222 : FnOk Tryz.prog noG 222 (f_slices_BinarySearchFunc_draft_entry_file_File_draft_entry_file_File_int D) := fk hD lk_nil [] a222 Tryz.func222
theorem ok214 : FnOk Tryz.prog noG 214 (f_draft_Draft_file_File_find D) := fk hD (lk_cons (ok222 hD) lk_nil) [] a214 Tryz.func214
theorem ok207 : FnOk Tryz.prog noG 207 (f_draft_Draft_file_File_Get D) := fk hD (lk_cons (ok214 hD) lk_nil) [] a207 Tryz.func207
theorem ok190 : FnOk Tryz.prog noG 190 (f_sheet_Sheet_Get D) := fk hD (lk_cons (ok59 hD) (lk_cons (ok207 hD) lk_nil)) [] a190 Tryz.func190
theorem ok154 : FnOk Tryz.prog noG 154 (f_attempt_Attempt_touch D) := fk hD (lk_cons (ok153 hD) (lk_cons (ok190 hD) lk_nil)) [] a154 Tryz.func154
theorem ok155 : FnOk Tryz.prog noG 155 (f_file_At D) := fk hD lk_nil [] a155 Tryz.func155
theorem ok109 : FnOk Tryz.prog noG 109 (f_attempt_Attempt_Read D) := fk hD (lk_cons (ok154 hD) (lk_cons (ok155 hD) lk_nil)) [] a109 Tryz.func109
theorem ok208 : FnOk Tryz.prog noG 208 (f_draft_Draft_file_File_Put D) := fk hD (lk_cons (ok214 hD) (lk_cons (ok215 hD) lk_nil)) [35] a208 Tryz.func208
theorem ok191 : FnOk Tryz.prog noG 191 (f_sheet_Sheet_put D) := fk hD (lk_cons (ok190 hD) (lk_cons (ok208 hD) lk_nil)) [] a191 Tryz.func191
theorem ok192 : FnOk Tryz.prog noG 192 (f_file_Put D) := fk hD lk_nil [] a192 Tryz.func192
theorem ok156 : FnOk Tryz.prog noG 156 (f_sheet_Sheet_Write D) := fk hD (lk_cons (ok190 hD) (lk_cons (ok191 hD) (lk_cons (ok192 hD) lk_nil))) [] a156 Tryz.func156
theorem ok110 : FnOk Tryz.prog noG 110 (f_attempt_Attempt_Write D) := fk hD (lk_cons (ok154 hD) (lk_cons (ok156 hD) lk_nil)) [] a110 Tryz.func110
theorem ok193 : FnOk Tryz.prog noG 193 (f_file_Make D) := fk hD lk_nil [] a193 Tryz.func193
theorem ok157 : FnOk Tryz.prog noG 157 (f_sheet_Sheet_Create D) := fk hD (lk_cons (ok190 hD) (lk_cons (ok191 hD) (lk_cons (ok193 hD) lk_nil))) [] a157 Tryz.func157
theorem ok111 : FnOk Tryz.prog noG 111 (f_attempt_Attempt_Create D) := fk hD (lk_cons (ok154 hD) (lk_cons (ok157 hD) lk_nil)) [] a111 Tryz.func111
theorem ok158 : FnOk Tryz.prog noG 158 (f_sheet_Sheet_Remove D) := fk hD (lk_cons (ok191 hD) lk_nil) [] a158 Tryz.func158
theorem ok112 : FnOk Tryz.prog noG 112 (f_attempt_Attempt_Remove D) := fk hD (lk_cons (ok154 hD) (lk_cons (ok158 hD) lk_nil)) [] a112 Tryz.func112
theorem ok159 : FnOk Tryz.prog noG 159 (f_sheet_Sheet_Rename D) := fk hD (lk_cons (ok190 hD) (lk_cons (ok191 hD) lk_nil)) [] a159 Tryz.func159
theorem ok113 : FnOk Tryz.prog noG 113 (f_attempt_Attempt_Rename D) := fk hD (lk_cons (ok154 hD) (lk_cons (ok159 hD) lk_nil)) [] a113 Tryz.func113
theorem ok194 : FnOk Tryz.prog noG 194 (f_file_Cut D) := fk hD (lk_cons (ok209 hD) lk_nil) [] a194 Tryz.func194
theorem ok160 : FnOk Tryz.prog noG 160 (f_sheet_Sheet_Cut D) := fk hD (lk_cons (ok190 hD) (lk_cons (ok191 hD) (lk_cons (ok194 hD) lk_nil))) [] a160 Tryz.func160
theorem ok114 : FnOk Tryz.prog noG 114 (f_attempt_Attempt_Cut D) := fk hD (lk_cons (ok154 hD) (lk_cons (ok160 hD) lk_nil)) [] a114 Tryz.func114
theorem ok161 : FnOk Tryz.prog noG 161 (f_feed_Feed_At D) := fk hD (lk_cons (ok195 hD) lk_nil) [] a161 Tryz.func161
theorem ok162 : FnOk Tryz.prog noG 162 (f_cursor_Cursor_At D) := fk hD (lk_cons (ok196 hD) lk_nil) [] a162 Tryz.func162
theorem ok163 : FnOk Tryz.prog noG 163 (f_cursor_Cursor_Step D) := fk hD (lk_cons (ok196 hD) lk_nil) [] a163 Tryz.func163
theorem ok115 : FnOk Tryz.prog noG 115 (f_attempt_Attempt_Recv D) := fk hD (lk_cons (ok60 hD) (lk_cons (ok153 hD) (lk_cons (ok161 hD) (lk_cons (ok162 hD) (lk_cons (ok163 hD) lk_nil))))) [] a115 Tryz.func115
theorem ok50 : FnOk Tryz.prog noG 50 (f_law22_does D) := fk hD (lk_cons (ok41 hD) (lk_cons (ok108 hD) (lk_cons (ok109 hD) (lk_cons (ok110 hD) (lk_cons (ok111 hD) (lk_cons (ok112 hD) (lk_cons (ok113 hD) (lk_cons (ok114 hD) (lk_cons (ok115 hD) lk_nil))))))))) [] a50 Tryz.func50
theorem ok52 : FnOk Tryz.prog noG 52 (f_acts_Acts_Send D) := fk hD lk_nil [] a52 Tryz.func52
theorem ok53 : FnOk Tryz.prog noG 53 (f_acts_Acts_Later D) := fk hD lk_nil [] a53 Tryz.func53
theorem ok54 : FnOk Tryz.prog noG 54 (f_acts_Acts_Note D) := fk hD lk_nil [] a54 Tryz.func54
theorem ok55 : FnOk Tryz.prog noG 55 (f_acts_Acts_Opened D) := fk hD lk_nil [] a55 Tryz.func55
theorem ok197 : FnOk Tryz.prog noG 197 (f_slices_Backward_acts_Open_acts_Open_1 D) := fk hD lk_nil [] a197 Tryz.func197 (fv := [.sc .kp])
theorem ok164 : FnOk Tryz.prog noG 164 (f_slices_Backward_acts_Open_acts_Open D) := fk hD lk_nil [1] a164 Tryz.func164
theorem ok116 : FnOk Tryz.prog noG 116 (f_acts_undo D) := fkS hD (lk_cons (ok164 hD) lk_nil) [3] a116 Tryz.func116 (by
 rw [show sitesF Tryz.f116 a116 = [s116_0] by kernel_rfl]
 intro e he
 simp only [List.mem_cons, List.not_mem_nil, or_false] at he
 rcases he with rfl <;> simp [es])
theorem ok56 : FnOk Tryz.prog noG 56 (f_acts_Acts_Undo D) := fk hD (lk_cons (ok116 hD) lk_nil) [] a56 Tryz.func56
theorem ok57 : FnOk Tryz.prog noG 57 (f_world_World_Add D) := fk hD lk_nil [] a57 Tryz.func57
theorem ok13 : FnOk Tryz.prog noG 13 (f_law22_begun D) := fk hD (lk_cons (ok39 hD) (lk_cons (ok40 hD) (lk_cons (ok50 hD) (lk_cons (ok51 hD) (lk_cons (ok52 hD) (lk_cons (ok53 hD) (lk_cons (ok54 hD) (lk_cons (ok55 hD) (lk_cons (ok56 hD) (lk_cons (ok57 hD) lk_nil)))))))))) [74] a13 Tryz.func13
theorem ok15 : FnOk Tryz.prog noG 15 (f_law22_things D) := fk hD (lk_cons (ok40 hD) (lk_cons (ok58 hD) (lk_cons (ok59 hD) (lk_cons (ok60 hD) lk_nil)))) [] a15 Tryz.func15
theorem ok18 : FnOk Tryz.prog noG 18 (f_ref20_Good D) := fk hD lk_nil [] a18 Tryz.func18
theorem ok65 : FnOk Tryz.prog noG 65 (f_ref09_At D) := fk hD lk_nil [] a65 Tryz.func65
theorem ok127 : FnOk Tryz.prog noG 127 (f_ref14_Is D) := fk hD lk_nil [] a127 Tryz.func127
theorem ok128 : FnOk Tryz.prog noG 128 (f_ref14_Sheet_put D) := fk hD lk_nil [] a128 Tryz.func128
theorem ok129 : FnOk Tryz.prog noG 129 (f_ref09_Put D) := fk hD (lk_cons (ok65 hD) lk_nil) [] a129 Tryz.func129
theorem ok66 : FnOk Tryz.prog noG 66 (f_ref14_Sheet_Write D) := fk hD (lk_cons (ok127 hD) (lk_cons (ok128 hD) (lk_cons (ok129 hD) lk_nil))) [] a66 Tryz.func66
theorem ok67 : FnOk Tryz.prog noG 67 (f_ref14_Sheet_Create D) := fk hD (lk_cons (ok127 hD) (lk_cons (ok128 hD) lk_nil)) [] a67 Tryz.func67
theorem ok68 : FnOk Tryz.prog noG 68 (f_ref14_Sheet_Remove D) := fk hD (lk_cons (ok127 hD) (lk_cons (ok128 hD) lk_nil)) [] a68 Tryz.func68
theorem ok69 : FnOk Tryz.prog noG 69 (f_ref14_Sheet_Rename D) := fk hD (lk_cons (ok127 hD) (lk_cons (ok128 hD) lk_nil)) [] a69 Tryz.func69
theorem ok130 : FnOk Tryz.prog noG 130 (f_ref09_Cut D) := fk hD (lk_cons (ok65 hD) lk_nil) [] a130 Tryz.func130
theorem ok70 : FnOk Tryz.prog noG 70 (f_ref14_Sheet_Cut D) := fk hD (lk_cons (ok127 hD) (lk_cons (ok128 hD) (lk_cons (ok130 hD) lk_nil))) [] a70 Tryz.func70
theorem ok19 : FnOk Tryz.prog noG 19 (f_ref20_Do D) := fk hD (lk_cons (ok65 hD) (lk_cons (ok66 hD) (lk_cons (ok67 hD) (lk_cons (ok68 hD) (lk_cons (ok69 hD) (lk_cons (ok70 hD) lk_nil)))))) [17] a19 Tryz.func19
theorem ok24 : FnOk Tryz.prog noG 24 (f_disk_Disk_Crash D) := fk hD (lk_cons (ok75 hD) lk_nil) [] a24 Tryz.func24
theorem ok4 : FnOk Tryz.prog noG 4 (f_law22_CommitLasts D) := fk hD (lk_cons (ok9 hD) (lk_cons (ok10 hD) (lk_cons (ok11 hD) (lk_cons (ok12 hD) (lk_cons (ok13 hD) (lk_cons (ok14 hD) (lk_cons (ok15 hD) (lk_cons (ok16 hD) (lk_cons (ok17 hD) (lk_cons (ok18 hD) (lk_cons (ok19 hD) (lk_cons (ok23 hD) (lk_cons (ok24 hD) lk_nil))))))))))))) [] a4 Tryz.func4
end
noncomputable def e138_0 (D : DD) : Env := ⟨lk [], D, noG⟩
theorem d138_0 (D : DD) (l : Nat) (vs : List (Nat × HV)) (args : List HV) : roundD (e138_0 D) Tryz.prog [] s138_0.2 [.t 3 (.sc .kp)] [.t 7 (.sc .ks)] .z .z [] l vs args = r0_wafer_Whole D l vs args := by kernel_rfl
theorem rd138_0 : RdOk Tryz.prog noG s138_0 r0_wafer_Whole := fun D hD => ⟨e138_0 D, [], [.t 3 (.sc .kp)], [.t 7 (.sc .ks)], .z, .z, [], ⟨lk_nil, hD⟩, rfl, by kernel_rfl, rst_none (by kernel_rfl), fun l vs args => (d138_0 D l vs args).symm⟩
noncomputable def e182_0 (D : DD) : Env := ⟨lk [], D, noG⟩
theorem d182_0 (D : DD) (l : Nat) (vs : List (Nat × HV)) (args : List HV) : roundD (e182_0 D) Tryz.prog [] s182_0.2 [.t 2 (.sc .kp)] [.t 16 (.sc .ks)] .z .z [] l vs args = r0_wal_Log_All_1 D l vs args := by kernel_rfl
theorem rd182_0 : RdOk Tryz.prog noG s182_0 r0_wal_Log_All_1 := fun D hD => ⟨e182_0 D, [], [.t 2 (.sc .kp)], [.t 16 (.sc .ks)], .z, .z, [], ⟨lk_nil, hD⟩, rfl, by kernel_rfl, rst_none (by kernel_rfl), fun l vs args => (d182_0 D l vs args).symm⟩
noncomputable def e88_0 (D : DD) : Env := ⟨lk [(140, f_vault_first D)], D, noG⟩
theorem d88_0 (D : DD) (l : Nat) (vs : List (Nat × HV)) (args : List HV) : roundD (e88_0 D) Tryz.prog [] s88_0.2 [.t 2 (.sc .kp), .t 3 (.sc .kp), .t 4 (.sc .kp), .t 5 (.sc .kp), .t 6 (.sc .kp)] [.t 13 (.sc .ks)] .z (.n (some []) (.n none .z (.n none (.n none (.n (some [.t 36 (.sc .kb)]) .z .z) .z) .z)) .z) [0] l vs args = r0_vault_look D l vs args := by kernel_rfl
theorem rd88_0 : RdOk Tryz.prog noG s88_0 r0_vault_look := fun D hD => ⟨e88_0 D, [], [.t 2 (.sc .kp), .t 3 (.sc .kp), .t 4 (.sc .kp), .t 5 (.sc .kp), .t 6 (.sc .kp)], [.t 13 (.sc .ks)], .z, (.n (some []) (.n none .z (.n none (.n none (.n (some [.t 36 (.sc .kb)]) .z .z) .z) .z)) .z), [0], ⟨(lk_cons (ok140 hD) lk_nil), hD⟩, rfl, by kernel_rfl, rst_none (by kernel_rfl), fun l vs args => (d88_0 D l vs args).symm⟩
noncomputable def e187_0 (D : DD) : Env := ⟨lk [], D, noG⟩
theorem d187_0 (D : DD) (l : Nat) (vs : List (Nat × HV)) (args : List HV) : roundD (e187_0 D) Tryz.prog [] s187_0.2 [.t 2 (.sc .kp)] [.t 12 (.sc (.ki .i64)), .t 13 (.c [.kb, .ks])] .z (.n none (.n none (.n (some [.t 22 (.sc .kb)]) .z .z) .z) .z) [] l vs args = r0_tome_Tome_All_1 D l vs args := by kernel_rfl
theorem rd187_0 : RdOk Tryz.prog noG s187_0 r0_tome_Tome_All_1 := fun D hD => ⟨e187_0 D, [], [.t 2 (.sc .kp)], [.t 12 (.sc (.ki .i64)), .t 13 (.c [.kb, .ks])], .z, (.n none (.n none (.n (some [.t 22 (.sc .kb)]) .z .z) .z) .z), [], ⟨lk_nil, hD⟩, rfl, by kernel_rfl, rst_none (by kernel_rfl), fun l vs args => (d187_0 D l vs args).symm⟩
noncomputable def e105_0 (D : DD) : Env := ⟨lk [(98, f_stylus_Stylus_Nat D), (151, f_stylus_Stylus_Text D)], D, noG⟩
theorem d105_0 (D : DD) (l : Nat) (vs : List (Nat × HV)) (args : List HV) : roundD (e105_0 D) Tryz.prog [14, 19] s105_0.2 [.t 3 (.sc .kp)] [.t 10 (.sc (.ki .i64)), .t 11 (.c [.kb, .ks])] .z .z [] l vs args = r0_tome_Tome_Bytes D l vs args := by kernel_rfl
theorem rd105_0 : RdOk Tryz.prog noG s105_0 r0_tome_Tome_Bytes := fun D hD => ⟨e105_0 D, [14, 19], [.t 3 (.sc .kp)], [.t 10 (.sc (.ki .i64)), .t 11 (.c [.kb, .ks])], .z, .z, [], ⟨(lk_cons (ok98 hD) (lk_cons (ok151 hD) lk_nil)), hD⟩, rfl, by kernel_rfl, rst_none (by kernel_rfl), fun l vs args => (d105_0 D l vs args).symm⟩
noncomputable def e168_0 (D : DD) : Env := ⟨lk [(98, f_stylus_Stylus_Nat D), (151, f_stylus_Stylus_Text D)], D, noG⟩
theorem d168_0 (D : DD) (l : Nat) (vs : List (Nat × HV)) (args : List HV) : roundD (e168_0 D) Tryz.prog [22, 27, 31] s168_0.2 [.t 5 (.sc .kp)] [.t 16 (.sc (.ki .i64)), .t 17 (.c [.kb, .ks])] .z .z [] l vs args = r0_redo_Bytes D l vs args := by kernel_rfl
theorem rd168_0 : RdOk Tryz.prog noG s168_0 r0_redo_Bytes := fun D hD => ⟨e168_0 D, [22, 27, 31], [.t 5 (.sc .kp)], [.t 16 (.sc (.ki .i64)), .t 17 (.c [.kb, .ks])], .z, .z, [], ⟨(lk_cons (ok98 hD) (lk_cons (ok151 hD) lk_nil)), hD⟩, rfl, by kernel_rfl, rst_none (by kernel_rfl), fun l vs args => (d168_0 D l vs args).symm⟩
noncomputable def e171_0 (D : DD) : Env := ⟨lk [(145, f_tome_Tome_Set D)], D, noG⟩
theorem d171_0 (D : DD) (l : Nat) (vs : List (Nat × HV)) (args : List HV) : roundD (e171_0 D) Tryz.prog [] s171_0.2 [.t 4 (.sc .kp), .t 5 (.sc .kp), .t 7 (.sc .kp)] [.t 13 (.sc (.ki .i64)), .t 14 (.c [.kb, .ks])] .z .z [] l vs args = r0_sheet_Sheet_Over D l vs args := by kernel_rfl
theorem rd171_0 : RdOk Tryz.prog noG s171_0 r0_sheet_Sheet_Over := fun D hD => ⟨e171_0 D, [], [.t 4 (.sc .kp), .t 5 (.sc .kp), .t 7 (.sc .kp)], [.t 13 (.sc (.ki .i64)), .t 14 (.c [.kb, .ks])], .z, .z, [], ⟨(lk_cons (ok145 hD) lk_nil), hD⟩, rfl, by kernel_rfl, rst_none (by kernel_rfl), fun l vs args => (d171_0 D l vs args).symm⟩
noncomputable def e123_0 (D : DD) : Env := ⟨lk [(170, f_cell_Row_int_Set D)], D, noG⟩
theorem d123_0 (D : DD) (l : Nat) (vs : List (Nat × HV)) (args : List HV) : roundD (e123_0 D) Tryz.prog [] s123_0.2 [.t 3 (.sc .kp)] [.t 30 (.sc (.ki .i64)), .t 31 (.sc (.ki .i64))] .z .z [] l vs args = r0_attempt_Attempt_Land D l vs args := by kernel_rfl
theorem rd123_0 : RdOk Tryz.prog noG s123_0 r0_attempt_Attempt_Land := fun D hD => ⟨e123_0 D, [], [.t 3 (.sc .kp)], [.t 30 (.sc (.ki .i64)), .t 31 (.sc (.ki .i64))], .z, .z, [], ⟨(lk_cons (ok170 hD) lk_nil), hD⟩, rfl, by kernel_rfl, rst_none (by kernel_rfl), fun l vs args => (d123_0 D l vs args).symm⟩
noncomputable def e116_0 (D : DD) : Env := ⟨lk [], D, noG⟩
theorem d116_0 (D : DD) (l : Nat) (vs : List (Nat × HV)) (args : List HV) : roundD (e116_0 D) Tryz.prog [] s116_0.2 [.t 3 (.sc .kp)] [.t 8 (.sc (.ki .i64)), .t 9 (.c [(.ki .i64), (.ki .i64)])] .z .z [] l vs args = r0_acts_undo D l vs args := by kernel_rfl
theorem rd116_0 : RdOk Tryz.prog noG s116_0 r0_acts_undo := fun D hD => ⟨e116_0 D, [], [.t 3 (.sc .kp)], [.t 8 (.sc (.ki .i64)), .t 9 (.c [(.ki .i64), (.ki .i64)])], .z, .z, [], ⟨lk_nil, hD⟩, rfl, by kernel_rfl, rst_none (by kernel_rfl), fun l vs args => (d116_0 D l vs args).symm⟩
theorem rnok : RnOk Tryz.prog noG es [(94685864, r0_wafer_Whole), (91115101, r0_wal_Log_All_1), (69547369, r0_vault_look), (71670451, r0_tome_Tome_All_1), (38705704, r0_tome_Tome_Bytes), (89324821, r0_redo_Bytes), (82349159, r0_sheet_Sheet_Over), (45135019, r0_attempt_Attempt_Land), (49475106, r0_acts_undo)] := (rn_cons (by kernel_rfl) rd138_0 (by kernel_rfl) (rn_cons (by kernel_rfl) rd182_0 (by kernel_rfl) (rn_cons (by kernel_rfl) rd88_0 (by kernel_rfl) (rn_cons (by kernel_rfl) rd187_0 (by kernel_rfl) (rn_cons (by kernel_rfl) rd105_0 (by kernel_rfl) (rn_cons (by kernel_rfl) rd168_0 (by kernel_rfl) (rn_cons (by kernel_rfl) rd171_0 (by kernel_rfl) (rn_cons (by kernel_rfl) rd123_0 (by kernel_rfl) (rn_cons (by kernel_rfl) rd116_0 (by kernel_rfl) rn_nil)))))))))
theorem clok : ClOk Tryz.prog noG [(n_draft_by_int, f_draft_by_int), (n_wal_Log_All_1, f_wal_Log_All_1), (n_tome_Tome_All_1, f_tome_Tome_All_1), (n_slices_Backward_acts_Open_acts_Open_1, f_slices_Backward_acts_Open_acts_Open_1), (n_draft_Draft_int_All_1, f_draft_Draft_int_All_1), (n_wafer_All_1, f_wafer_All_1), (n_cell_Row_file_File_All_1, f_cell_Row_file_File_All_1), (n_draft_Draft_file_File_All_1, f_draft_Draft_file_File_All_1), (n_reads_Set_place_1, f_reads_Set_place_1), (n_draft_by_file_File, f_draft_by_file_File)] := (cl_cons (fun _ hD => ok177 hD) (cl_cons (fun _ hD => ok182 hD) (cl_cons (fun _ hD => ok187 hD) (cl_cons (fun _ hD => ok197 hD) (cl_cons (fun _ hD => ok200 hD) (cl_cons (fun _ hD => ok203 hD) (cl_cons (fun _ hD => ok205 hD) (cl_cons (fun _ hD => ok210 hD) (cl_cons (fun _ hD => ok213 hD) (cl_cons (fun _ hD => ok223 hD) cl_nil))))))))))
noncomputable abbrev lev (n : Nat) : DD := levD [(n_draft_by_int, f_draft_by_int), (n_wal_Log_All_1, f_wal_Log_All_1), (n_tome_Tome_All_1, f_tome_Tome_All_1), (n_slices_Backward_acts_Open_acts_Open_1, f_slices_Backward_acts_Open_acts_Open_1), (n_draft_Draft_int_All_1, f_draft_Draft_int_All_1), (n_wafer_All_1, f_wafer_All_1), (n_cell_Row_file_File_All_1, f_cell_Row_file_File_All_1), (n_draft_Draft_file_File_All_1, f_draft_Draft_file_File_All_1), (n_reads_Set_place_1, f_reads_Set_place_1), (n_draft_by_file_File, f_draft_by_file_File)] [(94685864, r0_wafer_Whole), (91115101, r0_wal_Log_All_1), (69547369, r0_vault_look), (71670451, r0_tome_Tome_All_1), (38705704, r0_tome_Tome_Bytes), (89324821, r0_redo_Bytes), (82349159, r0_sheet_Sheet_Over), (45135019, r0_attempt_Attempt_Land), (49475106, r0_acts_undo)] n
theorem lev_ok (n : Nat) : DOk Tryz.prog noG (lev n) := levD_ok mixed clok rnok (fun _ _ _ _ _ h => h) n
end Go.Proofs.YtbphjihgbenkdaaGreat.HQ
