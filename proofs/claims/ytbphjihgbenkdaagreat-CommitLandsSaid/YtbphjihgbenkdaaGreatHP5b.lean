/- Lemmas for the row. Conditions: none. -/
import Derived.Test.YtbphjihgbenkdaaGreatHP5a
import Derived.Test.YtbphjihgbenkdaaGreatHP5o
import Derived.Test.YtbphjihgbenkdaaGreatChecked
import Derived.KernelRfl
namespace Go.Proofs.YtbphjihgbenkdaaGreat.HP
open Go Go.Proofs
set_option maxRecDepth 100000
def a180 : Ann := (.n none .z (.n none (.n (some [.t 2 (.sc .kb)]) .z .z) .z))
def a137 : Ann := (.n none .z (.n none (.n none (.n (some [.t 11 (.sc .kb)]) .z .z) .z) .z))
def a185 : Ann := .z
def a186 : Ann := (.n none .z (.n none .z (.n none (.n none .z (.n (some [.t 3 (.sc (.ki .u32))]) (.n (some [.t 3 (.sc (.ki .u32)), .t 7 (.sc (.ki .i64))]) (.n none .z (.n none .z (.n none (.n none (.n none .z (.n none .z (.n none .z (.n (some [.t 3 (.sc (.ki .u32))]) (.n (some [.t 3 (.sc (.ki .u32)), .t 16 (.sc (.ki .i64))]) .z .z) .z)))) .z) .z))) .z) .z)) .z)))
def a204 : Ann := (.n none .z (.n none .z (.n none .z (.n none .z (.n none (.n none (.n (some [.t 27 (.sc .kb)]) .z .z) .z) .z)))))
def a203 : Ann := (.n none .z (.n none (.n (some [.t 3 (.sc .ks)]) (.n none (.n none .z (.n none (.n none (.n (some [.t 19 (.sc .kb)]) .z .z) .z) .z)) .z) .z) .z))
def a181 : Ann := .z
def a138 : Ann := (.n none .z (.n none .z (.n none (.n none .z (.n (some []) (.r 94685864 [3]) .z)) .z)))
def a87 : Ann := (.n none .z (.n none (.n none (.n none .z (.n none .z (.n none (.n (some [.t 11 (.sc .kb)]) .z .z) .z))) .z) .z))
def a182 : Ann := (.n none .z (.n none .z (.n none .z (.n none (.r 91115101 [2]) .z))))
def a139 : Ann := .z
def a90 : Ann := .z
def a143 : Ann := .z
def a94 : Ann := (.n none .z (.n none (.n none (.n (some [.t 26 (.sc .kb)]) .z .z) .z) .z))
def a142 : Ann := (.n none .z (.n none .z (.n none (.n none .z (.n (some []) (.n (some [.t 3 (.sc (.ki .u64)), .t 4 (.sc (.ki .i64))]) (.n none .z (.n none (.n none (.n none .z (.n none (.n none (.n (some [.t 31 (.sc .kb)]) .z .z) .z) .z)) .z) .z)) .z) .z)) .z)))
def a91 : Ann := (.n none .z (.n none .z (.n none (.n none (.n (some [.t 15 (.sc .kb)]) .z .z) .z) .z)))
def a92 : Ann := (.n none .z (.n none (.n (some [.t 2 (.sc .kb)]) .z .z) .z))
def a95 : Ann := .z
def a140 : Ann := (.n none .z (.n none .z (.n none .z (.n none .z (.n none (.n (some [.t 2 (.sc (.ki .i64)), .t 3 (.sc .ks), .t 4 (.sc .kb)]) .z .z) .z)))))
def a88 : Ann := (.n none .z (.n none .z (.n none .z (.n none (.n none .z (.n (some []) (.r 69547369 [2, 3, 4, 5, 6]) .z)) (.n none (.n none (.r 3 []) (.r 1 [45])) .z)))))
def a42 : Ann := (.n none .z (.n none .z (.n none .z (.n none .z (.n none (.n none .z (.n (some [.x 6 (some [.ks, .kl])]) (.n (some [.t 18 (.sc (.ki .i64)), .x 6 (some [.ks, .kl])]) (.n none .z (.n none .z (.n none (.n (some [.x 6 (some [.ks, .kl])]) (.n none .z (.n none .z (.n none .z (.n none (.n (some [.t 44 (.sc .kb)]) .z .z) .z)))) .z) .z))) .z) .z)) .z)))))
def a141 : Ann := (.n none .z (.n none .z (.n none (.n none .z (.n (some []) (.n (some [.t 9 (.sc (.ki .i64))]) .z .z) .z)) .z)))
def a89 : Ann := .z
def a144 : Ann := .z
def a183 : Ann := (.n none .z (.n none (.n (some [.t 2 (.sc .kb)]) .z .z) .z))
def a165 : Ann := (.n none .z (.n none (.n (some [.t 4 (.sc .kb)]) .z .z) .z))
def a184 : Ann := .z
def a145 : Ann := (.n none .z (.n none (.n (some [.t 8 (.sc .kb)]) .z .z) .z))
def a93 : Ann := (.n none .z (.n none .z (.n none .z (.n none (.n none .z (.n (some []) (.n (some [.t 6 (.sc (.ki .i64))]) (.n none .z (.n none (.n none .z (.n none .z (.n none (.n none (.n (some [.t 25 (.sc .kb)]) .z .z) .z) .z))) .z)) .z) .z)) .z))))
def a43 : Ann := .z
def a96 : Ann := (.n none .z (.n none .z (.n none .z (.n none .z (.n none (.n none .z (.n (some [.t 7 (.sc .kl)]) (.n (some [.t 7 (.sc .kl), .t 8 (.sc (.ki .i64))]) (.n none .z (.n none (.n none .z (.n none (.n none .z (.n (some [.x 9 (some [(.ki .i64), .kb, .ks])]) .z .z)) (.n none (.n none (.n (some [.t 34 (.sc .kb)]) .z .z) .z) .z))) .z)) .z) .z)) .z)))))
def a97 : Ann := (.n none .z (.n (some []) (.n (some [.t 10 (.sc (.ki .i64))]) .z .z) .z))
def a44 : Ann := (.n none .z (.n none .z (.n none (.n none .z (.n (some [.t 6 (.sc (.ki .i64))]) (.n (some [.t 6 (.sc (.ki .i64)), .t 14 (.sc (.ki .i64))]) .z .z) .z)) .z)))
def a98 : Ann := (.n none .z (.n (some []) (.n (some [.t 8 (.sc (.ki .i64))]) (.n none .z (.n none .z (.n none (.n (some []) (.n none .z (.n none .z (.n none (.n (some [.t 5 (.sc (.ki .i64))]) (.n (some [.t 5 (.sc (.ki .i64))]) .z .z) .z) .z))) .z) .z))) .z) .z))
def a99 : Ann := .z
def a100 : Ann := .z
def a101 : Ann := .z
def a146 : Ann := .z
def a102 : Ann := .z
def a75 : Ann := .z
def a147 : Ann := (.n none .z (.n none (.n none .z (.n (some []) (.n (some [.t 11 (.sc (.ki .i64))]) .z .z) .z)) .z))
def a103 : Ann := .z
def a148 : Ann := .z
def a149 : Ann := .z
def a104 : Ann := .z
def a45 : Ann := (.n none .z (.n none .z (.n none .z (.n none .z (.n none .z (.n none .z (.n none .z (.n none (.n none (.r 12 []) (.r 1 [43])) .z))))))))
def a205 : Ann := (.n none .z (.n none .z (.n (some []) (.n (some [.t 12 (.sc (.ki .i64))]) .z .z) .z)))
def a188 : Ann := .z
def a187 : Ann := (.n none .z (.n none .z (.n none .z (.n none (.r 71670451 [2]) .z))))
def a150 : Ann := .z
def a151 : Ann := (.n none .z (.n (some []) (.n (some [.t 8 (.sc (.ki .i64))]) .z .z) .z))
def a105 : Ann := (.n none .z (.n none .z (.n none (.n none .z (.n (some []) (.r 38705704 [3]) .z)) .z)))
def a46 : Ann := .z
def a106 : Ann := (.n none .z (.n none .z (.n none (.n none .z (.n (some []) (.n (some [.t 9 (.sc (.ki .i64))]) .z .z) .z)) .z)))
def a107 : Ann := .z
def a47 : Ann := .z
def a48 : Ann := .z
def a49 : Ann := .z
def a11 : Ann := .z
def a12 : Ann := .z
def a14 : Ann := (.n none .z (.n none (.n none (.n (some [.t 10 (.sc .kb)]) .z .z) .z) .z))
def a16 : Ann := .z
def a72 : Ann := .z
def a73 : Ann := .z
def a74 : Ann := .z
def a23 : Ann := (.n none .z (.n none .z (.n none (.n none (.r 11 []) (.r 1 [16])) .z)))
def a25 : Ann := .z
def a31 : Ann := (.n none .z (.n none (.n (some [.t 4 (.sc .kb)]) .z .z) .z))
def a131 : Ann := (.n none .z (.n none (.n none (.n (some [.t 20 (.sc .kb)]) .z .z) .z) .z))
def a76 : Ann := (.n none .z (.n none .z (.n none (.n none .z (.n (some []) (.n (some [.t 14 (.sc (.ki .i64))]) .z .z) .z)) .z)))
def a118 : Ann := .z
def a59 : Ann := .z
def a117 : Ann := (.n none .z (.n none (.n (some [.t 4 (.sc .kb)]) .z .z) .z))
def a58 : Ann := .z
def a60 : Ann := .z
def a132 : Ann := .z
def a77 : Ann := (.n none .z (.n none .z (.n none .z (.n none (.n none .z (.n (some [.x 3 none]) (.n (some [.t 15 (.sc (.ki .i64)), .x 3 none]) .z .z) .z)) (.n none (.n none .z (.n (some [.x 3 none]) (.n (some [.t 29 (.sc (.ki .i64)), .x 3 none]) .z .z) .z)) (.n none (.n none .z (.n (some [.x 3 none]) (.n (some [.t 46 (.sc (.ki .i64)), .x 3 none]) .z .z) .z)) .z))))))
def a32 : Ann := (.n none .z (.n none (.n (some [.t 2 (.sc .kb)]) (.r 12 []) (.r 1 [9])) .z))
def a119 : Ann := .z
def a61 : Ann := (.n none .z (.n none (.n none (.n none (.r 6 []) (.r 1 [12])) .z) (.n none .z (.n none (.n none (.r 6 []) (.r 1 [26])) (.n none .z (.n none (.n none .z (.n none .z (.n (some []) .z .z))) .z))))))
def a28 : Ann := (.n none .z (.n none (.n (some [.t 4 (.sc .kb)]) .z .z) .z))
def a80 : Ann := (.n none .z (.n none (.n none (.n (some [.t 18 (.sc .kb)]) .z .z) .z) .z))
def a198 : Ann := .z
def a166 : Ann := .z
def a167 : Ann := .z
def a210 : Ann := (.n none .z (.n none .z (.n (some []) (.n (some [.t 12 (.sc (.ki .i64))]) .z .z) .z)))
def a199 : Ann := .z
def a168 : Ann := (.n none .z (.n none .z (.n none .z (.n none (.n none .z (.n (some []) (.r 89324821 [5]) .z)) .z))))
def a120 : Ann := (.n none .z (.n none .z (.n none .z (.n none .z (.n none (.n none .z (.n (some []) (.n none (.n none (.r 16 []) (.r 1 [34])) .z) .z)) (.n none (.n none (.r 11 []) (.r 1 [54])) .z))))))
def a121 : Ann := .z
def a62 : Ann := (.n none .z (.n none .z (.n none (.n none (.n none .z (.n none .z (.n none (.n none (.r 6 []) (.r 1 [27])) .z))) .z) (.n none (.n none (.r 6 []) (.r 1 [34])) .z))))
def a122 : Ann := .z
def a63 : Ann := .z
def a51 : Ann := .z
def a81 : Ann := (.n none .z (.n none (.n none (.n (some [.t 18 (.sc .kb)]) .z .z) .z) .z))
def a200 : Ann := (.n none .z (.n none .z (.n (some []) (.n (some [.t 12 (.sc (.ki .i64))]) .z .z) .z)))
def a169 : Ann := .z
def a170 : Ann := .z
def a171 : Ann := (.n none .z (.n none .z (.n none (.n none .z (.n (some []) (.r 82349159 [4, 5, 7]) .z)) .z)))
def a196 : Ann := (.n none .z (.n none (.n (some [.t 2 (.sc .kb)]) .z .z) .z))
def a172 : Ann := (.n none .z (.n none (.n none (.n (some [.t 11 (.sc .kb)]) .z .z) .z) .z))
def a195 : Ann := (.n none .z (.n none (.n (some [.t 4 (.sc .kb)]) .z .z) .z))
def a173 : Ann := (.n none .z (.n none .z (.n none (.n none (.n (some [.t 36 (.sc .kb)]) .z .z) .z) .z)))
def a123 : Ann := (.n none .z (.n none .z (.n none .z (.n none .z (.n none (.n none .z (.n (some []) (.r 45135019 [3]) .z)) (.n none .z (.n none (.n none .z (.n (some []) (.n (some [.t 57 (.sc (.ki .i64))]) (.n none .z (.n none .z (.n none (.n (some []) .z .z) .z))) .z) .z)) .z)))))))
def a71 : Ann := (.n none .z (.n none (.n none (.n (some [.t 14 (.sc .kb)]) .z .z) .z) .z))
def a174 : Ann := .z
def a124 : Ann := (.n none .z (.n none .z (.n (some []) (.n (some [.t 10 (.sc (.ki .i64))]) .z .z) .z)))
def a201 : Ann := (.n none .z (.n none .z (.n none (.n none .z (.n none .z (.n (some [.t 0 (.sc .kl)]) .z .z))) .z)))
def a175 : Ann := (.n none .z (.n none .z (.n none (.n none .z (.n (some [.t 3 (.sc (.ki .i64))]) (.n (some [.t 3 (.sc (.ki .i64)), .t 11 (.sc (.ki .i64))]) .z .z) .z)) (.n none .z (.n none (.n none .z (.n (some [.t 6 (.sc .kl)]) (.n (some [.t 6 (.sc .kl), .t 27 (.sc (.ki .i64))]) .z .z) .z)) .z)))))
def a125 : Ann := .z
def a126 : Ann := .z
def a64 : Ann := (.n none .z (.n none .z (.n none .z (.n none .z (.n none (.n none (.r 6 []) (.r 1 [25])) (.n none (.n none (.r 6 []) (.r 1 [32])) .z))))))
def a17 : Ann := (.n none .z (.n none (.n none (.n (some [.t 10 (.sc .kb)]) .z .z) .z) (.n none (.n none .z (.n (some []) .z .z)) .z)))
def a20 : Ann := .z
def a84 : Ann := .z
def a134 : Ann := .z
def a85 : Ann := (.n none .z (.n none (.n none (.r 6 [4, 7]) (.r 1 [])) .z))
def a39 : Ann := (.n none .z (.n none (.n none .z (.n (some [.t 0 (.sc .kp)]) .z .z)) (.n none (.n none (.r 12 [17, 19]) (.r 1 [])) .z)))
def a40 : Ann := .z
def a177 : Ann := .z
def a176 : Ann := (.n none .z (.n none .z (.n none .z (.n none (.n (some [.t 9 (.sc (.ki .i64))]) (.n (some [.t 9 (.sc (.ki .i64)), .t 10 (.sc (.ki .i64))]) .z .z) .z) (.n none (.n (some [.t 6 (.sc (.ki .i64)), .t 7 (.sc .kb)]) .z .z) .z)))))
def a135 : Ann := .z
def a86 : Ann := (.n none .z (.n none .z (.n none .z (.n none (.n none .z (.n (some []) .z .z)) .z))))
def a41 : Ann := (.n none .z (.n none (.n none (.n none .z (.n none .z (.n none (.n (some [.t 10 (.sc .kb)]) .z .z) .z))) .z) .z))
def a9 : Ann := (.n none .z (.n none .z (.n none .z (.n none .z (.n none .z (.n none .z (.n none (.n (some [.t 0 (.sc .kb)]) .z .z) .z)))))))
def a10 : Ann := (.n none .z (.n none .z (.n none (.n none .z (.n (some []) (.n (some [.t 10 (.sc (.ki .i64))]) (.n none .z (.n none .z (.n none (.n none (.n none .z (.n none (.n (some [.t 27 (.sc .kb)]) .z .z) .z)) .z) .z))) .z) .z)) .z)))
def a152 : Ann := .z
def a213 : Ann := (.n none .z (.n none (.n (some [.t 4 (.sc .kb)]) .z .z) .z))
def a212 : Ann := (.n none .z (.n none (.n none .z (.n (some []) (.n (some [.t 8 (.sc (.ki .i64))]) .z .z) .z)) .z))
def a206 : Ann := .z
def a189 : Ann := (.n none .z (.n none .z (.n none .z (.n none .z (.n none (.n none .z (.n (some []) .z .z)) .z)))))
def a153 : Ann := (.n none .z (.n none (.n none (.n none (.r 11 []) (.r 1 [10])) .z) .z))
def a108 : Ann := (.n none .z (.n none (.n none (.n none .z (.n none .z (.n none (.n (some [.t 14 (.sc .kb)]) .z .z) .z))) .z) .z))
def a223 : Ann := .z
def a222 : Ann := (.n none .z (.n none .z (.n none .z (.n none (.n (some [.t 9 (.sc (.ki .i64))]) (.n (some [.t 9 (.sc (.ki .i64)), .t 10 (.sc (.ki .i64))]) .z .z) .z) (.n none (.n (some [.t 6 (.sc (.ki .i64)), .t 7 (.sc .kb)]) .z .z) .z)))))
def a214 : Ann := .z
def a207 : Ann := .z
def a190 : Ann := (.n none .z (.n none (.n none .z (.n (some []) .z .z)) .z))
def a154 : Ann := (.n none .z (.n none (.n none (.n none .z (.n none .z (.n none (.n (some [.t 12 (.sc .kb)]) .z .z) .z))) .z) .z))
def a155 : Ann := (.n none .z (.n none (.n none (.n (some [.t 13 (.sc .kb)]) .z .z) .z) .z))
def a109 : Ann := .z
def a208 : Ann := (.n none .z (.n none .z (.n none .z (.n none (.n none .z (.n (some []) .z (.n none (.r 11 []) (.r 1 [30])))) .z))))
def a191 : Ann := (.n none .z (.n none (.n none (.n (some [.t 20 (.sc .kb)]) .z .z) .z) .z))
def a192 : Ann := (.n none .z (.n none (.n none (.n (some [.t 13 (.sc .kb)]) .z .z) .z) (.n none .z (.n none (.n (some [.t 7 (.sc .kl)]) (.n (some [.t 7 (.sc .kl)]) .z .z) .z) .z))))
def a156 : Ann := .z
def a110 : Ann := (.n none .z (.n none .z (.n none (.n none .z (.n (some []) .z .z)) .z)))
def a193 : Ann := .z
def a157 : Ann := .z
def a111 : Ann := (.n none .z (.n none .z (.n none (.n none .z (.n (some []) .z .z)) .z)))
def a158 : Ann := .z
def a112 : Ann := (.n none .z (.n none .z (.n none (.n none .z (.n (some []) .z .z)) .z)))
def a159 : Ann := (.n none .z (.n none .z (.n none (.n none (.n none (.n (some [.t 18 (.sc .kb)]) .z .z) (.n none .z (.n none (.n (some [.t 37 (.sc .kb)]) .z .z) .z))) .z) .z)))
def a113 : Ann := (.n none .z (.n none (.n none (.n (some [.t 18 (.sc .kb)]) .z .z) .z) (.n none .z (.n none (.n none .z (.n (some [.t 8 (.sc (.ki .i64))]) .z .z)) (.n none (.n none .z (.n (some []) .z .z)) .z)))))
def a194 : Ann := (.n none .z (.n none (.n none (.n (some [.t 15 (.sc .kb)]) .z .z) .z) .z))
def a160 : Ann := .z
def a114 : Ann := (.n none .z (.n none .z (.n none (.n none .z (.n (some []) .z .z)) .z)))
def a161 : Ann := (.n none .z (.n none (.n none (.n (some [.t 25 (.sc .kb)]) .z .z) .z) .z))
def a162 : Ann := (.n none .z (.n none (.n none (.n (some [.t 13 (.sc .kb)]) .z .z) .z) .z))
def a163 : Ann := (.n none .z (.n none (.n none (.n (some [.t 20 (.sc .kb)]) .z .z) .z) .z))
def a115 : Ann := (.n none .z (.n none (.n none (.n none .z (.n none .z (.n none (.n (some [.t 13 (.sc .kb)]) .z .z) .z))) .z) (.n none .z (.n none .z (.n none (.n none (.r 16 []) (.r 1 [41, 44])) .z)))))
def a50 : Ann := .z
def a52 : Ann := (.n none .z (.n none (.n none (.n (some [.t 16 (.sc .kb)]) .z .z) .z) .z))
def a53 : Ann := (.n none .z (.n none (.n none (.n (some [.t 16 (.sc .kb)]) .z .z) .z) .z))
def a54 : Ann := .z
def a55 : Ann := (.n none .z (.n none (.n none (.n (some [.t 16 (.sc .kb)]) .z .z) .z) .z))
def a197 : Ann := (.n none .z (.n (some []) (.n (some [.t 3 (.sc (.ki .i64))]) .z .z) .z))
def a164 : Ann := .z
def a116 : Ann := (.n none .z (.n none .z (.n none (.n none .z (.n (some []) (.r 49475106 [3]) .z)) .z)))
def a56 : Ann := .z
def a57 : Ann := (.n none .z (.n none .z (.n (some []) (.n (some [.t 10 (.sc (.ki .i64))]) (.n none .z (.n none .z (.n none (.n (some []) (.n none .z (.n none (.n (some [.t 21 (.sc .kb)]) .z .z) .z)) .z) .z))) .z) .z)))
def a13 : Ann := (.n none .z (.n none .z (.n none (.n none .z (.n (some [.t 5 (.sc .kl)]) (.n (some [.t 5 (.sc .kl), .t 15 (.sc (.ki .i64))]) (.n none .z (.n none .z (.n none (.n none (.n none .z (.n none .z (.n none (.n none .z (.n (some []) (.n (some [.t 26 (.sc (.ki .i64))]) .z .z) .z)) (.n none .z (.n none .z (.n none .z (.n none (.n none .z (.n (some []) (.n none .z (.n (some []) (.n (some [.t 64 (.sc (.ki .i64))]) .z .z) .z)) .z)) .z))))))) .z) .z))) .z) .z)) .z)))
def a15 : Ann := (.n none .z (.n none .z (.n none (.n none .z (.n (some [.x 3 none]) (.n (some [.t 9 (.sc (.ki .i64)), .x 3 none]) .z .z) .z)) (.n none (.n none .z (.n (some [.x 3 none]) (.n (some [.t 26 (.sc (.ki .i64)), .x 3 none]) .z .z) .z)) (.n none (.n none .z (.n (some [.x 3 none]) (.n (some [.t 44 (.sc (.ki .i64)), .x 3 none]) .z .z) .z)) .z)))))
def a18 : Ann := (.n none .z (.n none .z (.n none (.n none (.n (some [.t 26 (.sc .kb)]) .z .z) .z) (.n none (.n (some [.t 2 (.sc .kb)]) .z .z) .z))))
def a65 : Ann := (.n none .z (.n none (.n none .z (.n (some []) (.n (some [.t 5 (.sc (.ki .i64))]) .z .z) .z)) .z))
def a127 : Ann := (.n none .z (.n none (.n (some [.t 2 (.sc .kb)]) .z .z) .z))
def a128 : Ann := .z
def a129 : Ann := (.n none .z (.n none (.n none (.n (some [.t 15 (.sc .kb)]) .z .z) .z) (.n none .z (.n none (.n none .z (.n (some [.t 7 (.sc .ks)]) (.n (some [.t 7 (.sc .ks), .t 8 (.sc (.ki .i64))]) (.n none (.n none (.n (some [.t 26 (.sc .kb)]) .z .z) .z) (.n none (.n none (.n none .z (.n none (.n none .z (.n (some [.t 9 (.sc (.ki .i64))]) .z .z)) .z)) .z) .z)) .z) .z)) .z))))
def a66 : Ann := (.n none .z (.n none (.n none .z (.n (some []) .z .z)) .z))
def a67 : Ann := (.n none .z (.n none (.n none .z (.n (some []) .z .z)) .z))
def a68 : Ann := (.n none .z (.n none (.n none .z (.n (some []) .z .z)) .z))
def a69 : Ann := (.n none .z (.n none (.n none (.n (some [.t 14 (.sc .kb)]) .z .z) .z) (.n none (.n none (.n (some [.t 26 (.sc .kb)]) .z .z) (.n (some []) .z .z)) .z)))
def a130 : Ann := (.n none .z (.n none (.n none (.n (some [.t 17 (.sc .kb)]) .z .z) .z) (.n none .z (.n none (.n none .z (.n (some [.t 5 (.sc .ks)]) (.n (some [.t 5 (.sc .ks), .t 6 (.sc (.ki .i64))]) .z .z) .z)) .z))))
def a70 : Ann := (.n none .z (.n none (.n none .z (.n (some []) .z .z)) .z))
def a19 : Ann := (.n none .z (.n none .z (.n none .z (.n none (.n none .z (.n (some [.t 9 (.sc (.ki .i64)), .x 3 none]) (.n (some [.t 9 (.sc (.ki .i64)), .t 20 (.sc (.ki .i64)), .x 3 none]) (.n none .z (.n none .z (.n none (.n (some [.t 9 (.sc (.ki .i64)), .x 3 none]) .z .z) .z))) .z) .z)) .z))))
def a21 : Ann := .z
def a22 : Ann := .z
def a3 : Ann := (.n none .z (.n none .z (.n none (.n none (.n (some [.t 37 (.sc .kb)]) .z .z) .z) (.n none .z (.n none .z (.n none .z (.n none (.n none .z (.n (some [.t 8 (.sc .kl)]) (.n (some [.t 8 (.sc .kl), .t 48 (.sc (.ki .i64))]) .z .z) .z)) (.n none .z (.n none .z (.n none .z (.n none (.n none .z (.n (some [.x 11 none, .x 12 none]) (.n (some [.t 13 (.sc (.ki .i64)), .t 64 (.sc (.ki .i64)), .x 11 none, .x 12 none]) (.n none .z (.n none .z (.n none (.n none (.n none .z (.n none .z (.n none .z (.n none .z (.n none (.n none (.n (some [.t 91 (.sc .kb)]) .z .z) (.n (some [.t 13 (.sc (.ki .i64)), .x 11 none, .x 12 none]) (.n none .z (.n none (.n none .z (.n (some [.t 19 (.sc .kl)]) (.n (some [.t 19 (.sc .kl), .t 98 (.sc (.ki .i64))]) (.n none .z (.n none .z (.n none (.n (some [.t 19 (.sc .kl)]) .z .z) .z))) .z) .z)) (.n none .z (.n none (.n none .z (.n none (.n (some [.t 126 (.sc .kb)]) .z .z) (.n (some [.x 12 none]) .z .z))) .z)))) .z)) (.n none (.n none (.n (some [.t 156 (.sc .kb)]) .z .z) .z) (.n none .z (.n (some []) (.n (some [.t 157 (.sc (.ki .i64))]) .z .z) .z)))))))) .z) .z))) .z) .z)) .z)))))))))))
def a4 : Ann := (.n none .z (.n none .z (.n none (.n none (.n (some [.t 44 (.sc .kb)]) .z .z) .z) (.n none .z (.n none .z (.n none .z (.n none .z (.n none (.n none .z (.n (some [.t 13 (.sc .kl)]) (.n (some [.t 13 (.sc .kl), .t 56 (.sc (.ki .i64))]) .z .z) .z)) (.n none (.n none .z (.n (some []) (.n (some [.t 70 (.sc (.ki .i64))]) .z .z) .z)) (.n none .z (.n none .z (.n none (.n none .z (.n (some [.x 19 none]) (.n (some [.t 92 (.sc (.ki .i64)), .x 19 none]) (.n none .z (.n none .z (.n none (.n (some [.x 19 none]) (.n none .z (.n none .z (.n none (.n (some [.t 113 (.sc .kb)]) .z .z) (.n none (.n none .z (.n none .z (.n none (.n none .z (.n none (.n none .z (.n (some [.t 25 (.sc .kl)]) (.n (some [.t 25 (.sc .kl), .t 130 (.sc (.ki .i64))]) (.n none .z (.n none .z (.n none (.n (some [.t 25 (.sc .kl)]) .z .z) .z))) .z) .z)) .z)) .z))) .z)))) .z) .z))) .z) .z)) (.n none .z (.n none .z (.n none .z (.n none .z (.n none (.n (some [.t 8 (.sc .kb)]) .z .z) .z)))))))))))))))))
def a5 : Ann := (.n none .z (.n none .z (.n none (.n none (.n (some [.t 29 (.sc .kb)]) .z .z) .z) (.n none .z (.n none .z (.n none .z (.n none .z (.n none (.n none (.r 7 []) (.r 1 [52])) (.n none .z (.n none (.n none .z (.n (some [.t 2 (.sc (.ki .i64))]) .z .z)) (.n none .z (.n none (.n none .z (.n (some [.t 14 (.sc (.ki .i64))]) (.n (some [.t 14 (.sc (.ki .i64)), .t 15 (.sc (.ki .i64))]) (.n none (.n none (.n (some [.t 69 (.sc .kb)]) .z .z) .z) (.n none (.n none (.n none (.n none (.n (some [.t 86 (.sc .kb)]) .z .z) .z) (.n none (.n none .z (.n (some [.t 14 (.sc (.ki .i64))]) .z .z)) .z)) .z) .z)) .z) .z)) (.n none (.n (some [.t 6 (.sc .kb)]) .z .z) .z)))))))))))))
def a6 : Ann := (.n none .z (.n none .z (.n none (.n none (.n (some [.t 41 (.sc .kb)]) .z .z) .z) (.n none .z (.n none .z (.n none .z (.n none .z (.n none (.n none .z (.n (some [.t 12 (.sc .kl), .t 13 (.sc .kl)]) (.n (some [.t 12 (.sc .kl), .t 13 (.sc .kl), .t 52 (.sc (.ki .i64))]) .z .z) .z)) (.n none .z (.n none .z (.n none (.n none (.n (some [.t 87 (.sc .kb)]) .z .z) (.n (some []) .z .z)) (.n none (.n none .z (.n (some []) (.n (some [.t 18 (.sc (.ki .i64)), .t 94 (.sc (.ki .i64))]) (.n none .z (.n none .z (.n none (.n none (.n none .z (.n none .z (.n none (.n none (.r 12 []) (.r 1 [112])) (.n none (.n (some [.t 25 (.sc .kb)]) .z .z) (.n none (.n none .z (.n (some [.t 18 (.sc (.ki .i64))]) .z .z)) (.n none .z (.n none (.n none (.n (some [.t 180 (.sc .kb)]) (.r 40 []) (.r 1 [159, 162, 174, 177])) .z) .z))))))) .z) .z))) .z) .z)) (.n none .z (.n none (.n (some [.t 8 (.sc .kb)]) .z .z) .z))))))))))))))
def a37 : Ann := .z
def a7 : Ann := (.n none .z (.n none .z (.n none (.n none (.n (some [.t 27 (.sc .kb)]) .z .z) .z) (.n none .z (.n none .z (.n none .z (.n none .z (.n none (.n none .z (.n (some []) .z .z)) (.n none (.n none .z (.n (some []) (.n (some [.t 12 (.sc (.ki .i64))]) (.n none (.n none (.n (some [.t 54 (.sc .kb)]) .z .z) .z) .z) .z) .z)) (.n none .z (.n none .z (.n none (.n none .z (.n (some []) (.n (some [.t 13 (.sc (.ki .i64)), .t 64 (.sc (.ki .i64))]) (.n none .z (.n none .z (.n none (.n none (.n none .z (.n none .z (.n none .z (.n none (.n none (.n (some [.t 86 (.sc .kb)]) .z .z) (.n (some [.t 17 (.sc (.ki .i64))]) .z .z)) (.n none .z (.n none .z (.n none (.n (some [.t 122 (.sc .kb)]) .z .z) .z))))))) .z) .z))) .z) .z)) (.n none (.n (some [.t 6 (.sc .kb)]) .z .z) .z)))))))))))))
noncomputable def s138_0 : Nat × Site := (sitesF Tryz.f138 a138).getD 0 (0, ⟨0, #[], .skip, .skip⟩)
noncomputable def s182_0 : Nat × Site := (sitesF Tryz.f182 a182).getD 0 (0, ⟨0, #[], .skip, .skip⟩)
noncomputable def s88_0 : Nat × Site := (sitesF Tryz.f88 a88).getD 0 (0, ⟨0, #[], .skip, .skip⟩)
noncomputable def s187_0 : Nat × Site := (sitesF Tryz.f187 a187).getD 0 (0, ⟨0, #[], .skip, .skip⟩)
noncomputable def s105_0 : Nat × Site := (sitesF Tryz.f105 a105).getD 0 (0, ⟨0, #[], .skip, .skip⟩)
noncomputable def s168_0 : Nat × Site := (sitesF Tryz.f168 a168).getD 0 (0, ⟨0, #[], .skip, .skip⟩)
noncomputable def s171_0 : Nat × Site := (sitesF Tryz.f171 a171).getD 0 (0, ⟨0, #[], .skip, .skip⟩)
noncomputable def s123_0 : Nat × Site := (sitesF Tryz.f123 a123).getD 0 (0, ⟨0, #[], .skip, .skip⟩)
noncomputable def s116_0 : Nat × Site := (sitesF Tryz.f116 a116).getD 0 (0, ⟨0, #[], .skip, .skip⟩)
noncomputable def es : List (Nat × Site) := [s138_0, s182_0, s88_0, s187_0, s105_0, s168_0, s171_0, s123_0, s116_0]
instance : Sites := ⟨fun k _ sz ps a b => siteIn es k sz ps a b⟩
noncomputable def e180 (D : HV → List HV → M HV) : Env := ⟨lk [], D, noG⟩
theorem d180 (D : HV → List HV → M HV) : fnD (e180 D) Tryz.prog [] a180 Tryz.f180 [] = f_disk_good D := by kernel_rfl
theorem ok180 {D : HV → List HV → M HV} (hD : DOk Tryz.prog noG D) : FnOk Tryz.prog noG 180 (f_disk_good D) := d180 D ▸ fn_ok (E := e180 D) ⟨lk_nil, hD⟩ mixed Tryz.func180 (by kernel_rfl) (by kernel_rfl) (hst_none (by kernel_rfl))
noncomputable def e137 (D : HV → List HV → M HV) : Env := ⟨lk [(180, f_disk_good D)], D, noG⟩
theorem d137 (D : HV → List HV → M HV) : fnD (e137 D) Tryz.prog [] a137 Tryz.f137 [] = f_disk_Disk_Read D := by kernel_rfl
theorem ok137 {D : HV → List HV → M HV} (hD : DOk Tryz.prog noG D) : FnOk Tryz.prog noG 137 (f_disk_Disk_Read D) := d137 D ▸ fn_ok (E := e137 D) ⟨(lk_cons (ok180 hD) lk_nil), hD⟩ mixed Tryz.func137 (by kernel_rfl) (by kernel_rfl) (hst_none (by kernel_rfl))
noncomputable def e185 (D : HV → List HV → M HV) : Env := ⟨lk [], D, noG⟩
theorem d185 (D : HV → List HV → M HV) : fnD (e185 D) Tryz.prog [] a185 Tryz.f185 [] = f_wafer_foots D := by kernel_rfl
theorem ok185 {D : HV → List HV → M HV} (hD : DOk Tryz.prog noG D) : FnOk Tryz.prog noG 185 (f_wafer_foots D) := d185 D ▸ fn_ok (E := e185 D) ⟨lk_nil, hD⟩ mixed Tryz.func185 (by kernel_rfl) (by kernel_rfl) (hst_none (by kernel_rfl))
noncomputable def e186 (D : HV → List HV → M HV) : Env := ⟨lk [], D, noG⟩
theorem d186 (D : HV → List HV → M HV) : fnD (e186 D) Tryz.prog [] a186 Tryz.f186 [] = f_wafer_Sum D := by kernel_rfl
theorem ok186 {D : HV → List HV → M HV} (hD : DOk Tryz.prog noG D) : FnOk Tryz.prog noG 186 (f_wafer_Sum D) := d186 D ▸ fn_ok (E := e186 D) ⟨lk_nil, hD⟩ mixed Tryz.func186 (by kernel_rfl) (by kernel_rfl) (hst_none (by kernel_rfl))
noncomputable def e204 (D : HV → List HV → M HV) : Env := ⟨lk [(185, f_wafer_foots D), (186, f_wafer_Sum D)], D, noG⟩
theorem d204 (D : HV → List HV → M HV) : fnD (e204 D) Tryz.prog [] a204 Tryz.f204 [] = f_wafer_Open D := by kernel_rfl
theorem ok204 {D : HV → List HV → M HV} (hD : DOk Tryz.prog noG D) : FnOk Tryz.prog noG 204 (f_wafer_Open D) := d204 D ▸ fn_ok (E := e204 D) ⟨(lk_cons (ok185 hD) (lk_cons (ok186 hD) lk_nil)), hD⟩ mixed Tryz.func204 (by kernel_rfl) (by kernel_rfl) (hst_none (by kernel_rfl))
noncomputable def e203 (D : HV → List HV → M HV) : Env := ⟨lk [(204, f_wafer_Open D)], D, noG⟩
theorem d203 (D : HV → List HV → M HV) : fnD (e203 D) Tryz.prog [] a203 Tryz.f203 [.sc .kp] = f_wafer_All_1 D := by kernel_rfl
theorem ok203 {D : HV → List HV → M HV} (hD : DOk Tryz.prog noG D) : FnOk Tryz.prog noG 203 (f_wafer_All_1 D) := d203 D ▸ fn_ok (E := e203 D) ⟨(lk_cons (ok204 hD) lk_nil), hD⟩ mixed Tryz.func203 (by kernel_rfl) (by kernel_rfl) (hst_none (by kernel_rfl))
noncomputable def e181 (D : HV → List HV → M HV) : Env := ⟨lk [], D, noG⟩
theorem d181 (D : HV → List HV → M HV) : fnD (e181 D) Tryz.prog [1] a181 Tryz.f181 [] = f_wafer_All D := by kernel_rfl
theorem ok181 {D : HV → List HV → M HV} (hD : DOk Tryz.prog noG D) : FnOk Tryz.prog noG 181 (f_wafer_All D) := d181 D ▸ fn_ok (E := e181 D) ⟨lk_nil, hD⟩ mixed Tryz.func181 (by kernel_rfl) (by kernel_rfl) (hst_none (by kernel_rfl))
noncomputable def e138 (D : HV → List HV → M HV) : Env := ⟨lk [(181, f_wafer_All D)], D, noG⟩
theorem st138 : ∀ e ∈ sitesF Tryz.f138 a138, e ∈ es := by
 rw [show sitesF Tryz.f138 a138 = [s138_0] by kernel_rfl]
 intro e he
 simp only [List.mem_cons, List.not_mem_nil, or_false] at he
 rcases he with rfl <;> simp [es]
theorem d138 (D : HV → List HV → M HV) : fnD (e138 D) Tryz.prog [3] a138 Tryz.f138 [] = f_wafer_Whole D := by kernel_rfl
theorem ok138 {D : HV → List HV → M HV} (hD : DOk Tryz.prog noG D) : FnOk Tryz.prog noG 138 (f_wafer_Whole D) := d138 D ▸ fn_ok (E := e138 D) ⟨(lk_cons (ok181 hD) lk_nil), hD⟩ mixed Tryz.func138 (by kernel_rfl) (by kernel_rfl) (hst_of (fun _ _ _ _ _ h => h) st138)
noncomputable def e138_0 (D : HV → List HV → M HV) : Env := ⟨lk [], D, noG⟩
theorem d138_0 (D : HV → List HV → M HV) (l : Nat) (vs : List (Nat × HV)) (args : List HV) : roundD (e138_0 D) Tryz.prog [] s138_0.2 [.t 3 (.sc .kp)] [.t 7 (.sc .ks)] .z .z [] l vs args = r0_wafer_Whole D l vs args := by kernel_rfl
theorem rd138_0 : RdOk Tryz.prog noG s138_0 r0_wafer_Whole := fun D hD => ⟨e138_0 D, [], [.t 3 (.sc .kp)], [.t 7 (.sc .ks)], .z, .z, [], ⟨lk_nil, hD⟩, rfl, by kernel_rfl, rst_none (by kernel_rfl), fun l vs args => (d138_0 D l vs args).symm⟩
noncomputable def e87 (D : HV → List HV → M HV) : Env := ⟨lk [(137, f_disk_Disk_Read D), (138, f_wafer_Whole D)], D, noG⟩
theorem d87 (D : HV → List HV → M HV) : fnD (e87 D) Tryz.prog [31] a87 Tryz.f87 [] = f_wal_Open D := by kernel_rfl
theorem ok87 {D : HV → List HV → M HV} (hD : DOk Tryz.prog noG D) : FnOk Tryz.prog noG 87 (f_wal_Open D) := d87 D ▸ fn_ok (E := e87 D) ⟨(lk_cons (ok137 hD) (lk_cons (ok138 hD) lk_nil)), hD⟩ mixed Tryz.func87 (by kernel_rfl) (by kernel_rfl) (hst_none (by kernel_rfl))
noncomputable def e182 (D : HV → List HV → M HV) : Env := ⟨lk [(137, f_disk_Disk_Read D), (181, f_wafer_All D)], D, noG⟩
theorem st182 : ∀ e ∈ sitesF Tryz.f182 a182, e ∈ es := by
 rw [show sitesF Tryz.f182 a182 = [s182_0] by kernel_rfl]
 intro e he
 simp only [List.mem_cons, List.not_mem_nil, or_false] at he
 rcases he with rfl <;> simp [es]
theorem d182 (D : HV → List HV → M HV) : fnD (e182 D) Tryz.prog [2] a182 Tryz.f182 [.sc .kp] = f_wal_Log_All_1 D := by kernel_rfl
theorem ok182 {D : HV → List HV → M HV} (hD : DOk Tryz.prog noG D) : FnOk Tryz.prog noG 182 (f_wal_Log_All_1 D) := d182 D ▸ fn_ok (E := e182 D) ⟨(lk_cons (ok137 hD) (lk_cons (ok181 hD) lk_nil)), hD⟩ mixed Tryz.func182 (by kernel_rfl) (by kernel_rfl) (hst_of (fun _ _ _ _ _ h => h) st182)
noncomputable def e182_0 (D : HV → List HV → M HV) : Env := ⟨lk [], D, noG⟩
theorem d182_0 (D : HV → List HV → M HV) (l : Nat) (vs : List (Nat × HV)) (args : List HV) : roundD (e182_0 D) Tryz.prog [] s182_0.2 [.t 2 (.sc .kp)] [.t 16 (.sc .ks)] .z .z [] l vs args = r0_wal_Log_All_1 D l vs args := by kernel_rfl
theorem rd182_0 : RdOk Tryz.prog noG s182_0 r0_wal_Log_All_1 := fun D hD => ⟨e182_0 D, [], [.t 2 (.sc .kp)], [.t 16 (.sc .ks)], .z, .z, [], ⟨lk_nil, hD⟩, rfl, by kernel_rfl, rst_none (by kernel_rfl), fun l vs args => (d182_0 D l vs args).symm⟩
noncomputable def e139 (D : HV → List HV → M HV) : Env := ⟨lk [], D, noG⟩
theorem d139 (D : HV → List HV → M HV) : fnD (e139 D) Tryz.prog [1] a139 Tryz.f139 [] = f_wal_Log_All D := by kernel_rfl
theorem ok139 {D : HV → List HV → M HV} (hD : DOk Tryz.prog noG D) : FnOk Tryz.prog noG 139 (f_wal_Log_All D) := d139 D ▸ fn_ok (E := e139 D) ⟨lk_nil, hD⟩ mixed Tryz.func139 (by kernel_rfl) (by kernel_rfl) (hst_none (by kernel_rfl))
noncomputable def e90 (D : HV → List HV → M HV) : Env := ⟨lk [], D, noG⟩
theorem d90 (D : HV → List HV → M HV) : fnD (e90 D) Tryz.prog [5] a90 Tryz.f90 [] = f_stylus_Of D := by kernel_rfl
theorem ok90 {D : HV → List HV → M HV} (hD : DOk Tryz.prog noG D) : FnOk Tryz.prog noG 90 (f_stylus_Of D) := d90 D ▸ fn_ok (E := e90 D) ⟨lk_nil, hD⟩ mixed Tryz.func90 (by kernel_rfl) (by kernel_rfl) (hst_none (by kernel_rfl))
noncomputable def e143 (D : HV → List HV → M HV) : Env := ⟨lk [], D, noG⟩
theorem d143 (D : HV → List HV → M HV) : fnD (e143 D) Tryz.prog [] a143 Tryz.f143 [] = f_stylus_Reader_Spoil D := by kernel_rfl
theorem ok143 {D : HV → List HV → M HV} (hD : DOk Tryz.prog noG D) : FnOk Tryz.prog noG 143 (f_stylus_Reader_Spoil D) := d143 D ▸ fn_ok (E := e143 D) ⟨lk_nil, hD⟩ mixed Tryz.func143 (by kernel_rfl) (by kernel_rfl) (hst_none (by kernel_rfl))
noncomputable def e94 (D : HV → List HV → M HV) : Env := ⟨lk [(143, f_stylus_Reader_Spoil D)], D, noG⟩
theorem d94 (D : HV → List HV → M HV) : fnD (e94 D) Tryz.prog [] a94 Tryz.f94 [] = f_stylus_Reader_Raw D := by kernel_rfl
theorem ok94 {D : HV → List HV → M HV} (hD : DOk Tryz.prog noG D) : FnOk Tryz.prog noG 94 (f_stylus_Reader_Raw D) := d94 D ▸ fn_ok (E := e94 D) ⟨(lk_cons (ok143 hD) lk_nil), hD⟩ mixed Tryz.func94 (by kernel_rfl) (by kernel_rfl) (hst_none (by kernel_rfl))
noncomputable def e142 (D : HV → List HV → M HV) : Env := ⟨lk [(94, f_stylus_Reader_Raw D), (143, f_stylus_Reader_Spoil D)], D, noG⟩
theorem d142 (D : HV → List HV → M HV) : fnD (e142 D) Tryz.prog [] a142 Tryz.f142 [] = f_stylus_Reader_word D := by kernel_rfl
theorem ok142 {D : HV → List HV → M HV} (hD : DOk Tryz.prog noG D) : FnOk Tryz.prog noG 142 (f_stylus_Reader_word D) := d142 D ▸ fn_ok (E := e142 D) ⟨(lk_cons (ok94 hD) (lk_cons (ok143 hD) lk_nil)), hD⟩ mixed Tryz.func142 (by kernel_rfl) (by kernel_rfl) (hst_none (by kernel_rfl))
noncomputable def e91 (D : HV → List HV → M HV) : Env := ⟨lk [(142, f_stylus_Reader_word D), (143, f_stylus_Reader_Spoil D)], D, noG⟩
theorem d91 (D : HV → List HV → M HV) : fnD (e91 D) Tryz.prog [] a91 Tryz.f91 [] = f_stylus_Reader_Nat D := by kernel_rfl
theorem ok91 {D : HV → List HV → M HV} (hD : DOk Tryz.prog noG D) : FnOk Tryz.prog noG 91 (f_stylus_Reader_Nat D) := d91 D ▸ fn_ok (E := e91 D) ⟨(lk_cons (ok142 hD) (lk_cons (ok143 hD) lk_nil)), hD⟩ mixed Tryz.func91 (by kernel_rfl) (by kernel_rfl) (hst_none (by kernel_rfl))
noncomputable def e92 (D : HV → List HV → M HV) : Env := ⟨lk [], D, noG⟩
theorem d92 (D : HV → List HV → M HV) : fnD (e92 D) Tryz.prog [] a92 Tryz.f92 [] = f_stylus_Reader_Bad D := by kernel_rfl
theorem ok92 {D : HV → List HV → M HV} (hD : DOk Tryz.prog noG D) : FnOk Tryz.prog noG 92 (f_stylus_Reader_Bad D) := d92 D ▸ fn_ok (E := e92 D) ⟨lk_nil, hD⟩ mixed Tryz.func92 (by kernel_rfl) (by kernel_rfl) (hst_none (by kernel_rfl))
noncomputable def e95 (D : HV → List HV → M HV) : Env := ⟨lk [], D, noG⟩
theorem d95 (D : HV → List HV → M HV) : fnD (e95 D) Tryz.prog [] a95 Tryz.f95 [] = f_stylus_Reader_Left D := by kernel_rfl
theorem ok95 {D : HV → List HV → M HV} (hD : DOk Tryz.prog noG D) : FnOk Tryz.prog noG 95 (f_stylus_Reader_Left D) := d95 D ▸ fn_ok (E := e95 D) ⟨lk_nil, hD⟩ mixed Tryz.func95 (by kernel_rfl) (by kernel_rfl) (hst_none (by kernel_rfl))
noncomputable def e140 (D : HV → List HV → M HV) : Env := ⟨lk [(90, f_stylus_Of D), (91, f_stylus_Reader_Nat D), (92, f_stylus_Reader_Bad D), (94, f_stylus_Reader_Raw D), (95, f_stylus_Reader_Left D)], D, noG⟩
theorem d140 (D : HV → List HV → M HV) : fnD (e140 D) Tryz.prog [] a140 Tryz.f140 [] = f_vault_first D := by kernel_rfl
theorem ok140 {D : HV → List HV → M HV} (hD : DOk Tryz.prog noG D) : FnOk Tryz.prog noG 140 (f_vault_first D) := d140 D ▸ fn_ok (E := e140 D) ⟨(lk_cons (ok90 hD) (lk_cons (ok91 hD) (lk_cons (ok92 hD) (lk_cons (ok94 hD) (lk_cons (ok95 hD) lk_nil))))), hD⟩ mixed Tryz.func140 (by kernel_rfl) (by kernel_rfl) (hst_none (by kernel_rfl))
noncomputable def e88 (D : HV → List HV → M HV) : Env := ⟨lk [(139, f_wal_Log_All D)], D, noG⟩
theorem st88 : ∀ e ∈ sitesF Tryz.f88 a88, e ∈ es := by
 rw [show sitesF Tryz.f88 a88 = [s88_0] by kernel_rfl]
 intro e he
 simp only [List.mem_cons, List.not_mem_nil, or_false] at he
 rcases he with rfl <;> simp [es]
theorem d88 (D : HV → List HV → M HV) : fnD (e88 D) Tryz.prog [2, 3, 4, 5, 6] a88 Tryz.f88 [] = f_vault_look D := by kernel_rfl
theorem ok88 {D : HV → List HV → M HV} (hD : DOk Tryz.prog noG D) : FnOk Tryz.prog noG 88 (f_vault_look D) := d88 D ▸ fn_ok (E := e88 D) ⟨(lk_cons (ok139 hD) lk_nil), hD⟩ mixed Tryz.func88 (by kernel_rfl) (by kernel_rfl) (hst_of (fun _ _ _ _ _ h => h) st88)
noncomputable def e88_0 (D : HV → List HV → M HV) : Env := ⟨lk [(140, f_vault_first D)], D, noG⟩
theorem d88_0 (D : HV → List HV → M HV) (l : Nat) (vs : List (Nat × HV)) (args : List HV) : roundD (e88_0 D) Tryz.prog [] s88_0.2 [.t 2 (.sc .kp), .t 3 (.sc .kp), .t 4 (.sc .kp), .t 5 (.sc .kp), .t 6 (.sc .kp)] [.t 13 (.sc .ks)] .z (.n (some []) (.n none .z (.n none (.n none (.n (some [.t 36 (.sc .kb)]) .z .z) .z) .z)) .z) [0] l vs args = r0_vault_look D l vs args := by kernel_rfl
theorem rd88_0 : RdOk Tryz.prog noG s88_0 r0_vault_look := fun D hD => ⟨e88_0 D, [], [.t 2 (.sc .kp), .t 3 (.sc .kp), .t 4 (.sc .kp), .t 5 (.sc .kp), .t 6 (.sc .kp)], [.t 13 (.sc .ks)], .z, (.n (some []) (.n none .z (.n none (.n none (.n (some [.t 36 (.sc .kb)]) .z .z) .z) .z)) .z), [0], ⟨(lk_cons (ok140 hD) lk_nil), hD⟩, rfl, by kernel_rfl, rst_none (by kernel_rfl), fun l vs args => (d88_0 D l vs args).symm⟩
noncomputable def e42 (D : HV → List HV → M HV) : Env := ⟨lk [(87, f_wal_Open D), (88, f_vault_look D)], D, noG⟩
theorem d42 (D : HV → List HV → M HV) : fnD (e42 D) Tryz.prog [17] a42 Tryz.f42 [] = f_vault_Open D := by kernel_rfl
theorem ok42 {D : HV → List HV → M HV} (hD : DOk Tryz.prog noG D) : FnOk Tryz.prog noG 42 (f_vault_Open D) := d42 D ▸ fn_ok (E := e42 D) ⟨(lk_cons (ok87 hD) (lk_cons (ok88 hD) lk_nil)), hD⟩ mixed Tryz.func42 (by kernel_rfl) (by kernel_rfl) (hst_none (by kernel_rfl))
noncomputable def e141 (D : HV → List HV → M HV) : Env := ⟨lk [], D, noG⟩
theorem d141 (D : HV → List HV → M HV) : fnD (e141 D) Tryz.prog [7] a141 Tryz.f141 [] = f_cell_New_file_File D := by kernel_rfl
theorem ok141 {D : HV → List HV → M HV} (hD : DOk Tryz.prog noG D) : FnOk Tryz.prog noG 141 (f_cell_New_file_File D) := d141 D ▸ fn_ok (E := e141 D) ⟨lk_nil, hD⟩ mixed Tryz.func141 (by kernel_rfl) (by kernel_rfl) (hst_none (by kernel_rfl))
noncomputable def e89 (D : HV → List HV → M HV) : Env := ⟨lk [(141, f_cell_New_file_File D)], D, noG⟩
theorem d89 (D : HV → List HV → M HV) : fnD (e89 D) Tryz.prog [4] a89 Tryz.f89 [] = f_tome_New D := by kernel_rfl
theorem ok89 {D : HV → List HV → M HV} (hD : DOk Tryz.prog noG D) : FnOk Tryz.prog noG 89 (f_tome_New D) := d89 D ▸ fn_ok (E := e89 D) ⟨(lk_cons (ok141 hD) lk_nil), hD⟩ mixed Tryz.func89 (by kernel_rfl) (by kernel_rfl) (hst_none (by kernel_rfl))
noncomputable def e144 (D : HV → List HV → M HV) : Env := ⟨lk [(91, f_stylus_Reader_Nat D), (94, f_stylus_Reader_Raw D)], D, noG⟩
theorem d144 (D : HV → List HV → M HV) : fnD (e144 D) Tryz.prog [] a144 Tryz.f144 [] = f_stylus_Reader_Text D := by kernel_rfl
theorem ok144 {D : HV → List HV → M HV} (hD : DOk Tryz.prog noG D) : FnOk Tryz.prog noG 144 (f_stylus_Reader_Text D) := d144 D ▸ fn_ok (E := e144 D) ⟨(lk_cons (ok91 hD) (lk_cons (ok94 hD) lk_nil)), hD⟩ mixed Tryz.func144 (by kernel_rfl) (by kernel_rfl) (hst_none (by kernel_rfl))
noncomputable def e183 (D : HV → List HV → M HV) : Env := ⟨lk [], D, noG⟩
theorem d183 (D : HV → List HV → M HV) : fnD (e183 D) Tryz.prog [] a183 Tryz.f183 [] = f_file_Good D := by kernel_rfl
theorem ok183 {D : HV → List HV → M HV} (hD : DOk Tryz.prog noG D) : FnOk Tryz.prog noG 183 (f_file_Good D) := d183 D ▸ fn_ok (E := e183 D) ⟨lk_nil, hD⟩ mixed Tryz.func183 (by kernel_rfl) (by kernel_rfl) (hst_none (by kernel_rfl))
noncomputable def e165 (D : HV → List HV → M HV) : Env := ⟨lk [], D, noG⟩
theorem d165 (D : HV → List HV → M HV) : fnD (e165 D) Tryz.prog [] a165 Tryz.f165 [] = f_cell_Row_file_File_is D := by kernel_rfl
theorem ok165 {D : HV → List HV → M HV} (hD : DOk Tryz.prog noG D) : FnOk Tryz.prog noG 165 (f_cell_Row_file_File_is D) := d165 D ▸ fn_ok (E := e165 D) ⟨lk_nil, hD⟩ mixed Tryz.func165 (by kernel_rfl) (by kernel_rfl) (hst_none (by kernel_rfl))
noncomputable def e184 (D : HV → List HV → M HV) : Env := ⟨lk [(165, f_cell_Row_file_File_is D)], D, noG⟩
theorem d184 (D : HV → List HV → M HV) : fnD (e184 D) Tryz.prog [] a184 Tryz.f184 [] = f_cell_Row_file_File_Set D := by kernel_rfl
theorem ok184 {D : HV → List HV → M HV} (hD : DOk Tryz.prog noG D) : FnOk Tryz.prog noG 184 (f_cell_Row_file_File_Set D) := d184 D ▸ fn_ok (E := e184 D) ⟨(lk_cons (ok165 hD) lk_nil), hD⟩ mixed Tryz.func184 (by kernel_rfl) (by kernel_rfl) (hst_none (by kernel_rfl))
noncomputable def e145 (D : HV → List HV → M HV) : Env := ⟨lk [(183, f_file_Good D), (184, f_cell_Row_file_File_Set D)], D, noG⟩
theorem d145 (D : HV → List HV → M HV) : fnD (e145 D) Tryz.prog [] a145 Tryz.f145 [] = f_tome_Tome_Set D := by kernel_rfl
theorem ok145 {D : HV → List HV → M HV} (hD : DOk Tryz.prog noG D) : FnOk Tryz.prog noG 145 (f_tome_Tome_Set D) := d145 D ▸ fn_ok (E := e145 D) ⟨(lk_cons (ok183 hD) (lk_cons (ok184 hD) lk_nil)), hD⟩ mixed Tryz.func145 (by kernel_rfl) (by kernel_rfl) (hst_none (by kernel_rfl))
noncomputable def e93 (D : HV → List HV → M HV) : Env := ⟨lk [(89, f_tome_New D), (90, f_stylus_Of D), (91, f_stylus_Reader_Nat D), (92, f_stylus_Reader_Bad D), (95, f_stylus_Reader_Left D), (144, f_stylus_Reader_Text D), (145, f_tome_Tome_Set D)], D, noG⟩
theorem d93 (D : HV → List HV → M HV) : fnD (e93 D) Tryz.prog [] a93 Tryz.f93 [] = f_tome_Read D := by kernel_rfl
theorem ok93 {D : HV → List HV → M HV} (hD : DOk Tryz.prog noG D) : FnOk Tryz.prog noG 93 (f_tome_Read D) := d93 D ▸ fn_ok (E := e93 D) ⟨(lk_cons (ok89 hD) (lk_cons (ok90 hD) (lk_cons (ok91 hD) (lk_cons (ok92 hD) (lk_cons (ok95 hD) (lk_cons (ok144 hD) (lk_cons (ok145 hD) lk_nil))))))), hD⟩ mixed Tryz.func93 (by kernel_rfl) (by kernel_rfl) (hst_none (by kernel_rfl))
noncomputable def e43 (D : HV → List HV → M HV) : Env := ⟨lk [(89, f_tome_New D), (90, f_stylus_Of D), (91, f_stylus_Reader_Nat D), (92, f_stylus_Reader_Bad D), (93, f_tome_Read D), (94, f_stylus_Reader_Raw D), (95, f_stylus_Reader_Left D)], D, noG⟩
theorem d43 (D : HV → List HV → M HV) : fnD (e43 D) Tryz.prog [] a43 Tryz.f43 [] = f_world_read D := by kernel_rfl
theorem ok43 {D : HV → List HV → M HV} (hD : DOk Tryz.prog noG D) : FnOk Tryz.prog noG 43 (f_world_read D) := d43 D ▸ fn_ok (E := e43 D) ⟨(lk_cons (ok89 hD) (lk_cons (ok90 hD) (lk_cons (ok91 hD) (lk_cons (ok92 hD) (lk_cons (ok93 hD) (lk_cons (ok94 hD) (lk_cons (ok95 hD) lk_nil))))))), hD⟩ mixed Tryz.func43 (by kernel_rfl) (by kernel_rfl) (hst_none (by kernel_rfl))
noncomputable def e96 (D : HV → List HV → M HV) : Env := ⟨lk [(90, f_stylus_Of D), (91, f_stylus_Reader_Nat D), (92, f_stylus_Reader_Bad D), (95, f_stylus_Reader_Left D), (144, f_stylus_Reader_Text D)], D, noG⟩
theorem d96 (D : HV → List HV → M HV) : fnD (e96 D) Tryz.prog [] a96 Tryz.f96 [] = f_redo_Read D := by kernel_rfl
theorem ok96 {D : HV → List HV → M HV} (hD : DOk Tryz.prog noG D) : FnOk Tryz.prog noG 96 (f_redo_Read D) := d96 D ▸ fn_ok (E := e96 D) ⟨(lk_cons (ok90 hD) (lk_cons (ok91 hD) (lk_cons (ok92 hD) (lk_cons (ok95 hD) (lk_cons (ok144 hD) lk_nil))))), hD⟩ mixed Tryz.func96 (by kernel_rfl) (by kernel_rfl) (hst_none (by kernel_rfl))
noncomputable def e97 (D : HV → List HV → M HV) : Env := ⟨lk [(145, f_tome_Tome_Set D)], D, noG⟩
theorem d97 (D : HV → List HV → M HV) : fnD (e97 D) Tryz.prog [] a97 Tryz.f97 [] = f_redo_Apply D := by kernel_rfl
theorem ok97 {D : HV → List HV → M HV} (hD : DOk Tryz.prog noG D) : FnOk Tryz.prog noG 97 (f_redo_Apply D) := d97 D ▸ fn_ok (E := e97 D) ⟨(lk_cons (ok145 hD) lk_nil), hD⟩ mixed Tryz.func97 (by kernel_rfl) (by kernel_rfl) (hst_none (by kernel_rfl))
noncomputable def e44 (D : HV → List HV → M HV) : Env := ⟨lk [(96, f_redo_Read D), (97, f_redo_Apply D)], D, noG⟩
theorem d44 (D : HV → List HV → M HV) : fnD (e44 D) Tryz.prog [] a44 Tryz.f44 [] = f_redo_Replay D := by kernel_rfl
theorem ok44 {D : HV → List HV → M HV} (hD : DOk Tryz.prog noG D) : FnOk Tryz.prog noG 44 (f_redo_Replay D) := d44 D ▸ fn_ok (E := e44 D) ⟨(lk_cons (ok96 hD) (lk_cons (ok97 hD) lk_nil)), hD⟩ mixed Tryz.func44 (by kernel_rfl) (by kernel_rfl) (hst_none (by kernel_rfl))
noncomputable def e98 (D : HV → List HV → M HV) : Env := ⟨lk [], D, noG⟩
theorem d98 (D : HV → List HV → M HV) : fnD (e98 D) Tryz.prog [] a98 Tryz.f98 [] = f_stylus_Stylus_Nat D := by kernel_rfl
theorem ok98 {D : HV → List HV → M HV} (hD : DOk Tryz.prog noG D) : FnOk Tryz.prog noG 98 (f_stylus_Stylus_Nat D) := d98 D ▸ fn_ok (E := e98 D) ⟨lk_nil, hD⟩ mixed Tryz.func98 (by kernel_rfl) (by kernel_rfl) (hst_none (by kernel_rfl))
noncomputable def e99 (D : HV → List HV → M HV) : Env := ⟨lk [], D, noG⟩
theorem d99 (D : HV → List HV → M HV) : fnD (e99 D) Tryz.prog [] a99 Tryz.f99 [] = f_stylus_Stylus_Raw D := by kernel_rfl
theorem ok99 {D : HV → List HV → M HV} (hD : DOk Tryz.prog noG D) : FnOk Tryz.prog noG 99 (f_stylus_Stylus_Raw D) := d99 D ▸ fn_ok (E := e99 D) ⟨lk_nil, hD⟩ mixed Tryz.func99 (by kernel_rfl) (by kernel_rfl) (hst_none (by kernel_rfl))
noncomputable def e100 (D : HV → List HV → M HV) : Env := ⟨lk [], D, noG⟩
theorem d100 (D : HV → List HV → M HV) : fnD (e100 D) Tryz.prog [] a100 Tryz.f100 [] = f_stylus_Stylus_Bytes D := by kernel_rfl
theorem ok100 {D : HV → List HV → M HV} (hD : DOk Tryz.prog noG D) : FnOk Tryz.prog noG 100 (f_stylus_Stylus_Bytes D) := d100 D ▸ fn_ok (E := e100 D) ⟨lk_nil, hD⟩ mixed Tryz.func100 (by kernel_rfl) (by kernel_rfl) (hst_none (by kernel_rfl))
noncomputable def e101 (D : HV → List HV → M HV) : Env := ⟨lk [], D, noG⟩
theorem d101 (D : HV → List HV → M HV) : fnD (e101 D) Tryz.prog [] a101 Tryz.f101 [] = f_wal_Log_Area D := by kernel_rfl
theorem ok101 {D : HV → List HV → M HV} (hD : DOk Tryz.prog noG D) : FnOk Tryz.prog noG 101 (f_wal_Log_Area D) := d101 D ▸ fn_ok (E := e101 D) ⟨lk_nil, hD⟩ mixed Tryz.func101 (by kernel_rfl) (by kernel_rfl) (hst_none (by kernel_rfl))
noncomputable def e146 (D : HV → List HV → M HV) : Env := ⟨lk [(180, f_disk_good D)], D, noG⟩
theorem d146 (D : HV → List HV → M HV) : fnD (e146 D) Tryz.prog [] a146 Tryz.f146 [] = f_disk_Disk_Reset D := by kernel_rfl
theorem ok146 {D : HV → List HV → M HV} (hD : DOk Tryz.prog noG D) : FnOk Tryz.prog noG 146 (f_disk_Disk_Reset D) := d146 D ▸ fn_ok (E := e146 D) ⟨(lk_cons (ok180 hD) lk_nil), hD⟩ mixed Tryz.func146 (by kernel_rfl) (by kernel_rfl) (hst_none (by kernel_rfl))
noncomputable def e102 (D : HV → List HV → M HV) : Env := ⟨lk [(146, f_disk_Disk_Reset D)], D, noG⟩
theorem d102 (D : HV → List HV → M HV) : fnD (e102 D) Tryz.prog [] a102 Tryz.f102 [] = f_wal_Log_Clear D := by kernel_rfl
theorem ok102 {D : HV → List HV → M HV} (hD : DOk Tryz.prog noG D) : FnOk Tryz.prog noG 102 (f_wal_Log_Clear D) := d102 D ▸ fn_ok (E := e102 D) ⟨(lk_cons (ok146 hD) lk_nil), hD⟩ mixed Tryz.func102 (by kernel_rfl) (by kernel_rfl) (hst_none (by kernel_rfl))
noncomputable def e75 (D : HV → List HV → M HV) : Env := ⟨lk [], D, noG⟩
theorem d75 (D : HV → List HV → M HV) : fnD (e75 D) Tryz.prog [] a75 Tryz.f75 [] = f_disk_Disk_land D := by kernel_rfl
theorem ok75 {D : HV → List HV → M HV} (hD : DOk Tryz.prog noG D) : FnOk Tryz.prog noG 75 (f_disk_Disk_land D) := d75 D ▸ fn_ok (E := e75 D) ⟨lk_nil, hD⟩ mixed Tryz.func75 (by kernel_rfl) (by kernel_rfl) (hst_none (by kernel_rfl))
noncomputable def e147 (D : HV → List HV → M HV) : Env := ⟨lk [(75, f_disk_Disk_land D)], D, noG⟩
theorem d147 (D : HV → List HV → M HV) : fnD (e147 D) Tryz.prog [] a147 Tryz.f147 [] = f_disk_Disk_Sync D := by kernel_rfl
theorem ok147 {D : HV → List HV → M HV} (hD : DOk Tryz.prog noG D) : FnOk Tryz.prog noG 147 (f_disk_Disk_Sync D) := d147 D ▸ fn_ok (E := e147 D) ⟨(lk_cons (ok75 hD) lk_nil), hD⟩ mixed Tryz.func147 (by kernel_rfl) (by kernel_rfl) (hst_none (by kernel_rfl))
noncomputable def e103 (D : HV → List HV → M HV) : Env := ⟨lk [(147, f_disk_Disk_Sync D)], D, noG⟩
theorem d103 (D : HV → List HV → M HV) : fnD (e103 D) Tryz.prog [] a103 Tryz.f103 [] = f_wal_Log_Force D := by kernel_rfl
theorem ok103 {D : HV → List HV → M HV} (hD : DOk Tryz.prog noG D) : FnOk Tryz.prog noG 103 (f_wal_Log_Force D) := d103 D ▸ fn_ok (E := e103 D) ⟨(lk_cons (ok147 hD) lk_nil), hD⟩ mixed Tryz.func103 (by kernel_rfl) (by kernel_rfl) (hst_none (by kernel_rfl))
noncomputable def e148 (D : HV → List HV → M HV) : Env := ⟨lk [(185, f_wafer_foots D), (186, f_wafer_Sum D)], D, noG⟩
theorem d148 (D : HV → List HV → M HV) : fnD (e148 D) Tryz.prog [] a148 Tryz.f148 [] = f_wafer_Close D := by kernel_rfl
theorem ok148 {D : HV → List HV → M HV} (hD : DOk Tryz.prog noG D) : FnOk Tryz.prog noG 148 (f_wafer_Close D) := d148 D ▸ fn_ok (E := e148 D) ⟨(lk_cons (ok185 hD) (lk_cons (ok186 hD) lk_nil)), hD⟩ mixed Tryz.func148 (by kernel_rfl) (by kernel_rfl) (hst_none (by kernel_rfl))
noncomputable def e149 (D : HV → List HV → M HV) : Env := ⟨lk [(180, f_disk_good D)], D, noG⟩
theorem d149 (D : HV → List HV → M HV) : fnD (e149 D) Tryz.prog [] a149 Tryz.f149 [] = f_disk_Disk_Append D := by kernel_rfl
theorem ok149 {D : HV → List HV → M HV} (hD : DOk Tryz.prog noG D) : FnOk Tryz.prog noG 149 (f_disk_Disk_Append D) := d149 D ▸ fn_ok (E := e149 D) ⟨(lk_cons (ok180 hD) lk_nil), hD⟩ mixed Tryz.func149 (by kernel_rfl) (by kernel_rfl) (hst_none (by kernel_rfl))
noncomputable def e104 (D : HV → List HV → M HV) : Env := ⟨lk [(148, f_wafer_Close D), (149, f_disk_Disk_Append D)], D, noG⟩
theorem d104 (D : HV → List HV → M HV) : fnD (e104 D) Tryz.prog [] a104 Tryz.f104 [] = f_wal_Log_Append D := by kernel_rfl
theorem ok104 {D : HV → List HV → M HV} (hD : DOk Tryz.prog noG D) : FnOk Tryz.prog noG 104 (f_wal_Log_Append D) := d104 D ▸ fn_ok (E := e104 D) ⟨(lk_cons (ok148 hD) (lk_cons (ok149 hD) lk_nil)), hD⟩ mixed Tryz.func104 (by kernel_rfl) (by kernel_rfl) (hst_none (by kernel_rfl))
noncomputable def e45 (D : HV → List HV → M HV) : Env := ⟨lk [(87, f_wal_Open D), (98, f_stylus_Stylus_Nat D), (99, f_stylus_Stylus_Raw D), (100, f_stylus_Stylus_Bytes D), (101, f_wal_Log_Area D), (102, f_wal_Log_Clear D), (103, f_wal_Log_Force D), (104, f_wal_Log_Append D)], D, noG⟩
theorem d45 (D : HV → List HV → M HV) : fnD (e45 D) Tryz.prog [19, 26] a45 Tryz.f45 [] = f_vault_Vault_Settle D := by kernel_rfl
theorem ok45 {D : HV → List HV → M HV} (hD : DOk Tryz.prog noG D) : FnOk Tryz.prog noG 45 (f_vault_Vault_Settle D) := d45 D ▸ fn_ok (E := e45 D) ⟨(lk_cons (ok87 hD) (lk_cons (ok98 hD) (lk_cons (ok99 hD) (lk_cons (ok100 hD) (lk_cons (ok101 hD) (lk_cons (ok102 hD) (lk_cons (ok103 hD) (lk_cons (ok104 hD) lk_nil)))))))), hD⟩ mixed Tryz.func45 (by kernel_rfl) (by kernel_rfl) (hst_none (by kernel_rfl))
noncomputable def e205 (D : HV → List HV → M HV) : Env := ⟨lk [], D, noG⟩
theorem d205 (D : HV → List HV → M HV) : fnD (e205 D) Tryz.prog [] a205 Tryz.f205 [.sc .kp] = f_cell_Row_file_File_All_1 D := by kernel_rfl
theorem ok205 {D : HV → List HV → M HV} (hD : DOk Tryz.prog noG D) : FnOk Tryz.prog noG 205 (f_cell_Row_file_File_All_1 D) := d205 D ▸ fn_ok (E := e205 D) ⟨lk_nil, hD⟩ mixed Tryz.func205 (by kernel_rfl) (by kernel_rfl) (hst_none (by kernel_rfl))
noncomputable def e188 (D : HV → List HV → M HV) : Env := ⟨lk [], D, noG⟩
theorem d188 (D : HV → List HV → M HV) : fnD (e188 D) Tryz.prog [1] a188 Tryz.f188 [] = f_cell_Row_file_File_All D := by kernel_rfl
theorem ok188 {D : HV → List HV → M HV} (hD : DOk Tryz.prog noG D) : FnOk Tryz.prog noG 188 (f_cell_Row_file_File_All D) := d188 D ▸ fn_ok (E := e188 D) ⟨lk_nil, hD⟩ mixed Tryz.func188 (by kernel_rfl) (by kernel_rfl) (hst_none (by kernel_rfl))
noncomputable def e187 (D : HV → List HV → M HV) : Env := ⟨lk [(188, f_cell_Row_file_File_All D)], D, noG⟩
theorem st187 : ∀ e ∈ sitesF Tryz.f187 a187, e ∈ es := by
 rw [show sitesF Tryz.f187 a187 = [s187_0] by kernel_rfl]
 intro e he
 simp only [List.mem_cons, List.not_mem_nil, or_false] at he
 rcases he with rfl <;> simp [es]
theorem d187 (D : HV → List HV → M HV) : fnD (e187 D) Tryz.prog [2] a187 Tryz.f187 [.sc .kp] = f_tome_Tome_All_1 D := by kernel_rfl
theorem ok187 {D : HV → List HV → M HV} (hD : DOk Tryz.prog noG D) : FnOk Tryz.prog noG 187 (f_tome_Tome_All_1 D) := d187 D ▸ fn_ok (E := e187 D) ⟨(lk_cons (ok188 hD) lk_nil), hD⟩ mixed Tryz.func187 (by kernel_rfl) (by kernel_rfl) (hst_of (fun _ _ _ _ _ h => h) st187)
noncomputable def e187_0 (D : HV → List HV → M HV) : Env := ⟨lk [], D, noG⟩
theorem d187_0 (D : HV → List HV → M HV) (l : Nat) (vs : List (Nat × HV)) (args : List HV) : roundD (e187_0 D) Tryz.prog [] s187_0.2 [.t 2 (.sc .kp)] [.t 12 (.sc (.ki .i64)), .t 13 (.c [.kb, .ks])] .z (.n none (.n none (.n (some [.t 22 (.sc .kb)]) .z .z) .z) .z) [] l vs args = r0_tome_Tome_All_1 D l vs args := by kernel_rfl
theorem rd187_0 : RdOk Tryz.prog noG s187_0 r0_tome_Tome_All_1 := fun D hD => ⟨e187_0 D, [], [.t 2 (.sc .kp)], [.t 12 (.sc (.ki .i64)), .t 13 (.c [.kb, .ks])], .z, (.n none (.n none (.n (some [.t 22 (.sc .kb)]) .z .z) .z) .z), [], ⟨lk_nil, hD⟩, rfl, by kernel_rfl, rst_none (by kernel_rfl), fun l vs args => (d187_0 D l vs args).symm⟩
noncomputable def e150 (D : HV → List HV → M HV) : Env := ⟨lk [], D, noG⟩
theorem d150 (D : HV → List HV → M HV) : fnD (e150 D) Tryz.prog [1] a150 Tryz.f150 [] = f_tome_Tome_All D := by kernel_rfl
theorem ok150 {D : HV → List HV → M HV} (hD : DOk Tryz.prog noG D) : FnOk Tryz.prog noG 150 (f_tome_Tome_All D) := d150 D ▸ fn_ok (E := e150 D) ⟨lk_nil, hD⟩ mixed Tryz.func150 (by kernel_rfl) (by kernel_rfl) (hst_none (by kernel_rfl))
noncomputable def e151 (D : HV → List HV → M HV) : Env := ⟨lk [(98, f_stylus_Stylus_Nat D), (99, f_stylus_Stylus_Raw D)], D, noG⟩
theorem d151 (D : HV → List HV → M HV) : fnD (e151 D) Tryz.prog [15] a151 Tryz.f151 [] = f_stylus_Stylus_Text D := by kernel_rfl
theorem ok151 {D : HV → List HV → M HV} (hD : DOk Tryz.prog noG D) : FnOk Tryz.prog noG 151 (f_stylus_Stylus_Text D) := d151 D ▸ fn_ok (E := e151 D) ⟨(lk_cons (ok98 hD) (lk_cons (ok99 hD) lk_nil)), hD⟩ mixed Tryz.func151 (by kernel_rfl) (by kernel_rfl) (hst_none (by kernel_rfl))
noncomputable def e105 (D : HV → List HV → M HV) : Env := ⟨lk [(100, f_stylus_Stylus_Bytes D), (150, f_tome_Tome_All D)], D, noG⟩
theorem st105 : ∀ e ∈ sitesF Tryz.f105 a105, e ∈ es := by
 rw [show sitesF Tryz.f105 a105 = [s105_0] by kernel_rfl]
 intro e he
 simp only [List.mem_cons, List.not_mem_nil, or_false] at he
 rcases he with rfl <;> simp [es]
theorem d105 (D : HV → List HV → M HV) : fnD (e105 D) Tryz.prog [3, 7] a105 Tryz.f105 [] = f_tome_Tome_Bytes D := by kernel_rfl
theorem ok105 {D : HV → List HV → M HV} (hD : DOk Tryz.prog noG D) : FnOk Tryz.prog noG 105 (f_tome_Tome_Bytes D) := d105 D ▸ fn_ok (E := e105 D) ⟨(lk_cons (ok100 hD) (lk_cons (ok150 hD) lk_nil)), hD⟩ mixed Tryz.func105 (by kernel_rfl) (by kernel_rfl) (hst_of (fun _ _ _ _ _ h => h) st105)
noncomputable def e105_0 (D : HV → List HV → M HV) : Env := ⟨lk [(98, f_stylus_Stylus_Nat D), (151, f_stylus_Stylus_Text D)], D, noG⟩
theorem d105_0 (D : HV → List HV → M HV) (l : Nat) (vs : List (Nat × HV)) (args : List HV) : roundD (e105_0 D) Tryz.prog [14, 19] s105_0.2 [.t 3 (.sc .kp)] [.t 10 (.sc (.ki .i64)), .t 11 (.c [.kb, .ks])] .z .z [] l vs args = r0_tome_Tome_Bytes D l vs args := by kernel_rfl
theorem rd105_0 : RdOk Tryz.prog noG s105_0 r0_tome_Tome_Bytes := fun D hD => ⟨e105_0 D, [14, 19], [.t 3 (.sc .kp)], [.t 10 (.sc (.ki .i64)), .t 11 (.c [.kb, .ks])], .z, .z, [], ⟨(lk_cons (ok98 hD) (lk_cons (ok151 hD) lk_nil)), hD⟩, rfl, by kernel_rfl, rst_none (by kernel_rfl), fun l vs args => (d105_0 D l vs args).symm⟩
noncomputable def e46 (D : HV → List HV → M HV) : Env := ⟨lk [(98, f_stylus_Stylus_Nat D), (99, f_stylus_Stylus_Raw D), (100, f_stylus_Stylus_Bytes D), (105, f_tome_Tome_Bytes D)], D, noG⟩
theorem d46 (D : HV → List HV → M HV) : fnD (e46 D) Tryz.prog [7, 10] a46 Tryz.f46 [] = f_world_image D := by kernel_rfl
theorem ok46 {D : HV → List HV → M HV} (hD : DOk Tryz.prog noG D) : FnOk Tryz.prog noG 46 (f_world_image D) := d46 D ▸ fn_ok (E := e46 D) ⟨(lk_cons (ok98 hD) (lk_cons (ok99 hD) (lk_cons (ok100 hD) (lk_cons (ok105 hD) lk_nil)))), hD⟩ mixed Tryz.func46 (by kernel_rfl) (by kernel_rfl) (hst_none (by kernel_rfl))
noncomputable def e106 (D : HV → List HV → M HV) : Env := ⟨lk [], D, noG⟩
theorem d106 (D : HV → List HV → M HV) : fnD (e106 D) Tryz.prog [7] a106 Tryz.f106 [] = f_cell_New_int D := by kernel_rfl
theorem ok106 {D : HV → List HV → M HV} (hD : DOk Tryz.prog noG D) : FnOk Tryz.prog noG 106 (f_cell_New_int D) := d106 D ▸ fn_ok (E := e106 D) ⟨lk_nil, hD⟩ mixed Tryz.func106 (by kernel_rfl) (by kernel_rfl) (hst_none (by kernel_rfl))
noncomputable def e107 (D : HV → List HV → M HV) : Env := ⟨lk [(106, f_cell_New_int D)], D, noG⟩
theorem d107 (D : HV → List HV → M HV) : fnD (e107 D) Tryz.prog [3] a107 Tryz.f107 [] = f_feed_New D := by kernel_rfl
theorem ok107 {D : HV → List HV → M HV} (hD : DOk Tryz.prog noG D) : FnOk Tryz.prog noG 107 (f_feed_New D) := d107 D ▸ fn_ok (E := e107 D) ⟨(lk_cons (ok106 hD) lk_nil), hD⟩ mixed Tryz.func107 (by kernel_rfl) (by kernel_rfl) (hst_none (by kernel_rfl))
noncomputable def e47 (D : HV → List HV → M HV) : Env := ⟨lk [(89, f_tome_New D), (106, f_cell_New_int D), (107, f_feed_New D)], D, noG⟩
theorem d47 (D : HV → List HV → M HV) : fnD (e47 D) Tryz.prog [5] a47 Tryz.f47 [] = f_attempt_NewView D := by kernel_rfl
theorem ok47 {D : HV → List HV → M HV} (hD : DOk Tryz.prog noG D) : FnOk Tryz.prog noG 47 (f_attempt_NewView D) := d47 D ▸ fn_ok (E := e47 D) ⟨(lk_cons (ok89 hD) (lk_cons (ok106 hD) (lk_cons (ok107 hD) lk_nil))), hD⟩ mixed Tryz.func47 (by kernel_rfl) (by kernel_rfl) (hst_none (by kernel_rfl))
noncomputable def e48 (D : HV → List HV → M HV) : Env := ⟨lk [], D, noG⟩
theorem d48 (D : HV → List HV → M HV) : fnD (e48 D) Tryz.prog [2] a48 Tryz.f48 [] = f_wire_New D := by kernel_rfl
theorem ok48 {D : HV → List HV → M HV} (hD : DOk Tryz.prog noG D) : FnOk Tryz.prog noG 48 (f_wire_New D) := d48 D ▸ fn_ok (E := e48 D) ⟨lk_nil, hD⟩ mixed Tryz.func48 (by kernel_rfl) (by kernel_rfl) (hst_none (by kernel_rfl))
noncomputable def e49 (D : HV → List HV → M HV) : Env := ⟨lk [], D, noG⟩
theorem d49 (D : HV → List HV → M HV) : fnD (e49 D) Tryz.prog [2] a49 Tryz.f49 [] = f_token_New D := by kernel_rfl
theorem ok49 {D : HV → List HV → M HV} (hD : DOk Tryz.prog noG D) : FnOk Tryz.prog noG 49 (f_token_New D) := d49 D ▸ fn_ok (E := e49 D) ⟨lk_nil, hD⟩ mixed Tryz.func49 (by kernel_rfl) (by kernel_rfl) (hst_none (by kernel_rfl))
noncomputable def e11 (D : HV → List HV → M HV) : Env := ⟨lk [(42, f_vault_Open D), (43, f_world_read D), (44, f_redo_Replay D), (45, f_vault_Vault_Settle D), (46, f_world_image D), (47, f_attempt_NewView D), (48, f_wire_New D), (49, f_token_New D)], D, noG⟩
theorem d11 (D : HV → List HV → M HV) : fnD (e11 D) Tryz.prog [62] a11 Tryz.f11 [] = f_world_Open D := by kernel_rfl
theorem ok11 {D : HV → List HV → M HV} (hD : DOk Tryz.prog noG D) : FnOk Tryz.prog noG 11 (f_world_Open D) := d11 D ▸ fn_ok (E := e11 D) ⟨(lk_cons (ok42 hD) (lk_cons (ok43 hD) (lk_cons (ok44 hD) (lk_cons (ok45 hD) (lk_cons (ok46 hD) (lk_cons (ok47 hD) (lk_cons (ok48 hD) (lk_cons (ok49 hD) lk_nil)))))))), hD⟩ mixed Tryz.func11 (by kernel_rfl) (by kernel_rfl) (hst_none (by kernel_rfl))
noncomputable def e12 (D : HV → List HV → M HV) : Env := ⟨lk [], D, noG⟩
theorem d12 (D : HV → List HV → M HV) : fnD (e12 D) Tryz.prog [2] a12 Tryz.f12 [] = f_disk_New D := by kernel_rfl
theorem ok12 {D : HV → List HV → M HV} (hD : DOk Tryz.prog noG D) : FnOk Tryz.prog noG 12 (f_disk_New D) := d12 D ▸ fn_ok (E := e12 D) ⟨lk_nil, hD⟩ mixed Tryz.func12 (by kernel_rfl) (by kernel_rfl) (hst_none (by kernel_rfl))
noncomputable def e14 (D : HV → List HV → M HV) : Env := ⟨lk [], D, noG⟩
theorem d14 (D : HV → List HV → M HV) : fnD (e14 D) Tryz.prog [14] a14 Tryz.f14 [] = f_commit_New D := by kernel_rfl
theorem ok14 {D : HV → List HV → M HV} (hD : DOk Tryz.prog noG D) : FnOk Tryz.prog noG 14 (f_commit_New D) := d14 D ▸ fn_ok (E := e14 D) ⟨lk_nil, hD⟩ mixed Tryz.func14 (by kernel_rfl) (by kernel_rfl) (hst_none (by kernel_rfl))
noncomputable def e16 (D : HV → List HV → M HV) : Env := ⟨lk [], D, noG⟩
theorem d16 (D : HV → List HV → M HV) : fnD (e16 D) Tryz.prog [] a16 Tryz.f16 [] = f_commit_Commit_Phase D := by kernel_rfl
theorem ok16 {D : HV → List HV → M HV} (hD : DOk Tryz.prog noG D) : FnOk Tryz.prog noG 16 (f_commit_Commit_Phase D) := d16 D ▸ fn_ok (E := e16 D) ⟨lk_nil, hD⟩ mixed Tryz.func16 (by kernel_rfl) (by kernel_rfl) (hst_none (by kernel_rfl))
noncomputable def e72 (D : HV → List HV → M HV) : Env := ⟨lk [], D, noG⟩
theorem d72 (D : HV → List HV → M HV) : fnD (e72 D) Tryz.prog [] a72 Tryz.f72 [] = f_draft_Draft_int_Len D := by kernel_rfl
theorem ok72 {D : HV → List HV → M HV} (hD : DOk Tryz.prog noG D) : FnOk Tryz.prog noG 72 (f_draft_Draft_int_Len D) := d72 D ▸ fn_ok (E := e72 D) ⟨lk_nil, hD⟩ mixed Tryz.func72 (by kernel_rfl) (by kernel_rfl) (hst_none (by kernel_rfl))
noncomputable def e73 (D : HV → List HV → M HV) : Env := ⟨lk [], D, noG⟩
theorem d73 (D : HV → List HV → M HV) : fnD (e73 D) Tryz.prog [] a73 Tryz.f73 [] = f_sheet_Sheet_Draft D := by kernel_rfl
theorem ok73 {D : HV → List HV → M HV} (hD : DOk Tryz.prog noG D) : FnOk Tryz.prog noG 73 (f_sheet_Sheet_Draft D) := d73 D ▸ fn_ok (E := e73 D) ⟨lk_nil, hD⟩ mixed Tryz.func73 (by kernel_rfl) (by kernel_rfl) (hst_none (by kernel_rfl))
noncomputable def e74 (D : HV → List HV → M HV) : Env := ⟨lk [], D, noG⟩
theorem d74 (D : HV → List HV → M HV) : fnD (e74 D) Tryz.prog [] a74 Tryz.f74 [] = f_draft_Draft_file_File_Len D := by kernel_rfl
theorem ok74 {D : HV → List HV → M HV} (hD : DOk Tryz.prog noG D) : FnOk Tryz.prog noG 74 (f_draft_Draft_file_File_Len D) := d74 D ▸ fn_ok (E := e74 D) ⟨lk_nil, hD⟩ mixed Tryz.func74 (by kernel_rfl) (by kernel_rfl) (hst_none (by kernel_rfl))
noncomputable def e23 (D : HV → List HV → M HV) : Env := ⟨lk [(72, f_draft_Draft_int_Len D), (73, f_sheet_Sheet_Draft D), (74, f_draft_Draft_file_File_Len D)], D, noG⟩
theorem d23 (D : HV → List HV → M HV) : fnD (e23 D) Tryz.prog [] a23 Tryz.f23 [] = f_attempt_Attempt_Writes D := by kernel_rfl
theorem ok23 {D : HV → List HV → M HV} (hD : DOk Tryz.prog noG D) : FnOk Tryz.prog noG 23 (f_attempt_Attempt_Writes D) := d23 D ▸ fn_ok (E := e23 D) ⟨(lk_cons (ok72 hD) (lk_cons (ok73 hD) (lk_cons (ok74 hD) lk_nil))), hD⟩ mixed Tryz.func23 (by kernel_rfl) (by kernel_rfl) (hst_none (by kernel_rfl))
noncomputable def e25 (D : HV → List HV → M HV) : Env := ⟨lk [], D, noG⟩
theorem d25 (D : HV → List HV → M HV) : fnD (e25 D) Tryz.prog [] a25 Tryz.f25 [] = f_world_World_Token D := by kernel_rfl
theorem ok25 {D : HV → List HV → M HV} (hD : DOk Tryz.prog noG D) : FnOk Tryz.prog noG 25 (f_world_World_Token D) := d25 D ▸ fn_ok (E := e25 D) ⟨lk_nil, hD⟩ mixed Tryz.func25 (by kernel_rfl) (by kernel_rfl) (hst_none (by kernel_rfl))
noncomputable def e31 (D : HV → List HV → M HV) : Env := ⟨lk [], D, noG⟩
theorem d31 (D : HV → List HV → M HV) : fnD (e31 D) Tryz.prog [] a31 Tryz.f31 [] = f_token_Token_Free D := by kernel_rfl
theorem ok31 {D : HV → List HV → M HV} (hD : DOk Tryz.prog noG D) : FnOk Tryz.prog noG 31 (f_token_Token_Free D) := d31 D ▸ fn_ok (E := e31 D) ⟨lk_nil, hD⟩ mixed Tryz.func31 (by kernel_rfl) (by kernel_rfl) (hst_none (by kernel_rfl))
noncomputable def e131 (D : HV → List HV → M HV) : Env := ⟨lk [], D, noG⟩
theorem d131 (D : HV → List HV → M HV) : fnD (e131 D) Tryz.prog [] a131 Tryz.f131 [] = f_reads_Now_Of D := by kernel_rfl
theorem ok131 {D : HV → List HV → M HV} (hD : DOk Tryz.prog noG D) : FnOk Tryz.prog noG 131 (f_reads_Now_Of D) := d131 D ▸ fn_ok (E := e131 D) ⟨lk_nil, hD⟩ mixed Tryz.func131 (by kernel_rfl) (by kernel_rfl) (hst_none (by kernel_rfl))
noncomputable def e76 (D : HV → List HV → M HV) : Env := ⟨lk [(131, f_reads_Now_Of D)], D, noG⟩
theorem d76 (D : HV → List HV → M HV) : fnD (e76 D) Tryz.prog [] a76 Tryz.f76 [] = f_reads_Set_Valid D := by kernel_rfl
theorem ok76 {D : HV → List HV → M HV} (hD : DOk Tryz.prog noG D) : FnOk Tryz.prog noG 76 (f_reads_Set_Valid D) := d76 D ▸ fn_ok (E := e76 D) ⟨(lk_cons (ok131 hD) lk_nil), hD⟩ mixed Tryz.func76 (by kernel_rfl) (by kernel_rfl) (hst_none (by kernel_rfl))
noncomputable def e118 (D : HV → List HV → M HV) : Env := ⟨lk [(165, f_cell_Row_file_File_is D)], D, noG⟩
theorem d118 (D : HV → List HV → M HV) : fnD (e118 D) Tryz.prog [] a118 Tryz.f118 [] = f_cell_Row_file_File_Get D := by kernel_rfl
theorem ok118 {D : HV → List HV → M HV} (hD : DOk Tryz.prog noG D) : FnOk Tryz.prog noG 118 (f_cell_Row_file_File_Get D) := d118 D ▸ fn_ok (E := e118 D) ⟨(lk_cons (ok165 hD) lk_nil), hD⟩ mixed Tryz.func118 (by kernel_rfl) (by kernel_rfl) (hst_none (by kernel_rfl))
noncomputable def e59 (D : HV → List HV → M HV) : Env := ⟨lk [(118, f_cell_Row_file_File_Get D)], D, noG⟩
theorem d59 (D : HV → List HV → M HV) : fnD (e59 D) Tryz.prog [] a59 Tryz.f59 [] = f_tome_Tome_Get D := by kernel_rfl
theorem ok59 {D : HV → List HV → M HV} (hD : DOk Tryz.prog noG D) : FnOk Tryz.prog noG 59 (f_tome_Tome_Get D) := d59 D ▸ fn_ok (E := e59 D) ⟨(lk_cons (ok118 hD) lk_nil), hD⟩ mixed Tryz.func59 (by kernel_rfl) (by kernel_rfl) (hst_none (by kernel_rfl))
noncomputable def e117 (D : HV → List HV → M HV) : Env := ⟨lk [], D, noG⟩
theorem d117 (D : HV → List HV → M HV) : fnD (e117 D) Tryz.prog [] a117 Tryz.f117 [] = f_cell_Row_int_is D := by kernel_rfl
theorem ok117 {D : HV → List HV → M HV} (hD : DOk Tryz.prog noG D) : FnOk Tryz.prog noG 117 (f_cell_Row_int_is D) := d117 D ▸ fn_ok (E := e117 D) ⟨lk_nil, hD⟩ mixed Tryz.func117 (by kernel_rfl) (by kernel_rfl) (hst_none (by kernel_rfl))
noncomputable def e58 (D : HV → List HV → M HV) : Env := ⟨lk [(117, f_cell_Row_int_is D)], D, noG⟩
theorem d58 (D : HV → List HV → M HV) : fnD (e58 D) Tryz.prog [] a58 Tryz.f58 [] = f_cell_Row_int_Get D := by kernel_rfl
theorem ok58 {D : HV → List HV → M HV} (hD : DOk Tryz.prog noG D) : FnOk Tryz.prog noG 58 (f_cell_Row_int_Get D) := d58 D ▸ fn_ok (E := e58 D) ⟨(lk_cons (ok117 hD) lk_nil), hD⟩ mixed Tryz.func58 (by kernel_rfl) (by kernel_rfl) (hst_none (by kernel_rfl))
noncomputable def e60 (D : HV → List HV → M HV) : Env := ⟨lk [(58, f_cell_Row_int_Get D)], D, noG⟩
theorem d60 (D : HV → List HV → M HV) : fnD (e60 D) Tryz.prog [] a60 Tryz.f60 [] = f_feed_Feed_Place D := by kernel_rfl
theorem ok60 {D : HV → List HV → M HV} (hD : DOk Tryz.prog noG D) : FnOk Tryz.prog noG 60 (f_feed_Feed_Place D) := d60 D ▸ fn_ok (E := e60 D) ⟨(lk_cons (ok58 hD) lk_nil), hD⟩ mixed Tryz.func60 (by kernel_rfl) (by kernel_rfl) (hst_none (by kernel_rfl))
noncomputable def e132 (D : HV → List HV → M HV) : Env := ⟨lk [(58, f_cell_Row_int_Get D)], D, noG⟩
theorem d132 (D : HV → List HV → M HV) : fnD (e132 D) Tryz.prog [] a132 Tryz.f132 [] = f_cell_Row_int_Version D := by kernel_rfl
theorem ok132 {D : HV → List HV → M HV} (hD : DOk Tryz.prog noG D) : FnOk Tryz.prog noG 132 (f_cell_Row_int_Version D) := d132 D ▸ fn_ok (E := e132 D) ⟨(lk_cons (ok58 hD) lk_nil), hD⟩ mixed Tryz.func132 (by kernel_rfl) (by kernel_rfl) (hst_none (by kernel_rfl))
noncomputable def e77 (D : HV → List HV → M HV) : Env := ⟨lk [(59, f_tome_Tome_Get D), (60, f_feed_Feed_Place D), (132, f_cell_Row_int_Version D)], D, noG⟩
theorem d77 (D : HV → List HV → M HV) : fnD (e77 D) Tryz.prog [] a77 Tryz.f77 [] = f_attempt_View_Now D := by kernel_rfl
theorem ok77 {D : HV → List HV → M HV} (hD : DOk Tryz.prog noG D) : FnOk Tryz.prog noG 77 (f_attempt_View_Now D) := d77 D ▸ fn_ok (E := e77 D) ⟨(lk_cons (ok59 hD) (lk_cons (ok60 hD) (lk_cons (ok132 hD) lk_nil))), hD⟩ mixed Tryz.func77 (by kernel_rfl) (by kernel_rfl) (hst_none (by kernel_rfl))
noncomputable def e32 (D : HV → List HV → M HV) : Env := ⟨lk [(76, f_reads_Set_Valid D), (77, f_attempt_View_Now D)], D, noG⟩
theorem d32 (D : HV → List HV → M HV) : fnD (e32 D) Tryz.prog [] a32 Tryz.f32 [] = f_attempt_Attempt_Valid D := by kernel_rfl
theorem ok32 {D : HV → List HV → M HV} (hD : DOk Tryz.prog noG D) : FnOk Tryz.prog noG 32 (f_attempt_Attempt_Valid D) := d32 D ▸ fn_ok (E := e32 D) ⟨(lk_cons (ok76 hD) (lk_cons (ok77 hD) lk_nil)), hD⟩ mixed Tryz.func32 (by kernel_rfl) (by kernel_rfl) (hst_none (by kernel_rfl))
noncomputable def e119 (D : HV → List HV → M HV) : Env := ⟨lk [(31, f_token_Token_Free D)], D, noG⟩
theorem d119 (D : HV → List HV → M HV) : fnD (e119 D) Tryz.prog [] a119 Tryz.f119 [] = f_token_Token_Lock D := by kernel_rfl
theorem ok119 {D : HV → List HV → M HV} (hD : DOk Tryz.prog noG D) : FnOk Tryz.prog noG 119 (f_token_Token_Lock D) := d119 D ▸ fn_ok (E := e119 D) ⟨(lk_cons (ok31 hD) lk_nil), hD⟩ mixed Tryz.func119 (by kernel_rfl) (by kernel_rfl) (hst_none (by kernel_rfl))
noncomputable def e61 (D : HV → List HV → M HV) : Env := ⟨lk [(23, f_attempt_Attempt_Writes D), (25, f_world_World_Token D), (31, f_token_Token_Free D), (32, f_attempt_Attempt_Valid D), (119, f_token_Token_Lock D)], D, noG⟩
theorem d61 (D : HV → List HV → M HV) : fnD (e61 D) Tryz.prog [] a61 Tryz.f61 [] = f_commit_Commit_check D := by kernel_rfl
theorem ok61 {D : HV → List HV → M HV} (hD : DOk Tryz.prog noG D) : FnOk Tryz.prog noG 61 (f_commit_Commit_check D) := d61 D ▸ fn_ok (E := e61 D) ⟨(lk_cons (ok23 hD) (lk_cons (ok25 hD) (lk_cons (ok31 hD) (lk_cons (ok32 hD) (lk_cons (ok119 hD) lk_nil))))), hD⟩ mixed Tryz.func61 (by kernel_rfl) (by kernel_rfl) (hst_none (by kernel_rfl))
noncomputable def e28 (D : HV → List HV → M HV) : Env := ⟨lk [], D, noG⟩
theorem d28 (D : HV → List HV → M HV) : fnD (e28 D) Tryz.prog [] a28 Tryz.f28 [] = f_token_Token_Sure D := by kernel_rfl
theorem ok28 {D : HV → List HV → M HV} (hD : DOk Tryz.prog noG D) : FnOk Tryz.prog noG 28 (f_token_Token_Sure D) := d28 D ▸ fn_ok (E := e28 D) ⟨lk_nil, hD⟩ mixed Tryz.func28 (by kernel_rfl) (by kernel_rfl) (hst_none (by kernel_rfl))
noncomputable def e80 (D : HV → List HV → M HV) : Env := ⟨lk [], D, noG⟩
theorem d80 (D : HV → List HV → M HV) : fnD (e80 D) Tryz.prog [] a80 Tryz.f80 [] = f_token_Token_Unlock D := by kernel_rfl
theorem ok80 {D : HV → List HV → M HV} (hD : DOk Tryz.prog noG D) : FnOk Tryz.prog noG 80 (f_token_Token_Unlock D) := d80 D ▸ fn_ok (E := e80 D) ⟨lk_nil, hD⟩ mixed Tryz.func80 (by kernel_rfl) (by kernel_rfl) (hst_none (by kernel_rfl))
noncomputable def e198 (D : HV → List HV → M HV) : Env := ⟨lk [], D, noG⟩
theorem d198 (D : HV → List HV → M HV) : fnD (e198 D) Tryz.prog [] a198 Tryz.f198 [] = f_wal_Log_Size D := by kernel_rfl
theorem ok198 {D : HV → List HV → M HV} (hD : DOk Tryz.prog noG D) : FnOk Tryz.prog noG 198 (f_wal_Log_Size D) := d198 D ▸ fn_ok (E := e198 D) ⟨lk_nil, hD⟩ mixed Tryz.func198 (by kernel_rfl) (by kernel_rfl) (hst_none (by kernel_rfl))
noncomputable def e166 (D : HV → List HV → M HV) : Env := ⟨lk [(198, f_wal_Log_Size D)], D, noG⟩
theorem d166 (D : HV → List HV → M HV) : fnD (e166 D) Tryz.prog [] a166 Tryz.f166 [] = f_vault_Vault_Size D := by kernel_rfl
theorem ok166 {D : HV → List HV → M HV} (hD : DOk Tryz.prog noG D) : FnOk Tryz.prog noG 166 (f_vault_Vault_Size D) := d166 D ▸ fn_ok (E := e166 D) ⟨(lk_cons (ok198 hD) lk_nil), hD⟩ mixed Tryz.func166 (by kernel_rfl) (by kernel_rfl) (hst_none (by kernel_rfl))
noncomputable def e167 (D : HV → List HV → M HV) : Env := ⟨lk [(104, f_wal_Log_Append D)], D, noG⟩
theorem d167 (D : HV → List HV → M HV) : fnD (e167 D) Tryz.prog [] a167 Tryz.f167 [] = f_vault_Vault_Append D := by kernel_rfl
theorem ok167 {D : HV → List HV → M HV} (hD : DOk Tryz.prog noG D) : FnOk Tryz.prog noG 167 (f_vault_Vault_Append D) := d167 D ▸ fn_ok (E := e167 D) ⟨(lk_cons (ok104 hD) lk_nil), hD⟩ mixed Tryz.func167 (by kernel_rfl) (by kernel_rfl) (hst_none (by kernel_rfl))
noncomputable def e210 (D : HV → List HV → M HV) : Env := ⟨lk [], D, noG⟩
theorem d210 (D : HV → List HV → M HV) : fnD (e210 D) Tryz.prog [] a210 Tryz.f210 [.sc .kp] = f_draft_Draft_file_File_All_1 D := by kernel_rfl
theorem ok210 {D : HV → List HV → M HV} (hD : DOk Tryz.prog noG D) : FnOk Tryz.prog noG 210 (f_draft_Draft_file_File_All_1 D) := d210 D ▸ fn_ok (E := e210 D) ⟨lk_nil, hD⟩ mixed Tryz.func210 (by kernel_rfl) (by kernel_rfl) (hst_none (by kernel_rfl))
noncomputable def e199 (D : HV → List HV → M HV) : Env := ⟨lk [], D, noG⟩
theorem d199 (D : HV → List HV → M HV) : fnD (e199 D) Tryz.prog [1] a199 Tryz.f199 [] = f_draft_Draft_file_File_All D := by kernel_rfl
theorem ok199 {D : HV → List HV → M HV} (hD : DOk Tryz.prog noG D) : FnOk Tryz.prog noG 199 (f_draft_Draft_file_File_All D) := d199 D ▸ fn_ok (E := e199 D) ⟨lk_nil, hD⟩ mixed Tryz.func199 (by kernel_rfl) (by kernel_rfl) (hst_none (by kernel_rfl))
noncomputable def e168 (D : HV → List HV → M HV) : Env := ⟨lk [(98, f_stylus_Stylus_Nat D), (100, f_stylus_Stylus_Bytes D), (199, f_draft_Draft_file_File_All D)], D, noG⟩
theorem st168 : ∀ e ∈ sitesF Tryz.f168 a168, e ∈ es := by
 rw [show sitesF Tryz.f168 a168 = [s168_0] by kernel_rfl]
 intro e he
 simp only [List.mem_cons, List.not_mem_nil, or_false] at he
 rcases he with rfl <;> simp [es]
theorem d168 (D : HV → List HV → M HV) : fnD (e168 D) Tryz.prog [5, 9, 12] a168 Tryz.f168 [] = f_redo_Bytes D := by kernel_rfl
theorem ok168 {D : HV → List HV → M HV} (hD : DOk Tryz.prog noG D) : FnOk Tryz.prog noG 168 (f_redo_Bytes D) := d168 D ▸ fn_ok (E := e168 D) ⟨(lk_cons (ok98 hD) (lk_cons (ok100 hD) (lk_cons (ok199 hD) lk_nil))), hD⟩ mixed Tryz.func168 (by kernel_rfl) (by kernel_rfl) (hst_of (fun _ _ _ _ _ h => h) st168)
noncomputable def e168_0 (D : HV → List HV → M HV) : Env := ⟨lk [(98, f_stylus_Stylus_Nat D), (151, f_stylus_Stylus_Text D)], D, noG⟩
theorem d168_0 (D : HV → List HV → M HV) (l : Nat) (vs : List (Nat × HV)) (args : List HV) : roundD (e168_0 D) Tryz.prog [22, 27, 31] s168_0.2 [.t 5 (.sc .kp)] [.t 16 (.sc (.ki .i64)), .t 17 (.c [.kb, .ks])] .z .z [] l vs args = r0_redo_Bytes D l vs args := by kernel_rfl
theorem rd168_0 : RdOk Tryz.prog noG s168_0 r0_redo_Bytes := fun D hD => ⟨e168_0 D, [22, 27, 31], [.t 5 (.sc .kp)], [.t 16 (.sc (.ki .i64)), .t 17 (.c [.kb, .ks])], .z, .z, [], ⟨(lk_cons (ok98 hD) (lk_cons (ok151 hD) lk_nil)), hD⟩, rfl, by kernel_rfl, rst_none (by kernel_rfl), fun l vs args => (d168_0 D l vs args).symm⟩
noncomputable def e120 (D : HV → List HV → M HV) : Env := ⟨lk [(45, f_vault_Vault_Settle D), (46, f_world_image D), (166, f_vault_Vault_Size D), (167, f_vault_Vault_Append D), (168, f_redo_Bytes D)], D, noG⟩
theorem d120 (D : HV → List HV → M HV) : fnD (e120 D) Tryz.prog [] a120 Tryz.f120 [] = f_world_World_Write D := by kernel_rfl
theorem ok120 {D : HV → List HV → M HV} (hD : DOk Tryz.prog noG D) : FnOk Tryz.prog noG 120 (f_world_World_Write D) := d120 D ▸ fn_ok (E := e120 D) ⟨(lk_cons (ok45 hD) (lk_cons (ok46 hD) (lk_cons (ok166 hD) (lk_cons (ok167 hD) (lk_cons (ok168 hD) lk_nil))))), hD⟩ mixed Tryz.func120 (by kernel_rfl) (by kernel_rfl) (hst_none (by kernel_rfl))
noncomputable def e121 (D : HV → List HV → M HV) : Env := ⟨lk [], D, noG⟩
theorem d121 (D : HV → List HV → M HV) : fnD (e121 D) Tryz.prog [] a121 Tryz.f121 [] = f_attempt_Attempt_State D := by kernel_rfl
theorem ok121 {D : HV → List HV → M HV} (hD : DOk Tryz.prog noG D) : FnOk Tryz.prog noG 121 (f_attempt_Attempt_State D) := d121 D ▸ fn_ok (E := e121 D) ⟨lk_nil, hD⟩ mixed Tryz.func121 (by kernel_rfl) (by kernel_rfl) (hst_none (by kernel_rfl))
noncomputable def e62 (D : HV → List HV → M HV) : Env := ⟨lk [(25, f_world_World_Token D), (28, f_token_Token_Sure D), (73, f_sheet_Sheet_Draft D), (80, f_token_Token_Unlock D), (120, f_world_World_Write D), (121, f_attempt_Attempt_State D)], D, noG⟩
theorem d62 (D : HV → List HV → M HV) : fnD (e62 D) Tryz.prog [] a62 Tryz.f62 [] = f_commit_Commit_write D := by kernel_rfl
theorem ok62 {D : HV → List HV → M HV} (hD : DOk Tryz.prog noG D) : FnOk Tryz.prog noG 62 (f_commit_Commit_write D) := d62 D ▸ fn_ok (E := e62 D) ⟨(lk_cons (ok25 hD) (lk_cons (ok28 hD) (lk_cons (ok73 hD) (lk_cons (ok80 hD) (lk_cons (ok120 hD) (lk_cons (ok121 hD) lk_nil)))))), hD⟩ mixed Tryz.func62 (by kernel_rfl) (by kernel_rfl) (hst_none (by kernel_rfl))
noncomputable def e122 (D : HV → List HV → M HV) : Env := ⟨lk [(103, f_wal_Log_Force D)], D, noG⟩
theorem d122 (D : HV → List HV → M HV) : fnD (e122 D) Tryz.prog [] a122 Tryz.f122 [] = f_vault_Vault_Force D := by kernel_rfl
theorem ok122 {D : HV → List HV → M HV} (hD : DOk Tryz.prog noG D) : FnOk Tryz.prog noG 122 (f_vault_Vault_Force D) := d122 D ▸ fn_ok (E := e122 D) ⟨(lk_cons (ok103 hD) lk_nil), hD⟩ mixed Tryz.func122 (by kernel_rfl) (by kernel_rfl) (hst_none (by kernel_rfl))
noncomputable def e63 (D : HV → List HV → M HV) : Env := ⟨lk [(122, f_vault_Vault_Force D)], D, noG⟩
theorem d63 (D : HV → List HV → M HV) : fnD (e63 D) Tryz.prog [] a63 Tryz.f63 [] = f_world_World_Force D := by kernel_rfl
theorem ok63 {D : HV → List HV → M HV} (hD : DOk Tryz.prog noG D) : FnOk Tryz.prog noG 63 (f_world_World_Force D) := d63 D ▸ fn_ok (E := e63 D) ⟨(lk_cons (ok122 hD) lk_nil), hD⟩ mixed Tryz.func63 (by kernel_rfl) (by kernel_rfl) (hst_none (by kernel_rfl))
noncomputable def e51 (D : HV → List HV → M HV) : Env := ⟨lk [], D, noG⟩
theorem d51 (D : HV → List HV → M HV) : fnD (e51 D) Tryz.prog [] a51 Tryz.f51 [] = f_attempt_Attempt_Acts D := by kernel_rfl
theorem ok51 {D : HV → List HV → M HV} (hD : DOk Tryz.prog noG D) : FnOk Tryz.prog noG 51 (f_attempt_Attempt_Acts D) := d51 D ▸ fn_ok (E := e51 D) ⟨lk_nil, hD⟩ mixed Tryz.func51 (by kernel_rfl) (by kernel_rfl) (hst_none (by kernel_rfl))
noncomputable def e81 (D : HV → List HV → M HV) : Env := ⟨lk [], D, noG⟩
theorem d81 (D : HV → List HV → M HV) : fnD (e81 D) Tryz.prog [] a81 Tryz.f81 [] = f_token_Token_Drop D := by kernel_rfl
theorem ok81 {D : HV → List HV → M HV} (hD : DOk Tryz.prog noG D) : FnOk Tryz.prog noG 81 (f_token_Token_Drop D) := d81 D ▸ fn_ok (E := e81 D) ⟨lk_nil, hD⟩ mixed Tryz.func81 (by kernel_rfl) (by kernel_rfl) (hst_none (by kernel_rfl))
noncomputable def e200 (D : HV → List HV → M HV) : Env := ⟨lk [], D, noG⟩
theorem d200 (D : HV → List HV → M HV) : fnD (e200 D) Tryz.prog [] a200 Tryz.f200 [.sc .kp] = f_draft_Draft_int_All_1 D := by kernel_rfl
theorem ok200 {D : HV → List HV → M HV} (hD : DOk Tryz.prog noG D) : FnOk Tryz.prog noG 200 (f_draft_Draft_int_All_1 D) := d200 D ▸ fn_ok (E := e200 D) ⟨lk_nil, hD⟩ mixed Tryz.func200 (by kernel_rfl) (by kernel_rfl) (hst_none (by kernel_rfl))
noncomputable def e169 (D : HV → List HV → M HV) : Env := ⟨lk [], D, noG⟩
theorem d169 (D : HV → List HV → M HV) : fnD (e169 D) Tryz.prog [1] a169 Tryz.f169 [] = f_draft_Draft_int_All D := by kernel_rfl
theorem ok169 {D : HV → List HV → M HV} (hD : DOk Tryz.prog noG D) : FnOk Tryz.prog noG 169 (f_draft_Draft_int_All D) := d169 D ▸ fn_ok (E := e169 D) ⟨lk_nil, hD⟩ mixed Tryz.func169 (by kernel_rfl) (by kernel_rfl) (hst_none (by kernel_rfl))
noncomputable def e170 (D : HV → List HV → M HV) : Env := ⟨lk [(117, f_cell_Row_int_is D)], D, noG⟩
theorem d170 (D : HV → List HV → M HV) : fnD (e170 D) Tryz.prog [] a170 Tryz.f170 [] = f_cell_Row_int_Set D := by kernel_rfl
theorem ok170 {D : HV → List HV → M HV} (hD : DOk Tryz.prog noG D) : FnOk Tryz.prog noG 170 (f_cell_Row_int_Set D) := d170 D ▸ fn_ok (E := e170 D) ⟨(lk_cons (ok117 hD) lk_nil), hD⟩ mixed Tryz.func170 (by kernel_rfl) (by kernel_rfl) (hst_none (by kernel_rfl))
noncomputable def e171 (D : HV → List HV → M HV) : Env := ⟨lk [(73, f_sheet_Sheet_Draft D), (199, f_draft_Draft_file_File_All D)], D, noG⟩
theorem st171 : ∀ e ∈ sitesF Tryz.f171 a171, e ∈ es := by
 rw [show sitesF Tryz.f171 a171 = [s171_0] by kernel_rfl]
 intro e he
 simp only [List.mem_cons, List.not_mem_nil, or_false] at he
 rcases he with rfl <;> simp [es]
theorem d171 (D : HV → List HV → M HV) : fnD (e171 D) Tryz.prog [4, 5, 7] a171 Tryz.f171 [] = f_sheet_Sheet_Over D := by kernel_rfl
theorem ok171 {D : HV → List HV → M HV} (hD : DOk Tryz.prog noG D) : FnOk Tryz.prog noG 171 (f_sheet_Sheet_Over D) := d171 D ▸ fn_ok (E := e171 D) ⟨(lk_cons (ok73 hD) (lk_cons (ok199 hD) lk_nil)), hD⟩ mixed Tryz.func171 (by kernel_rfl) (by kernel_rfl) (hst_of (fun _ _ _ _ _ h => h) st171)
noncomputable def e171_0 (D : HV → List HV → M HV) : Env := ⟨lk [(145, f_tome_Tome_Set D)], D, noG⟩
theorem d171_0 (D : HV → List HV → M HV) (l : Nat) (vs : List (Nat × HV)) (args : List HV) : roundD (e171_0 D) Tryz.prog [] s171_0.2 [.t 4 (.sc .kp), .t 5 (.sc .kp), .t 7 (.sc .kp)] [.t 13 (.sc (.ki .i64)), .t 14 (.c [.kb, .ks])] .z .z [] l vs args = r0_sheet_Sheet_Over D l vs args := by kernel_rfl
theorem rd171_0 : RdOk Tryz.prog noG s171_0 r0_sheet_Sheet_Over := fun D hD => ⟨e171_0 D, [], [.t 4 (.sc .kp), .t 5 (.sc .kp), .t 7 (.sc .kp)], [.t 13 (.sc (.ki .i64)), .t 14 (.c [.kb, .ks])], .z, .z, [], ⟨(lk_cons (ok145 hD) lk_nil), hD⟩, rfl, by kernel_rfl, rst_none (by kernel_rfl), fun l vs args => (d171_0 D l vs args).symm⟩
noncomputable def e196 (D : HV → List HV → M HV) : Env := ⟨lk [], D, noG⟩
theorem d196 (D : HV → List HV → M HV) : fnD (e196 D) Tryz.prog [] a196 Tryz.f196 [] = f_cursor_is D := by kernel_rfl
theorem ok196 {D : HV → List HV → M HV} (hD : DOk Tryz.prog noG D) : FnOk Tryz.prog noG 196 (f_cursor_is D) := d196 D ▸ fn_ok (E := e196 D) ⟨lk_nil, hD⟩ mixed Tryz.func196 (by kernel_rfl) (by kernel_rfl) (hst_none (by kernel_rfl))
noncomputable def e172 (D : HV → List HV → M HV) : Env := ⟨lk [(196, f_cursor_is D)], D, noG⟩
theorem d172 (D : HV → List HV → M HV) : fnD (e172 D) Tryz.prog [] a172 Tryz.f172 [] = f_cursor_Cursor_Read D := by kernel_rfl
theorem ok172 {D : HV → List HV → M HV} (hD : DOk Tryz.prog noG D) : FnOk Tryz.prog noG 172 (f_cursor_Cursor_Read D) := d172 D ▸ fn_ok (E := e172 D) ⟨(lk_cons (ok196 hD) lk_nil), hD⟩ mixed Tryz.func172 (by kernel_rfl) (by kernel_rfl) (hst_none (by kernel_rfl))
noncomputable def e195 (D : HV → List HV → M HV) : Env := ⟨lk [], D, noG⟩
theorem d195 (D : HV → List HV → M HV) : fnD (e195 D) Tryz.prog [] a195 Tryz.f195 [] = f_feed_Feed_is D := by kernel_rfl
theorem ok195 {D : HV → List HV → M HV} (hD : DOk Tryz.prog noG D) : FnOk Tryz.prog noG 195 (f_feed_Feed_is D) := d195 D ▸ fn_ok (E := e195 D) ⟨lk_nil, hD⟩ mixed Tryz.func195 (by kernel_rfl) (by kernel_rfl) (hst_none (by kernel_rfl))
noncomputable def e173 (D : HV → List HV → M HV) : Env := ⟨lk [(60, f_feed_Feed_Place D), (170, f_cell_Row_int_Set D), (195, f_feed_Feed_is D)], D, noG⟩
theorem d173 (D : HV → List HV → M HV) : fnD (e173 D) Tryz.prog [] a173 Tryz.f173 [] = f_feed_Feed_Take D := by kernel_rfl
theorem ok173 {D : HV → List HV → M HV} (hD : DOk Tryz.prog noG D) : FnOk Tryz.prog noG 173 (f_feed_Feed_Take D) := d173 D ▸ fn_ok (E := e173 D) ⟨(lk_cons (ok60 hD) (lk_cons (ok170 hD) (lk_cons (ok195 hD) lk_nil))), hD⟩ mixed Tryz.func173 (by kernel_rfl) (by kernel_rfl) (hst_none (by kernel_rfl))
noncomputable def e123 (D : HV → List HV → M HV) : Env := ⟨lk [(32, f_attempt_Attempt_Valid D), (60, f_feed_Feed_Place D), (169, f_draft_Draft_int_All D), (171, f_sheet_Sheet_Over D), (172, f_cursor_Cursor_Read D), (173, f_feed_Feed_Take D)], D, noG⟩
theorem st123 : ∀ e ∈ sitesF Tryz.f123 a123, e ∈ es := by
 rw [show sitesF Tryz.f123 a123 = [s123_0] by kernel_rfl]
 intro e he
 simp only [List.mem_cons, List.not_mem_nil, or_false] at he
 rcases he with rfl <;> simp [es]
theorem d123 (D : HV → List HV → M HV) : fnD (e123 D) Tryz.prog [3] a123 Tryz.f123 [] = f_attempt_Attempt_Land D := by kernel_rfl
theorem ok123 {D : HV → List HV → M HV} (hD : DOk Tryz.prog noG D) : FnOk Tryz.prog noG 123 (f_attempt_Attempt_Land D) := d123 D ▸ fn_ok (E := e123 D) ⟨(lk_cons (ok32 hD) (lk_cons (ok60 hD) (lk_cons (ok169 hD) (lk_cons (ok171 hD) (lk_cons (ok172 hD) (lk_cons (ok173 hD) lk_nil)))))), hD⟩ mixed Tryz.func123 (by kernel_rfl) (by kernel_rfl) (hst_of (fun _ _ _ _ _ h => h) st123)
noncomputable def e123_0 (D : HV → List HV → M HV) : Env := ⟨lk [(170, f_cell_Row_int_Set D)], D, noG⟩
theorem d123_0 (D : HV → List HV → M HV) (l : Nat) (vs : List (Nat × HV)) (args : List HV) : roundD (e123_0 D) Tryz.prog [] s123_0.2 [.t 3 (.sc .kp)] [.t 30 (.sc (.ki .i64)), .t 31 (.sc (.ki .i64))] .z .z [] l vs args = r0_attempt_Attempt_Land D l vs args := by kernel_rfl
theorem rd123_0 : RdOk Tryz.prog noG s123_0 r0_attempt_Attempt_Land := fun D hD => ⟨e123_0 D, [], [.t 3 (.sc .kp)], [.t 30 (.sc (.ki .i64)), .t 31 (.sc (.ki .i64))], .z, .z, [], ⟨(lk_cons (ok170 hD) lk_nil), hD⟩, rfl, by kernel_rfl, rst_none (by kernel_rfl), fun l vs args => (d123_0 D l vs args).symm⟩
noncomputable def e71 (D : HV → List HV → M HV) : Env := ⟨lk [], D, noG⟩
theorem d71 (D : HV → List HV → M HV) : fnD (e71 D) Tryz.prog [] a71 Tryz.f71 [] = f_wire_Wire_at D := by kernel_rfl
theorem ok71 {D : HV → List HV → M HV} (hD : DOk Tryz.prog noG D) : FnOk Tryz.prog noG 71 (f_wire_Wire_at D) := d71 D ▸ fn_ok (E := e71 D) ⟨lk_nil, hD⟩ mixed Tryz.func71 (by kernel_rfl) (by kernel_rfl) (hst_none (by kernel_rfl))
noncomputable def e174 (D : HV → List HV → M HV) : Env := ⟨lk [(71, f_wire_Wire_at D)], D, noG⟩
theorem d174 (D : HV → List HV → M HV) : fnD (e174 D) Tryz.prog [] a174 Tryz.f174 [] = f_wire_Wire_Push D := by kernel_rfl
theorem ok174 {D : HV → List HV → M HV} (hD : DOk Tryz.prog noG D) : FnOk Tryz.prog noG 174 (f_wire_Wire_Push D) := d174 D ▸ fn_ok (E := e174 D) ⟨(lk_cons (ok71 hD) lk_nil), hD⟩ mixed Tryz.func174 (by kernel_rfl) (by kernel_rfl) (hst_none (by kernel_rfl))
noncomputable def e124 (D : HV → List HV → M HV) : Env := ⟨lk [(174, f_wire_Wire_Push D)], D, noG⟩
theorem d124 (D : HV → List HV → M HV) : fnD (e124 D) Tryz.prog [] a124 Tryz.f124 [] = f_world_World_Send D := by kernel_rfl
theorem ok124 {D : HV → List HV → M HV} (hD : DOk Tryz.prog noG D) : FnOk Tryz.prog noG 124 (f_world_World_Send D) := d124 D ▸ fn_ok (E := e124 D) ⟨(lk_cons (ok174 hD) lk_nil), hD⟩ mixed Tryz.func124 (by kernel_rfl) (by kernel_rfl) (hst_none (by kernel_rfl))
noncomputable def e201 (D : HV → List HV → M HV) : Env := ⟨lk [], D, noG⟩
theorem d201 (D : HV → List HV → M HV) : fnD (e201 D) Tryz.prog [] a201 Tryz.f201 [] = f_slices_Grow_acts_Out_acts_Out D := by kernel_rfl
theorem ok201 {D : HV → List HV → M HV} (hD : DOk Tryz.prog noG D) : FnOk Tryz.prog noG 201 (f_slices_Grow_acts_Out_acts_Out D) := d201 D ▸ fn_ok (E := e201 D) ⟨lk_nil, hD⟩ mixed Tryz.func201 (by kernel_rfl) (by kernel_rfl) (hst_none (by kernel_rfl))
noncomputable def e175 (D : HV → List HV → M HV) : Env := ⟨lk [(201, f_slices_Grow_acts_Out_acts_Out D)], D, noG⟩
theorem d175 (D : HV → List HV → M HV) : fnD (e175 D) Tryz.prog [] a175 Tryz.f175 [] = f_slices_Concat_acts_Out_acts_Out D := by kernel_rfl
theorem ok175 {D : HV → List HV → M HV} (hD : DOk Tryz.prog noG D) : FnOk Tryz.prog noG 175 (f_slices_Concat_acts_Out_acts_Out D) := d175 D ▸ fn_ok (E := e175 D) ⟨(lk_cons (ok201 hD) lk_nil), hD⟩ mixed Tryz.func175 (by kernel_rfl) (by kernel_rfl) (hst_none (by kernel_rfl))
noncomputable def e125 (D : HV → List HV → M HV) : Env := ⟨lk [(175, f_slices_Concat_acts_Out_acts_Out D)], D, noG⟩
theorem d125 (D : HV → List HV → M HV) : fnD (e125 D) Tryz.prog [13] a125 Tryz.f125 [] = f_acts_Acts_Output D := by kernel_rfl
theorem ok125 {D : HV → List HV → M HV} (hD : DOk Tryz.prog noG D) : FnOk Tryz.prog noG 125 (f_acts_Acts_Output D) := d125 D ▸ fn_ok (E := e125 D) ⟨(lk_cons (ok175 hD) lk_nil), hD⟩ mixed Tryz.func125 (by kernel_rfl) (by kernel_rfl) (hst_none (by kernel_rfl))
noncomputable def e126 (D : HV → List HV → M HV) : Env := ⟨lk [], D, noG⟩
theorem d126 (D : HV → List HV → M HV) : fnD (e126 D) Tryz.prog [] a126 Tryz.f126 [] = f_world_World_Done D := by kernel_rfl
theorem ok126 {D : HV → List HV → M HV} (hD : DOk Tryz.prog noG D) : FnOk Tryz.prog noG 126 (f_world_World_Done D) := d126 D ▸ fn_ok (E := e126 D) ⟨lk_nil, hD⟩ mixed Tryz.func126 (by kernel_rfl) (by kernel_rfl) (hst_none (by kernel_rfl))
noncomputable def e64 (D : HV → List HV → M HV) : Env := ⟨lk [(25, f_world_World_Token D), (51, f_attempt_Attempt_Acts D), (80, f_token_Token_Unlock D), (81, f_token_Token_Drop D), (123, f_attempt_Attempt_Land D), (124, f_world_World_Send D), (125, f_acts_Acts_Output D), (126, f_world_World_Done D)], D, noG⟩
theorem d64 (D : HV → List HV → M HV) : fnD (e64 D) Tryz.prog [] a64 Tryz.f64 [] = f_commit_Commit_land D := by kernel_rfl
theorem ok64 {D : HV → List HV → M HV} (hD : DOk Tryz.prog noG D) : FnOk Tryz.prog noG 64 (f_commit_Commit_land D) := d64 D ▸ fn_ok (E := e64 D) ⟨(lk_cons (ok25 hD) (lk_cons (ok51 hD) (lk_cons (ok80 hD) (lk_cons (ok81 hD) (lk_cons (ok123 hD) (lk_cons (ok124 hD) (lk_cons (ok125 hD) (lk_cons (ok126 hD) lk_nil)))))))), hD⟩ mixed Tryz.func64 (by kernel_rfl) (by kernel_rfl) (hst_none (by kernel_rfl))
noncomputable def e17 (D : HV → List HV → M HV) : Env := ⟨lk [(61, f_commit_Commit_check D), (62, f_commit_Commit_write D), (63, f_world_World_Force D), (64, f_commit_Commit_land D)], D, noG⟩
theorem d17 (D : HV → List HV → M HV) : fnD (e17 D) Tryz.prog [] a17 Tryz.f17 [] = f_commit_Commit_Step D := by kernel_rfl
theorem ok17 {D : HV → List HV → M HV} (hD : DOk Tryz.prog noG D) : FnOk Tryz.prog noG 17 (f_commit_Commit_Step D) := d17 D ▸ fn_ok (E := e17 D) ⟨(lk_cons (ok61 hD) (lk_cons (ok62 hD) (lk_cons (ok63 hD) (lk_cons (ok64 hD) lk_nil)))), hD⟩ mixed Tryz.func17 (by kernel_rfl) (by kernel_rfl) (hst_none (by kernel_rfl))
noncomputable def e20 (D : HV → List HV → M HV) : Env := ⟨lk [], D, noG⟩
theorem d20 (D : HV → List HV → M HV) : fnD (e20 D) Tryz.prog [] a20 Tryz.f20 [] = f_world_World_Blocks D := by kernel_rfl
theorem ok20 {D : HV → List HV → M HV} (hD : DOk Tryz.prog noG D) : FnOk Tryz.prog noG 20 (f_world_World_Blocks D) := d20 D ▸ fn_ok (E := e20 D) ⟨lk_nil, hD⟩ mixed Tryz.func20 (by kernel_rfl) (by kernel_rfl) (hst_none (by kernel_rfl))
noncomputable def e84 (D : HV → List HV → M HV) : Env := ⟨lk [], D, noG⟩
theorem d84 (D : HV → List HV → M HV) : fnD (e84 D) Tryz.prog [5] a84 Tryz.f84 [] = f_reads_New D := by kernel_rfl
theorem ok84 {D : HV → List HV → M HV} (hD : DOk Tryz.prog noG D) : FnOk Tryz.prog noG 84 (f_reads_New D) := d84 D ▸ fn_ok (E := e84 D) ⟨lk_nil, hD⟩ mixed Tryz.func84 (by kernel_rfl) (by kernel_rfl) (hst_none (by kernel_rfl))
noncomputable def e134 (D : HV → List HV → M HV) : Env := ⟨lk [], D, noG⟩
theorem d134 (D : HV → List HV → M HV) : fnD (e134 D) Tryz.prog [2, 4] a134 Tryz.f134 [] = f_sheet_New D := by kernel_rfl
theorem ok134 {D : HV → List HV → M HV} (hD : DOk Tryz.prog noG D) : FnOk Tryz.prog noG 134 (f_sheet_New D) := d134 D ▸ fn_ok (E := e134 D) ⟨lk_nil, hD⟩ mixed Tryz.func134 (by kernel_rfl) (by kernel_rfl) (hst_none (by kernel_rfl))
noncomputable def e85 (D : HV → List HV → M HV) : Env := ⟨lk [(134, f_sheet_New D)], D, noG⟩
theorem d85 (D : HV → List HV → M HV) : fnD (e85 D) Tryz.prog [4, 7] a85 Tryz.f85 [] = f_mark_Fresh D := by kernel_rfl
theorem ok85 {D : HV → List HV → M HV} (hD : DOk Tryz.prog noG D) : FnOk Tryz.prog noG 85 (f_mark_Fresh D) := d85 D ▸ fn_ok (E := e85 D) ⟨(lk_cons (ok134 hD) lk_nil), hD⟩ mixed Tryz.func85 (by kernel_rfl) (by kernel_rfl) (hst_none (by kernel_rfl))
noncomputable def e39 (D : HV → List HV → M HV) : Env := ⟨lk [(47, f_attempt_NewView D), (84, f_reads_New D), (85, f_mark_Fresh D)], D, noG⟩
theorem d39 (D : HV → List HV → M HV) : fnD (e39 D) Tryz.prog [17, 19, 21] a39 Tryz.f39 [] = f_attempt_New D := by kernel_rfl
theorem ok39 {D : HV → List HV → M HV} (hD : DOk Tryz.prog noG D) : FnOk Tryz.prog noG 39 (f_attempt_New D) := d39 D ▸ fn_ok (E := e39 D) ⟨(lk_cons (ok47 hD) (lk_cons (ok84 hD) (lk_cons (ok85 hD) lk_nil))), hD⟩ mixed Tryz.func39 (by kernel_rfl) (by kernel_rfl) (hst_none (by kernel_rfl))
noncomputable def e40 (D : HV → List HV → M HV) : Env := ⟨lk [], D, noG⟩
theorem d40 (D : HV → List HV → M HV) : fnD (e40 D) Tryz.prog [] a40 Tryz.f40 [] = f_world_World_View D := by kernel_rfl
theorem ok40 {D : HV → List HV → M HV} (hD : DOk Tryz.prog noG D) : FnOk Tryz.prog noG 40 (f_world_World_View D) := d40 D ▸ fn_ok (E := e40 D) ⟨lk_nil, hD⟩ mixed Tryz.func40 (by kernel_rfl) (by kernel_rfl) (hst_none (by kernel_rfl))
noncomputable def e177 (D : HV → List HV → M HV) : Env := ⟨lk [], D, noG⟩
theorem d177 (D : HV → List HV → M HV) : fnD (e177 D) Tryz.prog [] a177 Tryz.f177 [] = f_draft_by_int D := by kernel_rfl
theorem ok177 {D : HV → List HV → M HV} (hD : DOk Tryz.prog noG D) : FnOk Tryz.prog noG 177 (f_draft_by_int D) := d177 D ▸ fn_ok (E := e177 D) ⟨lk_nil, hD⟩ mixed Tryz.func177 (by kernel_rfl) (by kernel_rfl) (hst_none (by kernel_rfl))
noncomputable def e176 (D : HV → List HV → M HV) : Env := ⟨lk [], D, noG⟩
theorem d176 (D : HV → List HV → M HV) : fnD (e176 D) Tryz.prog [] a176 Tryz.f176 [] = f_slices_BinarySearchFunc_draft_entry_int_draft_entry_int_int D := by kernel_rfl
theorem ok176 {D : HV → List HV → M HV} (hD : DOk Tryz.prog noG D) : FnOk Tryz.prog noG 176 (f_slices_BinarySearchFunc_draft_entry_int_draft_entry_int_int D) := d176 D ▸ fn_ok (E := e176 D) ⟨lk_nil, hD⟩ mixed Tryz.func176 (by kernel_rfl) (by kernel_rfl) (hst_none (by kernel_rfl))
noncomputable def e135 (D : HV → List HV → M HV) : Env := ⟨lk [(176, f_slices_BinarySearchFunc_draft_entry_int_draft_entry_int_int D)], D, noG⟩
theorem d135 (D : HV → List HV → M HV) : fnD (e135 D) Tryz.prog [] a135 Tryz.f135 [] = f_draft_Draft_int_find D := by kernel_rfl
theorem ok135 {D : HV → List HV → M HV} (hD : DOk Tryz.prog noG D) : FnOk Tryz.prog noG 135 (f_draft_Draft_int_find D) := d135 D ▸ fn_ok (E := e135 D) ⟨(lk_cons (ok176 hD) lk_nil), hD⟩ mixed Tryz.func135 (by kernel_rfl) (by kernel_rfl) (hst_none (by kernel_rfl))
noncomputable def e86 (D : HV → List HV → M HV) : Env := ⟨lk [(135, f_draft_Draft_int_find D), (136, f_slices_Insert_draft_entry_int_draft_entry_int D)], D, noG⟩
theorem d86 (D : HV → List HV → M HV) : fnD (e86 D) Tryz.prog [35] a86 Tryz.f86 [] = f_draft_Draft_int_Put D := by kernel_rfl
theorem ok86 {D : HV → List HV → M HV} (hD : DOk Tryz.prog noG D) : FnOk Tryz.prog noG 86 (f_draft_Draft_int_Put D) := d86 D ▸ fn_ok (E := e86 D) ⟨(lk_cons (ok135 hD) (lk_cons (ok136 hD) lk_nil)), hD⟩ mixed Tryz.func86 (by kernel_rfl) (by kernel_rfl) (hst_none (by kernel_rfl))
noncomputable def e41 (D : HV → List HV → M HV) : Env := ⟨lk [(86, f_draft_Draft_int_Put D)], D, noG⟩
theorem d41 (D : HV → List HV → M HV) : fnD (e41 D) Tryz.prog [] a41 Tryz.f41 [] = f_attempt_Attempt_Store D := by kernel_rfl
theorem ok41 {D : HV → List HV → M HV} (hD : DOk Tryz.prog noG D) : FnOk Tryz.prog noG 41 (f_attempt_Attempt_Store D) := d41 D ▸ fn_ok (E := e41 D) ⟨(lk_cons (ok86 hD) lk_nil), hD⟩ mixed Tryz.func41 (by kernel_rfl) (by kernel_rfl) (hst_none (by kernel_rfl))
noncomputable def e9 (D : HV → List HV → M HV) : Env := ⟨lk [(11, f_world_Open D), (12, f_disk_New D), (14, f_commit_New D), (16, f_commit_Commit_Phase D), (17, f_commit_Commit_Step D), (20, f_world_World_Blocks D), (39, f_attempt_New D), (40, f_world_World_View D), (41, f_attempt_Attempt_Store D)], D, noG⟩
theorem d9 (D : HV → List HV → M HV) : fnD (e9 D) Tryz.prog [] a9 Tryz.f9 [] = f_law22_alive D := by kernel_rfl
theorem ok9 {D : HV → List HV → M HV} (hD : DOk Tryz.prog noG D) : FnOk Tryz.prog noG 9 (f_law22_alive D) := d9 D ▸ fn_ok (E := e9 D) ⟨(lk_cons (ok11 hD) (lk_cons (ok12 hD) (lk_cons (ok14 hD) (lk_cons (ok16 hD) (lk_cons (ok17 hD) (lk_cons (ok20 hD) (lk_cons (ok39 hD) (lk_cons (ok40 hD) (lk_cons (ok41 hD) lk_nil))))))))), hD⟩ mixed Tryz.func9 (by kernel_rfl) (by kernel_rfl) (hst_none (by kernel_rfl))
noncomputable def e10 (D : HV → List HV → M HV) : Env := ⟨lk [], D, noG⟩
theorem d10 (D : HV → List HV → M HV) : fnD (e10 D) Tryz.prog [] a10 Tryz.f10 [] = f_law22_great D := by kernel_rfl
theorem ok10 {D : HV → List HV → M HV} (hD : DOk Tryz.prog noG D) : FnOk Tryz.prog noG 10 (f_law22_great D) := d10 D ▸ fn_ok (E := e10 D) ⟨lk_nil, hD⟩ mixed Tryz.func10 (by kernel_rfl) (by kernel_rfl) (hst_none (by kernel_rfl))
noncomputable def e152 (D : HV → List HV → M HV) : Env := ⟨lk [(135, f_draft_Draft_int_find D)], D, noG⟩
theorem d152 (D : HV → List HV → M HV) : fnD (e152 D) Tryz.prog [] a152 Tryz.f152 [] = f_draft_Draft_int_Get D := by kernel_rfl
theorem ok152 {D : HV → List HV → M HV} (hD : DOk Tryz.prog noG D) : FnOk Tryz.prog noG 152 (f_draft_Draft_int_Get D) := d152 D ▸ fn_ok (E := e152 D) ⟨(lk_cons (ok135 hD) lk_nil), hD⟩ mixed Tryz.func152 (by kernel_rfl) (by kernel_rfl) (hst_none (by kernel_rfl))
noncomputable def e213 (D : HV → List HV → M HV) : Env := ⟨lk [], D, noG⟩
theorem d213 (D : HV → List HV → M HV) : fnD (e213 D) Tryz.prog [] a213 Tryz.f213 [.sc .kp, .sc .kp] = f_reads_Set_place_1 D := by kernel_rfl
theorem ok213 {D : HV → List HV → M HV} (hD : DOk Tryz.prog noG D) : FnOk Tryz.prog noG 213 (f_reads_Set_place_1 D) := d213 D ▸ fn_ok (E := e213 D) ⟨lk_nil, hD⟩ mixed Tryz.func213 (by kernel_rfl) (by kernel_rfl) (hst_none (by kernel_rfl))
noncomputable def e212 (D : HV → List HV → M HV) : Env := ⟨lk [], D, noG⟩
theorem d212 (D : HV → List HV → M HV) : fnD (e212 D) Tryz.prog [] a212 Tryz.f212 [] = f_slices_IndexFunc_reads_Entry_reads_Entry D := by kernel_rfl
theorem ok212 {D : HV → List HV → M HV} (hD : DOk Tryz.prog noG D) : FnOk Tryz.prog noG 212 (f_slices_IndexFunc_reads_Entry_reads_Entry D) := d212 D ▸ fn_ok (E := e212 D) ⟨lk_nil, hD⟩ mixed Tryz.func212 (by kernel_rfl) (by kernel_rfl) (hst_none (by kernel_rfl))
noncomputable def e206 (D : HV → List HV → M HV) : Env := ⟨lk [(212, f_slices_IndexFunc_reads_Entry_reads_Entry D)], D, noG⟩
theorem d206 (D : HV → List HV → M HV) : fnD (e206 D) Tryz.prog [4, 5] a206 Tryz.f206 [] = f_reads_Set_place D := by kernel_rfl
theorem ok206 {D : HV → List HV → M HV} (hD : DOk Tryz.prog noG D) : FnOk Tryz.prog noG 206 (f_reads_Set_place D) := d206 D ▸ fn_ok (E := e206 D) ⟨(lk_cons (ok212 hD) lk_nil), hD⟩ mixed Tryz.func206 (by kernel_rfl) (by kernel_rfl) (hst_none (by kernel_rfl))
noncomputable def e189 (D : HV → List HV → M HV) : Env := ⟨lk [(76, f_reads_Set_Valid D), (131, f_reads_Now_Of D), (206, f_reads_Set_place D)], D, noG⟩
theorem d189 (D : HV → List HV → M HV) : fnD (e189 D) Tryz.prog [] a189 Tryz.f189 [] = f_reads_Set_Note D := by kernel_rfl
theorem ok189 {D : HV → List HV → M HV} (hD : DOk Tryz.prog noG D) : FnOk Tryz.prog noG 189 (f_reads_Set_Note D) := d189 D ▸ fn_ok (E := e189 D) ⟨(lk_cons (ok76 hD) (lk_cons (ok131 hD) (lk_cons (ok206 hD) lk_nil))), hD⟩ mixed Tryz.func189 (by kernel_rfl) (by kernel_rfl) (hst_none (by kernel_rfl))
noncomputable def e153 (D : HV → List HV → M HV) : Env := ⟨lk [(77, f_attempt_View_Now D), (189, f_reads_Set_Note D)], D, noG⟩
theorem d153 (D : HV → List HV → M HV) : fnD (e153 D) Tryz.prog [] a153 Tryz.f153 [] = f_attempt_Attempt_note D := by kernel_rfl
theorem ok153 {D : HV → List HV → M HV} (hD : DOk Tryz.prog noG D) : FnOk Tryz.prog noG 153 (f_attempt_Attempt_note D) := d153 D ▸ fn_ok (E := e153 D) ⟨(lk_cons (ok77 hD) (lk_cons (ok189 hD) lk_nil)), hD⟩ mixed Tryz.func153 (by kernel_rfl) (by kernel_rfl) (hst_none (by kernel_rfl))
noncomputable def e108 (D : HV → List HV → M HV) : Env := ⟨lk [(58, f_cell_Row_int_Get D), (152, f_draft_Draft_int_Get D), (153, f_attempt_Attempt_note D)], D, noG⟩
theorem d108 (D : HV → List HV → M HV) : fnD (e108 D) Tryz.prog [] a108 Tryz.f108 [] = f_attempt_Attempt_Load D := by kernel_rfl
theorem ok108 {D : HV → List HV → M HV} (hD : DOk Tryz.prog noG D) : FnOk Tryz.prog noG 108 (f_attempt_Attempt_Load D) := d108 D ▸ fn_ok (E := e108 D) ⟨(lk_cons (ok58 hD) (lk_cons (ok152 hD) (lk_cons (ok153 hD) lk_nil))), hD⟩ mixed Tryz.func108 (by kernel_rfl) (by kernel_rfl) (hst_none (by kernel_rfl))
noncomputable def e223 (D : HV → List HV → M HV) : Env := ⟨lk [], D, noG⟩
theorem d223 (D : HV → List HV → M HV) : fnD (e223 D) Tryz.prog [] a223 Tryz.f223 [] = f_draft_by_file_File D := by kernel_rfl
theorem ok223 {D : HV → List HV → M HV} (hD : DOk Tryz.prog noG D) : FnOk Tryz.prog noG 223 (f_draft_by_file_File D) := d223 D ▸ fn_ok (E := e223 D) ⟨lk_nil, hD⟩ mixed Tryz.func223 (by kernel_rfl) (by kernel_rfl) (hst_none (by kernel_rfl))
noncomputable def e222 (D : HV → List HV → M HV) : Env := ⟨lk [], D, noG⟩
theorem d222 (D : HV → List HV → M HV) : fnD (e222 D) Tryz.prog [] a222 Tryz.f222 [] = f_slices_BinarySearchFunc_draft_entry_file_File_draft_entry_file_File_int D := by kernel_rfl
theorem ok222 {D : HV → List HV → M HV} (hD : DOk Tryz.prog noG D) : FnOk Tryz.prog noG 222 (f_slices_BinarySearchFunc_draft_entry_file_File_draft_entry_file_File_int D) := d222 D ▸ fn_ok (E := e222 D) ⟨lk_nil, hD⟩ mixed Tryz.func222 (by kernel_rfl) (by kernel_rfl) (hst_none (by kernel_rfl))
noncomputable def e214 (D : HV → List HV → M HV) : Env := ⟨lk [(222, f_slices_BinarySearchFunc_draft_entry_file_File_draft_entry_file_File_int D)], D, noG⟩
theorem d214 (D : HV → List HV → M HV) : fnD (e214 D) Tryz.prog [] a214 Tryz.f214 [] = f_draft_Draft_file_File_find D := by kernel_rfl
theorem ok214 {D : HV → List HV → M HV} (hD : DOk Tryz.prog noG D) : FnOk Tryz.prog noG 214 (f_draft_Draft_file_File_find D) := d214 D ▸ fn_ok (E := e214 D) ⟨(lk_cons (ok222 hD) lk_nil), hD⟩ mixed Tryz.func214 (by kernel_rfl) (by kernel_rfl) (hst_none (by kernel_rfl))
noncomputable def e207 (D : HV → List HV → M HV) : Env := ⟨lk [(214, f_draft_Draft_file_File_find D)], D, noG⟩
theorem d207 (D : HV → List HV → M HV) : fnD (e207 D) Tryz.prog [] a207 Tryz.f207 [] = f_draft_Draft_file_File_Get D := by kernel_rfl
theorem ok207 {D : HV → List HV → M HV} (hD : DOk Tryz.prog noG D) : FnOk Tryz.prog noG 207 (f_draft_Draft_file_File_Get D) := d207 D ▸ fn_ok (E := e207 D) ⟨(lk_cons (ok214 hD) lk_nil), hD⟩ mixed Tryz.func207 (by kernel_rfl) (by kernel_rfl) (hst_none (by kernel_rfl))
noncomputable def e190 (D : HV → List HV → M HV) : Env := ⟨lk [(59, f_tome_Tome_Get D), (207, f_draft_Draft_file_File_Get D)], D, noG⟩
theorem d190 (D : HV → List HV → M HV) : fnD (e190 D) Tryz.prog [] a190 Tryz.f190 [] = f_sheet_Sheet_Get D := by kernel_rfl
theorem ok190 {D : HV → List HV → M HV} (hD : DOk Tryz.prog noG D) : FnOk Tryz.prog noG 190 (f_sheet_Sheet_Get D) := d190 D ▸ fn_ok (E := e190 D) ⟨(lk_cons (ok59 hD) (lk_cons (ok207 hD) lk_nil)), hD⟩ mixed Tryz.func190 (by kernel_rfl) (by kernel_rfl) (hst_none (by kernel_rfl))
noncomputable def e154 (D : HV → List HV → M HV) : Env := ⟨lk [(153, f_attempt_Attempt_note D), (190, f_sheet_Sheet_Get D)], D, noG⟩
theorem d154 (D : HV → List HV → M HV) : fnD (e154 D) Tryz.prog [] a154 Tryz.f154 [] = f_attempt_Attempt_touch D := by kernel_rfl
theorem ok154 {D : HV → List HV → M HV} (hD : DOk Tryz.prog noG D) : FnOk Tryz.prog noG 154 (f_attempt_Attempt_touch D) := d154 D ▸ fn_ok (E := e154 D) ⟨(lk_cons (ok153 hD) (lk_cons (ok190 hD) lk_nil)), hD⟩ mixed Tryz.func154 (by kernel_rfl) (by kernel_rfl) (hst_none (by kernel_rfl))
noncomputable def e155 (D : HV → List HV → M HV) : Env := ⟨lk [], D, noG⟩
theorem d155 (D : HV → List HV → M HV) : fnD (e155 D) Tryz.prog [] a155 Tryz.f155 [] = f_file_At D := by kernel_rfl
theorem ok155 {D : HV → List HV → M HV} (hD : DOk Tryz.prog noG D) : FnOk Tryz.prog noG 155 (f_file_At D) := d155 D ▸ fn_ok (E := e155 D) ⟨lk_nil, hD⟩ mixed Tryz.func155 (by kernel_rfl) (by kernel_rfl) (hst_none (by kernel_rfl))
noncomputable def e109 (D : HV → List HV → M HV) : Env := ⟨lk [(154, f_attempt_Attempt_touch D), (155, f_file_At D)], D, noG⟩
theorem d109 (D : HV → List HV → M HV) : fnD (e109 D) Tryz.prog [] a109 Tryz.f109 [] = f_attempt_Attempt_Read D := by kernel_rfl
theorem ok109 {D : HV → List HV → M HV} (hD : DOk Tryz.prog noG D) : FnOk Tryz.prog noG 109 (f_attempt_Attempt_Read D) := d109 D ▸ fn_ok (E := e109 D) ⟨(lk_cons (ok154 hD) (lk_cons (ok155 hD) lk_nil)), hD⟩ mixed Tryz.func109 (by kernel_rfl) (by kernel_rfl) (hst_none (by kernel_rfl))
noncomputable def e208 (D : HV → List HV → M HV) : Env := ⟨lk [(214, f_draft_Draft_file_File_find D), (215, f_slices_Insert_draft_entry_file_File_draft_entry_file_File D)], D, noG⟩
theorem d208 (D : HV → List HV → M HV) : fnD (e208 D) Tryz.prog [35] a208 Tryz.f208 [] = f_draft_Draft_file_File_Put D := by kernel_rfl
theorem ok208 {D : HV → List HV → M HV} (hD : DOk Tryz.prog noG D) : FnOk Tryz.prog noG 208 (f_draft_Draft_file_File_Put D) := d208 D ▸ fn_ok (E := e208 D) ⟨(lk_cons (ok214 hD) (lk_cons (ok215 hD) lk_nil)), hD⟩ mixed Tryz.func208 (by kernel_rfl) (by kernel_rfl) (hst_none (by kernel_rfl))
noncomputable def e191 (D : HV → List HV → M HV) : Env := ⟨lk [(190, f_sheet_Sheet_Get D), (208, f_draft_Draft_file_File_Put D)], D, noG⟩
theorem d191 (D : HV → List HV → M HV) : fnD (e191 D) Tryz.prog [] a191 Tryz.f191 [] = f_sheet_Sheet_put D := by kernel_rfl
theorem ok191 {D : HV → List HV → M HV} (hD : DOk Tryz.prog noG D) : FnOk Tryz.prog noG 191 (f_sheet_Sheet_put D) := d191 D ▸ fn_ok (E := e191 D) ⟨(lk_cons (ok190 hD) (lk_cons (ok208 hD) lk_nil)), hD⟩ mixed Tryz.func191 (by kernel_rfl) (by kernel_rfl) (hst_none (by kernel_rfl))
noncomputable def e192 (D : HV → List HV → M HV) : Env := ⟨lk [], D, noG⟩
theorem d192 (D : HV → List HV → M HV) : fnD (e192 D) Tryz.prog [] a192 Tryz.f192 [] = f_file_Put D := by kernel_rfl
theorem ok192 {D : HV → List HV → M HV} (hD : DOk Tryz.prog noG D) : FnOk Tryz.prog noG 192 (f_file_Put D) := d192 D ▸ fn_ok (E := e192 D) ⟨lk_nil, hD⟩ mixed Tryz.func192 (by kernel_rfl) (by kernel_rfl) (hst_none (by kernel_rfl))
noncomputable def e156 (D : HV → List HV → M HV) : Env := ⟨lk [(190, f_sheet_Sheet_Get D), (191, f_sheet_Sheet_put D), (192, f_file_Put D)], D, noG⟩
theorem d156 (D : HV → List HV → M HV) : fnD (e156 D) Tryz.prog [] a156 Tryz.f156 [] = f_sheet_Sheet_Write D := by kernel_rfl
theorem ok156 {D : HV → List HV → M HV} (hD : DOk Tryz.prog noG D) : FnOk Tryz.prog noG 156 (f_sheet_Sheet_Write D) := d156 D ▸ fn_ok (E := e156 D) ⟨(lk_cons (ok190 hD) (lk_cons (ok191 hD) (lk_cons (ok192 hD) lk_nil))), hD⟩ mixed Tryz.func156 (by kernel_rfl) (by kernel_rfl) (hst_none (by kernel_rfl))
noncomputable def e110 (D : HV → List HV → M HV) : Env := ⟨lk [(154, f_attempt_Attempt_touch D), (156, f_sheet_Sheet_Write D)], D, noG⟩
theorem d110 (D : HV → List HV → M HV) : fnD (e110 D) Tryz.prog [] a110 Tryz.f110 [] = f_attempt_Attempt_Write D := by kernel_rfl
theorem ok110 {D : HV → List HV → M HV} (hD : DOk Tryz.prog noG D) : FnOk Tryz.prog noG 110 (f_attempt_Attempt_Write D) := d110 D ▸ fn_ok (E := e110 D) ⟨(lk_cons (ok154 hD) (lk_cons (ok156 hD) lk_nil)), hD⟩ mixed Tryz.func110 (by kernel_rfl) (by kernel_rfl) (hst_none (by kernel_rfl))
noncomputable def e193 (D : HV → List HV → M HV) : Env := ⟨lk [], D, noG⟩
theorem d193 (D : HV → List HV → M HV) : fnD (e193 D) Tryz.prog [] a193 Tryz.f193 [] = f_file_Make D := by kernel_rfl
theorem ok193 {D : HV → List HV → M HV} (hD : DOk Tryz.prog noG D) : FnOk Tryz.prog noG 193 (f_file_Make D) := d193 D ▸ fn_ok (E := e193 D) ⟨lk_nil, hD⟩ mixed Tryz.func193 (by kernel_rfl) (by kernel_rfl) (hst_none (by kernel_rfl))
noncomputable def e157 (D : HV → List HV → M HV) : Env := ⟨lk [(190, f_sheet_Sheet_Get D), (191, f_sheet_Sheet_put D), (193, f_file_Make D)], D, noG⟩
theorem d157 (D : HV → List HV → M HV) : fnD (e157 D) Tryz.prog [] a157 Tryz.f157 [] = f_sheet_Sheet_Create D := by kernel_rfl
theorem ok157 {D : HV → List HV → M HV} (hD : DOk Tryz.prog noG D) : FnOk Tryz.prog noG 157 (f_sheet_Sheet_Create D) := d157 D ▸ fn_ok (E := e157 D) ⟨(lk_cons (ok190 hD) (lk_cons (ok191 hD) (lk_cons (ok193 hD) lk_nil))), hD⟩ mixed Tryz.func157 (by kernel_rfl) (by kernel_rfl) (hst_none (by kernel_rfl))
noncomputable def e111 (D : HV → List HV → M HV) : Env := ⟨lk [(154, f_attempt_Attempt_touch D), (157, f_sheet_Sheet_Create D)], D, noG⟩
theorem d111 (D : HV → List HV → M HV) : fnD (e111 D) Tryz.prog [] a111 Tryz.f111 [] = f_attempt_Attempt_Create D := by kernel_rfl
theorem ok111 {D : HV → List HV → M HV} (hD : DOk Tryz.prog noG D) : FnOk Tryz.prog noG 111 (f_attempt_Attempt_Create D) := d111 D ▸ fn_ok (E := e111 D) ⟨(lk_cons (ok154 hD) (lk_cons (ok157 hD) lk_nil)), hD⟩ mixed Tryz.func111 (by kernel_rfl) (by kernel_rfl) (hst_none (by kernel_rfl))
noncomputable def e158 (D : HV → List HV → M HV) : Env := ⟨lk [(191, f_sheet_Sheet_put D)], D, noG⟩
theorem d158 (D : HV → List HV → M HV) : fnD (e158 D) Tryz.prog [] a158 Tryz.f158 [] = f_sheet_Sheet_Remove D := by kernel_rfl
theorem ok158 {D : HV → List HV → M HV} (hD : DOk Tryz.prog noG D) : FnOk Tryz.prog noG 158 (f_sheet_Sheet_Remove D) := d158 D ▸ fn_ok (E := e158 D) ⟨(lk_cons (ok191 hD) lk_nil), hD⟩ mixed Tryz.func158 (by kernel_rfl) (by kernel_rfl) (hst_none (by kernel_rfl))
noncomputable def e112 (D : HV → List HV → M HV) : Env := ⟨lk [(154, f_attempt_Attempt_touch D), (158, f_sheet_Sheet_Remove D)], D, noG⟩
theorem d112 (D : HV → List HV → M HV) : fnD (e112 D) Tryz.prog [] a112 Tryz.f112 [] = f_attempt_Attempt_Remove D := by kernel_rfl
theorem ok112 {D : HV → List HV → M HV} (hD : DOk Tryz.prog noG D) : FnOk Tryz.prog noG 112 (f_attempt_Attempt_Remove D) := d112 D ▸ fn_ok (E := e112 D) ⟨(lk_cons (ok154 hD) (lk_cons (ok158 hD) lk_nil)), hD⟩ mixed Tryz.func112 (by kernel_rfl) (by kernel_rfl) (hst_none (by kernel_rfl))
noncomputable def e159 (D : HV → List HV → M HV) : Env := ⟨lk [(190, f_sheet_Sheet_Get D), (191, f_sheet_Sheet_put D)], D, noG⟩
theorem d159 (D : HV → List HV → M HV) : fnD (e159 D) Tryz.prog [] a159 Tryz.f159 [] = f_sheet_Sheet_Rename D := by kernel_rfl
theorem ok159 {D : HV → List HV → M HV} (hD : DOk Tryz.prog noG D) : FnOk Tryz.prog noG 159 (f_sheet_Sheet_Rename D) := d159 D ▸ fn_ok (E := e159 D) ⟨(lk_cons (ok190 hD) (lk_cons (ok191 hD) lk_nil)), hD⟩ mixed Tryz.func159 (by kernel_rfl) (by kernel_rfl) (hst_none (by kernel_rfl))
noncomputable def e113 (D : HV → List HV → M HV) : Env := ⟨lk [(154, f_attempt_Attempt_touch D), (159, f_sheet_Sheet_Rename D)], D, noG⟩
theorem d113 (D : HV → List HV → M HV) : fnD (e113 D) Tryz.prog [] a113 Tryz.f113 [] = f_attempt_Attempt_Rename D := by kernel_rfl
theorem ok113 {D : HV → List HV → M HV} (hD : DOk Tryz.prog noG D) : FnOk Tryz.prog noG 113 (f_attempt_Attempt_Rename D) := d113 D ▸ fn_ok (E := e113 D) ⟨(lk_cons (ok154 hD) (lk_cons (ok159 hD) lk_nil)), hD⟩ mixed Tryz.func113 (by kernel_rfl) (by kernel_rfl) (hst_none (by kernel_rfl))
noncomputable def e194 (D : HV → List HV → M HV) : Env := ⟨lk [(209, f_strings_Repeat D)], D, noG⟩
theorem d194 (D : HV → List HV → M HV) : fnD (e194 D) Tryz.prog [] a194 Tryz.f194 [] = f_file_Cut D := by kernel_rfl
theorem ok194 {D : HV → List HV → M HV} (hD : DOk Tryz.prog noG D) : FnOk Tryz.prog noG 194 (f_file_Cut D) := d194 D ▸ fn_ok (E := e194 D) ⟨(lk_cons (ok209 hD) lk_nil), hD⟩ mixed Tryz.func194 (by kernel_rfl) (by kernel_rfl) (hst_none (by kernel_rfl))
noncomputable def e160 (D : HV → List HV → M HV) : Env := ⟨lk [(190, f_sheet_Sheet_Get D), (191, f_sheet_Sheet_put D), (194, f_file_Cut D)], D, noG⟩
theorem d160 (D : HV → List HV → M HV) : fnD (e160 D) Tryz.prog [] a160 Tryz.f160 [] = f_sheet_Sheet_Cut D := by kernel_rfl
theorem ok160 {D : HV → List HV → M HV} (hD : DOk Tryz.prog noG D) : FnOk Tryz.prog noG 160 (f_sheet_Sheet_Cut D) := d160 D ▸ fn_ok (E := e160 D) ⟨(lk_cons (ok190 hD) (lk_cons (ok191 hD) (lk_cons (ok194 hD) lk_nil))), hD⟩ mixed Tryz.func160 (by kernel_rfl) (by kernel_rfl) (hst_none (by kernel_rfl))
noncomputable def e114 (D : HV → List HV → M HV) : Env := ⟨lk [(154, f_attempt_Attempt_touch D), (160, f_sheet_Sheet_Cut D)], D, noG⟩
theorem d114 (D : HV → List HV → M HV) : fnD (e114 D) Tryz.prog [] a114 Tryz.f114 [] = f_attempt_Attempt_Cut D := by kernel_rfl
theorem ok114 {D : HV → List HV → M HV} (hD : DOk Tryz.prog noG D) : FnOk Tryz.prog noG 114 (f_attempt_Attempt_Cut D) := d114 D ▸ fn_ok (E := e114 D) ⟨(lk_cons (ok154 hD) (lk_cons (ok160 hD) lk_nil)), hD⟩ mixed Tryz.func114 (by kernel_rfl) (by kernel_rfl) (hst_none (by kernel_rfl))
noncomputable def e161 (D : HV → List HV → M HV) : Env := ⟨lk [(195, f_feed_Feed_is D)], D, noG⟩
theorem d161 (D : HV → List HV → M HV) : fnD (e161 D) Tryz.prog [] a161 Tryz.f161 [] = f_feed_Feed_At D := by kernel_rfl
theorem ok161 {D : HV → List HV → M HV} (hD : DOk Tryz.prog noG D) : FnOk Tryz.prog noG 161 (f_feed_Feed_At D) := d161 D ▸ fn_ok (E := e161 D) ⟨(lk_cons (ok195 hD) lk_nil), hD⟩ mixed Tryz.func161 (by kernel_rfl) (by kernel_rfl) (hst_none (by kernel_rfl))
noncomputable def e162 (D : HV → List HV → M HV) : Env := ⟨lk [(196, f_cursor_is D)], D, noG⟩
theorem d162 (D : HV → List HV → M HV) : fnD (e162 D) Tryz.prog [] a162 Tryz.f162 [] = f_cursor_Cursor_At D := by kernel_rfl
theorem ok162 {D : HV → List HV → M HV} (hD : DOk Tryz.prog noG D) : FnOk Tryz.prog noG 162 (f_cursor_Cursor_At D) := d162 D ▸ fn_ok (E := e162 D) ⟨(lk_cons (ok196 hD) lk_nil), hD⟩ mixed Tryz.func162 (by kernel_rfl) (by kernel_rfl) (hst_none (by kernel_rfl))
noncomputable def e163 (D : HV → List HV → M HV) : Env := ⟨lk [(196, f_cursor_is D)], D, noG⟩
theorem d163 (D : HV → List HV → M HV) : fnD (e163 D) Tryz.prog [] a163 Tryz.f163 [] = f_cursor_Cursor_Step D := by kernel_rfl
theorem ok163 {D : HV → List HV → M HV} (hD : DOk Tryz.prog noG D) : FnOk Tryz.prog noG 163 (f_cursor_Cursor_Step D) := d163 D ▸ fn_ok (E := e163 D) ⟨(lk_cons (ok196 hD) lk_nil), hD⟩ mixed Tryz.func163 (by kernel_rfl) (by kernel_rfl) (hst_none (by kernel_rfl))
noncomputable def e115 (D : HV → List HV → M HV) : Env := ⟨lk [(60, f_feed_Feed_Place D), (153, f_attempt_Attempt_note D), (161, f_feed_Feed_At D), (162, f_cursor_Cursor_At D), (163, f_cursor_Cursor_Step D)], D, noG⟩
theorem d115 (D : HV → List HV → M HV) : fnD (e115 D) Tryz.prog [] a115 Tryz.f115 [] = f_attempt_Attempt_Recv D := by kernel_rfl
theorem ok115 {D : HV → List HV → M HV} (hD : DOk Tryz.prog noG D) : FnOk Tryz.prog noG 115 (f_attempt_Attempt_Recv D) := d115 D ▸ fn_ok (E := e115 D) ⟨(lk_cons (ok60 hD) (lk_cons (ok153 hD) (lk_cons (ok161 hD) (lk_cons (ok162 hD) (lk_cons (ok163 hD) lk_nil))))), hD⟩ mixed Tryz.func115 (by kernel_rfl) (by kernel_rfl) (hst_none (by kernel_rfl))
noncomputable def e50 (D : HV → List HV → M HV) : Env := ⟨lk [(41, f_attempt_Attempt_Store D), (108, f_attempt_Attempt_Load D), (109, f_attempt_Attempt_Read D), (110, f_attempt_Attempt_Write D), (111, f_attempt_Attempt_Create D), (112, f_attempt_Attempt_Remove D), (113, f_attempt_Attempt_Rename D), (114, f_attempt_Attempt_Cut D), (115, f_attempt_Attempt_Recv D)], D, noG⟩
theorem d50 (D : HV → List HV → M HV) : fnD (e50 D) Tryz.prog [] a50 Tryz.f50 [] = f_law22_does D := by kernel_rfl
theorem ok50 {D : HV → List HV → M HV} (hD : DOk Tryz.prog noG D) : FnOk Tryz.prog noG 50 (f_law22_does D) := d50 D ▸ fn_ok (E := e50 D) ⟨(lk_cons (ok41 hD) (lk_cons (ok108 hD) (lk_cons (ok109 hD) (lk_cons (ok110 hD) (lk_cons (ok111 hD) (lk_cons (ok112 hD) (lk_cons (ok113 hD) (lk_cons (ok114 hD) (lk_cons (ok115 hD) lk_nil))))))))), hD⟩ mixed Tryz.func50 (by kernel_rfl) (by kernel_rfl) (hst_none (by kernel_rfl))
noncomputable def e52 (D : HV → List HV → M HV) : Env := ⟨lk [], D, noG⟩
theorem d52 (D : HV → List HV → M HV) : fnD (e52 D) Tryz.prog [] a52 Tryz.f52 [] = f_acts_Acts_Send D := by kernel_rfl
theorem ok52 {D : HV → List HV → M HV} (hD : DOk Tryz.prog noG D) : FnOk Tryz.prog noG 52 (f_acts_Acts_Send D) := d52 D ▸ fn_ok (E := e52 D) ⟨lk_nil, hD⟩ mixed Tryz.func52 (by kernel_rfl) (by kernel_rfl) (hst_none (by kernel_rfl))
noncomputable def e53 (D : HV → List HV → M HV) : Env := ⟨lk [], D, noG⟩
theorem d53 (D : HV → List HV → M HV) : fnD (e53 D) Tryz.prog [] a53 Tryz.f53 [] = f_acts_Acts_Later D := by kernel_rfl
theorem ok53 {D : HV → List HV → M HV} (hD : DOk Tryz.prog noG D) : FnOk Tryz.prog noG 53 (f_acts_Acts_Later D) := d53 D ▸ fn_ok (E := e53 D) ⟨lk_nil, hD⟩ mixed Tryz.func53 (by kernel_rfl) (by kernel_rfl) (hst_none (by kernel_rfl))
noncomputable def e54 (D : HV → List HV → M HV) : Env := ⟨lk [], D, noG⟩
theorem d54 (D : HV → List HV → M HV) : fnD (e54 D) Tryz.prog [] a54 Tryz.f54 [] = f_acts_Acts_Note D := by kernel_rfl
theorem ok54 {D : HV → List HV → M HV} (hD : DOk Tryz.prog noG D) : FnOk Tryz.prog noG 54 (f_acts_Acts_Note D) := d54 D ▸ fn_ok (E := e54 D) ⟨lk_nil, hD⟩ mixed Tryz.func54 (by kernel_rfl) (by kernel_rfl) (hst_none (by kernel_rfl))
noncomputable def e55 (D : HV → List HV → M HV) : Env := ⟨lk [], D, noG⟩
theorem d55 (D : HV → List HV → M HV) : fnD (e55 D) Tryz.prog [] a55 Tryz.f55 [] = f_acts_Acts_Opened D := by kernel_rfl
theorem ok55 {D : HV → List HV → M HV} (hD : DOk Tryz.prog noG D) : FnOk Tryz.prog noG 55 (f_acts_Acts_Opened D) := d55 D ▸ fn_ok (E := e55 D) ⟨lk_nil, hD⟩ mixed Tryz.func55 (by kernel_rfl) (by kernel_rfl) (hst_none (by kernel_rfl))
noncomputable def e197 (D : HV → List HV → M HV) : Env := ⟨lk [], D, noG⟩
theorem d197 (D : HV → List HV → M HV) : fnD (e197 D) Tryz.prog [] a197 Tryz.f197 [.sc .kp] = f_slices_Backward_acts_Open_acts_Open_1 D := by kernel_rfl
theorem ok197 {D : HV → List HV → M HV} (hD : DOk Tryz.prog noG D) : FnOk Tryz.prog noG 197 (f_slices_Backward_acts_Open_acts_Open_1 D) := d197 D ▸ fn_ok (E := e197 D) ⟨lk_nil, hD⟩ mixed Tryz.func197 (by kernel_rfl) (by kernel_rfl) (hst_none (by kernel_rfl))
noncomputable def e164 (D : HV → List HV → M HV) : Env := ⟨lk [], D, noG⟩
theorem d164 (D : HV → List HV → M HV) : fnD (e164 D) Tryz.prog [1] a164 Tryz.f164 [] = f_slices_Backward_acts_Open_acts_Open D := by kernel_rfl
theorem ok164 {D : HV → List HV → M HV} (hD : DOk Tryz.prog noG D) : FnOk Tryz.prog noG 164 (f_slices_Backward_acts_Open_acts_Open D) := d164 D ▸ fn_ok (E := e164 D) ⟨lk_nil, hD⟩ mixed Tryz.func164 (by kernel_rfl) (by kernel_rfl) (hst_none (by kernel_rfl))
noncomputable def e116 (D : HV → List HV → M HV) : Env := ⟨lk [(164, f_slices_Backward_acts_Open_acts_Open D)], D, noG⟩
theorem st116 : ∀ e ∈ sitesF Tryz.f116 a116, e ∈ es := by
 rw [show sitesF Tryz.f116 a116 = [s116_0] by kernel_rfl]
 intro e he
 simp only [List.mem_cons, List.not_mem_nil, or_false] at he
 rcases he with rfl <;> simp [es]
theorem d116 (D : HV → List HV → M HV) : fnD (e116 D) Tryz.prog [3] a116 Tryz.f116 [] = f_acts_undo D := by kernel_rfl
theorem ok116 {D : HV → List HV → M HV} (hD : DOk Tryz.prog noG D) : FnOk Tryz.prog noG 116 (f_acts_undo D) := d116 D ▸ fn_ok (E := e116 D) ⟨(lk_cons (ok164 hD) lk_nil), hD⟩ mixed Tryz.func116 (by kernel_rfl) (by kernel_rfl) (hst_of (fun _ _ _ _ _ h => h) st116)
noncomputable def e116_0 (D : HV → List HV → M HV) : Env := ⟨lk [], D, noG⟩
theorem d116_0 (D : HV → List HV → M HV) (l : Nat) (vs : List (Nat × HV)) (args : List HV) : roundD (e116_0 D) Tryz.prog [] s116_0.2 [.t 3 (.sc .kp)] [.t 8 (.sc (.ki .i64)), .t 9 (.c [(.ki .i64), (.ki .i64)])] .z .z [] l vs args = r0_acts_undo D l vs args := by kernel_rfl
theorem rd116_0 : RdOk Tryz.prog noG s116_0 r0_acts_undo := fun D hD => ⟨e116_0 D, [], [.t 3 (.sc .kp)], [.t 8 (.sc (.ki .i64)), .t 9 (.c [(.ki .i64), (.ki .i64)])], .z, .z, [], ⟨lk_nil, hD⟩, rfl, by kernel_rfl, rst_none (by kernel_rfl), fun l vs args => (d116_0 D l vs args).symm⟩
noncomputable def e56 (D : HV → List HV → M HV) : Env := ⟨lk [(116, f_acts_undo D)], D, noG⟩
theorem d56 (D : HV → List HV → M HV) : fnD (e56 D) Tryz.prog [] a56 Tryz.f56 [] = f_acts_Acts_Undo D := by kernel_rfl
theorem ok56 {D : HV → List HV → M HV} (hD : DOk Tryz.prog noG D) : FnOk Tryz.prog noG 56 (f_acts_Acts_Undo D) := d56 D ▸ fn_ok (E := e56 D) ⟨(lk_cons (ok116 hD) lk_nil), hD⟩ mixed Tryz.func56 (by kernel_rfl) (by kernel_rfl) (hst_none (by kernel_rfl))
noncomputable def e57 (D : HV → List HV → M HV) : Env := ⟨lk [], D, noG⟩
theorem d57 (D : HV → List HV → M HV) : fnD (e57 D) Tryz.prog [] a57 Tryz.f57 [] = f_world_World_Add D := by kernel_rfl
theorem ok57 {D : HV → List HV → M HV} (hD : DOk Tryz.prog noG D) : FnOk Tryz.prog noG 57 (f_world_World_Add D) := d57 D ▸ fn_ok (E := e57 D) ⟨lk_nil, hD⟩ mixed Tryz.func57 (by kernel_rfl) (by kernel_rfl) (hst_none (by kernel_rfl))
noncomputable def e13 (D : HV → List HV → M HV) : Env := ⟨lk [(39, f_attempt_New D), (40, f_world_World_View D), (50, f_law22_does D), (51, f_attempt_Attempt_Acts D), (52, f_acts_Acts_Send D), (53, f_acts_Acts_Later D), (54, f_acts_Acts_Note D), (55, f_acts_Acts_Opened D), (56, f_acts_Acts_Undo D), (57, f_world_World_Add D)], D, noG⟩
theorem d13 (D : HV → List HV → M HV) : fnD (e13 D) Tryz.prog [74] a13 Tryz.f13 [] = f_law22_begun D := by kernel_rfl
theorem ok13 {D : HV → List HV → M HV} (hD : DOk Tryz.prog noG D) : FnOk Tryz.prog noG 13 (f_law22_begun D) := d13 D ▸ fn_ok (E := e13 D) ⟨(lk_cons (ok39 hD) (lk_cons (ok40 hD) (lk_cons (ok50 hD) (lk_cons (ok51 hD) (lk_cons (ok52 hD) (lk_cons (ok53 hD) (lk_cons (ok54 hD) (lk_cons (ok55 hD) (lk_cons (ok56 hD) (lk_cons (ok57 hD) lk_nil)))))))))), hD⟩ mixed Tryz.func13 (by kernel_rfl) (by kernel_rfl) (hst_none (by kernel_rfl))
noncomputable def e15 (D : HV → List HV → M HV) : Env := ⟨lk [(40, f_world_World_View D), (58, f_cell_Row_int_Get D), (59, f_tome_Tome_Get D), (60, f_feed_Feed_Place D)], D, noG⟩
theorem d15 (D : HV → List HV → M HV) : fnD (e15 D) Tryz.prog [] a15 Tryz.f15 [] = f_law22_things D := by kernel_rfl
theorem ok15 {D : HV → List HV → M HV} (hD : DOk Tryz.prog noG D) : FnOk Tryz.prog noG 15 (f_law22_things D) := d15 D ▸ fn_ok (E := e15 D) ⟨(lk_cons (ok40 hD) (lk_cons (ok58 hD) (lk_cons (ok59 hD) (lk_cons (ok60 hD) lk_nil)))), hD⟩ mixed Tryz.func15 (by kernel_rfl) (by kernel_rfl) (hst_none (by kernel_rfl))
noncomputable def e18 (D : HV → List HV → M HV) : Env := ⟨lk [], D, noG⟩
theorem d18 (D : HV → List HV → M HV) : fnD (e18 D) Tryz.prog [] a18 Tryz.f18 [] = f_ref20_Good D := by kernel_rfl
theorem ok18 {D : HV → List HV → M HV} (hD : DOk Tryz.prog noG D) : FnOk Tryz.prog noG 18 (f_ref20_Good D) := d18 D ▸ fn_ok (E := e18 D) ⟨lk_nil, hD⟩ mixed Tryz.func18 (by kernel_rfl) (by kernel_rfl) (hst_none (by kernel_rfl))
noncomputable def e65 (D : HV → List HV → M HV) : Env := ⟨lk [], D, noG⟩
theorem d65 (D : HV → List HV → M HV) : fnD (e65 D) Tryz.prog [] a65 Tryz.f65 [] = f_ref09_At D := by kernel_rfl
theorem ok65 {D : HV → List HV → M HV} (hD : DOk Tryz.prog noG D) : FnOk Tryz.prog noG 65 (f_ref09_At D) := d65 D ▸ fn_ok (E := e65 D) ⟨lk_nil, hD⟩ mixed Tryz.func65 (by kernel_rfl) (by kernel_rfl) (hst_none (by kernel_rfl))
noncomputable def e127 (D : HV → List HV → M HV) : Env := ⟨lk [], D, noG⟩
theorem d127 (D : HV → List HV → M HV) : fnD (e127 D) Tryz.prog [] a127 Tryz.f127 [] = f_ref14_Is D := by kernel_rfl
theorem ok127 {D : HV → List HV → M HV} (hD : DOk Tryz.prog noG D) : FnOk Tryz.prog noG 127 (f_ref14_Is D) := d127 D ▸ fn_ok (E := e127 D) ⟨lk_nil, hD⟩ mixed Tryz.func127 (by kernel_rfl) (by kernel_rfl) (hst_none (by kernel_rfl))
noncomputable def e128 (D : HV → List HV → M HV) : Env := ⟨lk [], D, noG⟩
theorem d128 (D : HV → List HV → M HV) : fnD (e128 D) Tryz.prog [] a128 Tryz.f128 [] = f_ref14_Sheet_put D := by kernel_rfl
theorem ok128 {D : HV → List HV → M HV} (hD : DOk Tryz.prog noG D) : FnOk Tryz.prog noG 128 (f_ref14_Sheet_put D) := d128 D ▸ fn_ok (E := e128 D) ⟨lk_nil, hD⟩ mixed Tryz.func128 (by kernel_rfl) (by kernel_rfl) (hst_none (by kernel_rfl))
noncomputable def e129 (D : HV → List HV → M HV) : Env := ⟨lk [(65, f_ref09_At D)], D, noG⟩
theorem d129 (D : HV → List HV → M HV) : fnD (e129 D) Tryz.prog [] a129 Tryz.f129 [] = f_ref09_Put D := by kernel_rfl
theorem ok129 {D : HV → List HV → M HV} (hD : DOk Tryz.prog noG D) : FnOk Tryz.prog noG 129 (f_ref09_Put D) := d129 D ▸ fn_ok (E := e129 D) ⟨(lk_cons (ok65 hD) lk_nil), hD⟩ mixed Tryz.func129 (by kernel_rfl) (by kernel_rfl) (hst_none (by kernel_rfl))
noncomputable def e66 (D : HV → List HV → M HV) : Env := ⟨lk [(127, f_ref14_Is D), (128, f_ref14_Sheet_put D), (129, f_ref09_Put D)], D, noG⟩
theorem d66 (D : HV → List HV → M HV) : fnD (e66 D) Tryz.prog [] a66 Tryz.f66 [] = f_ref14_Sheet_Write D := by kernel_rfl
theorem ok66 {D : HV → List HV → M HV} (hD : DOk Tryz.prog noG D) : FnOk Tryz.prog noG 66 (f_ref14_Sheet_Write D) := d66 D ▸ fn_ok (E := e66 D) ⟨(lk_cons (ok127 hD) (lk_cons (ok128 hD) (lk_cons (ok129 hD) lk_nil))), hD⟩ mixed Tryz.func66 (by kernel_rfl) (by kernel_rfl) (hst_none (by kernel_rfl))
noncomputable def e67 (D : HV → List HV → M HV) : Env := ⟨lk [(127, f_ref14_Is D), (128, f_ref14_Sheet_put D)], D, noG⟩
theorem d67 (D : HV → List HV → M HV) : fnD (e67 D) Tryz.prog [] a67 Tryz.f67 [] = f_ref14_Sheet_Create D := by kernel_rfl
theorem ok67 {D : HV → List HV → M HV} (hD : DOk Tryz.prog noG D) : FnOk Tryz.prog noG 67 (f_ref14_Sheet_Create D) := d67 D ▸ fn_ok (E := e67 D) ⟨(lk_cons (ok127 hD) (lk_cons (ok128 hD) lk_nil)), hD⟩ mixed Tryz.func67 (by kernel_rfl) (by kernel_rfl) (hst_none (by kernel_rfl))
noncomputable def e68 (D : HV → List HV → M HV) : Env := ⟨lk [(127, f_ref14_Is D), (128, f_ref14_Sheet_put D)], D, noG⟩
theorem d68 (D : HV → List HV → M HV) : fnD (e68 D) Tryz.prog [] a68 Tryz.f68 [] = f_ref14_Sheet_Remove D := by kernel_rfl
theorem ok68 {D : HV → List HV → M HV} (hD : DOk Tryz.prog noG D) : FnOk Tryz.prog noG 68 (f_ref14_Sheet_Remove D) := d68 D ▸ fn_ok (E := e68 D) ⟨(lk_cons (ok127 hD) (lk_cons (ok128 hD) lk_nil)), hD⟩ mixed Tryz.func68 (by kernel_rfl) (by kernel_rfl) (hst_none (by kernel_rfl))
noncomputable def e69 (D : HV → List HV → M HV) : Env := ⟨lk [(127, f_ref14_Is D), (128, f_ref14_Sheet_put D)], D, noG⟩
theorem d69 (D : HV → List HV → M HV) : fnD (e69 D) Tryz.prog [] a69 Tryz.f69 [] = f_ref14_Sheet_Rename D := by kernel_rfl
theorem ok69 {D : HV → List HV → M HV} (hD : DOk Tryz.prog noG D) : FnOk Tryz.prog noG 69 (f_ref14_Sheet_Rename D) := d69 D ▸ fn_ok (E := e69 D) ⟨(lk_cons (ok127 hD) (lk_cons (ok128 hD) lk_nil)), hD⟩ mixed Tryz.func69 (by kernel_rfl) (by kernel_rfl) (hst_none (by kernel_rfl))
noncomputable def e130 (D : HV → List HV → M HV) : Env := ⟨lk [(65, f_ref09_At D)], D, noG⟩
theorem d130 (D : HV → List HV → M HV) : fnD (e130 D) Tryz.prog [] a130 Tryz.f130 [] = f_ref09_Cut D := by kernel_rfl
theorem ok130 {D : HV → List HV → M HV} (hD : DOk Tryz.prog noG D) : FnOk Tryz.prog noG 130 (f_ref09_Cut D) := d130 D ▸ fn_ok (E := e130 D) ⟨(lk_cons (ok65 hD) lk_nil), hD⟩ mixed Tryz.func130 (by kernel_rfl) (by kernel_rfl) (hst_none (by kernel_rfl))
noncomputable def e70 (D : HV → List HV → M HV) : Env := ⟨lk [(127, f_ref14_Is D), (128, f_ref14_Sheet_put D), (130, f_ref09_Cut D)], D, noG⟩
theorem d70 (D : HV → List HV → M HV) : fnD (e70 D) Tryz.prog [] a70 Tryz.f70 [] = f_ref14_Sheet_Cut D := by kernel_rfl
theorem ok70 {D : HV → List HV → M HV} (hD : DOk Tryz.prog noG D) : FnOk Tryz.prog noG 70 (f_ref14_Sheet_Cut D) := d70 D ▸ fn_ok (E := e70 D) ⟨(lk_cons (ok127 hD) (lk_cons (ok128 hD) (lk_cons (ok130 hD) lk_nil))), hD⟩ mixed Tryz.func70 (by kernel_rfl) (by kernel_rfl) (hst_none (by kernel_rfl))
noncomputable def e19 (D : HV → List HV → M HV) : Env := ⟨lk [(65, f_ref09_At D), (66, f_ref14_Sheet_Write D), (67, f_ref14_Sheet_Create D), (68, f_ref14_Sheet_Remove D), (69, f_ref14_Sheet_Rename D), (70, f_ref14_Sheet_Cut D)], D, noG⟩
theorem d19 (D : HV → List HV → M HV) : fnD (e19 D) Tryz.prog [17] a19 Tryz.f19 [] = f_ref20_Do D := by kernel_rfl
theorem ok19 {D : HV → List HV → M HV} (hD : DOk Tryz.prog noG D) : FnOk Tryz.prog noG 19 (f_ref20_Do D) := d19 D ▸ fn_ok (E := e19 D) ⟨(lk_cons (ok65 hD) (lk_cons (ok66 hD) (lk_cons (ok67 hD) (lk_cons (ok68 hD) (lk_cons (ok69 hD) (lk_cons (ok70 hD) lk_nil)))))), hD⟩ mixed Tryz.func19 (by kernel_rfl) (by kernel_rfl) (hst_none (by kernel_rfl))
noncomputable def e21 (D : HV → List HV → M HV) : Env := ⟨lk [], D, noG⟩
theorem d21 (D : HV → List HV → M HV) : fnD (e21 D) Tryz.prog [] a21 Tryz.f21 [] = f_world_World_Wire D := by kernel_rfl
theorem ok21 {D : HV → List HV → M HV} (hD : DOk Tryz.prog noG D) : FnOk Tryz.prog noG 21 (f_world_World_Wire D) := d21 D ▸ fn_ok (E := e21 D) ⟨lk_nil, hD⟩ mixed Tryz.func21 (by kernel_rfl) (by kernel_rfl) (hst_none (by kernel_rfl))
noncomputable def e22 (D : HV → List HV → M HV) : Env := ⟨lk [(71, f_wire_Wire_at D)], D, noG⟩
theorem d22 (D : HV → List HV → M HV) : fnD (e22 D) Tryz.prog [] a22 Tryz.f22 [] = f_wire_Wire_All D := by kernel_rfl
theorem ok22 {D : HV → List HV → M HV} (hD : DOk Tryz.prog noG D) : FnOk Tryz.prog noG 22 (f_wire_Wire_All D) := d22 D ▸ fn_ok (E := e22 D) ⟨(lk_cons (ok71 hD) lk_nil), hD⟩ mixed Tryz.func22 (by kernel_rfl) (by kernel_rfl) (hst_none (by kernel_rfl))
noncomputable def e3 (D : HV → List HV → M HV) : Env := ⟨lk [(9, f_law22_alive D), (10, f_law22_great D), (11, f_world_Open D), (12, f_disk_New D), (13, f_law22_begun D), (14, f_commit_New D), (15, f_law22_things D), (16, f_commit_Commit_Phase D), (17, f_commit_Commit_Step D), (18, f_ref20_Good D), (19, f_ref20_Do D), (20, f_world_World_Blocks D), (21, f_world_World_Wire D), (22, f_wire_Wire_All D)], D, noG⟩
theorem d3 (D : HV → List HV → M HV) : fnD (e3 D) Tryz.prog [] a3 Tryz.f3 [] = f_law22_CommitLands D := by kernel_rfl
theorem ok3 {D : HV → List HV → M HV} (hD : DOk Tryz.prog noG D) : FnOk Tryz.prog noG 3 (f_law22_CommitLands D) := d3 D ▸ fn_ok (E := e3 D) ⟨(lk_cons (ok9 hD) (lk_cons (ok10 hD) (lk_cons (ok11 hD) (lk_cons (ok12 hD) (lk_cons (ok13 hD) (lk_cons (ok14 hD) (lk_cons (ok15 hD) (lk_cons (ok16 hD) (lk_cons (ok17 hD) (lk_cons (ok18 hD) (lk_cons (ok19 hD) (lk_cons (ok20 hD) (lk_cons (ok21 hD) (lk_cons (ok22 hD) lk_nil)))))))))))))), hD⟩ mixed Tryz.func3 (by kernel_rfl) (by kernel_rfl) (hst_none (by kernel_rfl))
noncomputable def e4 (D : HV → List HV → M HV) : Env := ⟨lk [(9, f_law22_alive D), (10, f_law22_great D), (11, f_world_Open D), (12, f_disk_New D), (13, f_law22_begun D), (14, f_commit_New D), (15, f_law22_things D), (16, f_commit_Commit_Phase D), (17, f_commit_Commit_Step D), (18, f_ref20_Good D), (19, f_ref20_Do D), (23, f_attempt_Attempt_Writes D), (24, f_disk_Disk_Crash D)], D, noG⟩
noncomputable def e5 (D : HV → List HV → M HV) : Env := ⟨lk [(9, f_law22_alive D), (10, f_law22_great D), (11, f_world_Open D), (12, f_disk_New D), (13, f_law22_begun D), (14, f_commit_New D), (16, f_commit_Commit_Phase D), (17, f_commit_Commit_Step D), (20, f_world_World_Blocks D), (23, f_attempt_Attempt_Writes D), (25, f_world_World_Token D), (26, f_token_Token_Take D), (27, f_world_World_Fail D), (28, f_token_Token_Sure D), (29, f_token_Token_Holder D), (30, f_token_Token_Commits D)], D, noG⟩
noncomputable def e6 (D : HV → List HV → M HV) : Env := ⟨lk [(9, f_law22_alive D), (10, f_law22_great D), (11, f_world_Open D), (12, f_disk_New D), (13, f_law22_begun D), (14, f_commit_New D), (16, f_commit_Commit_Phase D), (17, f_commit_Commit_Step D), (23, f_attempt_Attempt_Writes D), (25, f_world_World_Token D), (26, f_token_Token_Take D), (27, f_world_World_Fail D), (28, f_token_Token_Sure D), (30, f_token_Token_Commits D), (31, f_token_Token_Free D), (32, f_attempt_Attempt_Valid D), (33, f_ref22_Commit_Step D), (34, f_commit_Commit_Decided D), (35, f_commit_Abort D)], D, noG⟩
theorem rnok : RnOk Tryz.prog noG es [(94685864, r0_wafer_Whole), (91115101, r0_wal_Log_All_1), (69547369, r0_vault_look), (71670451, r0_tome_Tome_All_1), (38705704, r0_tome_Tome_Bytes), (89324821, r0_redo_Bytes), (82349159, r0_sheet_Sheet_Over), (45135019, r0_attempt_Attempt_Land), (49475106, r0_acts_undo)] := (rn_cons (by kernel_rfl) rd138_0 (by kernel_rfl) (rn_cons (by kernel_rfl) rd182_0 (by kernel_rfl) (rn_cons (by kernel_rfl) rd88_0 (by kernel_rfl) (rn_cons (by kernel_rfl) rd187_0 (by kernel_rfl) (rn_cons (by kernel_rfl) rd105_0 (by kernel_rfl) (rn_cons (by kernel_rfl) rd168_0 (by kernel_rfl) (rn_cons (by kernel_rfl) rd171_0 (by kernel_rfl) (rn_cons (by kernel_rfl) rd123_0 (by kernel_rfl) (rn_cons (by kernel_rfl) rd116_0 (by kernel_rfl) rn_nil)))))))))
theorem clok : ClOk Tryz.prog noG [(n_draft_by_int, f_draft_by_int), (n_wal_Log_All_1, f_wal_Log_All_1), (n_tome_Tome_All_1, f_tome_Tome_All_1), (n_slices_Backward_acts_Open_acts_Open_1, f_slices_Backward_acts_Open_acts_Open_1), (n_draft_Draft_int_All_1, f_draft_Draft_int_All_1), (n_wafer_All_1, f_wafer_All_1), (n_cell_Row_file_File_All_1, f_cell_Row_file_File_All_1), (n_draft_Draft_file_File_All_1, f_draft_Draft_file_File_All_1), (n_reads_Set_place_1, f_reads_Set_place_1), (n_draft_by_file_File, f_draft_by_file_File)] := (cl_cons (fun _ hD => ok177 hD) (cl_cons (fun _ hD => ok182 hD) (cl_cons (fun _ hD => ok187 hD) (cl_cons (fun _ hD => ok197 hD) (cl_cons (fun _ hD => ok200 hD) (cl_cons (fun _ hD => ok203 hD) (cl_cons (fun _ hD => ok205 hD) (cl_cons (fun _ hD => ok210 hD) (cl_cons (fun _ hD => ok213 hD) (cl_cons (fun _ hD => ok223 hD) cl_nil))))))))))
noncomputable abbrev lev (n : Nat) : DD := levD [(n_draft_by_int, f_draft_by_int), (n_wal_Log_All_1, f_wal_Log_All_1), (n_tome_Tome_All_1, f_tome_Tome_All_1), (n_slices_Backward_acts_Open_acts_Open_1, f_slices_Backward_acts_Open_acts_Open_1), (n_draft_Draft_int_All_1, f_draft_Draft_int_All_1), (n_wafer_All_1, f_wafer_All_1), (n_cell_Row_file_File_All_1, f_cell_Row_file_File_All_1), (n_draft_Draft_file_File_All_1, f_draft_Draft_file_File_All_1), (n_reads_Set_place_1, f_reads_Set_place_1), (n_draft_by_file_File, f_draft_by_file_File)] [(94685864, r0_wafer_Whole), (91115101, r0_wal_Log_All_1), (69547369, r0_vault_look), (71670451, r0_tome_Tome_All_1), (38705704, r0_tome_Tome_Bytes), (89324821, r0_redo_Bytes), (82349159, r0_sheet_Sheet_Over), (45135019, r0_attempt_Attempt_Land), (49475106, r0_acts_undo)] n
theorem lev_ok (n : Nat) : DOk Tryz.prog noG (lev n) := levD_ok mixed clok rnok (fun _ _ _ _ _ h => h) n
end Go.Proofs.YtbphjihgbenkdaaGreat.HP
