/- The program's functions are as these texts. Conditions: what is called as a value is told (DOk). -/
import Derived.Test.YtoogohhlmdgdpaaGreatHL5a
import Derived.Test.YtoogohhlmdgdpaaGreatHL5o
import Derived.Test.YtoogohhlmdgdpaaGreatChecked
import Derived.KernelRfl
namespace Go.Proofs.YtoogohhlmdgdpaaGreat.HL
open Go Go.Proofs
set_option maxRecDepth 100000

def a79 : Ann := (.n none .z (.n none (.n (some [.t 4 (.sc .kb)]) .z .z) .z))
def a48 : Ann := (.n none .z (.n none (.n none .z (.n (some []) (.n (some [.t 13 (.sc (.ki .i64))]) (.n none .z (.n none .z (.n none (.n none (.n none .z (.n none .z (.n (some []) (.n (some [.t 19 (.sc (.ki .i64))]) (.n none .z (.n none .z (.n none (.n none (.n none .z (.n none (.n (some [.t 40 (.sc .kb)]) .z .z) .z)) .z) .z))) .z) .z))) .z) .z))) .z) .z)) .z))
def a50 : Ann := (.n none .z (.n none (.n (some [.t 4 (.sc .kb)]) .z .z) .z))
def a77 : Ann := (.n none .z (.n none .z (.n none (.n none .z (.n (some []) (.n (some [.t 14 (.sc (.ki .i64))]) (.n none .z (.n none .z (.n none (.n none (.n none .z (.n none (.n none (.n (some [.t 42 (.sc .kb)]) .z .z) .z) (.n none .z (.n (some []) (.n (some [.t 47 (.sc (.ki .i64))]) .z .z) .z)))) .z) .z))) .z) .z)) .z)))
def a101 : Ann := (.n none .z (.n none (.n none .z (.n (some []) (.n (some [.t 8 (.sc (.ki .i64))]) .z .z) .z)) .z))
def a92 : Ann := .z
def a78 : Ann := (.n none .z (.n none .z (.n none (.n none .z (.n (some [.t 5 (.sc (.ki .i64))]) (.n (some [.t 5 (.sc (.ki .i64)), .t 10 (.sc (.ki .i64))]) (.n none .z (.n none .z (.n none (.n (some [.t 5 (.sc (.ki .i64))]) .z .z) .z))) .z) .z)) .z)))
def a47 : Ann := (.n none .z (.n none (.n none .z (.n (some []) (.n (some [.t 13 (.sc (.ki .i64))]) (.n none .z (.n none .z (.n none (.n none (.n none .z (.n none (.n (some [.t 26 (.sc .kb)]) .z .z) .z)) .z) .z))) .z) .z)) (.n none (.n none .z (.n (some []) (.n (some [.t 30 (.sc (.ki .i64))]) (.n none .z (.n none .z (.n none (.n none (.n none .z (.n none (.n none .z (.n (some []) (.n (some [.t 37 (.sc (.ki .i64))]) .z .z) .z)) (.n none .z (.n (some []) (.n (some [.t 49 (.sc (.ki .i64))]) (.n none .z (.n none .z (.n none (.n none (.n none .z (.n none (.n (some [.t 61 (.sc .kb)]) .z .z) .z)) .z) .z))) .z) .z)))) .z) .z))) .z) .z)) .z)))
def a80 : Ann := (.n none .z (.n none (.n none .z (.n (some []) (.n (some [.t 8 (.sc (.ki .i64))]) .z .z) .z)) .z))
def a49 : Ann := (.n none .z (.n none .z (.n none (.n none .z (.n (some []) (.n (some [.t 20 (.sc (.ki .i64))]) (.n none .z (.n none .z (.n none (.n none (.n none .z (.n none .z (.n (some []) (.n (some [.t 27 (.sc (.ki .i64))]) (.n none .z (.n none .z (.n none (.n (some []) (.n none .z (.n none (.n (some [.t 40 (.sc .kb)]) .z .z) .z)) .z) .z))) .z) .z))) .z) .z))) .z) .z)) (.n none .z (.n none (.n none .z (.n (some [.t 11 (.sc .kl)]) (.n (some [.t 11 (.sc .kl), .t 51 (.sc (.ki .i64))]) (.n none .z (.n none .z (.n none (.n none (.n none .z (.n none .z (.n none .z (.n none (.n none .z (.n (some []) (.n (some [.t 62 (.sc (.ki .i64))]) (.n none .z (.n none .z (.n none (.n (some []) (.n none .z (.n none (.n (some [.t 78 (.sc .kb)]) .z .z) .z)) .z) .z))) .z) .z)) .z)))) .z) .z))) .z) .z)) .z)))))
def a15 : Ann := (.n none .z (.n none .z (.n none (.n none .z (.n (some []) (.n (some [.t 18 (.sc (.ki .i64))]) .z .z) .z)) .z)))
def a51 : Ann := (.n none .z (.n none (.n none .z (.n (some []) (.n (some [.t 12 (.sc (.ki .i64))]) .z .z) .z)) (.n none (.n none .z (.n (some []) (.n (some [.t 32 (.sc (.ki .i64))]) .z .z) .z)) .z)))
def a16 : Ann := (.n none .z (.n none (.n none (.n (some [.t 23 (.sc .kb)]) .z .z) .z) (.n none .z (.n none .z (.n none (.n none .z (.n (some []) (.n (some [.t 29 (.sc (.ki .i64))]) (.n none .z (.n none .z (.n none (.n none (.n none .z (.n none (.n none (.n (some [.t 54 (.sc .kb)]) .z .z) .z) .z)) .z) .z))) .z) .z)) .z)))))
def a4 : Ann := (.n none .z (.n none .z (.n none .z (.n none .z (.n none .z (.n none (.n (some [.t 0 (.sc .kb)]) .z .z) .z))))))
def a17 : Ann := (.n none .z (.n none .z (.n none (.n none .z (.n (some []) (.n (some [.t 9 (.sc (.ki .i64))]) .z .z) .z)) .z)))
def a52 : Ann := (.n none .z (.n none .z (.n none (.n none .z (.n (some []) (.n (some [.t 9 (.sc (.ki .i64))]) .z .z) .z)) .z)))
def a18 : Ann := .z
def a19 : Ann := .z
def a5 : Ann := .z
def a20 : Ann := (.n none .z (.n none (.n (some [.t 4 (.sc .kb)]) .z .z) .z))
def a6 : Ann := .z
def a21 : Ann := .z
def a53 : Ann := .z
def a22 : Ann := (.n none .z (.n none (.n none (.r 6 [4, 7]) (.r 1 [])) .z))
def a7 : Ann := (.n none .z (.n none (.n none .z (.n (some [.t 0 (.sc .kp)]) .z .z)) (.n none (.n none (.r 12 [17, 19]) (.r 1 [])) .z)))
def a94 : Ann := .z
def a93 : Ann := (.n none .z (.n none .z (.n none .z (.n none (.n (some [.t 9 (.sc (.ki .i64))]) (.n (some [.t 9 (.sc (.ki .i64)), .t 10 (.sc (.ki .i64))]) .z .z) .z) (.n none (.n (some [.t 6 (.sc (.ki .i64)), .t 7 (.sc .kb)]) .z .z) .z)))))
def a81 : Ann := .z
def a54 : Ann := .z
def a70 : Ann := (.n none .z (.n none (.n (some [.t 4 (.sc .kb)]) .z .z) .z))
def a56 : Ann := .z
def a37 : Ann := .z
def a45 : Ann := .z
def a91 : Ann := (.n none .z (.n none (.n (some [.t 4 (.sc .kb)]) .z .z) .z))
def a76 : Ann := .z
def a46 : Ann := .z
def a13 : Ann := (.n none .z (.n none .z (.n none .z (.n none (.n none .z (.n (some [.x 3 none]) (.n (some [.t 15 (.sc (.ki .i64)), .x 3 none]) .z .z) .z)) (.n none (.n none .z (.n (some [.x 3 none]) (.n (some [.t 29 (.sc (.ki .i64)), .x 3 none]) .z .z) .z)) (.n none (.n none .z (.n (some [.x 3 none]) (.n (some [.t 46 (.sc (.ki .i64)), .x 3 none]) .z .z) .z)) .z))))))
def a14 : Ann := (.n none .z (.n none (.n none (.n (some [.t 20 (.sc .kb)]) .z .z) .z) .z))
def a68 : Ann := (.n none .z (.n none .z (.n none (.n none .z (.n (some []) (.n (some [.t 14 (.sc (.ki .i64))]) .z .z) .z)) .z)))
def a103 : Ann := (.n none .z (.n none (.n (some [.t 4 (.sc .kb)]) .z .z) .z))
def a102 : Ann := (.n none .z (.n none (.n none .z (.n (some []) (.n (some [.t 8 (.sc (.ki .i64))]) .z .z) .z)) .z))
def a95 : Ann := .z
def a82 : Ann := (.n none .z (.n none .z (.n none .z (.n none .z (.n none (.n none .z (.n (some []) .z .z)) .z)))))
def a55 : Ann := (.n none .z (.n none (.n none (.n none (.r 11 []) (.r 1 [10])) .z) .z))
def a23 : Ann := (.n none .z (.n none (.n none (.n none .z (.n none .z (.n none (.n (some [.t 14 (.sc .kb)]) .z .z) .z))) .z) .z))
def a57 : Ann := (.n none .z (.n none .z (.n none .z (.n none (.n none .z (.n (some []) .z .z)) .z))))
def a24 : Ann := (.n none .z (.n none (.n none (.n none .z (.n none .z (.n none (.n (some [.t 10 (.sc .kb)]) .z .z) .z))) .z) .z))
def a115 : Ann := .z
def a114 : Ann := (.n none .z (.n none .z (.n none .z (.n none (.n (some [.t 9 (.sc (.ki .i64))]) (.n (some [.t 9 (.sc (.ki .i64)), .t 10 (.sc (.ki .i64))]) .z .z) .z) (.n none (.n (some [.t 6 (.sc (.ki .i64)), .t 7 (.sc .kb)]) .z .z) .z)))))
def a105 : Ann := .z
def a98 : Ann := .z
def a84 : Ann := (.n none .z (.n none (.n none .z (.n (some []) .z .z)) .z))
def a58 : Ann := (.n none .z (.n none (.n none (.n none .z (.n none .z (.n none (.n (some [.t 12 (.sc .kb)]) .z .z) .z))) .z) .z))
def a59 : Ann := (.n none .z (.n none (.n none (.n (some [.t 13 (.sc .kb)]) .z .z) .z) .z))
def a25 : Ann := .z
def a99 : Ann := (.n none .z (.n none .z (.n none .z (.n none (.n none .z (.n (some []) .z (.n none (.r 11 []) (.r 1 [30])))) .z))))
def a85 : Ann := (.n none .z (.n none (.n none (.n (some [.t 20 (.sc .kb)]) .z .z) .z) .z))
def a86 : Ann := (.n none .z (.n none (.n none (.n (some [.t 13 (.sc .kb)]) .z .z) .z) (.n none .z (.n none (.n (some [.t 7 (.sc .kl)]) (.n (some [.t 7 (.sc .kl)]) .z .z) .z) .z))))
def a60 : Ann := .z
def a26 : Ann := (.n none .z (.n none .z (.n none (.n none .z (.n (some []) .z .z)) .z)))
def a87 : Ann := .z
def a61 : Ann := .z
def a27 : Ann := (.n none .z (.n none .z (.n none (.n none .z (.n (some []) .z .z)) .z)))
def a62 : Ann := .z
def a28 : Ann := (.n none .z (.n none .z (.n none (.n none .z (.n (some []) .z .z)) .z)))
def a63 : Ann := (.n none .z (.n none .z (.n none (.n none (.n none (.n (some [.t 18 (.sc .kb)]) .z .z) (.n none .z (.n none (.n (some [.t 37 (.sc .kb)]) .z .z) .z))) .z) .z)))
def a29 : Ann := (.n none .z (.n none (.n none (.n (some [.t 18 (.sc .kb)]) .z .z) .z) (.n none .z (.n none (.n none .z (.n (some [.t 8 (.sc (.ki .i64))]) .z .z)) (.n none (.n none .z (.n (some []) .z .z)) .z)))))
def a88 : Ann := (.n none .z (.n none (.n none (.n (some [.t 15 (.sc .kb)]) .z .z) .z) .z))
def a64 : Ann := .z
def a30 : Ann := (.n none .z (.n none .z (.n none (.n none .z (.n (some []) .z .z)) .z)))
def a65 : Ann := (.n none .z (.n none (.n none (.n (some [.t 25 (.sc .kb)]) .z .z) .z) .z))
def a72 : Ann := (.n none .z (.n none (.n (some [.t 2 (.sc .kb)]) .z .z) .z))
def a66 : Ann := (.n none .z (.n none (.n none (.n (some [.t 13 (.sc .kb)]) .z .z) .z) .z))
def a67 : Ann := (.n none .z (.n none (.n none (.n (some [.t 20 (.sc .kb)]) .z .z) .z) .z))
def a31 : Ann := (.n none .z (.n none (.n none (.n none .z (.n none .z (.n none (.n (some [.t 13 (.sc .kb)]) .z .z) .z))) .z) (.n none .z (.n none .z (.n none (.n none (.r 16 []) (.r 1 [41, 44])) .z)))))
def a8 : Ann := .z
def a32 : Ann := (.n none .z (.n none (.n (some [.t 2 (.sc .kb)]) (.r 12 []) (.r 1 [9])) .z))
def a69 : Ann := (.n none .z (.n none .z (.n (some []) (.n (some [.t 12 (.sc (.ki .i64))]) .z .z) .z)))
def a33 : Ann := .z
def a34 : Ann := .z
def a41 : Ann := .z
def a74 : Ann := (.n none .z (.n none .z (.n (some []) (.n (some [.t 12 (.sc (.ki .i64))]) .z .z) .z)))
def a42 : Ann := .z
def a89 : Ann := (.n none .z (.n none (.n (some [.t 2 (.sc .kb)]) .z .z) .z))
def a90 : Ann := .z
def a71 : Ann := (.n none .z (.n none (.n (some [.t 8 (.sc .kb)]) .z .z) .z))
def a35 : Ann := (.n none .z (.n none .z (.n none (.n none .z (.n (some []) (.r 82349159 [4, 5, 7]) .z)) .z)))
def a36 : Ann := (.n none .z (.n none (.n none (.n (some [.t 11 (.sc .kb)]) .z .z) .z) .z))
def a38 : Ann := (.n none .z (.n none .z (.n none (.n none (.n (some [.t 36 (.sc .kb)]) .z .z) .z) .z)))
def a9 : Ann := (.n none .z (.n none .z (.n none .z (.n none .z (.n none (.n none .z (.n (some []) (.r 45135019 [3]) .z)) (.n none .z (.n none (.n none .z (.n (some []) (.n (some [.t 57 (.sc (.ki .i64))]) (.n none .z (.n none .z (.n none (.n (some []) .z .z) .z))) .z) .z)) .z)))))))
def a11 : Ann := .z
def a43 : Ann := .z
def a75 : Ann := (.n none .z (.n (some []) (.n (some [.t 7 (.sc (.ki .i64))]) .z .z) .z))
def a44 : Ann := .z
def a12 : Ann := .z
def a73 : Ann := (.n none .z (.n none (.n none .z (.n (some []) (.r 58353469 [2]) .z)) .z))
def a39 : Ann := .z
def a40 : Ann := .z
def a10 : Ann := (.n none .z (.n none .z (.n none .z (.n none .z (.n none (.n none .z (.n (some []) (.r 78258034 [3, 5]) .z)) (.n none (.n none .z (.n (some []) (.r 19334329 [3, 5]) .z)) (.n none (.n none .z (.n (some []) (.n (some [.t 47 (.sc (.ki .i64))]) (.n none .z (.n none .z (.n none (.n (some []) .z .z) .z))) .z) .z)) .z)))))))
def a3 : Ann := (.n none .z (.n none .z (.n none (.n none (.n (some [.t 55 (.sc .kb)]) .z .z) .z) (.n none .z (.n none (.n none .z (.n (some []) (.n (some [.t 58 (.sc (.ki .i64))]) .z .z) .z)) (.n none .z (.n none (.n none .z (.n (some []) (.n (some [.t 75 (.sc (.ki .i64))]) .z .z) .z)) (.n none .z (.n none .z (.n none (.n none .z (.n (some []) (.n (some [.t 90 (.sc (.ki .i64))]) .z .z) .z)) (.n none .z (.n none .z (.n none (.n none .z (.n (some []) (.r 11373009 [6, 16, 17]) .z)) (.n none (.n none (.n (some [.t 136 (.sc .kb)]) .z .z) .z) (.n none .z (.n none .z (.n none (.n none .z (.n (some []) (.n (some [.t 21 (.sc (.ki .i64)), .t 142 (.sc (.ki .i64))]) (.n none .z (.n none .z (.n none (.n none (.n none .z (.n none (.n none (.n (some [.t 167 (.sc .kb)]) .z .z) .z) .z)) .z) .z))) .z) .z)) (.n none (.n none .z (.n (some [.t 20 (.sc (.ki .i64))]) (.n (some [.t 20 (.sc (.ki .i64)), .t 175 (.sc (.ki .i64))]) (.n none .z (.n none .z (.n none (.n none (.n none .z (.n none .z (.n (some [.t 20 (.sc (.ki .i64))]) (.n (some [.t 20 (.sc (.ki .i64)), .t 182 (.sc (.ki .i64))]) (.n none .z (.n none .z (.n none (.n (some [.t 20 (.sc (.ki .i64))]) .z .z) .z))) .z) .z))) .z) .z))) .z) .z)) (.n none .z (.n none (.n (some []) .z .z) .z))))))))))))))))))))
/-- a loop over a function -/
noncomputable def s35_0 : Nat × Site := (sitesF Tryz.f35 a35).getD 0 (0, ⟨0, #[], .skip, .skip⟩)
/-- a loop over a function -/
noncomputable def s9_0 : Nat × Site := (sitesF Tryz.f9 a9).getD 0 (0, ⟨0, #[], .skip, .skip⟩)
/-- a loop over a function -/
noncomputable def s73_0 : Nat × Site := (sitesF Tryz.f73 a73).getD 0 (0, ⟨0, #[], .skip, .skip⟩)
/-- a loop over a function -/
noncomputable def s10_0 : Nat × Site := (sitesF Tryz.f10 a10).getD 0 (0, ⟨0, #[], .skip, .skip⟩)
/-- a loop over a function -/
noncomputable def s10_1 : Nat × Site := (sitesF Tryz.f10 a10).getD 1 (0, ⟨0, #[], .skip, .skip⟩)
/-- a loop over a function -/
noncomputable def s3_0 : Nat × Site := (sitesF Tryz.f3 a3).getD 0 (0, ⟨0, #[], .skip, .skip⟩)
noncomputable def es : List (Nat × Site) := [s35_0, s9_0, s73_0, s10_0, s10_1, s3_0]
instance : Sites := ⟨fun k _ sz ps a b => siteIn es k sz ps a b⟩
noncomputable def e79 (D : HV → List HV → M HV) : Env := ⟨lk [], D, noG⟩

theorem d79 (D : HV → List HV → M HV) : fnD (e79 D) Tryz.prog [] a79 Tryz.f79 [] = f_witness_alike D := by kernel_rfl
theorem ok79 {D : HV → List HV → M HV} (hD : DOk Tryz.prog noG D) : FnOk Tryz.prog noG 79 (f_witness_alike D) := d79 D ▸ fn_ok (E := e79 D) ⟨lk_nil, hD⟩ mixed Tryz.func79 (by kernel_rfl) (by kernel_rfl) (hst_none (by kernel_rfl))

noncomputable def e48 (D : HV → List HV → M HV) : Env := ⟨lk [(79, f_witness_alike D)], D, noG⟩

theorem d48 (D : HV → List HV → M HV) : fnD (e48 D) Tryz.prog [] a48 Tryz.f48 [] = f_witness_younger D := by kernel_rfl
theorem ok48 {D : HV → List HV → M HV} (hD : DOk Tryz.prog noG D) : FnOk Tryz.prog noG 48 (f_witness_younger D) := d48 D ▸ fn_ok (E := e48 D) ⟨(lk_cons (ok79 hD) lk_nil), hD⟩ mixed Tryz.func48 (by kernel_rfl) (by kernel_rfl) (hst_none (by kernel_rfl))

noncomputable def e50 (D : HV → List HV → M HV) : Env := ⟨lk [(48, f_witness_younger D)], D, noG⟩

theorem d50 (D : HV → List HV → M HV) : fnD (e50 D) Tryz.prog [] a50 Tryz.f50 [] = f_witness_ahead D := by kernel_rfl
theorem ok50 {D : HV → List HV → M HV} (hD : DOk Tryz.prog noG D) : FnOk Tryz.prog noG 50 (f_witness_ahead D) := d50 D ▸ fn_ok (E := e50 D) ⟨(lk_cons (ok48 hD) lk_nil), hD⟩ mixed Tryz.func50 (by kernel_rfl) (by kernel_rfl) (hst_none (by kernel_rfl))

noncomputable def e77 (D : HV → List HV → M HV) : Env := ⟨lk [(79, f_witness_alike D)], D, noG⟩

theorem d77 (D : HV → List HV → M HV) : fnD (e77 D) Tryz.prog [] a77 Tryz.f77 [] = f_witness_single D := by kernel_rfl
theorem ok77 {D : HV → List HV → M HV} (hD : DOk Tryz.prog noG D) : FnOk Tryz.prog noG 77 (f_witness_single D) := d77 D ▸ fn_ok (E := e77 D) ⟨(lk_cons (ok79 hD) lk_nil), hD⟩ mixed Tryz.func77 (by kernel_rfl) (by kernel_rfl) (hst_none (by kernel_rfl))

noncomputable def e101 (D : HV → List HV → M HV) : Env := ⟨lk [], D, noG⟩

theorem d101 (D : HV → List HV → M HV) : fnD (e101 D) Tryz.prog [] a101 Tryz.f101 [] = f_slices_Index_reads_Entry_reads_Entry D := by kernel_rfl
theorem ok101 {D : HV → List HV → M HV} (hD : DOk Tryz.prog noG D) : FnOk Tryz.prog noG 101 (f_slices_Index_reads_Entry_reads_Entry D) := d101 D ▸ fn_ok (E := e101 D) ⟨lk_nil, hD⟩ mixed Tryz.func101 (by kernel_rfl) (by kernel_rfl) (hst_none (by kernel_rfl))

noncomputable def e92 (D : HV → List HV → M HV) : Env := ⟨lk [(101, f_slices_Index_reads_Entry_reads_Entry D)], D, noG⟩

theorem d92 (D : HV → List HV → M HV) : fnD (e92 D) Tryz.prog [] a92 Tryz.f92 [] = f_slices_Contains_reads_Entry_reads_Entry D := by kernel_rfl
theorem ok92 {D : HV → List HV → M HV} (hD : DOk Tryz.prog noG D) : FnOk Tryz.prog noG 92 (f_slices_Contains_reads_Entry_reads_Entry D) := d92 D ▸ fn_ok (E := e92 D) ⟨(lk_cons (ok101 hD) lk_nil), hD⟩ mixed Tryz.func92 (by kernel_rfl) (by kernel_rfl) (hst_none (by kernel_rfl))

noncomputable def e78 (D : HV → List HV → M HV) : Env := ⟨lk [(92, f_slices_Contains_reads_Entry_reads_Entry D)], D, noG⟩

theorem d78 (D : HV → List HV → M HV) : fnD (e78 D) Tryz.prog [] a78 Tryz.f78 [] = f_witness_writers D := by kernel_rfl
theorem ok78 {D : HV → List HV → M HV} (hD : DOk Tryz.prog noG D) : FnOk Tryz.prog noG 78 (f_witness_writers D) := d78 D ▸ fn_ok (E := e78 D) ⟨(lk_cons (ok92 hD) lk_nil), hD⟩ mixed Tryz.func78 (by kernel_rfl) (by kernel_rfl) (hst_none (by kernel_rfl))

noncomputable def e47 (D : HV → List HV → M HV) : Env := ⟨lk [(77, f_witness_single D), (78, f_witness_writers D)], D, noG⟩

theorem d47 (D : HV → List HV → M HV) : fnD (e47 D) Tryz.prog [] a47 Tryz.f47 [] = f_witness_can D := by kernel_rfl
theorem ok47 {D : HV → List HV → M HV} (hD : DOk Tryz.prog noG D) : FnOk Tryz.prog noG 47 (f_witness_can D) := d47 D ▸ fn_ok (E := e47 D) ⟨(lk_cons (ok77 hD) (lk_cons (ok78 hD) lk_nil)), hD⟩ mixed Tryz.func47 (by kernel_rfl) (by kernel_rfl) (hst_none (by kernel_rfl))

noncomputable def e80 (D : HV → List HV → M HV) : Env := ⟨lk [], D, noG⟩

theorem d80 (D : HV → List HV → M HV) : fnD (e80 D) Tryz.prog [] a80 Tryz.f80 [] = f_slices_Index_int_int D := by kernel_rfl
theorem ok80 {D : HV → List HV → M HV} (hD : DOk Tryz.prog noG D) : FnOk Tryz.prog noG 80 (f_slices_Index_int_int D) := d80 D ▸ fn_ok (E := e80 D) ⟨lk_nil, hD⟩ mixed Tryz.func80 (by kernel_rfl) (by kernel_rfl) (hst_none (by kernel_rfl))

noncomputable def e49 (D : HV → List HV → M HV) : Env := ⟨lk [(80, f_slices_Index_int_int D)], D, noG⟩

theorem d49 (D : HV → List HV → M HV) : fnD (e49 D) Tryz.prog [] a49 Tryz.f49 [] = f_witness_order_witness_Deed D := by kernel_rfl
theorem ok49 {D : HV → List HV → M HV} (hD : DOk Tryz.prog noG D) : FnOk Tryz.prog noG 49 (f_witness_order_witness_Deed D) := d49 D ▸ fn_ok (E := e49 D) ⟨(lk_cons (ok80 hD) lk_nil), hD⟩ mixed Tryz.func49 (by kernel_rfl) (by kernel_rfl) (hst_none (by kernel_rfl))

noncomputable def e15 (D : HV → List HV → M HV) : Env := ⟨lk [(47, f_witness_can D), (48, f_witness_younger D), (49, f_witness_order_witness_Deed D)], D, noG⟩

theorem d15 (D : HV → List HV → M HV) : fnD (e15 D) Tryz.prog [] a15 Tryz.f15 [] = f_witness_Serial D := by kernel_rfl
theorem ok15 {D : HV → List HV → M HV} (hD : DOk Tryz.prog noG D) : FnOk Tryz.prog noG 15 (f_witness_Serial D) := d15 D ▸ fn_ok (E := e15 D) ⟨(lk_cons (ok47 hD) (lk_cons (ok48 hD) (lk_cons (ok49 hD) lk_nil))), hD⟩ mixed Tryz.func15 (by kernel_rfl) (by kernel_rfl) (hst_none (by kernel_rfl))

noncomputable def e51 (D : HV → List HV → M HV) : Env := ⟨lk [], D, noG⟩

theorem d51 (D : HV → List HV → M HV) : fnD (e51 D) Tryz.prog [] a51 Tryz.f51 [] = f_witness_board_done D := by kernel_rfl
theorem ok51 {D : HV → List HV → M HV} (hD : DOk Tryz.prog noG D) : FnOk Tryz.prog noG 51 (f_witness_board_done D) := d51 D ▸ fn_ok (E := e51 D) ⟨lk_nil, hD⟩ mixed Tryz.func51 (by kernel_rfl) (by kernel_rfl) (hst_none (by kernel_rfl))

noncomputable def e16 (D : HV → List HV → M HV) : Env := ⟨lk [(47, f_witness_can D), (51, f_witness_board_done D)], D, noG⟩

theorem d16 (D : HV → List HV → M HV) : fnD (e16 D) Tryz.prog [5] a16 Tryz.f16 [] = f_witness_Replays D := by kernel_rfl
theorem ok16 {D : HV → List HV → M HV} (hD : DOk Tryz.prog noG D) : FnOk Tryz.prog noG 16 (f_witness_Replays D) := d16 D ▸ fn_ok (E := e16 D) ⟨(lk_cons (ok47 hD) (lk_cons (ok51 hD) lk_nil)), hD⟩ mixed Tryz.func16 (by kernel_rfl) (by kernel_rfl) (hst_none (by kernel_rfl))

noncomputable def e4 (D : HV → List HV → M HV) : Env := ⟨lk [(15, f_witness_Serial D), (16, f_witness_Replays D)], D, noG⟩

theorem d4 (D : HV → List HV → M HV) : fnD (e4 D) Tryz.prog [8, 11, 15, 17] a4 Tryz.f4 [] = f_law30_alive D := by kernel_rfl
theorem ok4 {D : HV → List HV → M HV} (hD : DOk Tryz.prog noG D) : FnOk Tryz.prog noG 4 (f_law30_alive D) := d4 D ▸ fn_ok (E := e4 D) ⟨(lk_cons (ok15 hD) (lk_cons (ok16 hD) lk_nil)), hD⟩ mixed Tryz.func4 (by kernel_rfl) (by kernel_rfl) (hst_none (by kernel_rfl))

noncomputable def e17 (D : HV → List HV → M HV) : Env := ⟨lk [], D, noG⟩

theorem d17 (D : HV → List HV → M HV) : fnD (e17 D) Tryz.prog [7] a17 Tryz.f17 [] = f_cell_New_int D := by kernel_rfl
theorem ok17 {D : HV → List HV → M HV} (hD : DOk Tryz.prog noG D) : FnOk Tryz.prog noG 17 (f_cell_New_int D) := d17 D ▸ fn_ok (E := e17 D) ⟨lk_nil, hD⟩ mixed Tryz.func17 (by kernel_rfl) (by kernel_rfl) (hst_none (by kernel_rfl))

noncomputable def e52 (D : HV → List HV → M HV) : Env := ⟨lk [], D, noG⟩

theorem d52 (D : HV → List HV → M HV) : fnD (e52 D) Tryz.prog [7] a52 Tryz.f52 [] = f_cell_New_file_File D := by kernel_rfl
theorem ok52 {D : HV → List HV → M HV} (hD : DOk Tryz.prog noG D) : FnOk Tryz.prog noG 52 (f_cell_New_file_File D) := d52 D ▸ fn_ok (E := e52 D) ⟨lk_nil, hD⟩ mixed Tryz.func52 (by kernel_rfl) (by kernel_rfl) (hst_none (by kernel_rfl))

noncomputable def e18 (D : HV → List HV → M HV) : Env := ⟨lk [(52, f_cell_New_file_File D)], D, noG⟩

theorem d18 (D : HV → List HV → M HV) : fnD (e18 D) Tryz.prog [4] a18 Tryz.f18 [] = f_tome_New D := by kernel_rfl
theorem ok18 {D : HV → List HV → M HV} (hD : DOk Tryz.prog noG D) : FnOk Tryz.prog noG 18 (f_tome_New D) := d18 D ▸ fn_ok (E := e18 D) ⟨(lk_cons (ok52 hD) lk_nil), hD⟩ mixed Tryz.func18 (by kernel_rfl) (by kernel_rfl) (hst_none (by kernel_rfl))

noncomputable def e19 (D : HV → List HV → M HV) : Env := ⟨lk [(17, f_cell_New_int D)], D, noG⟩

theorem d19 (D : HV → List HV → M HV) : fnD (e19 D) Tryz.prog [3] a19 Tryz.f19 [] = f_feed_New D := by kernel_rfl
theorem ok19 {D : HV → List HV → M HV} (hD : DOk Tryz.prog noG D) : FnOk Tryz.prog noG 19 (f_feed_New D) := d19 D ▸ fn_ok (E := e19 D) ⟨(lk_cons (ok17 hD) lk_nil), hD⟩ mixed Tryz.func19 (by kernel_rfl) (by kernel_rfl) (hst_none (by kernel_rfl))

noncomputable def e5 (D : HV → List HV → M HV) : Env := ⟨lk [(17, f_cell_New_int D), (18, f_tome_New D), (19, f_feed_New D)], D, noG⟩

theorem d5 (D : HV → List HV → M HV) : fnD (e5 D) Tryz.prog [5] a5 Tryz.f5 [] = f_attempt_NewView D := by kernel_rfl
theorem ok5 {D : HV → List HV → M HV} (hD : DOk Tryz.prog noG D) : FnOk Tryz.prog noG 5 (f_attempt_NewView D) := d5 D ▸ fn_ok (E := e5 D) ⟨(lk_cons (ok17 hD) (lk_cons (ok18 hD) (lk_cons (ok19 hD) lk_nil))), hD⟩ mixed Tryz.func5 (by kernel_rfl) (by kernel_rfl) (hst_none (by kernel_rfl))

noncomputable def e20 (D : HV → List HV → M HV) : Env := ⟨lk [], D, noG⟩

theorem d20 (D : HV → List HV → M HV) : fnD (e20 D) Tryz.prog [] a20 Tryz.f20 [] = f_feed_Feed_is D := by kernel_rfl
theorem ok20 {D : HV → List HV → M HV} (hD : DOk Tryz.prog noG D) : FnOk Tryz.prog noG 20 (f_feed_Feed_is D) := d20 D ▸ fn_ok (E := e20 D) ⟨lk_nil, hD⟩ mixed Tryz.func20 (by kernel_rfl) (by kernel_rfl) (hst_none (by kernel_rfl))

noncomputable def e6 (D : HV → List HV → M HV) : Env := ⟨lk [(20, f_feed_Feed_is D)], D, noG⟩

theorem d6 (D : HV → List HV → M HV) : fnD (e6 D) Tryz.prog [] a6 Tryz.f6 [] = f_feed_Feed_Arrive D := by kernel_rfl
theorem ok6 {D : HV → List HV → M HV} (hD : DOk Tryz.prog noG D) : FnOk Tryz.prog noG 6 (f_feed_Feed_Arrive D) := d6 D ▸ fn_ok (E := e6 D) ⟨(lk_cons (ok20 hD) lk_nil), hD⟩ mixed Tryz.func6 (by kernel_rfl) (by kernel_rfl) (hst_none (by kernel_rfl))

noncomputable def e21 (D : HV → List HV → M HV) : Env := ⟨lk [], D, noG⟩

theorem d21 (D : HV → List HV → M HV) : fnD (e21 D) Tryz.prog [5] a21 Tryz.f21 [] = f_reads_New D := by kernel_rfl
theorem ok21 {D : HV → List HV → M HV} (hD : DOk Tryz.prog noG D) : FnOk Tryz.prog noG 21 (f_reads_New D) := d21 D ▸ fn_ok (E := e21 D) ⟨lk_nil, hD⟩ mixed Tryz.func21 (by kernel_rfl) (by kernel_rfl) (hst_none (by kernel_rfl))

noncomputable def e53 (D : HV → List HV → M HV) : Env := ⟨lk [], D, noG⟩

theorem d53 (D : HV → List HV → M HV) : fnD (e53 D) Tryz.prog [2, 4] a53 Tryz.f53 [] = f_sheet_New D := by kernel_rfl
theorem ok53 {D : HV → List HV → M HV} (hD : DOk Tryz.prog noG D) : FnOk Tryz.prog noG 53 (f_sheet_New D) := d53 D ▸ fn_ok (E := e53 D) ⟨lk_nil, hD⟩ mixed Tryz.func53 (by kernel_rfl) (by kernel_rfl) (hst_none (by kernel_rfl))

noncomputable def e22 (D : HV → List HV → M HV) : Env := ⟨lk [(53, f_sheet_New D)], D, noG⟩

theorem d22 (D : HV → List HV → M HV) : fnD (e22 D) Tryz.prog [4, 7] a22 Tryz.f22 [] = f_mark_Fresh D := by kernel_rfl
theorem ok22 {D : HV → List HV → M HV} (hD : DOk Tryz.prog noG D) : FnOk Tryz.prog noG 22 (f_mark_Fresh D) := d22 D ▸ fn_ok (E := e22 D) ⟨(lk_cons (ok53 hD) lk_nil), hD⟩ mixed Tryz.func22 (by kernel_rfl) (by kernel_rfl) (hst_none (by kernel_rfl))

noncomputable def e7 (D : HV → List HV → M HV) : Env := ⟨lk [(5, f_attempt_NewView D), (21, f_reads_New D), (22, f_mark_Fresh D)], D, noG⟩

theorem d7 (D : HV → List HV → M HV) : fnD (e7 D) Tryz.prog [17, 19, 21] a7 Tryz.f7 [] = f_attempt_New D := by kernel_rfl
theorem ok7 {D : HV → List HV → M HV} (hD : DOk Tryz.prog noG D) : FnOk Tryz.prog noG 7 (f_attempt_New D) := d7 D ▸ fn_ok (E := e7 D) ⟨(lk_cons (ok5 hD) (lk_cons (ok21 hD) (lk_cons (ok22 hD) lk_nil))), hD⟩ mixed Tryz.func7 (by kernel_rfl) (by kernel_rfl) (hst_none (by kernel_rfl))

noncomputable def e94 (D : HV → List HV → M HV) : Env := ⟨lk [], D, noG⟩

theorem d94 (D : HV → List HV → M HV) : fnD (e94 D) Tryz.prog [] a94 Tryz.f94 [] = f_draft_by_int D := by kernel_rfl
theorem ok94 {D : HV → List HV → M HV} (hD : DOk Tryz.prog noG D) : FnOk Tryz.prog noG 94 (f_draft_by_int D) := d94 D ▸ fn_ok (E := e94 D) ⟨lk_nil, hD⟩ mixed Tryz.func94 (by kernel_rfl) (by kernel_rfl) (hst_none (by kernel_rfl))

noncomputable def e93 (D : HV → List HV → M HV) : Env := ⟨lk [], D, noG⟩

theorem d93 (D : HV → List HV → M HV) : fnD (e93 D) Tryz.prog [] a93 Tryz.f93 [] = f_slices_BinarySearchFunc_draft_entry_int_draft_entry_int_int D := by kernel_rfl
theorem ok93 {D : HV → List HV → M HV} (hD : DOk Tryz.prog noG D) : FnOk Tryz.prog noG 93 (f_slices_BinarySearchFunc_draft_entry_int_draft_entry_int_int D) := d93 D ▸ fn_ok (E := e93 D) ⟨lk_nil, hD⟩ mixed Tryz.func93 (by kernel_rfl) (by kernel_rfl) (hst_none (by kernel_rfl))

noncomputable def e81 (D : HV → List HV → M HV) : Env := ⟨lk [(93, f_slices_BinarySearchFunc_draft_entry_int_draft_entry_int_int D)], D, noG⟩

theorem d81 (D : HV → List HV → M HV) : fnD (e81 D) Tryz.prog [] a81 Tryz.f81 [] = f_draft_Draft_int_find D := by kernel_rfl
theorem ok81 {D : HV → List HV → M HV} (hD : DOk Tryz.prog noG D) : FnOk Tryz.prog noG 81 (f_draft_Draft_int_find D) := d81 D ▸ fn_ok (E := e81 D) ⟨(lk_cons (ok93 hD) lk_nil), hD⟩ mixed Tryz.func81 (by kernel_rfl) (by kernel_rfl) (hst_none (by kernel_rfl))

noncomputable def e54 (D : HV → List HV → M HV) : Env := ⟨lk [(81, f_draft_Draft_int_find D)], D, noG⟩

theorem d54 (D : HV → List HV → M HV) : fnD (e54 D) Tryz.prog [] a54 Tryz.f54 [] = f_draft_Draft_int_Get D := by kernel_rfl
theorem ok54 {D : HV → List HV → M HV} (hD : DOk Tryz.prog noG D) : FnOk Tryz.prog noG 54 (f_draft_Draft_int_Get D) := d54 D ▸ fn_ok (E := e54 D) ⟨(lk_cons (ok81 hD) lk_nil), hD⟩ mixed Tryz.func54 (by kernel_rfl) (by kernel_rfl) (hst_none (by kernel_rfl))

noncomputable def e70 (D : HV → List HV → M HV) : Env := ⟨lk [], D, noG⟩

theorem d70 (D : HV → List HV → M HV) : fnD (e70 D) Tryz.prog [] a70 Tryz.f70 [] = f_cell_Row_int_is D := by kernel_rfl
theorem ok70 {D : HV → List HV → M HV} (hD : DOk Tryz.prog noG D) : FnOk Tryz.prog noG 70 (f_cell_Row_int_is D) := d70 D ▸ fn_ok (E := e70 D) ⟨lk_nil, hD⟩ mixed Tryz.func70 (by kernel_rfl) (by kernel_rfl) (hst_none (by kernel_rfl))

noncomputable def e56 (D : HV → List HV → M HV) : Env := ⟨lk [(70, f_cell_Row_int_is D)], D, noG⟩

theorem d56 (D : HV → List HV → M HV) : fnD (e56 D) Tryz.prog [] a56 Tryz.f56 [] = f_cell_Row_int_Get D := by kernel_rfl
theorem ok56 {D : HV → List HV → M HV} (hD : DOk Tryz.prog noG D) : FnOk Tryz.prog noG 56 (f_cell_Row_int_Get D) := d56 D ▸ fn_ok (E := e56 D) ⟨(lk_cons (ok70 hD) lk_nil), hD⟩ mixed Tryz.func56 (by kernel_rfl) (by kernel_rfl) (hst_none (by kernel_rfl))

noncomputable def e37 (D : HV → List HV → M HV) : Env := ⟨lk [(56, f_cell_Row_int_Get D)], D, noG⟩

theorem d37 (D : HV → List HV → M HV) : fnD (e37 D) Tryz.prog [] a37 Tryz.f37 [] = f_feed_Feed_Place D := by kernel_rfl
theorem ok37 {D : HV → List HV → M HV} (hD : DOk Tryz.prog noG D) : FnOk Tryz.prog noG 37 (f_feed_Feed_Place D) := d37 D ▸ fn_ok (E := e37 D) ⟨(lk_cons (ok56 hD) lk_nil), hD⟩ mixed Tryz.func37 (by kernel_rfl) (by kernel_rfl) (hst_none (by kernel_rfl))

noncomputable def e45 (D : HV → List HV → M HV) : Env := ⟨lk [(56, f_cell_Row_int_Get D)], D, noG⟩

theorem d45 (D : HV → List HV → M HV) : fnD (e45 D) Tryz.prog [] a45 Tryz.f45 [] = f_cell_Row_int_Version D := by kernel_rfl
theorem ok45 {D : HV → List HV → M HV} (hD : DOk Tryz.prog noG D) : FnOk Tryz.prog noG 45 (f_cell_Row_int_Version D) := d45 D ▸ fn_ok (E := e45 D) ⟨(lk_cons (ok56 hD) lk_nil), hD⟩ mixed Tryz.func45 (by kernel_rfl) (by kernel_rfl) (hst_none (by kernel_rfl))

noncomputable def e91 (D : HV → List HV → M HV) : Env := ⟨lk [], D, noG⟩

theorem d91 (D : HV → List HV → M HV) : fnD (e91 D) Tryz.prog [] a91 Tryz.f91 [] = f_cell_Row_file_File_is D := by kernel_rfl
theorem ok91 {D : HV → List HV → M HV} (hD : DOk Tryz.prog noG D) : FnOk Tryz.prog noG 91 (f_cell_Row_file_File_is D) := d91 D ▸ fn_ok (E := e91 D) ⟨lk_nil, hD⟩ mixed Tryz.func91 (by kernel_rfl) (by kernel_rfl) (hst_none (by kernel_rfl))

noncomputable def e76 (D : HV → List HV → M HV) : Env := ⟨lk [(91, f_cell_Row_file_File_is D)], D, noG⟩

theorem d76 (D : HV → List HV → M HV) : fnD (e76 D) Tryz.prog [] a76 Tryz.f76 [] = f_cell_Row_file_File_Get D := by kernel_rfl
theorem ok76 {D : HV → List HV → M HV} (hD : DOk Tryz.prog noG D) : FnOk Tryz.prog noG 76 (f_cell_Row_file_File_Get D) := d76 D ▸ fn_ok (E := e76 D) ⟨(lk_cons (ok91 hD) lk_nil), hD⟩ mixed Tryz.func76 (by kernel_rfl) (by kernel_rfl) (hst_none (by kernel_rfl))

noncomputable def e46 (D : HV → List HV → M HV) : Env := ⟨lk [(76, f_cell_Row_file_File_Get D)], D, noG⟩

theorem d46 (D : HV → List HV → M HV) : fnD (e46 D) Tryz.prog [] a46 Tryz.f46 [] = f_tome_Tome_Get D := by kernel_rfl
theorem ok46 {D : HV → List HV → M HV} (hD : DOk Tryz.prog noG D) : FnOk Tryz.prog noG 46 (f_tome_Tome_Get D) := d46 D ▸ fn_ok (E := e46 D) ⟨(lk_cons (ok76 hD) lk_nil), hD⟩ mixed Tryz.func46 (by kernel_rfl) (by kernel_rfl) (hst_none (by kernel_rfl))

noncomputable def e13 (D : HV → List HV → M HV) : Env := ⟨lk [(37, f_feed_Feed_Place D), (45, f_cell_Row_int_Version D), (46, f_tome_Tome_Get D)], D, noG⟩

theorem d13 (D : HV → List HV → M HV) : fnD (e13 D) Tryz.prog [] a13 Tryz.f13 [] = f_attempt_View_Now D := by kernel_rfl
theorem ok13 {D : HV → List HV → M HV} (hD : DOk Tryz.prog noG D) : FnOk Tryz.prog noG 13 (f_attempt_View_Now D) := d13 D ▸ fn_ok (E := e13 D) ⟨(lk_cons (ok37 hD) (lk_cons (ok45 hD) (lk_cons (ok46 hD) lk_nil))), hD⟩ mixed Tryz.func13 (by kernel_rfl) (by kernel_rfl) (hst_none (by kernel_rfl))

noncomputable def e14 (D : HV → List HV → M HV) : Env := ⟨lk [], D, noG⟩

theorem d14 (D : HV → List HV → M HV) : fnD (e14 D) Tryz.prog [] a14 Tryz.f14 [] = f_reads_Now_Of D := by kernel_rfl
theorem ok14 {D : HV → List HV → M HV} (hD : DOk Tryz.prog noG D) : FnOk Tryz.prog noG 14 (f_reads_Now_Of D) := d14 D ▸ fn_ok (E := e14 D) ⟨lk_nil, hD⟩ mixed Tryz.func14 (by kernel_rfl) (by kernel_rfl) (hst_none (by kernel_rfl))

noncomputable def e68 (D : HV → List HV → M HV) : Env := ⟨lk [(14, f_reads_Now_Of D)], D, noG⟩

theorem d68 (D : HV → List HV → M HV) : fnD (e68 D) Tryz.prog [] a68 Tryz.f68 [] = f_reads_Set_Valid D := by kernel_rfl
theorem ok68 {D : HV → List HV → M HV} (hD : DOk Tryz.prog noG D) : FnOk Tryz.prog noG 68 (f_reads_Set_Valid D) := d68 D ▸ fn_ok (E := e68 D) ⟨(lk_cons (ok14 hD) lk_nil), hD⟩ mixed Tryz.func68 (by kernel_rfl) (by kernel_rfl) (hst_none (by kernel_rfl))

noncomputable def e103 (D : HV → List HV → M HV) : Env := ⟨lk [], D, noG⟩

theorem d103 (D : HV → List HV → M HV) : fnD (e103 D) Tryz.prog [] a103 Tryz.f103 [.sc .kp, .sc .kp] = f_reads_Set_place_1 D := by kernel_rfl
theorem ok103 {D : HV → List HV → M HV} (hD : DOk Tryz.prog noG D) : FnOk Tryz.prog noG 103 (f_reads_Set_place_1 D) := d103 D ▸ fn_ok (E := e103 D) ⟨lk_nil, hD⟩ mixed Tryz.func103 (by kernel_rfl) (by kernel_rfl) (hst_none (by kernel_rfl))

noncomputable def e102 (D : HV → List HV → M HV) : Env := ⟨lk [], D, noG⟩

theorem d102 (D : HV → List HV → M HV) : fnD (e102 D) Tryz.prog [] a102 Tryz.f102 [] = f_slices_IndexFunc_reads_Entry_reads_Entry D := by kernel_rfl
theorem ok102 {D : HV → List HV → M HV} (hD : DOk Tryz.prog noG D) : FnOk Tryz.prog noG 102 (f_slices_IndexFunc_reads_Entry_reads_Entry D) := d102 D ▸ fn_ok (E := e102 D) ⟨lk_nil, hD⟩ mixed Tryz.func102 (by kernel_rfl) (by kernel_rfl) (hst_none (by kernel_rfl))

noncomputable def e95 (D : HV → List HV → M HV) : Env := ⟨lk [(102, f_slices_IndexFunc_reads_Entry_reads_Entry D)], D, noG⟩

theorem d95 (D : HV → List HV → M HV) : fnD (e95 D) Tryz.prog [4, 5] a95 Tryz.f95 [] = f_reads_Set_place D := by kernel_rfl
theorem ok95 {D : HV → List HV → M HV} (hD : DOk Tryz.prog noG D) : FnOk Tryz.prog noG 95 (f_reads_Set_place D) := d95 D ▸ fn_ok (E := e95 D) ⟨(lk_cons (ok102 hD) lk_nil), hD⟩ mixed Tryz.func95 (by kernel_rfl) (by kernel_rfl) (hst_none (by kernel_rfl))

noncomputable def e82 (D : HV → List HV → M HV) : Env := ⟨lk [(14, f_reads_Now_Of D), (68, f_reads_Set_Valid D), (95, f_reads_Set_place D)], D, noG⟩

theorem d82 (D : HV → List HV → M HV) : fnD (e82 D) Tryz.prog [] a82 Tryz.f82 [] = f_reads_Set_Note D := by kernel_rfl
theorem ok82 {D : HV → List HV → M HV} (hD : DOk Tryz.prog noG D) : FnOk Tryz.prog noG 82 (f_reads_Set_Note D) := d82 D ▸ fn_ok (E := e82 D) ⟨(lk_cons (ok14 hD) (lk_cons (ok68 hD) (lk_cons (ok95 hD) lk_nil))), hD⟩ mixed Tryz.func82 (by kernel_rfl) (by kernel_rfl) (hst_none (by kernel_rfl))

noncomputable def e55 (D : HV → List HV → M HV) : Env := ⟨lk [(13, f_attempt_View_Now D), (82, f_reads_Set_Note D)], D, noG⟩

theorem d55 (D : HV → List HV → M HV) : fnD (e55 D) Tryz.prog [] a55 Tryz.f55 [] = f_attempt_Attempt_note D := by kernel_rfl
theorem ok55 {D : HV → List HV → M HV} (hD : DOk Tryz.prog noG D) : FnOk Tryz.prog noG 55 (f_attempt_Attempt_note D) := d55 D ▸ fn_ok (E := e55 D) ⟨(lk_cons (ok13 hD) (lk_cons (ok82 hD) lk_nil)), hD⟩ mixed Tryz.func55 (by kernel_rfl) (by kernel_rfl) (hst_none (by kernel_rfl))

noncomputable def e23 (D : HV → List HV → M HV) : Env := ⟨lk [(54, f_draft_Draft_int_Get D), (55, f_attempt_Attempt_note D), (56, f_cell_Row_int_Get D)], D, noG⟩

theorem d23 (D : HV → List HV → M HV) : fnD (e23 D) Tryz.prog [] a23 Tryz.f23 [] = f_attempt_Attempt_Load D := by kernel_rfl
theorem ok23 {D : HV → List HV → M HV} (hD : DOk Tryz.prog noG D) : FnOk Tryz.prog noG 23 (f_attempt_Attempt_Load D) := d23 D ▸ fn_ok (E := e23 D) ⟨(lk_cons (ok54 hD) (lk_cons (ok55 hD) (lk_cons (ok56 hD) lk_nil))), hD⟩ mixed Tryz.func23 (by kernel_rfl) (by kernel_rfl) (hst_none (by kernel_rfl))

noncomputable def e57 (D : HV → List HV → M HV) : Env := ⟨lk [(81, f_draft_Draft_int_find D), (83, f_slices_Insert_draft_entry_int_draft_entry_int D)], D, noG⟩

theorem d57 (D : HV → List HV → M HV) : fnD (e57 D) Tryz.prog [35] a57 Tryz.f57 [] = f_draft_Draft_int_Put D := by kernel_rfl
theorem ok57 {D : HV → List HV → M HV} (hD : DOk Tryz.prog noG D) : FnOk Tryz.prog noG 57 (f_draft_Draft_int_Put D) := d57 D ▸ fn_ok (E := e57 D) ⟨(lk_cons (ok81 hD) (lk_cons (ok83 hD) lk_nil)), hD⟩ mixed Tryz.func57 (by kernel_rfl) (by kernel_rfl) (hst_none (by kernel_rfl))

noncomputable def e24 (D : HV → List HV → M HV) : Env := ⟨lk [(57, f_draft_Draft_int_Put D)], D, noG⟩

theorem d24 (D : HV → List HV → M HV) : fnD (e24 D) Tryz.prog [] a24 Tryz.f24 [] = f_attempt_Attempt_Store D := by kernel_rfl
theorem ok24 {D : HV → List HV → M HV} (hD : DOk Tryz.prog noG D) : FnOk Tryz.prog noG 24 (f_attempt_Attempt_Store D) := d24 D ▸ fn_ok (E := e24 D) ⟨(lk_cons (ok57 hD) lk_nil), hD⟩ mixed Tryz.func24 (by kernel_rfl) (by kernel_rfl) (hst_none (by kernel_rfl))

noncomputable def e115 (D : HV → List HV → M HV) : Env := ⟨lk [], D, noG⟩

theorem d115 (D : HV → List HV → M HV) : fnD (e115 D) Tryz.prog [] a115 Tryz.f115 [] = f_draft_by_file_File D := by kernel_rfl
theorem ok115 {D : HV → List HV → M HV} (hD : DOk Tryz.prog noG D) : FnOk Tryz.prog noG 115 (f_draft_by_file_File D) := d115 D ▸ fn_ok (E := e115 D) ⟨lk_nil, hD⟩ mixed Tryz.func115 (by kernel_rfl) (by kernel_rfl) (hst_none (by kernel_rfl))

noncomputable def e114 (D : HV → List HV → M HV) : Env := ⟨lk [], D, noG⟩

theorem d114 (D : HV → List HV → M HV) : fnD (e114 D) Tryz.prog [] a114 Tryz.f114 [] = f_slices_BinarySearchFunc_draft_entry_file_File_draft_entry_file_File_int D := by kernel_rfl
theorem ok114 {D : HV → List HV → M HV} (hD : DOk Tryz.prog noG D) : FnOk Tryz.prog noG 114 (f_slices_BinarySearchFunc_draft_entry_file_File_draft_entry_file_File_int D) := d114 D ▸ fn_ok (E := e114 D) ⟨lk_nil, hD⟩ mixed Tryz.func114 (by kernel_rfl) (by kernel_rfl) (hst_none (by kernel_rfl))

noncomputable def e105 (D : HV → List HV → M HV) : Env := ⟨lk [(114, f_slices_BinarySearchFunc_draft_entry_file_File_draft_entry_file_File_int D)], D, noG⟩

theorem d105 (D : HV → List HV → M HV) : fnD (e105 D) Tryz.prog [] a105 Tryz.f105 [] = f_draft_Draft_file_File_find D := by kernel_rfl
theorem ok105 {D : HV → List HV → M HV} (hD : DOk Tryz.prog noG D) : FnOk Tryz.prog noG 105 (f_draft_Draft_file_File_find D) := d105 D ▸ fn_ok (E := e105 D) ⟨(lk_cons (ok114 hD) lk_nil), hD⟩ mixed Tryz.func105 (by kernel_rfl) (by kernel_rfl) (hst_none (by kernel_rfl))

noncomputable def e98 (D : HV → List HV → M HV) : Env := ⟨lk [(105, f_draft_Draft_file_File_find D)], D, noG⟩

theorem d98 (D : HV → List HV → M HV) : fnD (e98 D) Tryz.prog [] a98 Tryz.f98 [] = f_draft_Draft_file_File_Get D := by kernel_rfl
theorem ok98 {D : HV → List HV → M HV} (hD : DOk Tryz.prog noG D) : FnOk Tryz.prog noG 98 (f_draft_Draft_file_File_Get D) := d98 D ▸ fn_ok (E := e98 D) ⟨(lk_cons (ok105 hD) lk_nil), hD⟩ mixed Tryz.func98 (by kernel_rfl) (by kernel_rfl) (hst_none (by kernel_rfl))

noncomputable def e84 (D : HV → List HV → M HV) : Env := ⟨lk [(46, f_tome_Tome_Get D), (98, f_draft_Draft_file_File_Get D)], D, noG⟩

theorem d84 (D : HV → List HV → M HV) : fnD (e84 D) Tryz.prog [] a84 Tryz.f84 [] = f_sheet_Sheet_Get D := by kernel_rfl
theorem ok84 {D : HV → List HV → M HV} (hD : DOk Tryz.prog noG D) : FnOk Tryz.prog noG 84 (f_sheet_Sheet_Get D) := d84 D ▸ fn_ok (E := e84 D) ⟨(lk_cons (ok46 hD) (lk_cons (ok98 hD) lk_nil)), hD⟩ mixed Tryz.func84 (by kernel_rfl) (by kernel_rfl) (hst_none (by kernel_rfl))

noncomputable def e58 (D : HV → List HV → M HV) : Env := ⟨lk [(55, f_attempt_Attempt_note D), (84, f_sheet_Sheet_Get D)], D, noG⟩

theorem d58 (D : HV → List HV → M HV) : fnD (e58 D) Tryz.prog [] a58 Tryz.f58 [] = f_attempt_Attempt_touch D := by kernel_rfl
theorem ok58 {D : HV → List HV → M HV} (hD : DOk Tryz.prog noG D) : FnOk Tryz.prog noG 58 (f_attempt_Attempt_touch D) := d58 D ▸ fn_ok (E := e58 D) ⟨(lk_cons (ok55 hD) (lk_cons (ok84 hD) lk_nil)), hD⟩ mixed Tryz.func58 (by kernel_rfl) (by kernel_rfl) (hst_none (by kernel_rfl))

noncomputable def e59 (D : HV → List HV → M HV) : Env := ⟨lk [], D, noG⟩

theorem d59 (D : HV → List HV → M HV) : fnD (e59 D) Tryz.prog [] a59 Tryz.f59 [] = f_file_At D := by kernel_rfl
theorem ok59 {D : HV → List HV → M HV} (hD : DOk Tryz.prog noG D) : FnOk Tryz.prog noG 59 (f_file_At D) := d59 D ▸ fn_ok (E := e59 D) ⟨lk_nil, hD⟩ mixed Tryz.func59 (by kernel_rfl) (by kernel_rfl) (hst_none (by kernel_rfl))

noncomputable def e25 (D : HV → List HV → M HV) : Env := ⟨lk [(58, f_attempt_Attempt_touch D), (59, f_file_At D)], D, noG⟩

theorem d25 (D : HV → List HV → M HV) : fnD (e25 D) Tryz.prog [] a25 Tryz.f25 [] = f_attempt_Attempt_Read D := by kernel_rfl
theorem ok25 {D : HV → List HV → M HV} (hD : DOk Tryz.prog noG D) : FnOk Tryz.prog noG 25 (f_attempt_Attempt_Read D) := d25 D ▸ fn_ok (E := e25 D) ⟨(lk_cons (ok58 hD) (lk_cons (ok59 hD) lk_nil)), hD⟩ mixed Tryz.func25 (by kernel_rfl) (by kernel_rfl) (hst_none (by kernel_rfl))

noncomputable def e99 (D : HV → List HV → M HV) : Env := ⟨lk [(105, f_draft_Draft_file_File_find D), (106, f_slices_Insert_draft_entry_file_File_draft_entry_file_File D)], D, noG⟩

theorem d99 (D : HV → List HV → M HV) : fnD (e99 D) Tryz.prog [35] a99 Tryz.f99 [] = f_draft_Draft_file_File_Put D := by kernel_rfl
theorem ok99 {D : HV → List HV → M HV} (hD : DOk Tryz.prog noG D) : FnOk Tryz.prog noG 99 (f_draft_Draft_file_File_Put D) := d99 D ▸ fn_ok (E := e99 D) ⟨(lk_cons (ok105 hD) (lk_cons (ok106 hD) lk_nil)), hD⟩ mixed Tryz.func99 (by kernel_rfl) (by kernel_rfl) (hst_none (by kernel_rfl))

noncomputable def e85 (D : HV → List HV → M HV) : Env := ⟨lk [(84, f_sheet_Sheet_Get D), (99, f_draft_Draft_file_File_Put D)], D, noG⟩

theorem d85 (D : HV → List HV → M HV) : fnD (e85 D) Tryz.prog [] a85 Tryz.f85 [] = f_sheet_Sheet_put D := by kernel_rfl
theorem ok85 {D : HV → List HV → M HV} (hD : DOk Tryz.prog noG D) : FnOk Tryz.prog noG 85 (f_sheet_Sheet_put D) := d85 D ▸ fn_ok (E := e85 D) ⟨(lk_cons (ok84 hD) (lk_cons (ok99 hD) lk_nil)), hD⟩ mixed Tryz.func85 (by kernel_rfl) (by kernel_rfl) (hst_none (by kernel_rfl))

noncomputable def e86 (D : HV → List HV → M HV) : Env := ⟨lk [], D, noG⟩

theorem d86 (D : HV → List HV → M HV) : fnD (e86 D) Tryz.prog [] a86 Tryz.f86 [] = f_file_Put D := by kernel_rfl
theorem ok86 {D : HV → List HV → M HV} (hD : DOk Tryz.prog noG D) : FnOk Tryz.prog noG 86 (f_file_Put D) := d86 D ▸ fn_ok (E := e86 D) ⟨lk_nil, hD⟩ mixed Tryz.func86 (by kernel_rfl) (by kernel_rfl) (hst_none (by kernel_rfl))

noncomputable def e60 (D : HV → List HV → M HV) : Env := ⟨lk [(84, f_sheet_Sheet_Get D), (85, f_sheet_Sheet_put D), (86, f_file_Put D)], D, noG⟩

theorem d60 (D : HV → List HV → M HV) : fnD (e60 D) Tryz.prog [] a60 Tryz.f60 [] = f_sheet_Sheet_Write D := by kernel_rfl
theorem ok60 {D : HV → List HV → M HV} (hD : DOk Tryz.prog noG D) : FnOk Tryz.prog noG 60 (f_sheet_Sheet_Write D) := d60 D ▸ fn_ok (E := e60 D) ⟨(lk_cons (ok84 hD) (lk_cons (ok85 hD) (lk_cons (ok86 hD) lk_nil))), hD⟩ mixed Tryz.func60 (by kernel_rfl) (by kernel_rfl) (hst_none (by kernel_rfl))

noncomputable def e26 (D : HV → List HV → M HV) : Env := ⟨lk [(58, f_attempt_Attempt_touch D), (60, f_sheet_Sheet_Write D)], D, noG⟩

theorem d26 (D : HV → List HV → M HV) : fnD (e26 D) Tryz.prog [] a26 Tryz.f26 [] = f_attempt_Attempt_Write D := by kernel_rfl
theorem ok26 {D : HV → List HV → M HV} (hD : DOk Tryz.prog noG D) : FnOk Tryz.prog noG 26 (f_attempt_Attempt_Write D) := d26 D ▸ fn_ok (E := e26 D) ⟨(lk_cons (ok58 hD) (lk_cons (ok60 hD) lk_nil)), hD⟩ mixed Tryz.func26 (by kernel_rfl) (by kernel_rfl) (hst_none (by kernel_rfl))

noncomputable def e87 (D : HV → List HV → M HV) : Env := ⟨lk [], D, noG⟩

theorem d87 (D : HV → List HV → M HV) : fnD (e87 D) Tryz.prog [] a87 Tryz.f87 [] = f_file_Make D := by kernel_rfl
theorem ok87 {D : HV → List HV → M HV} (hD : DOk Tryz.prog noG D) : FnOk Tryz.prog noG 87 (f_file_Make D) := d87 D ▸ fn_ok (E := e87 D) ⟨lk_nil, hD⟩ mixed Tryz.func87 (by kernel_rfl) (by kernel_rfl) (hst_none (by kernel_rfl))

noncomputable def e61 (D : HV → List HV → M HV) : Env := ⟨lk [(84, f_sheet_Sheet_Get D), (85, f_sheet_Sheet_put D), (87, f_file_Make D)], D, noG⟩

theorem d61 (D : HV → List HV → M HV) : fnD (e61 D) Tryz.prog [] a61 Tryz.f61 [] = f_sheet_Sheet_Create D := by kernel_rfl
theorem ok61 {D : HV → List HV → M HV} (hD : DOk Tryz.prog noG D) : FnOk Tryz.prog noG 61 (f_sheet_Sheet_Create D) := d61 D ▸ fn_ok (E := e61 D) ⟨(lk_cons (ok84 hD) (lk_cons (ok85 hD) (lk_cons (ok87 hD) lk_nil))), hD⟩ mixed Tryz.func61 (by kernel_rfl) (by kernel_rfl) (hst_none (by kernel_rfl))

noncomputable def e27 (D : HV → List HV → M HV) : Env := ⟨lk [(58, f_attempt_Attempt_touch D), (61, f_sheet_Sheet_Create D)], D, noG⟩

theorem d27 (D : HV → List HV → M HV) : fnD (e27 D) Tryz.prog [] a27 Tryz.f27 [] = f_attempt_Attempt_Create D := by kernel_rfl
theorem ok27 {D : HV → List HV → M HV} (hD : DOk Tryz.prog noG D) : FnOk Tryz.prog noG 27 (f_attempt_Attempt_Create D) := d27 D ▸ fn_ok (E := e27 D) ⟨(lk_cons (ok58 hD) (lk_cons (ok61 hD) lk_nil)), hD⟩ mixed Tryz.func27 (by kernel_rfl) (by kernel_rfl) (hst_none (by kernel_rfl))

noncomputable def e62 (D : HV → List HV → M HV) : Env := ⟨lk [(85, f_sheet_Sheet_put D)], D, noG⟩

theorem d62 (D : HV → List HV → M HV) : fnD (e62 D) Tryz.prog [] a62 Tryz.f62 [] = f_sheet_Sheet_Remove D := by kernel_rfl
theorem ok62 {D : HV → List HV → M HV} (hD : DOk Tryz.prog noG D) : FnOk Tryz.prog noG 62 (f_sheet_Sheet_Remove D) := d62 D ▸ fn_ok (E := e62 D) ⟨(lk_cons (ok85 hD) lk_nil), hD⟩ mixed Tryz.func62 (by kernel_rfl) (by kernel_rfl) (hst_none (by kernel_rfl))

noncomputable def e28 (D : HV → List HV → M HV) : Env := ⟨lk [(58, f_attempt_Attempt_touch D), (62, f_sheet_Sheet_Remove D)], D, noG⟩

theorem d28 (D : HV → List HV → M HV) : fnD (e28 D) Tryz.prog [] a28 Tryz.f28 [] = f_attempt_Attempt_Remove D := by kernel_rfl
theorem ok28 {D : HV → List HV → M HV} (hD : DOk Tryz.prog noG D) : FnOk Tryz.prog noG 28 (f_attempt_Attempt_Remove D) := d28 D ▸ fn_ok (E := e28 D) ⟨(lk_cons (ok58 hD) (lk_cons (ok62 hD) lk_nil)), hD⟩ mixed Tryz.func28 (by kernel_rfl) (by kernel_rfl) (hst_none (by kernel_rfl))

noncomputable def e63 (D : HV → List HV → M HV) : Env := ⟨lk [(84, f_sheet_Sheet_Get D), (85, f_sheet_Sheet_put D)], D, noG⟩

theorem d63 (D : HV → List HV → M HV) : fnD (e63 D) Tryz.prog [] a63 Tryz.f63 [] = f_sheet_Sheet_Rename D := by kernel_rfl
theorem ok63 {D : HV → List HV → M HV} (hD : DOk Tryz.prog noG D) : FnOk Tryz.prog noG 63 (f_sheet_Sheet_Rename D) := d63 D ▸ fn_ok (E := e63 D) ⟨(lk_cons (ok84 hD) (lk_cons (ok85 hD) lk_nil)), hD⟩ mixed Tryz.func63 (by kernel_rfl) (by kernel_rfl) (hst_none (by kernel_rfl))

noncomputable def e29 (D : HV → List HV → M HV) : Env := ⟨lk [(58, f_attempt_Attempt_touch D), (63, f_sheet_Sheet_Rename D)], D, noG⟩

theorem d29 (D : HV → List HV → M HV) : fnD (e29 D) Tryz.prog [] a29 Tryz.f29 [] = f_attempt_Attempt_Rename D := by kernel_rfl
theorem ok29 {D : HV → List HV → M HV} (hD : DOk Tryz.prog noG D) : FnOk Tryz.prog noG 29 (f_attempt_Attempt_Rename D) := d29 D ▸ fn_ok (E := e29 D) ⟨(lk_cons (ok58 hD) (lk_cons (ok63 hD) lk_nil)), hD⟩ mixed Tryz.func29 (by kernel_rfl) (by kernel_rfl) (hst_none (by kernel_rfl))

noncomputable def e88 (D : HV → List HV → M HV) : Env := ⟨lk [(100, f_strings_Repeat D)], D, noG⟩

theorem d88 (D : HV → List HV → M HV) : fnD (e88 D) Tryz.prog [] a88 Tryz.f88 [] = f_file_Cut D := by kernel_rfl
theorem ok88 {D : HV → List HV → M HV} (hD : DOk Tryz.prog noG D) : FnOk Tryz.prog noG 88 (f_file_Cut D) := d88 D ▸ fn_ok (E := e88 D) ⟨(lk_cons (ok100 hD) lk_nil), hD⟩ mixed Tryz.func88 (by kernel_rfl) (by kernel_rfl) (hst_none (by kernel_rfl))

noncomputable def e64 (D : HV → List HV → M HV) : Env := ⟨lk [(84, f_sheet_Sheet_Get D), (85, f_sheet_Sheet_put D), (88, f_file_Cut D)], D, noG⟩

theorem d64 (D : HV → List HV → M HV) : fnD (e64 D) Tryz.prog [] a64 Tryz.f64 [] = f_sheet_Sheet_Cut D := by kernel_rfl
theorem ok64 {D : HV → List HV → M HV} (hD : DOk Tryz.prog noG D) : FnOk Tryz.prog noG 64 (f_sheet_Sheet_Cut D) := d64 D ▸ fn_ok (E := e64 D) ⟨(lk_cons (ok84 hD) (lk_cons (ok85 hD) (lk_cons (ok88 hD) lk_nil))), hD⟩ mixed Tryz.func64 (by kernel_rfl) (by kernel_rfl) (hst_none (by kernel_rfl))

noncomputable def e30 (D : HV → List HV → M HV) : Env := ⟨lk [(58, f_attempt_Attempt_touch D), (64, f_sheet_Sheet_Cut D)], D, noG⟩

theorem d30 (D : HV → List HV → M HV) : fnD (e30 D) Tryz.prog [] a30 Tryz.f30 [] = f_attempt_Attempt_Cut D := by kernel_rfl
theorem ok30 {D : HV → List HV → M HV} (hD : DOk Tryz.prog noG D) : FnOk Tryz.prog noG 30 (f_attempt_Attempt_Cut D) := d30 D ▸ fn_ok (E := e30 D) ⟨(lk_cons (ok58 hD) (lk_cons (ok64 hD) lk_nil)), hD⟩ mixed Tryz.func30 (by kernel_rfl) (by kernel_rfl) (hst_none (by kernel_rfl))

noncomputable def e65 (D : HV → List HV → M HV) : Env := ⟨lk [(20, f_feed_Feed_is D)], D, noG⟩

theorem d65 (D : HV → List HV → M HV) : fnD (e65 D) Tryz.prog [] a65 Tryz.f65 [] = f_feed_Feed_At D := by kernel_rfl
theorem ok65 {D : HV → List HV → M HV} (hD : DOk Tryz.prog noG D) : FnOk Tryz.prog noG 65 (f_feed_Feed_At D) := d65 D ▸ fn_ok (E := e65 D) ⟨(lk_cons (ok20 hD) lk_nil), hD⟩ mixed Tryz.func65 (by kernel_rfl) (by kernel_rfl) (hst_none (by kernel_rfl))

noncomputable def e72 (D : HV → List HV → M HV) : Env := ⟨lk [], D, noG⟩

theorem d72 (D : HV → List HV → M HV) : fnD (e72 D) Tryz.prog [] a72 Tryz.f72 [] = f_cursor_is D := by kernel_rfl
theorem ok72 {D : HV → List HV → M HV} (hD : DOk Tryz.prog noG D) : FnOk Tryz.prog noG 72 (f_cursor_is D) := d72 D ▸ fn_ok (E := e72 D) ⟨lk_nil, hD⟩ mixed Tryz.func72 (by kernel_rfl) (by kernel_rfl) (hst_none (by kernel_rfl))

noncomputable def e66 (D : HV → List HV → M HV) : Env := ⟨lk [(72, f_cursor_is D)], D, noG⟩

theorem d66 (D : HV → List HV → M HV) : fnD (e66 D) Tryz.prog [] a66 Tryz.f66 [] = f_cursor_Cursor_At D := by kernel_rfl
theorem ok66 {D : HV → List HV → M HV} (hD : DOk Tryz.prog noG D) : FnOk Tryz.prog noG 66 (f_cursor_Cursor_At D) := d66 D ▸ fn_ok (E := e66 D) ⟨(lk_cons (ok72 hD) lk_nil), hD⟩ mixed Tryz.func66 (by kernel_rfl) (by kernel_rfl) (hst_none (by kernel_rfl))

noncomputable def e67 (D : HV → List HV → M HV) : Env := ⟨lk [(72, f_cursor_is D)], D, noG⟩

theorem d67 (D : HV → List HV → M HV) : fnD (e67 D) Tryz.prog [] a67 Tryz.f67 [] = f_cursor_Cursor_Step D := by kernel_rfl
theorem ok67 {D : HV → List HV → M HV} (hD : DOk Tryz.prog noG D) : FnOk Tryz.prog noG 67 (f_cursor_Cursor_Step D) := d67 D ▸ fn_ok (E := e67 D) ⟨(lk_cons (ok72 hD) lk_nil), hD⟩ mixed Tryz.func67 (by kernel_rfl) (by kernel_rfl) (hst_none (by kernel_rfl))

noncomputable def e31 (D : HV → List HV → M HV) : Env := ⟨lk [(37, f_feed_Feed_Place D), (55, f_attempt_Attempt_note D), (65, f_feed_Feed_At D), (66, f_cursor_Cursor_At D), (67, f_cursor_Cursor_Step D)], D, noG⟩

theorem d31 (D : HV → List HV → M HV) : fnD (e31 D) Tryz.prog [] a31 Tryz.f31 [] = f_attempt_Attempt_Recv D := by kernel_rfl
theorem ok31 {D : HV → List HV → M HV} (hD : DOk Tryz.prog noG D) : FnOk Tryz.prog noG 31 (f_attempt_Attempt_Recv D) := d31 D ▸ fn_ok (E := e31 D) ⟨(lk_cons (ok37 hD) (lk_cons (ok55 hD) (lk_cons (ok65 hD) (lk_cons (ok66 hD) (lk_cons (ok67 hD) lk_nil))))), hD⟩ mixed Tryz.func31 (by kernel_rfl) (by kernel_rfl) (hst_none (by kernel_rfl))

noncomputable def e8 (D : HV → List HV → M HV) : Env := ⟨lk [(23, f_attempt_Attempt_Load D), (24, f_attempt_Attempt_Store D), (25, f_attempt_Attempt_Read D), (26, f_attempt_Attempt_Write D), (27, f_attempt_Attempt_Create D), (28, f_attempt_Attempt_Remove D), (29, f_attempt_Attempt_Rename D), (30, f_attempt_Attempt_Cut D), (31, f_attempt_Attempt_Recv D)], D, noG⟩

theorem d8 (D : HV → List HV → M HV) : fnD (e8 D) Tryz.prog [] a8 Tryz.f8 [] = f_law30_does D := by kernel_rfl
theorem ok8 {D : HV → List HV → M HV} (hD : DOk Tryz.prog noG D) : FnOk Tryz.prog noG 8 (f_law30_does D) := d8 D ▸ fn_ok (E := e8 D) ⟨(lk_cons (ok23 hD) (lk_cons (ok24 hD) (lk_cons (ok25 hD) (lk_cons (ok26 hD) (lk_cons (ok27 hD) (lk_cons (ok28 hD) (lk_cons (ok29 hD) (lk_cons (ok30 hD) (lk_cons (ok31 hD) lk_nil))))))))), hD⟩ mixed Tryz.func8 (by kernel_rfl) (by kernel_rfl) (hst_none (by kernel_rfl))

noncomputable def e32 (D : HV → List HV → M HV) : Env := ⟨lk [(13, f_attempt_View_Now D), (68, f_reads_Set_Valid D)], D, noG⟩

theorem d32 (D : HV → List HV → M HV) : fnD (e32 D) Tryz.prog [] a32 Tryz.f32 [] = f_attempt_Attempt_Valid D := by kernel_rfl
theorem ok32 {D : HV → List HV → M HV} (hD : DOk Tryz.prog noG D) : FnOk Tryz.prog noG 32 (f_attempt_Attempt_Valid D) := d32 D ▸ fn_ok (E := e32 D) ⟨(lk_cons (ok13 hD) (lk_cons (ok68 hD) lk_nil)), hD⟩ mixed Tryz.func32 (by kernel_rfl) (by kernel_rfl) (hst_none (by kernel_rfl))

noncomputable def e69 (D : HV → List HV → M HV) : Env := ⟨lk [], D, noG⟩

theorem d69 (D : HV → List HV → M HV) : fnD (e69 D) Tryz.prog [] a69 Tryz.f69 [.sc .kp] = f_draft_Draft_int_All_1 D := by kernel_rfl
theorem ok69 {D : HV → List HV → M HV} (hD : DOk Tryz.prog noG D) : FnOk Tryz.prog noG 69 (f_draft_Draft_int_All_1 D) := d69 D ▸ fn_ok (E := e69 D) ⟨lk_nil, hD⟩ mixed Tryz.func69 (by kernel_rfl) (by kernel_rfl) (hst_none (by kernel_rfl))

noncomputable def e33 (D : HV → List HV → M HV) : Env := ⟨lk [], D, noG⟩

theorem d33 (D : HV → List HV → M HV) : fnD (e33 D) Tryz.prog [1] a33 Tryz.f33 [] = f_draft_Draft_int_All D := by kernel_rfl
theorem ok33 {D : HV → List HV → M HV} (hD : DOk Tryz.prog noG D) : FnOk Tryz.prog noG 33 (f_draft_Draft_int_All D) := d33 D ▸ fn_ok (E := e33 D) ⟨lk_nil, hD⟩ mixed Tryz.func33 (by kernel_rfl) (by kernel_rfl) (hst_none (by kernel_rfl))

noncomputable def e34 (D : HV → List HV → M HV) : Env := ⟨lk [(70, f_cell_Row_int_is D)], D, noG⟩

theorem d34 (D : HV → List HV → M HV) : fnD (e34 D) Tryz.prog [] a34 Tryz.f34 [] = f_cell_Row_int_Set D := by kernel_rfl
theorem ok34 {D : HV → List HV → M HV} (hD : DOk Tryz.prog noG D) : FnOk Tryz.prog noG 34 (f_cell_Row_int_Set D) := d34 D ▸ fn_ok (E := e34 D) ⟨(lk_cons (ok70 hD) lk_nil), hD⟩ mixed Tryz.func34 (by kernel_rfl) (by kernel_rfl) (hst_none (by kernel_rfl))

noncomputable def e41 (D : HV → List HV → M HV) : Env := ⟨lk [], D, noG⟩

theorem d41 (D : HV → List HV → M HV) : fnD (e41 D) Tryz.prog [] a41 Tryz.f41 [] = f_sheet_Sheet_Draft D := by kernel_rfl
theorem ok41 {D : HV → List HV → M HV} (hD : DOk Tryz.prog noG D) : FnOk Tryz.prog noG 41 (f_sheet_Sheet_Draft D) := d41 D ▸ fn_ok (E := e41 D) ⟨lk_nil, hD⟩ mixed Tryz.func41 (by kernel_rfl) (by kernel_rfl) (hst_none (by kernel_rfl))

noncomputable def e74 (D : HV → List HV → M HV) : Env := ⟨lk [], D, noG⟩

theorem d74 (D : HV → List HV → M HV) : fnD (e74 D) Tryz.prog [] a74 Tryz.f74 [.sc .kp] = f_draft_Draft_file_File_All_1 D := by kernel_rfl
theorem ok74 {D : HV → List HV → M HV} (hD : DOk Tryz.prog noG D) : FnOk Tryz.prog noG 74 (f_draft_Draft_file_File_All_1 D) := d74 D ▸ fn_ok (E := e74 D) ⟨lk_nil, hD⟩ mixed Tryz.func74 (by kernel_rfl) (by kernel_rfl) (hst_none (by kernel_rfl))

noncomputable def e42 (D : HV → List HV → M HV) : Env := ⟨lk [], D, noG⟩

theorem d42 (D : HV → List HV → M HV) : fnD (e42 D) Tryz.prog [1] a42 Tryz.f42 [] = f_draft_Draft_file_File_All D := by kernel_rfl
theorem ok42 {D : HV → List HV → M HV} (hD : DOk Tryz.prog noG D) : FnOk Tryz.prog noG 42 (f_draft_Draft_file_File_All D) := d42 D ▸ fn_ok (E := e42 D) ⟨lk_nil, hD⟩ mixed Tryz.func42 (by kernel_rfl) (by kernel_rfl) (hst_none (by kernel_rfl))

noncomputable def e89 (D : HV → List HV → M HV) : Env := ⟨lk [], D, noG⟩

theorem d89 (D : HV → List HV → M HV) : fnD (e89 D) Tryz.prog [] a89 Tryz.f89 [] = f_file_Good D := by kernel_rfl
theorem ok89 {D : HV → List HV → M HV} (hD : DOk Tryz.prog noG D) : FnOk Tryz.prog noG 89 (f_file_Good D) := d89 D ▸ fn_ok (E := e89 D) ⟨lk_nil, hD⟩ mixed Tryz.func89 (by kernel_rfl) (by kernel_rfl) (hst_none (by kernel_rfl))

noncomputable def e90 (D : HV → List HV → M HV) : Env := ⟨lk [(91, f_cell_Row_file_File_is D)], D, noG⟩

theorem d90 (D : HV → List HV → M HV) : fnD (e90 D) Tryz.prog [] a90 Tryz.f90 [] = f_cell_Row_file_File_Set D := by kernel_rfl
theorem ok90 {D : HV → List HV → M HV} (hD : DOk Tryz.prog noG D) : FnOk Tryz.prog noG 90 (f_cell_Row_file_File_Set D) := d90 D ▸ fn_ok (E := e90 D) ⟨(lk_cons (ok91 hD) lk_nil), hD⟩ mixed Tryz.func90 (by kernel_rfl) (by kernel_rfl) (hst_none (by kernel_rfl))

noncomputable def e71 (D : HV → List HV → M HV) : Env := ⟨lk [(89, f_file_Good D), (90, f_cell_Row_file_File_Set D)], D, noG⟩

theorem d71 (D : HV → List HV → M HV) : fnD (e71 D) Tryz.prog [] a71 Tryz.f71 [] = f_tome_Tome_Set D := by kernel_rfl
theorem ok71 {D : HV → List HV → M HV} (hD : DOk Tryz.prog noG D) : FnOk Tryz.prog noG 71 (f_tome_Tome_Set D) := d71 D ▸ fn_ok (E := e71 D) ⟨(lk_cons (ok89 hD) (lk_cons (ok90 hD) lk_nil)), hD⟩ mixed Tryz.func71 (by kernel_rfl) (by kernel_rfl) (hst_none (by kernel_rfl))

noncomputable def e35 (D : HV → List HV → M HV) : Env := ⟨lk [(41, f_sheet_Sheet_Draft D), (42, f_draft_Draft_file_File_All D)], D, noG⟩

theorem st35 : ∀ e ∈ sitesF Tryz.f35 a35, e ∈ es := by
  rw [show sitesF Tryz.f35 a35 = [s35_0] by kernel_rfl]
  intro e he
  simp only [List.mem_cons, List.not_mem_nil, or_false] at he
  rcases he with rfl <;> simp [es]
theorem d35 (D : HV → List HV → M HV) : fnD (e35 D) Tryz.prog [4, 5, 7] a35 Tryz.f35 [] = f_sheet_Sheet_Over D := by kernel_rfl
theorem ok35 {D : HV → List HV → M HV} (hD : DOk Tryz.prog noG D) : FnOk Tryz.prog noG 35 (f_sheet_Sheet_Over D) := d35 D ▸ fn_ok (E := e35 D) ⟨(lk_cons (ok41 hD) (lk_cons (ok42 hD) lk_nil)), hD⟩ mixed Tryz.func35 (by kernel_rfl) (by kernel_rfl) (hst_of (fun _ _ _ _ _ h => h) st35)

noncomputable def e35_0 (D : HV → List HV → M HV) : Env := ⟨lk [(71, f_tome_Tome_Set D)], D, noG⟩

theorem d35_0 (D : HV → List HV → M HV) (l : Nat) (vs : List (Nat × HV)) (args : List HV) : roundD (e35_0 D) Tryz.prog [] s35_0.2 [.t 4 (.sc .kp), .t 5 (.sc .kp), .t 7 (.sc .kp)] [.t 13 (.sc (.ki .i64)), .t 14 (.c [.kb, .ks])] .z .z [] l vs args = r0_sheet_Sheet_Over D l vs args := by kernel_rfl
theorem rd35_0 : RdOk Tryz.prog noG s35_0 r0_sheet_Sheet_Over := fun D hD => ⟨e35_0 D, [], [.t 4 (.sc .kp), .t 5 (.sc .kp), .t 7 (.sc .kp)], [.t 13 (.sc (.ki .i64)), .t 14 (.c [.kb, .ks])], .z, .z, [], ⟨(lk_cons (ok71 hD) lk_nil), hD⟩, rfl, by kernel_rfl, rst_none (by kernel_rfl), fun l vs args => (d35_0 D l vs args).symm⟩

noncomputable def e36 (D : HV → List HV → M HV) : Env := ⟨lk [(72, f_cursor_is D)], D, noG⟩

theorem d36 (D : HV → List HV → M HV) : fnD (e36 D) Tryz.prog [] a36 Tryz.f36 [] = f_cursor_Cursor_Read D := by kernel_rfl
theorem ok36 {D : HV → List HV → M HV} (hD : DOk Tryz.prog noG D) : FnOk Tryz.prog noG 36 (f_cursor_Cursor_Read D) := d36 D ▸ fn_ok (E := e36 D) ⟨(lk_cons (ok72 hD) lk_nil), hD⟩ mixed Tryz.func36 (by kernel_rfl) (by kernel_rfl) (hst_none (by kernel_rfl))

noncomputable def e38 (D : HV → List HV → M HV) : Env := ⟨lk [(20, f_feed_Feed_is D), (34, f_cell_Row_int_Set D), (37, f_feed_Feed_Place D)], D, noG⟩

theorem d38 (D : HV → List HV → M HV) : fnD (e38 D) Tryz.prog [] a38 Tryz.f38 [] = f_feed_Feed_Take D := by kernel_rfl
theorem ok38 {D : HV → List HV → M HV} (hD : DOk Tryz.prog noG D) : FnOk Tryz.prog noG 38 (f_feed_Feed_Take D) := d38 D ▸ fn_ok (E := e38 D) ⟨(lk_cons (ok20 hD) (lk_cons (ok34 hD) (lk_cons (ok37 hD) lk_nil))), hD⟩ mixed Tryz.func38 (by kernel_rfl) (by kernel_rfl) (hst_none (by kernel_rfl))

noncomputable def e9 (D : HV → List HV → M HV) : Env := ⟨lk [(32, f_attempt_Attempt_Valid D), (33, f_draft_Draft_int_All D), (35, f_sheet_Sheet_Over D), (36, f_cursor_Cursor_Read D), (37, f_feed_Feed_Place D), (38, f_feed_Feed_Take D)], D, noG⟩

theorem st9 : ∀ e ∈ sitesF Tryz.f9 a9, e ∈ es := by
  rw [show sitesF Tryz.f9 a9 = [s9_0] by kernel_rfl]
  intro e he
  simp only [List.mem_cons, List.not_mem_nil, or_false] at he
  rcases he with rfl <;> simp [es]
theorem d9 (D : HV → List HV → M HV) : fnD (e9 D) Tryz.prog [3] a9 Tryz.f9 [] = f_attempt_Attempt_Land D := by kernel_rfl
theorem ok9 {D : HV → List HV → M HV} (hD : DOk Tryz.prog noG D) : FnOk Tryz.prog noG 9 (f_attempt_Attempt_Land D) := d9 D ▸ fn_ok (E := e9 D) ⟨(lk_cons (ok32 hD) (lk_cons (ok33 hD) (lk_cons (ok35 hD) (lk_cons (ok36 hD) (lk_cons (ok37 hD) (lk_cons (ok38 hD) lk_nil)))))), hD⟩ mixed Tryz.func9 (by kernel_rfl) (by kernel_rfl) (hst_of (fun _ _ _ _ _ h => h) st9)

noncomputable def e9_0 (D : HV → List HV → M HV) : Env := ⟨lk [(34, f_cell_Row_int_Set D)], D, noG⟩

theorem d9_0 (D : HV → List HV → M HV) (l : Nat) (vs : List (Nat × HV)) (args : List HV) : roundD (e9_0 D) Tryz.prog [] s9_0.2 [.t 3 (.sc .kp)] [.t 30 (.sc (.ki .i64)), .t 31 (.sc (.ki .i64))] .z .z [] l vs args = r0_attempt_Attempt_Land D l vs args := by kernel_rfl
theorem rd9_0 : RdOk Tryz.prog noG s9_0 r0_attempt_Attempt_Land := fun D hD => ⟨e9_0 D, [], [.t 3 (.sc .kp)], [.t 30 (.sc (.ki .i64)), .t 31 (.sc (.ki .i64))], .z, .z, [], ⟨(lk_cons (ok34 hD) lk_nil), hD⟩, rfl, by kernel_rfl, rst_none (by kernel_rfl), fun l vs args => (d9_0 D l vs args).symm⟩

noncomputable def e11 (D : HV → List HV → M HV) : Env := ⟨lk [], D, noG⟩

theorem d11 (D : HV → List HV → M HV) : fnD (e11 D) Tryz.prog [] a11 Tryz.f11 [] = f_attempt_Attempt_Reads D := by kernel_rfl
theorem ok11 {D : HV → List HV → M HV} (hD : DOk Tryz.prog noG D) : FnOk Tryz.prog noG 11 (f_attempt_Attempt_Reads D) := d11 D ▸ fn_ok (E := e11 D) ⟨lk_nil, hD⟩ mixed Tryz.func11 (by kernel_rfl) (by kernel_rfl) (hst_none (by kernel_rfl))

noncomputable def e43 (D : HV → List HV → M HV) : Env := ⟨lk [], D, noG⟩

theorem d43 (D : HV → List HV → M HV) : fnD (e43 D) Tryz.prog [] a43 Tryz.f43 [] = f_reads_Set_All_1 D := by kernel_rfl
theorem ok43 {D : HV → List HV → M HV} (hD : DOk Tryz.prog noG D) : FnOk Tryz.prog noG 43 (f_reads_Set_All_1 D) := d43 D ▸ fn_ok (E := e43 D) ⟨lk_nil, hD⟩ mixed Tryz.func43 (by kernel_rfl) (by kernel_rfl) (hst_none (by kernel_rfl))

noncomputable def e75 (D : HV → List HV → M HV) : Env := ⟨lk [], D, noG⟩

theorem d75 (D : HV → List HV → M HV) : fnD (e75 D) Tryz.prog [] a75 Tryz.f75 [.sc .kp] = f_slices_Values_reads_Entry_reads_Entry_1 D := by kernel_rfl
theorem ok75 {D : HV → List HV → M HV} (hD : DOk Tryz.prog noG D) : FnOk Tryz.prog noG 75 (f_slices_Values_reads_Entry_reads_Entry_1 D) := d75 D ▸ fn_ok (E := e75 D) ⟨lk_nil, hD⟩ mixed Tryz.func75 (by kernel_rfl) (by kernel_rfl) (hst_none (by kernel_rfl))

noncomputable def e44 (D : HV → List HV → M HV) : Env := ⟨lk [], D, noG⟩

theorem d44 (D : HV → List HV → M HV) : fnD (e44 D) Tryz.prog [1] a44 Tryz.f44 [] = f_slices_Values_reads_Entry_reads_Entry D := by kernel_rfl
theorem ok44 {D : HV → List HV → M HV} (hD : DOk Tryz.prog noG D) : FnOk Tryz.prog noG 44 (f_slices_Values_reads_Entry_reads_Entry D) := d44 D ▸ fn_ok (E := e44 D) ⟨lk_nil, hD⟩ mixed Tryz.func44 (by kernel_rfl) (by kernel_rfl) (hst_none (by kernel_rfl))

noncomputable def e12 (D : HV → List HV → M HV) : Env := ⟨lk [(44, f_slices_Values_reads_Entry_reads_Entry D)], D, noG⟩

theorem d12 (D : HV → List HV → M HV) : fnD (e12 D) Tryz.prog [] a12 Tryz.f12 [] = f_reads_Set_All D := by kernel_rfl
theorem ok12 {D : HV → List HV → M HV} (hD : DOk Tryz.prog noG D) : FnOk Tryz.prog noG 12 (f_reads_Set_All D) := d12 D ▸ fn_ok (E := e12 D) ⟨(lk_cons (ok44 hD) lk_nil), hD⟩ mixed Tryz.func12 (by kernel_rfl) (by kernel_rfl) (hst_none (by kernel_rfl))

noncomputable def e73 (D : HV → List HV → M HV) : Env := ⟨lk [], D, noG⟩

theorem st73 : ∀ e ∈ sitesF Tryz.f73 a73, e ∈ es := by
  rw [show sitesF Tryz.f73 a73 = [s73_0] by kernel_rfl]
  intro e he
  simp only [List.mem_cons, List.not_mem_nil, or_false] at he
  rcases he with rfl <;> simp [es]
theorem d73 (D : HV → List HV → M HV) : fnD (e73 D) Tryz.prog [2] a73 Tryz.f73 [] = f_slices_AppendSeq_reads_Entry_reads_Entry D := by kernel_rfl
theorem ok73 {D : HV → List HV → M HV} (hD : DOk Tryz.prog noG D) : FnOk Tryz.prog noG 73 (f_slices_AppendSeq_reads_Entry_reads_Entry D) := d73 D ▸ fn_ok (E := e73 D) ⟨lk_nil, hD⟩ mixed Tryz.func73 (by kernel_rfl) (by kernel_rfl) (hst_of (fun _ _ _ _ _ h => h) st73)

noncomputable def e73_0 (D : HV → List HV → M HV) : Env := ⟨lk [], D, noG⟩

theorem d73_0 (D : HV → List HV → M HV) (l : Nat) (vs : List (Nat × HV)) (args : List HV) : roundD (e73_0 D) Tryz.prog [] s73_0.2 [.t 2 (.sc .kp)] [.t 7 (.c [(.ki .i64), (.ki .i64), (.ki .i64)])] .z .z [] l vs args = r0_slices_AppendSeq_reads_Entry_reads_Entry D l vs args := by kernel_rfl
theorem rd73_0 : RdOk Tryz.prog noG s73_0 r0_slices_AppendSeq_reads_Entry_reads_Entry := fun D hD => ⟨e73_0 D, [], [.t 2 (.sc .kp)], [.t 7 (.c [(.ki .i64), (.ki .i64), (.ki .i64)])], .z, .z, [], ⟨lk_nil, hD⟩, rfl, by kernel_rfl, rst_none (by kernel_rfl), fun l vs args => (d73_0 D l vs args).symm⟩

noncomputable def e39 (D : HV → List HV → M HV) : Env := ⟨lk [(73, f_slices_AppendSeq_reads_Entry_reads_Entry D)], D, noG⟩

theorem d39 (D : HV → List HV → M HV) : fnD (e39 D) Tryz.prog [] a39 Tryz.f39 [] = f_slices_Collect_reads_Entry D := by kernel_rfl
theorem ok39 {D : HV → List HV → M HV} (hD : DOk Tryz.prog noG D) : FnOk Tryz.prog noG 39 (f_slices_Collect_reads_Entry D) := d39 D ▸ fn_ok (E := e39 D) ⟨(lk_cons (ok73 hD) lk_nil), hD⟩ mixed Tryz.func39 (by kernel_rfl) (by kernel_rfl) (hst_none (by kernel_rfl))

noncomputable def e40 (D : HV → List HV → M HV) : Env := ⟨lk [], D, noG⟩

theorem d40 (D : HV → List HV → M HV) : fnD (e40 D) Tryz.prog [] a40 Tryz.f40 [] = f_attempt_Attempt_State D := by kernel_rfl
theorem ok40 {D : HV → List HV → M HV} (hD : DOk Tryz.prog noG D) : FnOk Tryz.prog noG 40 (f_attempt_Attempt_State D) := d40 D ▸ fn_ok (E := e40 D) ⟨lk_nil, hD⟩ mixed Tryz.func40 (by kernel_rfl) (by kernel_rfl) (hst_none (by kernel_rfl))

noncomputable def e10 (D : HV → List HV → M HV) : Env := ⟨lk [(11, f_attempt_Attempt_Reads D), (12, f_reads_Set_All D), (33, f_draft_Draft_int_All D), (36, f_cursor_Cursor_Read D), (39, f_slices_Collect_reads_Entry D), (40, f_attempt_Attempt_State D), (41, f_sheet_Sheet_Draft D), (42, f_draft_Draft_file_File_All D)], D, noG⟩

theorem st10 : ∀ e ∈ sitesF Tryz.f10 a10, e ∈ es := by
  rw [show sitesF Tryz.f10 a10 = [s10_0, s10_1] by kernel_rfl]
  intro e he
  simp only [List.mem_cons, List.not_mem_nil, or_false] at he
  rcases he with rfl | rfl <;> simp [es]
theorem d10 (D : HV → List HV → M HV) : fnD (e10 D) Tryz.prog [3, 5] a10 Tryz.f10 [] = f_witness_Of D := by kernel_rfl
theorem ok10 {D : HV → List HV → M HV} (hD : DOk Tryz.prog noG D) : FnOk Tryz.prog noG 10 (f_witness_Of D) := d10 D ▸ fn_ok (E := e10 D) ⟨(lk_cons (ok11 hD) (lk_cons (ok12 hD) (lk_cons (ok33 hD) (lk_cons (ok36 hD) (lk_cons (ok39 hD) (lk_cons (ok40 hD) (lk_cons (ok41 hD) (lk_cons (ok42 hD) lk_nil)))))))), hD⟩ mixed Tryz.func10 (by kernel_rfl) (by kernel_rfl) (hst_of (fun _ _ _ _ _ h => h) st10)

noncomputable def e10_0 (D : HV → List HV → M HV) : Env := ⟨lk [], D, noG⟩

theorem d10_0 (D : HV → List HV → M HV) (l : Nat) (vs : List (Nat × HV)) (args : List HV) : roundD (e10_0 D) Tryz.prog [] s10_0.2 [.t 3 (.sc .kp), .t 5 (.sc .kp)] [.t 23 (.sc (.ki .i64)), .t 24 (.sc (.ki .i64))] .z .z [] l vs args = r0_witness_Of D l vs args := by kernel_rfl
theorem rd10_0 : RdOk Tryz.prog noG s10_0 r0_witness_Of := fun D hD => ⟨e10_0 D, [], [.t 3 (.sc .kp), .t 5 (.sc .kp)], [.t 23 (.sc (.ki .i64)), .t 24 (.sc (.ki .i64))], .z, .z, [], ⟨lk_nil, hD⟩, rfl, by kernel_rfl, rst_none (by kernel_rfl), fun l vs args => (d10_0 D l vs args).symm⟩

noncomputable def e10_1 (D : HV → List HV → M HV) : Env := ⟨lk [], D, noG⟩

theorem d10_1 (D : HV → List HV → M HV) (l : Nat) (vs : List (Nat × HV)) (args : List HV) : roundD (e10_1 D) Tryz.prog [] s10_1.2 [.t 3 (.sc .kp), .t 5 (.sc .kp)] [.t 37 (.sc (.ki .i64)), .t 38 (.c [.kb, .ks])] .z .z [] l vs args = r1_witness_Of D l vs args := by kernel_rfl
theorem rd10_1 : RdOk Tryz.prog noG s10_1 r1_witness_Of := fun D hD => ⟨e10_1 D, [], [.t 3 (.sc .kp), .t 5 (.sc .kp)], [.t 37 (.sc (.ki .i64)), .t 38 (.c [.kb, .ks])], .z, .z, [], ⟨lk_nil, hD⟩, rfl, by kernel_rfl, rst_none (by kernel_rfl), fun l vs args => (d10_1 D l vs args).symm⟩

noncomputable def e3 (D : HV → List HV → M HV) : Env := ⟨lk [(4, f_law30_alive D), (5, f_attempt_NewView D), (6, f_feed_Feed_Arrive D), (7, f_attempt_New D), (8, f_law30_does D), (9, f_attempt_Attempt_Land D), (10, f_witness_Of D), (11, f_attempt_Attempt_Reads D), (12, f_reads_Set_All D), (13, f_attempt_View_Now D), (14, f_reads_Now_Of D)], D, noG⟩

theorem st3 : ∀ e ∈ sitesF Tryz.f3 a3, e ∈ es := by
  rw [show sitesF Tryz.f3 a3 = [s3_0] by kernel_rfl]
  intro e he
  simp only [List.mem_cons, List.not_mem_nil, or_false] at he
  rcases he with rfl <;> simp [es]
theorem d3 (D : HV → List HV → M HV) : fnD (e3 D) Tryz.prog [6, 16, 17] a3 Tryz.f3 [] = f_law30_WitnessOf D := by kernel_rfl
theorem ok3 {D : HV → List HV → M HV} (hD : DOk Tryz.prog noG D) : FnOk Tryz.prog noG 3 (f_law30_WitnessOf D) := d3 D ▸ fn_ok (E := e3 D) ⟨(lk_cons (ok4 hD) (lk_cons (ok5 hD) (lk_cons (ok6 hD) (lk_cons (ok7 hD) (lk_cons (ok8 hD) (lk_cons (ok9 hD) (lk_cons (ok10 hD) (lk_cons (ok11 hD) (lk_cons (ok12 hD) (lk_cons (ok13 hD) (lk_cons (ok14 hD) lk_nil))))))))))), hD⟩ mixed Tryz.func3 (by kernel_rfl) (by kernel_rfl) (hst_of (fun _ _ _ _ _ h => h) st3)

noncomputable def e3_0 (D : HV → List HV → M HV) : Env := ⟨lk [], D, noG⟩

theorem d3_0 (D : HV → List HV → M HV) (l : Nat) (vs : List (Nat × HV)) (args : List HV) : roundD (e3_0 D) Tryz.prog [] s3_0.2 [.t 6 (.sc .kp), .t 16 (.sc .kp), .t 17 (.sc .kp)] [.t 103 (.c [(.ki .i64), (.ki .i64), (.ki .i64)])] .z (.n none (.n none (.n none (.n (some [.t 117 (.sc .kb)]) .z .z) .z) .z) .z) [] l vs args = r0_law30_WitnessOf D l vs args := by kernel_rfl
theorem rd3_0 : RdOk Tryz.prog noG s3_0 r0_law30_WitnessOf := fun D hD => ⟨e3_0 D, [], [.t 6 (.sc .kp), .t 16 (.sc .kp), .t 17 (.sc .kp)], [.t 103 (.c [(.ki .i64), (.ki .i64), (.ki .i64)])], .z, (.n none (.n none (.n none (.n (some [.t 117 (.sc .kb)]) .z .z) .z) .z) .z), [], ⟨lk_nil, hD⟩, rfl, by kernel_rfl, rst_none (by kernel_rfl), fun l vs args => (d3_0 D l vs args).symm⟩

theorem rnok : RnOk Tryz.prog noG es [(82349159, r0_sheet_Sheet_Over), (45135019, r0_attempt_Attempt_Land), (58353469, r0_slices_AppendSeq_reads_Entry_reads_Entry), (78258034, r0_witness_Of), (19334329, r1_witness_Of), (11373009, r0_law30_WitnessOf)] := (rn_cons (by kernel_rfl) rd35_0 (by kernel_rfl) (rn_cons (by kernel_rfl) rd9_0 (by kernel_rfl) (rn_cons (by kernel_rfl) rd73_0 (by kernel_rfl) (rn_cons (by kernel_rfl) rd10_0 (by kernel_rfl) (rn_cons (by kernel_rfl) rd10_1 (by kernel_rfl) (rn_cons (by kernel_rfl) rd3_0 (by kernel_rfl) rn_nil))))))
theorem clok : ClOk Tryz.prog noG [(n_reads_Set_All_1, f_reads_Set_All_1), (n_witness_ahead, f_witness_ahead), (n_draft_Draft_int_All_1, f_draft_Draft_int_All_1), (n_draft_Draft_file_File_All_1, f_draft_Draft_file_File_All_1), (n_slices_Values_reads_Entry_reads_Entry_1, f_slices_Values_reads_Entry_reads_Entry_1), (n_draft_by_int, f_draft_by_int), (n_reads_Set_place_1, f_reads_Set_place_1), (n_draft_by_file_File, f_draft_by_file_File)] := (cl_cons (fun _ hD => ok43 hD) (cl_cons (fun _ hD => ok50 hD) (cl_cons (fun _ hD => ok69 hD) (cl_cons (fun _ hD => ok74 hD) (cl_cons (fun _ hD => ok75 hD) (cl_cons (fun _ hD => ok94 hD) (cl_cons (fun _ hD => ok103 hD) (cl_cons (fun _ hD => ok115 hD) cl_nil))))))))
/-- functions as values, by levels -/
noncomputable abbrev lev (n : Nat) : DD := levD [(n_reads_Set_All_1, f_reads_Set_All_1), (n_witness_ahead, f_witness_ahead), (n_draft_Draft_int_All_1, f_draft_Draft_int_All_1), (n_draft_Draft_file_File_All_1, f_draft_Draft_file_File_All_1), (n_slices_Values_reads_Entry_reads_Entry_1, f_slices_Values_reads_Entry_reads_Entry_1), (n_draft_by_int, f_draft_by_int), (n_reads_Set_place_1, f_reads_Set_place_1), (n_draft_by_file_File, f_draft_by_file_File)] [(82349159, r0_sheet_Sheet_Over), (45135019, r0_attempt_Attempt_Land), (58353469, r0_slices_AppendSeq_reads_Entry_reads_Entry), (78258034, r0_witness_Of), (19334329, r1_witness_Of), (11373009, r0_law30_WitnessOf)] n
theorem lev_ok (n : Nat) : DOk Tryz.prog noG (lev n) := levD_ok mixed clok rnok (fun _ _ _ _ _ h => h) n

end Go.Proofs.YtoogohhlmdgdpaaGreat.HL
