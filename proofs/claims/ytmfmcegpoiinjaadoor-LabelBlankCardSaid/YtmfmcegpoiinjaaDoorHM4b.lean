/- The program's functions are as these texts. Conditions: what is called as a value is told (DOk). -/
import Derived.Test.YtmfmcegpoiinjaaDoorHM4a
import Derived.Test.YtmfmcegpoiinjaaDoorHM4o
import Derived.Test.YtmfmcegpoiinjaaDoorChecked
import Derived.KernelRfl
namespace Go.Proofs.YtmfmcegpoiinjaaDoor.HM
open Go Go.Proofs
set_option maxRecDepth 100000

def a50 : Ann := (.n none .z (.n none (.n (some [.t 4 (.sc .kb)]) .z .z) .z))
def a37 : Ann := .z
def a21 : Ann := (.n none .z (.n none (.n none (.n (some [.t 15 (.sc .kb)]) .z .z) .z) (.n none .z (.n none (.n none .z (.n (some []) (.n (some [.t 27 (.sc (.ki .i64))]) (.n none .z (.n none .z (.n none (.n none (.n none .z (.n none (.n (some [.t 38 (.sc .kb)]) .z .z) .z)) .z) .z))) .z) .z)) (.n none (.n (some [.t 4 (.sc .kb)]) .z .z) .z)))))
def a22 : Ann := .z
def a23 : Ann := .z
def a24 : Ann := (.n none .z (.n none .z (.n none .z (.n none (.n none .z (.n (some [.t 3 (.sc .ks)]) (.n (some [.t 3 (.sc .ks)]) .z .z) .z)) .z))))
def a25 : Ann := .z
def a12 : Ann := (.n none .z (.n none .z (.n none .z (.n none (.n none .z (.n (some [.x 4 none]) (.n (some [.t 14 (.sc (.ki .i64)), .x 4 none]) (.n none .z (.n none .z (.n none (.n (some [.x 4 none]) (.n none .z (.n none .z (.n none (.n (some [.t 30 (.sc .kb)]) .z .z) .z))) .z) .z))) .z) .z)) (.n none .z (.n none (.n none .z (.n (some []) (.n (some [.t 38 (.sc (.ki .i64))]) (.n none .z (.n none .z (.n none (.n (some []) (.n none .z (.n none (.n none .z (.n (some []) .z .z)) .z)) .z) .z))) .z) .z)) .z))))))
def a54 : Ann := (.n none .z (.n (some []) (.n (some [.t 8 (.sc (.ki .i64))]) (.n none .z (.n none .z (.n none (.n none (.n none .z (.n none (.n (some [.t 22 (.sc .kb)]) .z .z) .z)) .z) .z))) .z) .z))
def a42 : Ann := .z
def a80 : Ann := .z
def a67 : Ann := .z
def a68 : Ann := (.n none .z (.n none (.n none (.n (some [.t 13 (.sc .kb)]) .z .z) .z) (.n none (.n none .z (.n (some []) (.n (some [.t 16 (.sc (.ki .i64))]) (.n none .z (.n none .z (.n none (.n none (.n none .z (.n none (.n (some [.t 4 (.sc .kb)]) .z .z) (.n none (.n (some [.t 5 (.sc .kb)]) .z .z) (.n none (.n (some [.t 48 (.sc .kb)]) .z .z) .z)))) .z) .z))) .z) .z)) .z)))
def a69 : Ann := (.n none .z (.n none (.n none .z (.n (some []) (.n (some [.t 6 (.sc (.ki .i64))]) .z .z) .z)) .z))
def a81 : Ann := (.n none .z (.n none .z (.n none (.n (some [.t 2 (.sc (.ki .i64)), .t 3 (.sc .kb)]) .z .z) .z)))
def a70 : Ann := (.n none .z (.n none .z (.n none .z (.n none .z (.n none (.n none .z (.n (some [.x 6 (some [.ks, .ks, (.ki .i64), (.ki .i64), (.ki .i64), (.ki .i64)]), .x 7 none]) (.n (some [.t 25 (.sc (.ki .i64)), .x 6 (some [.ks, .ks, (.ki .i64), (.ki .i64), (.ki .i64), (.ki .i64)]), .x 7 none]) (.n none .z (.n none .z (.n none (.n (some [.x 6 (some [.ks, .ks, (.ki .i64), (.ki .i64), (.ki .i64), (.ki .i64)]), .x 7 none]) .z .z) .z))) .z) .z)) .z)))))
def a56 : Ann := .z
def a43 : Ann := (.n none .z (.n none .z (.n none (.n (some []) .z .z) .z)))
def a30 : Ann := (.n none .z (.n none .z (.n none .z (.n none (.n none .z (.n (some []) (.r 96110293 [2, 3, 4, 5]) .z)) (.n none (.n none .z (.n (some []) (.n (some [.t 33 (.sc (.ki .i64))]) .z .z) .z)) .z)))))
def a14 : Ann := .z
def a11 : Ann := (.n none .z (.n none .z (.n none .z (.n none (.n (some [.t 0 (.sc .kb)]) .z .z) .z))))
def a26 : Ann := (.n none .z (.n none (.n none .z (.n none (.n none (.n none .z (.n (some [.t 4 (.sc .kb)]) .z .z)) (.n none .z (.n none .z (.n none .z (.n none (.n none .z (.n (some [.t 17 (.sc .kb)]) .z .z)) (.n none .z (.n none (.n none .z (.n (some [.t 20 (.sc .kb)]) .z .z)) .z))))))) .z)) .z))
def a27 : Ann := (.n none .z (.n none (.n none .z (.n (some []) (.n (some [.t 9 (.sc (.ki .i64))]) (.n none .z (.n none .z (.n none (.n none (.n none .z (.n none (.n (some [.t 26 (.sc .kb)]) .z .z) .z)) .z) .z))) .z) .z)) .z))
def a31 : Ann := (.n none .z (.n none .z (.n none .z (.n none (.n none .z (.n (some [.t 5 (.sc .kl)]) (.n (some [.t 5 (.sc .kl), .t 6 (.sc (.ki .i64)), .t 7 (.sc (.ki .i64))]) (.n none .z (.n none (.n (some [.t 5 (.sc .kl), .t 6 (.sc (.ki .i64))]) (.n none (.n (some [.t 24 (.sc .kb)]) .z .z) .z) .z) .z)) .z) .z)) .z))))
def a29 : Ann := (.n none .z (.n none .z (.n none .z (.n none (.n none .z (.n (some [.t 5 (.sc .ks)]) (.n (some [.t 5 (.sc .ks), .t 7 (.sc (.ki .i64))]) (.n none .z (.n none (.n none (.n none .z (.n none (.n none .z (.n (some [.t 5 (.sc .ks)]) .z .z)) .z)) .z) .z)) .z) .z)) .z))))
def a13 : Ann := (.n none .z (.n none .z (.n none (.n none .z (.n (some []) (.n (some [.t 16 (.sc (.ki .i64))]) (.n none .z (.n none .z (.n none (.n none (.n none .z (.n none (.n none (.n (some [.t 27 (.sc .kb)]) .z .z) .z) (.n none .z (.n none (.n (some [.t 78 (.sc .kb)]) .z .z) .z)))) .z) .z))) .z) .z)) (.n none .z (.n none (.n none .z (.n (some [.t 9 (.sc .ks)]) (.n (some [.t 9 (.sc .ks), .t 10 (.sc (.ki .i64))]) (.n none .z (.n none (.n (some [.t 9 (.sc .ks)]) (.n none (.n none .z (.n (some [.t 9 (.sc .ks)]) .z .z)) .z) .z) .z)) .z) .z)) .z)))))
def a3 : Ann := (.n none .z (.n none .z (.n none .z (.n none .z (.n none (.n (some [.t 2 (.sc .kb)]) .z .z) .z)))))
def a15 : Ann := (.n none .z (.n none .z (.n none (.n none .z (.n (some []) (.n (some [.t 13 (.sc (.ki .i64))]) .z .z) .z)) .z)))
def a4 : Ann := (.n none .z (.n none .z (.n none .z (.n none (.n none .z (.n none .z (.n none (.n none (.n (some [.t 2 (.sc .kb)]) .z .z) .z) .z))) (.n none .z (.n none (.n (some [.t 2 (.sc .kb)]) .z .z) .z))))))
def a44 : Ann := (.n none .z (.n none (.n none .z (.n (some []) (.n (some [.t 3 (.sc (.ki .i64))]) (.n none .z (.n none (.n (some []) (.n none (.n none (.n (some [.t 35 (.sc .kb)]) .z .z) .z) .z) .z) .z)) .z) .z)) (.n none (.n (some [.t 2 (.sc .kb)]) .z .z) .z)))
def a45 : Ann := (.n none .z (.n none (.n none .z (.n (some []) (.n (some [.t 7 (.sc (.ki .i64))]) .z .z) .z)) .z))
def a46 : Ann := (.n none .z (.n none (.n (some [.t 4 (.sc .kb)]) .z .z) (.n none .z (.n none (.n none .z (.n (some [.t 5 (.sc .ks)]) .z .z)) (.n none (.n none (.n (some [.t 44 (.sc .kb)]) .z .z) .z) (.n none .z (.n none (.n none .z (.n (some [.t 6 (.sc (.ki .u64))]) (.n (some [.t 6 (.sc (.ki .u64)), .t 7 (.sc (.ki .i64))]) (.n none .z (.n none (.n none (.n none (.n none (.n (some [.t 60 (.sc .kb)]) .z .z) .z) .z) .z) .z)) .z) .z)) .z)))))))
def a32 : Ann := (.n none .z (.n none .z (.n none .z (.n none .z (.n none (.n none (.n (some [.t 36 (.sc .kb)]) .z .z) .z) (.n none .z (.n none .z (.n none (.n none .z (.n (some [.x 6 (some [.ks, .ks, (.ki .i64), (.ki .i64), (.ki .i64), (.ki .i64)]), .x 7 none]) (.n (some [.t 44 (.sc (.ki .i64)), .x 6 (some [.ks, .ks, (.ki .i64), (.ki .i64), (.ki .i64), (.ki .i64)]), .x 7 none]) (.n none .z (.n none .z (.n none (.n none (.n none .z (.n none .z (.n none (.n none .z (.n (some [.t 10 (.sc .kb), .x 6 (some [.ks, .ks, (.ki .i64), (.ki .i64), (.ki .i64), (.ki .i64)]), .x 7 none]) .z .z)) .z))) .z) .z))) .z) .z)) .z))))))))
def a33 : Ann := (.n none .z (.n none (.n none .z (.n (some []) (.n (some [.t 9 (.sc (.ki .i64))]) .z .z) .z)) .z))
def a16 : Ann := (.n none .z (.n none .z (.n none .z (.n none .z (.n none .z (.n none (.n none .z (.n (some [.t 6 (.sc .kl), .t 7 (.sc .kl)]) (.n (some [.t 6 (.sc .kl), .t 7 (.sc .kl), .t 26 (.sc (.ki .i64))]) (.n none .z (.n none .z (.n none (.n (some [.t 6 (.sc .kl), .t 7 (.sc .kl)]) (.n none .z (.n none .z (.n none .z (.n none (.n none (.n (some [.t 61 (.sc .kb)]) .z .z) .z) .z)))) .z) .z))) .z) .z)) (.n none .z (.n none (.n none .z (.n (some []) (.n (some [.t 13 (.sc (.ki .i64)), .t 83 (.sc (.ki .i64))]) (.n none .z (.n none .z (.n none (.n (some [.t 13 (.sc (.ki .i64))]) (.n none .z (.n none (.n none (.n (some [.t 94 (.sc .kb)]) .z .z) .z) (.n none .z (.n none (.n none .z (.n (some []) .z .z)) .z)))) .z) .z))) .z) .z)) .z))))))))
def a5 : Ann := (.n none .z (.n none .z (.n none .z (.n none (.n none .z (.n none .z (.n none (.n none (.n (some [.t 2 (.sc .kb)]) .z .z) .z) .z))) (.n none .z (.n none .z (.n none .z (.n none (.n (some [.t 2 (.sc .kb)]) .z .z) .z))))))))
def a6 : Ann := (.n none .z (.n none .z (.n none .z (.n none .z (.n none .z (.n none (.n (some [.t 4 (.sc .kb)]) .z .z) .z))))))
def a17 : Ann := (.n none .z (.n none .z (.n none .z (.n none (.n none .z (.n (some [.t 4 (.sc .ks)]) (.n (some [.t 4 (.sc .ks), .t 12 (.sc (.ki .i64))]) (.n none .z (.n none .z (.n none (.n none (.n none .z (.n none (.n none (.n (some [.t 33 (.sc .kb)]) .z .z) .z) (.n none (.n none .z (.n (some [.t 4 (.sc .ks)]) .z .z)) .z))) .z) .z))) .z) .z)) .z))))
def a7 : Ann := (.n none .z (.n none .z (.n none .z (.n none (.n none (.n (some [.t 38 (.sc .kb)]) .z .z) .z) (.n none .z (.n none .z (.n none .z (.n none .z (.n none (.n none .z (.n (some [.t 15 (.sc .ks)]) (.n (some [.t 15 (.sc .ks), .t 16 (.sc (.ki .i64))]) (.n none .z (.n none (.n (some [.t 15 (.sc .ks)]) (.n none (.n none .z (.n (some [.t 15 (.sc .ks)]) .z .z)) .z) .z) .z)) .z) .z)) (.n none .z (.n none (.n (some [.t 6 (.sc .kb)]) .z .z) .z)))))))))))
def a8 : Ann := (.n none .z (.n none .z (.n none .z (.n none (.n none (.n (some [.t 37 (.sc .kb)]) .z .z) .z) (.n none .z (.n none (.n none (.n (some [.t 60 (.sc .kb)]) .z .z) .z) (.n none .z (.n none .z (.n none (.n none .z (.n (some [.t 10 (.sc (.ki .i64))]) .z .z)) (.n none (.n (some [.t 4 (.sc .kb)]) .z .z) .z))))))))))
def a35 : Ann := (.n none .z (.n none .z (.n none .z (.n (some []) (.n (some [.t 21 (.sc (.ki .i64))]) .z .z) .z))))
def a19 : Ann := .z
def a9 : Ann := (.n none .z (.n none .z (.n none .z (.n none .z (.n none (.n none (.n (some [.t 43 (.sc .kb)]) .z .z) .z) (.n none .z (.n none (.n none .z (.n (some []) (.r 87817742 [3, 4, 9, 12]) .z)) (.n none (.n (some []) .z .z) .z))))))))
def a10 : Ann := (.n none .z (.n none .z (.n none (.n none (.n (some [.t 28 (.sc .kb)]) .z .z) .z) (.n none .z (.n none .z (.n none (.n none .z (.n (some []) (.n none (.n (some [.t 49 (.sc .kb)]) .z .z) .z) (.n none (.n (some [.t 61 (.sc .kb)]) .z .z) .z))) (.n none .z (.n none .z (.n none .z (.n none (.n (some [.t 4 (.sc .kb)]) .z .z) .z))))))))))
/-- a loop over a function -/
noncomputable def s30_0 : Nat × Site := (sitesF Tryd.f30 a30).getD 0 (0, ⟨0, #[], .skip, .skip⟩)
/-- a loop over a function -/
noncomputable def s9_0 : Nat × Site := (sitesF Tryd.f9 a9).getD 0 (0, ⟨0, #[], .skip, .skip⟩)
noncomputable def es : List (Nat × Site) := [s30_0, s9_0]
instance : Sites := ⟨fun k _ sz ps a b => siteIn es k sz ps a b⟩
noncomputable def e50 (D : HV → List HV → M HV) : Env := ⟨lk [], D, noG⟩

theorem d50 (D : HV → List HV → M HV) : fnD (e50 D) Tryd.prog [] a50 Tryd.f50 [] = f_internal_stringslite_HasPrefix D := by kernel_rfl
theorem ok50 {D : HV → List HV → M HV} (hD : DOk Tryd.prog noG D) : FnOk Tryd.prog noG 50 (f_internal_stringslite_HasPrefix D) := d50 D ▸ fn_ok (E := e50 D) ⟨lk_nil, hD⟩ mixed Tryd.func50 (by kernel_rfl) (by kernel_rfl) (hst_none (by kernel_rfl))

noncomputable def e37 (D : HV → List HV → M HV) : Env := ⟨lk [(50, f_internal_stringslite_HasPrefix D)], D, noG⟩

theorem d37 (D : HV → List HV → M HV) : fnD (e37 D) Tryd.prog [] a37 Tryd.f37 [] = f_strings_HasPrefix D := by kernel_rfl
theorem ok37 {D : HV → List HV → M HV} (hD : DOk Tryd.prog noG D) : FnOk Tryd.prog noG 37 (f_strings_HasPrefix D) := d37 D ▸ fn_ok (E := e37 D) ⟨(lk_cons (ok50 hD) lk_nil), hD⟩ mixed Tryd.func37 (by kernel_rfl) (by kernel_rfl) (hst_none (by kernel_rfl))

noncomputable def e21 (D : HV → List HV → M HV) : Env := ⟨lk [(37, f_strings_HasPrefix D)], D, noG⟩

theorem d21 (D : HV → List HV → M HV) : fnD (e21 D) Tryd.prog [] a21 Tryd.f21 [] = f_label_told D := by kernel_rfl
theorem ok21 {D : HV → List HV → M HV} (hD : DOk Tryd.prog noG D) : FnOk Tryd.prog noG 21 (f_label_told D) := d21 D ▸ fn_ok (E := e21 D) ⟨(lk_cons (ok37 hD) lk_nil), hD⟩ mixed Tryd.func21 (by kernel_rfl) (by kernel_rfl) (hst_none (by kernel_rfl))

noncomputable def e22 (D : HV → List HV → M HV) : Env := ⟨lk [(40, f_strings_Builder_copyCheck D)], D, noG⟩

theorem d22 (D : HV → List HV → M HV) : fnD (e22 D) Tryd.prog [] a22 Tryd.f22 [] = f_strings_Builder_WriteString D := by kernel_rfl
theorem ok22 {D : HV → List HV → M HV} (hD : DOk Tryd.prog noG D) : FnOk Tryd.prog noG 22 (f_strings_Builder_WriteString D) := d22 D ▸ fn_ok (E := e22 D) ⟨(lk_cons (ok40 hD) lk_nil), hD⟩ mixed Tryd.func22 (by kernel_rfl) (by kernel_rfl) (hst_none (by kernel_rfl))

noncomputable def e23 (D : HV → List HV → M HV) : Env := ⟨lk [(28, f_strconv_Itoa D)], D, noG⟩

theorem d23 (D : HV → List HV → M HV) : fnD (e23 D) Tryd.prog [] a23 Tryd.f23 [] = f_label_goal D := by kernel_rfl
theorem ok23 {D : HV → List HV → M HV} (hD : DOk Tryd.prog noG D) : FnOk Tryd.prog noG 23 (f_label_goal D) := d23 D ▸ fn_ok (E := e23 D) ⟨(lk_cons (ok28 hD) lk_nil), hD⟩ mixed Tryd.func23 (by kernel_rfl) (by kernel_rfl) (hst_none (by kernel_rfl))

noncomputable def e24 (D : HV → List HV → M HV) : Env := ⟨lk [(23, f_label_goal D), (28, f_strconv_Itoa D)], D, noG⟩

theorem d24 (D : HV → List HV → M HV) : fnD (e24 D) Tryd.prog [] a24 Tryd.f24 [] = f_label_tell D := by kernel_rfl
theorem ok24 {D : HV → List HV → M HV} (hD : DOk Tryd.prog noG D) : FnOk Tryd.prog noG 24 (f_label_tell D) := d24 D ▸ fn_ok (E := e24 D) ⟨(lk_cons (ok23 hD) (lk_cons (ok28 hD) lk_nil)), hD⟩ mixed Tryd.func24 (by kernel_rfl) (by kernel_rfl) (hst_none (by kernel_rfl))

noncomputable def e25 (D : HV → List HV → M HV) : Env := ⟨lk [], D, noG⟩

theorem d25 (D : HV → List HV → M HV) : fnD (e25 D) Tryd.prog [] a25 Tryd.f25 [] = f_strings_Builder_String D := by kernel_rfl
theorem ok25 {D : HV → List HV → M HV} (hD : DOk Tryd.prog noG D) : FnOk Tryd.prog noG 25 (f_strings_Builder_String D) := d25 D ▸ fn_ok (E := e25 D) ⟨lk_nil, hD⟩ mixed Tryd.func25 (by kernel_rfl) (by kernel_rfl) (hst_none (by kernel_rfl))

noncomputable def e12 (D : HV → List HV → M HV) : Env := ⟨lk [(21, f_label_told D), (22, f_strings_Builder_WriteString D), (23, f_label_goal D), (24, f_label_tell D), (25, f_strings_Builder_String D)], D, noG⟩

theorem d12 (D : HV → List HV → M HV) : fnD (e12 D) Tryd.prog [7] a12 Tryd.f12 [] = f_label_Write D := by kernel_rfl
theorem ok12 {D : HV → List HV → M HV} (hD : DOk Tryd.prog noG D) : FnOk Tryd.prog noG 12 (f_label_Write D) := d12 D ▸ fn_ok (E := e12 D) ⟨(lk_cons (ok21 hD) (lk_cons (ok22 hD) (lk_cons (ok23 hD) (lk_cons (ok24 hD) (lk_cons (ok25 hD) lk_nil))))), hD⟩ mixed Tryd.func12 (by kernel_rfl) (by kernel_rfl) (hst_none (by kernel_rfl))

noncomputable def e54 (D : HV → List HV → M HV) : Env := ⟨lk [(55, f_strings_Split D)], D, noG⟩

theorem d54 (D : HV → List HV → M HV) : fnD (e54 D) Tryd.prog [] a54 Tryd.f54 [.sc .kp] = f_label_lines_1 D := by kernel_rfl
theorem ok54 {D : HV → List HV → M HV} (hD : DOk Tryd.prog noG D) : FnOk Tryd.prog noG 54 (f_label_lines_1 D) := d54 D ▸ fn_ok (E := e54 D) ⟨(lk_cons (ok55 hD) lk_nil), hD⟩ mixed Tryd.func54 (by kernel_rfl) (by kernel_rfl) (hst_none (by kernel_rfl))

noncomputable def e42 (D : HV → List HV → M HV) : Env := ⟨lk [], D, noG⟩

theorem d42 (D : HV → List HV → M HV) : fnD (e42 D) Tryd.prog [1] a42 Tryd.f42 [] = f_label_lines D := by kernel_rfl
theorem ok42 {D : HV → List HV → M HV} (hD : DOk Tryd.prog noG D) : FnOk Tryd.prog noG 42 (f_label_lines D) := d42 D ▸ fn_ok (E := e42 D) ⟨lk_nil, hD⟩ mixed Tryd.func42 (by kernel_rfl) (by kernel_rfl) (hst_none (by kernel_rfl))

noncomputable def e80 (D : HV → List HV → M HV) : Env := ⟨lk [(50, f_internal_stringslite_HasPrefix D)], D, noG⟩

theorem d80 (D : HV → List HV → M HV) : fnD (e80 D) Tryd.prog [] a80 Tryd.f80 [] = f_internal_stringslite_CutPrefix D := by kernel_rfl
theorem ok80 {D : HV → List HV → M HV} (hD : DOk Tryd.prog noG D) : FnOk Tryd.prog noG 80 (f_internal_stringslite_CutPrefix D) := d80 D ▸ fn_ok (E := e80 D) ⟨(lk_cons (ok50 hD) lk_nil), hD⟩ mixed Tryd.func80 (by kernel_rfl) (by kernel_rfl) (hst_none (by kernel_rfl))

noncomputable def e67 (D : HV → List HV → M HV) : Env := ⟨lk [(80, f_internal_stringslite_CutPrefix D)], D, noG⟩

theorem d67 (D : HV → List HV → M HV) : fnD (e67 D) Tryd.prog [] a67 Tryd.f67 [] = f_strings_CutPrefix D := by kernel_rfl
theorem ok67 {D : HV → List HV → M HV} (hD : DOk Tryd.prog noG D) : FnOk Tryd.prog noG 67 (f_strings_CutPrefix D) := d67 D ▸ fn_ok (E := e67 D) ⟨(lk_cons (ok80 hD) lk_nil), hD⟩ mixed Tryd.func67 (by kernel_rfl) (by kernel_rfl) (hst_none (by kernel_rfl))

noncomputable def e68 (D : HV → List HV → M HV) : Env := ⟨lk [], D, noG⟩

theorem d68 (D : HV → List HV → M HV) : fnD (e68 D) Tryd.prog [] a68 Tryd.f68 [] = f_label_name D := by kernel_rfl
theorem ok68 {D : HV → List HV → M HV} (hD : DOk Tryd.prog noG D) : FnOk Tryd.prog noG 68 (f_label_name D) := d68 D ▸ fn_ok (E := e68 D) ⟨lk_nil, hD⟩ mixed Tryd.func68 (by kernel_rfl) (by kernel_rfl) (hst_none (by kernel_rfl))

noncomputable def e69 (D : HV → List HV → M HV) : Env := ⟨lk [], D, noG⟩

theorem d69 (D : HV → List HV → M HV) : fnD (e69 D) Tryd.prog [] a69 Tryd.f69 [] = f_label_op D := by kernel_rfl
theorem ok69 {D : HV → List HV → M HV} (hD : DOk Tryd.prog noG D) : FnOk Tryd.prog noG 69 (f_label_op D) := d69 D ▸ fn_ok (E := e69 D) ⟨lk_nil, hD⟩ mixed Tryd.func69 (by kernel_rfl) (by kernel_rfl) (hst_none (by kernel_rfl))

noncomputable def e81 (D : HV → List HV → M HV) : Env := ⟨lk [(28, f_strconv_Itoa D), (87, f_strconv_Atoi D)], D, noG⟩

theorem d81 (D : HV → List HV → M HV) : fnD (e81 D) Tryd.prog [] a81 Tryd.f81 [] = f_label_number D := by kernel_rfl
theorem ok81 {D : HV → List HV → M HV} (hD : DOk Tryd.prog noG D) : FnOk Tryd.prog noG 81 (f_label_number D) := d81 D ▸ fn_ok (E := e81 D) ⟨(lk_cons (ok28 hD) (lk_cons (ok87 hD) lk_nil)), hD⟩ mixed Tryd.func81 (by kernel_rfl) (by kernel_rfl) (hst_none (by kernel_rfl))

noncomputable def e70 (D : HV → List HV → M HV) : Env := ⟨lk [(68, f_label_name D), (81, f_label_number D)], D, noG⟩

theorem d70 (D : HV → List HV → M HV) : fnD (e70 D) Tryd.prog [] a70 Tryd.f70 [] = f_label_fields D := by kernel_rfl
theorem ok70 {D : HV → List HV → M HV} (hD : DOk Tryd.prog noG D) : FnOk Tryd.prog noG 70 (f_label_fields D) := d70 D ▸ fn_ok (E := e70 D) ⟨(lk_cons (ok68 hD) (lk_cons (ok81 hD) lk_nil)), hD⟩ mixed Tryd.func70 (by kernel_rfl) (by kernel_rfl) (hst_none (by kernel_rfl))

noncomputable def e56 (D : HV → List HV → M HV) : Env := ⟨lk [(55, f_strings_Split D), (67, f_strings_CutPrefix D), (68, f_label_name D), (69, f_label_op D), (70, f_label_fields D)], D, noG⟩

theorem d56 (D : HV → List HV → M HV) : fnD (e56 D) Tryd.prog [] a56 Tryd.f56 [] = f_label_parse D := by kernel_rfl
theorem ok56 {D : HV → List HV → M HV} (hD : DOk Tryd.prog noG D) : FnOk Tryd.prog noG 56 (f_label_parse D) := d56 D ▸ fn_ok (E := e56 D) ⟨(lk_cons (ok55 hD) (lk_cons (ok67 hD) (lk_cons (ok68 hD) (lk_cons (ok69 hD) (lk_cons (ok70 hD) lk_nil))))), hD⟩ mixed Tryd.func56 (by kernel_rfl) (by kernel_rfl) (hst_none (by kernel_rfl))

noncomputable def e43 (D : HV → List HV → M HV) : Env := ⟨lk [(56, f_label_parse D)], D, noG⟩

theorem d43 (D : HV → List HV → M HV) : fnD (e43 D) Tryd.prog [] a43 Tryd.f43 [] = f_label_sheet_take D := by kernel_rfl
theorem ok43 {D : HV → List HV → M HV} (hD : DOk Tryd.prog noG D) : FnOk Tryd.prog noG 43 (f_label_sheet_take D) := d43 D ▸ fn_ok (E := e43 D) ⟨(lk_cons (ok56 hD) lk_nil), hD⟩ mixed Tryd.func43 (by kernel_rfl) (by kernel_rfl) (hst_none (by kernel_rfl))

noncomputable def e30 (D : HV → List HV → M HV) : Env := ⟨lk [(42, f_label_lines D)], D, noG⟩

theorem st30 : ∀ e ∈ sitesF Tryd.f30 a30, e ∈ es := by
  rw [show sitesF Tryd.f30 a30 = [s30_0] by kernel_rfl]
  intro e he
  simp only [List.mem_cons, List.not_mem_nil, or_false] at he
  rcases he with rfl <;> simp [es]
theorem d30 (D : HV → List HV → M HV) : fnD (e30 D) Tryd.prog [2, 3, 4, 5, 17] a30 Tryd.f30 [] = f_label_read D := by kernel_rfl
theorem ok30 {D : HV → List HV → M HV} (hD : DOk Tryd.prog noG D) : FnOk Tryd.prog noG 30 (f_label_read D) := d30 D ▸ fn_ok (E := e30 D) ⟨(lk_cons (ok42 hD) lk_nil), hD⟩ mixed Tryd.func30 (by kernel_rfl) (by kernel_rfl) (hst_of (fun _ _ _ _ _ h => h) st30)

noncomputable def e30_0 (D : HV → List HV → M HV) : Env := ⟨lk [(43, f_label_sheet_take D)], D, noG⟩

theorem d30_0 (D : HV → List HV → M HV) (l : Nat) (vs : List (Nat × HV)) (args : List HV) : roundD (e30_0 D) Tryd.prog [] s30_0.2 [.t 2 (.sc .kp), .t 3 (.sc .kp), .t 4 (.sc .kp), .t 5 (.sc .kp)] [.t 20 (.sc (.ki .i64)), .t 21 (.sc .ks)] .z .z [] l vs args = r0_label_read D l vs args := by kernel_rfl
theorem rd30_0 : RdOk Tryd.prog noG s30_0 r0_label_read := fun D hD => ⟨e30_0 D, [], [.t 2 (.sc .kp), .t 3 (.sc .kp), .t 4 (.sc .kp), .t 5 (.sc .kp)], [.t 20 (.sc (.ki .i64)), .t 21 (.sc .ks)], .z, .z, [], ⟨(lk_cons (ok43 hD) lk_nil), hD⟩, rfl, by kernel_rfl, rst_none (by kernel_rfl), fun l vs args => (d30_0 D l vs args).symm⟩

noncomputable def e14 (D : HV → List HV → M HV) : Env := ⟨lk [(30, f_label_read D)], D, noG⟩

theorem d14 (D : HV → List HV → M HV) : fnD (e14 D) Tryd.prog [] a14 Tryd.f14 [] = f_label_Read D := by kernel_rfl
theorem ok14 {D : HV → List HV → M HV} (hD : DOk Tryd.prog noG D) : FnOk Tryd.prog noG 14 (f_label_Read D) := d14 D ▸ fn_ok (E := e14 D) ⟨(lk_cons (ok30 hD) lk_nil), hD⟩ mixed Tryd.func14 (by kernel_rfl) (by kernel_rfl) (hst_none (by kernel_rfl))

noncomputable def e11 (D : HV → List HV → M HV) : Env := ⟨lk [(12, f_label_Write D), (14, f_label_Read D)], D, noG⟩

theorem d11 (D : HV → List HV → M HV) : fnD (e11 D) Tryd.prog [11] a11 Tryd.f11 [] = f_law26_alive D := by kernel_rfl
theorem ok11 {D : HV → List HV → M HV} (hD : DOk Tryd.prog noG D) : FnOk Tryd.prog noG 11 (f_law26_alive D) := d11 D ▸ fn_ok (E := e11 D) ⟨(lk_cons (ok12 hD) (lk_cons (ok14 hD) lk_nil)), hD⟩ mixed Tryd.func11 (by kernel_rfl) (by kernel_rfl) (hst_none (by kernel_rfl))

noncomputable def e26 (D : HV → List HV → M HV) : Env := ⟨lk [], D, noG⟩

theorem d26 (D : HV → List HV → M HV) : fnD (e26 D) Tryd.prog [] a26 Tryd.f26 [] = f_ref26_Behind D := by kernel_rfl
theorem ok26 {D : HV → List HV → M HV} (hD : DOk Tryd.prog noG D) : FnOk Tryd.prog noG 26 (f_ref26_Behind D) := d26 D ▸ fn_ok (E := e26 D) ⟨lk_nil, hD⟩ mixed Tryd.func26 (by kernel_rfl) (by kernel_rfl) (hst_none (by kernel_rfl))

noncomputable def e27 (D : HV → List HV → M HV) : Env := ⟨lk [], D, noG⟩

theorem d27 (D : HV → List HV → M HV) : fnD (e27 D) Tryd.prog [] a27 Tryd.f27 [] = f_ref26_Named D := by kernel_rfl
theorem ok27 {D : HV → List HV → M HV} (hD : DOk Tryd.prog noG D) : FnOk Tryd.prog noG 27 (f_ref26_Named D) := d27 D ▸ fn_ok (E := e27 D) ⟨lk_nil, hD⟩ mixed Tryd.func27 (by kernel_rfl) (by kernel_rfl) (hst_none (by kernel_rfl))

noncomputable def e31 (D : HV → List HV → M HV) : Env := ⟨lk [], D, noG⟩

theorem d31 (D : HV → List HV → M HV) : fnD (e31 D) Tryd.prog [] a31 Tryd.f31 [] = f_ref25_Pieces D := by kernel_rfl
theorem ok31 {D : HV → List HV → M HV} (hD : DOk Tryd.prog noG D) : FnOk Tryd.prog noG 31 (f_ref25_Pieces D) := d31 D ▸ fn_ok (E := e31 D) ⟨lk_nil, hD⟩ mixed Tryd.func31 (by kernel_rfl) (by kernel_rfl) (hst_none (by kernel_rfl))

noncomputable def e29 (D : HV → List HV → M HV) : Env := ⟨lk [(26, f_ref26_Behind D), (28, f_strconv_Itoa D), (31, f_ref25_Pieces D)], D, noG⟩

theorem d29 (D : HV → List HV → M HV) : fnD (e29 D) Tryd.prog [] a29 Tryd.f29 [] = f_ref26_Told D := by kernel_rfl
theorem ok29 {D : HV → List HV → M HV} (hD : DOk Tryd.prog noG D) : FnOk Tryd.prog noG 29 (f_ref26_Told D) := d29 D ▸ fn_ok (E := e29 D) ⟨(lk_cons (ok26 hD) (lk_cons (ok28 hD) (lk_cons (ok31 hD) lk_nil))), hD⟩ mixed Tryd.func29 (by kernel_rfl) (by kernel_rfl) (hst_none (by kernel_rfl))

noncomputable def e13 (D : HV → List HV → M HV) : Env := ⟨lk [(26, f_ref26_Behind D), (27, f_ref26_Named D), (28, f_strconv_Itoa D), (29, f_ref26_Told D)], D, noG⟩

theorem d13 (D : HV → List HV → M HV) : fnD (e13 D) Tryd.prog [] a13 Tryd.f13 [] = f_ref26_Write D := by kernel_rfl
theorem ok13 {D : HV → List HV → M HV} (hD : DOk Tryd.prog noG D) : FnOk Tryd.prog noG 13 (f_ref26_Write D) := d13 D ▸ fn_ok (E := e13 D) ⟨(lk_cons (ok26 hD) (lk_cons (ok27 hD) (lk_cons (ok28 hD) (lk_cons (ok29 hD) lk_nil)))), hD⟩ mixed Tryd.func13 (by kernel_rfl) (by kernel_rfl) (hst_none (by kernel_rfl))

noncomputable def e3 (D : HV → List HV → M HV) : Env := ⟨lk [(11, f_law26_alive D), (12, f_label_Write D), (13, f_ref26_Write D)], D, noG⟩

theorem d3 (D : HV → List HV → M HV) : fnD (e3 D) Tryd.prog [] a3 Tryd.f3 [] = f_law26_LabelWrites D := by kernel_rfl
noncomputable def e15 (D : HV → List HV → M HV) : Env := ⟨lk [], D, noG⟩

theorem d15 (D : HV → List HV → M HV) : fnD (e15 D) Tryd.prog [] a15 Tryd.f15 [] = f_law26_same D := by kernel_rfl
theorem ok15 {D : HV → List HV → M HV} (hD : DOk Tryd.prog noG D) : FnOk Tryd.prog noG 15 (f_law26_same D) := d15 D ▸ fn_ok (E := e15 D) ⟨lk_nil, hD⟩ mixed Tryd.func15 (by kernel_rfl) (by kernel_rfl) (hst_none (by kernel_rfl))

noncomputable def e4 (D : HV → List HV → M HV) : Env := ⟨lk [(11, f_law26_alive D), (12, f_label_Write D), (13, f_ref26_Write D), (14, f_label_Read D), (15, f_law26_same D)], D, noG⟩

theorem d4 (D : HV → List HV → M HV) : fnD (e4 D) Tryd.prog [] a4 Tryd.f4 [] = f_law26_LabelReturns D := by kernel_rfl
theorem ok4 {D : HV → List HV → M HV} (hD : DOk Tryd.prog noG D) : FnOk Tryd.prog noG 4 (f_law26_LabelReturns D) := d4 D ▸ fn_ok (E := e4 D) ⟨(lk_cons (ok11 hD) (lk_cons (ok12 hD) (lk_cons (ok13 hD) (lk_cons (ok14 hD) (lk_cons (ok15 hD) lk_nil))))), hD⟩ mixed Tryd.func4 (by kernel_rfl) (by kernel_rfl) (hst_none (by kernel_rfl))

noncomputable def e44 (D : HV → List HV → M HV) : Env := ⟨lk [], D, noG⟩

theorem d44 (D : HV → List HV → M HV) : fnD (e44 D) Tryd.prog [] a44 Tryd.f44 [] = f_ref26_Name D := by kernel_rfl
theorem ok44 {D : HV → List HV → M HV} (hD : DOk Tryd.prog noG D) : FnOk Tryd.prog noG 44 (f_ref26_Name D) := d44 D ▸ fn_ok (E := e44 D) ⟨lk_nil, hD⟩ mixed Tryd.func44 (by kernel_rfl) (by kernel_rfl) (hst_none (by kernel_rfl))

noncomputable def e45 (D : HV → List HV → M HV) : Env := ⟨lk [(31, f_ref25_Pieces D)], D, noG⟩

theorem d45 (D : HV → List HV → M HV) : fnD (e45 D) Tryd.prog [] a45 Tryd.f45 [] = f_ref25_Op D := by kernel_rfl
theorem ok45 {D : HV → List HV → M HV} (hD : DOk Tryd.prog noG D) : FnOk Tryd.prog noG 45 (f_ref25_Op D) := d45 D ▸ fn_ok (E := e45 D) ⟨(lk_cons (ok31 hD) lk_nil), hD⟩ mixed Tryd.func45 (by kernel_rfl) (by kernel_rfl) (hst_none (by kernel_rfl))

noncomputable def e46 (D : HV → List HV → M HV) : Env := ⟨lk [], D, noG⟩

theorem d46 (D : HV → List HV → M HV) : fnD (e46 D) Tryd.prog [] a46 Tryd.f46 [] = f_ref25_Num D := by kernel_rfl
theorem ok46 {D : HV → List HV → M HV} (hD : DOk Tryd.prog noG D) : FnOk Tryd.prog noG 46 (f_ref25_Num D) := d46 D ▸ fn_ok (E := e46 D) ⟨lk_nil, hD⟩ mixed Tryd.func46 (by kernel_rfl) (by kernel_rfl) (hst_none (by kernel_rfl))

noncomputable def e32 (D : HV → List HV → M HV) : Env := ⟨lk [(26, f_ref26_Behind D), (31, f_ref25_Pieces D), (44, f_ref26_Name D), (45, f_ref25_Op D), (46, f_ref25_Num D)], D, noG⟩

theorem d32 (D : HV → List HV → M HV) : fnD (e32 D) Tryd.prog [] a32 Tryd.f32 [] = f_ref26_Said D := by kernel_rfl
theorem ok32 {D : HV → List HV → M HV} (hD : DOk Tryd.prog noG D) : FnOk Tryd.prog noG 32 (f_ref26_Said D) := d32 D ▸ fn_ok (E := e32 D) ⟨(lk_cons (ok26 hD) (lk_cons (ok31 hD) (lk_cons (ok44 hD) (lk_cons (ok45 hD) (lk_cons (ok46 hD) lk_nil))))), hD⟩ mixed Tryd.func32 (by kernel_rfl) (by kernel_rfl) (hst_none (by kernel_rfl))

noncomputable def e33 (D : HV → List HV → M HV) : Env := ⟨lk [], D, noG⟩

theorem d33 (D : HV → List HV → M HV) : fnD (e33 D) Tryd.prog [] a33 Tryd.f33 [] = f_ref26_At D := by kernel_rfl
theorem ok33 {D : HV → List HV → M HV} (hD : DOk Tryd.prog noG D) : FnOk Tryd.prog noG 33 (f_ref26_At D) := d33 D ▸ fn_ok (E := e33 D) ⟨lk_nil, hD⟩ mixed Tryd.func33 (by kernel_rfl) (by kernel_rfl) (hst_none (by kernel_rfl))

noncomputable def e16 (D : HV → List HV → M HV) : Env := ⟨lk [(31, f_ref25_Pieces D), (32, f_ref26_Said D), (33, f_ref26_At D)], D, noG⟩

theorem d16 (D : HV → List HV → M HV) : fnD (e16 D) Tryd.prog [] a16 Tryd.f16 [] = f_ref26_Read D := by kernel_rfl
theorem ok16 {D : HV → List HV → M HV} (hD : DOk Tryd.prog noG D) : FnOk Tryd.prog noG 16 (f_ref26_Read D) := d16 D ▸ fn_ok (E := e16 D) ⟨(lk_cons (ok31 hD) (lk_cons (ok32 hD) (lk_cons (ok33 hD) lk_nil))), hD⟩ mixed Tryd.func16 (by kernel_rfl) (by kernel_rfl) (hst_none (by kernel_rfl))

noncomputable def e5 (D : HV → List HV → M HV) : Env := ⟨lk [(11, f_law26_alive D), (12, f_label_Write D), (14, f_label_Read D), (15, f_law26_same D), (16, f_ref26_Read D)], D, noG⟩

theorem d5 (D : HV → List HV → M HV) : fnD (e5 D) Tryd.prog [] a5 Tryd.f5 [] = f_law26_LabelAgain D := by kernel_rfl
theorem ok5 {D : HV → List HV → M HV} (hD : DOk Tryd.prog noG D) : FnOk Tryd.prog noG 5 (f_law26_LabelAgain D) := d5 D ▸ fn_ok (E := e5 D) ⟨(lk_cons (ok11 hD) (lk_cons (ok12 hD) (lk_cons (ok14 hD) (lk_cons (ok15 hD) (lk_cons (ok16 hD) lk_nil))))), hD⟩ mixed Tryd.func5 (by kernel_rfl) (by kernel_rfl) (hst_none (by kernel_rfl))

noncomputable def e6 (D : HV → List HV → M HV) : Env := ⟨lk [(11, f_law26_alive D), (13, f_ref26_Write D), (14, f_label_Read D), (15, f_law26_same D)], D, noG⟩

theorem d6 (D : HV → List HV → M HV) : fnD (e6 D) Tryd.prog [] a6 Tryd.f6 [] = f_law26_LabelNames D := by kernel_rfl
theorem ok6 {D : HV → List HV → M HV} (hD : DOk Tryd.prog noG D) : FnOk Tryd.prog noG 6 (f_law26_LabelNames D) := d6 D ▸ fn_ok (E := e6 D) ⟨(lk_cons (ok11 hD) (lk_cons (ok13 hD) (lk_cons (ok14 hD) (lk_cons (ok15 hD) lk_nil)))), hD⟩ mixed Tryd.func6 (by kernel_rfl) (by kernel_rfl) (hst_none (by kernel_rfl))

noncomputable def e17 (D : HV → List HV → M HV) : Env := ⟨lk [(31, f_ref25_Pieces D)], D, noG⟩

theorem d17 (D : HV → List HV → M HV) : fnD (e17 D) Tryd.prog [] a17 Tryd.f17 [] = f_law26_joined D := by kernel_rfl
theorem ok17 {D : HV → List HV → M HV} (hD : DOk Tryd.prog noG D) : FnOk Tryd.prog noG 17 (f_law26_joined D) := d17 D ▸ fn_ok (E := e17 D) ⟨(lk_cons (ok31 hD) lk_nil), hD⟩ mixed Tryd.func17 (by kernel_rfl) (by kernel_rfl) (hst_none (by kernel_rfl))

noncomputable def e7 (D : HV → List HV → M HV) : Env := ⟨lk [(11, f_law26_alive D), (14, f_label_Read D), (16, f_ref26_Read D), (17, f_law26_joined D)], D, noG⟩

theorem d7 (D : HV → List HV → M HV) : fnD (e7 D) Tryd.prog [] a7 Tryd.f7 [] = f_law26_LabelFaults D := by kernel_rfl
theorem ok7 {D : HV → List HV → M HV} (hD : DOk Tryd.prog noG D) : FnOk Tryd.prog noG 7 (f_law26_LabelFaults D) := d7 D ▸ fn_ok (E := e7 D) ⟨(lk_cons (ok11 hD) (lk_cons (ok14 hD) (lk_cons (ok16 hD) (lk_cons (ok17 hD) lk_nil)))), hD⟩ mixed Tryd.func7 (by kernel_rfl) (by kernel_rfl) (hst_none (by kernel_rfl))

noncomputable def e8 (D : HV → List HV → M HV) : Env := ⟨lk [(11, f_law26_alive D), (14, f_label_Read D), (15, f_law26_same D), (17, f_law26_joined D), (18, f_strings_Contains D)], D, noG⟩

theorem d8 (D : HV → List HV → M HV) : fnD (e8 D) Tryd.prog [39] a8 Tryd.f8 [] = f_law26_LabelBlank D := by kernel_rfl
theorem ok8 {D : HV → List HV → M HV} (hD : DOk Tryd.prog noG D) : FnOk Tryd.prog noG 8 (f_law26_LabelBlank D) := d8 D ▸ fn_ok (E := e8 D) ⟨(lk_cons (ok11 hD) (lk_cons (ok14 hD) (lk_cons (ok15 hD) (lk_cons (ok17 hD) (lk_cons (ok18 hD) lk_nil))))), hD⟩ mixed Tryd.func8 (by kernel_rfl) (by kernel_rfl) (hst_none (by kernel_rfl))

noncomputable def e35 (D : HV → List HV → M HV) : Env := ⟨lk [(30, f_label_read D)], D, noG⟩

theorem d35 (D : HV → List HV → M HV) : fnD (e35 D) Tryd.prog [] a35 Tryd.f35 [.sc .kp] = f_label_Marks_1 D := by kernel_rfl
theorem ok35 {D : HV → List HV → M HV} (hD : DOk Tryd.prog noG D) : FnOk Tryd.prog noG 35 (f_label_Marks_1 D) := d35 D ▸ fn_ok (E := e35 D) ⟨(lk_cons (ok30 hD) lk_nil), hD⟩ mixed Tryd.func35 (by kernel_rfl) (by kernel_rfl) (hst_none (by kernel_rfl))

noncomputable def e19 (D : HV → List HV → M HV) : Env := ⟨lk [], D, noG⟩

theorem d19 (D : HV → List HV → M HV) : fnD (e19 D) Tryd.prog [1] a19 Tryd.f19 [] = f_label_Marks D := by kernel_rfl
theorem ok19 {D : HV → List HV → M HV} (hD : DOk Tryd.prog noG D) : FnOk Tryd.prog noG 19 (f_label_Marks D) := d19 D ▸ fn_ok (E := e19 D) ⟨lk_nil, hD⟩ mixed Tryd.func19 (by kernel_rfl) (by kernel_rfl) (hst_none (by kernel_rfl))

noncomputable def e9 (D : HV → List HV → M HV) : Env := ⟨lk [(11, f_law26_alive D), (14, f_label_Read D), (15, f_law26_same D), (16, f_ref26_Read D), (19, f_label_Marks D)], D, noG⟩

theorem st9 : ∀ e ∈ sitesF Tryd.f9 a9, e ∈ es := by
  rw [show sitesF Tryd.f9 a9 = [s9_0] by kernel_rfl]
  intro e he
  simp only [List.mem_cons, List.not_mem_nil, or_false] at he
  rcases he with rfl <;> simp [es]
theorem d9 (D : HV → List HV → M HV) : fnD (e9 D) Tryd.prog [3, 4, 9, 12] a9 Tryd.f9 [] = f_law26_LabelReads D := by kernel_rfl
theorem ok9 {D : HV → List HV → M HV} (hD : DOk Tryd.prog noG D) : FnOk Tryd.prog noG 9 (f_law26_LabelReads D) := d9 D ▸ fn_ok (E := e9 D) ⟨(lk_cons (ok11 hD) (lk_cons (ok14 hD) (lk_cons (ok15 hD) (lk_cons (ok16 hD) (lk_cons (ok19 hD) lk_nil))))), hD⟩ mixed Tryd.func9 (by kernel_rfl) (by kernel_rfl) (hst_of (fun _ _ _ _ _ h => h) st9)

noncomputable def e9_0 (D : HV → List HV → M HV) : Env := ⟨lk [], D, noG⟩

theorem d9_0 (D : HV → List HV → M HV) (l : Nat) (vs : List (Nat × HV)) (args : List HV) : roundD (e9_0 D) Tryd.prog [] s9_0.2 [.t 3 (.sc .kp), .t 4 (.sc .kp), .t 9 (.sc .kp), .t 12 (.sc .kp)] [.t 46 (.sc .ks), .t 47 (.sc (.ki .i64))] .z (.n none (.n none (.n none (.n (some [.t 69 (.sc .kb)]) .z .z) .z) .z) .z) [0] l vs args = r0_law26_LabelReads D l vs args := by kernel_rfl
theorem rd9_0 : RdOk Tryd.prog noG s9_0 r0_law26_LabelReads := fun D hD => ⟨e9_0 D, [], [.t 3 (.sc .kp), .t 4 (.sc .kp), .t 9 (.sc .kp), .t 12 (.sc .kp)], [.t 46 (.sc .ks), .t 47 (.sc (.ki .i64))], .z, (.n none (.n none (.n none (.n (some [.t 69 (.sc .kb)]) .z .z) .z) .z) .z), [0], ⟨lk_nil, hD⟩, rfl, by kernel_rfl, rst_none (by kernel_rfl), fun l vs args => (d9_0 D l vs args).symm⟩

noncomputable def e10 (D : HV → List HV → M HV) : Env := ⟨lk [(11, f_law26_alive D), (14, f_label_Read D), (20, f_strings_Repeat D)], D, noG⟩

theorem d10 (D : HV → List HV → M HV) : fnD (e10 D) Tryd.prog [] a10 Tryd.f10 [] = f_law26_LabelFull D := by kernel_rfl
theorem ok10 {D : HV → List HV → M HV} (hD : DOk Tryd.prog noG D) : FnOk Tryd.prog noG 10 (f_law26_LabelFull D) := d10 D ▸ fn_ok (E := e10 D) ⟨(lk_cons (ok11 hD) (lk_cons (ok14 hD) (lk_cons (ok20 hD) lk_nil))), hD⟩ mixed Tryd.func10 (by kernel_rfl) (by kernel_rfl) (hst_none (by kernel_rfl))

theorem rnok : RnOk Tryd.prog noG es [(96110293, r0_label_read), (87817742, r0_law26_LabelReads)] := (rn_cons (by kernel_rfl) rd30_0 (by kernel_rfl) (rn_cons (by kernel_rfl) rd9_0 (by kernel_rfl) rn_nil))
theorem clok : ClOk Tryd.prog noG [(n_label_Marks_1, f_label_Marks_1), (n_label_lines_1, f_label_lines_1)] := (cl_cons (fun _ hD => ok35 hD) (cl_cons (fun _ hD => ok54 hD) cl_nil))
/-- functions as values, by levels -/
noncomputable abbrev lev (n : Nat) : DD := levD [(n_label_Marks_1, f_label_Marks_1), (n_label_lines_1, f_label_lines_1)] [(96110293, r0_label_read), (87817742, r0_law26_LabelReads)] n
theorem lev_ok (n : Nat) : DOk Tryd.prog noG (lev n) := levD_ok mixed clok rnok (fun _ _ _ _ _ h => h) n

end Go.Proofs.YtmfmcegpoiinjaaDoor.HM
