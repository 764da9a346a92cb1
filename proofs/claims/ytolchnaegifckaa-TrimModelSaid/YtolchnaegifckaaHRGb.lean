/- The program's functions are as these texts. Conditions: what is called as a value is told (DOk). -/
import Derived.Test.YtolchnaegifckaaHRGa
import Derived.Test.YtolchnaegifckaaChecked
import Derived.KernelRfl
namespace Go.Proofs.Ytolchnaegifckaa.HR
open Go Go.Proofs
set_option maxRecDepth 100000
abbrev noG : Nat → Option Nat := fun _ => none
theorem mixed : Try.prog.follows .mixedOrders = true := by kernel_rfl

def a56 : Ann := (.n none .z (.n none .z (.n none .z (.n none (.n none .z (.n (some [.t 5 (.sc (.ki .i64))]) (.n (some [.t 5 (.sc (.ki .i64)), .t 13 (.sc (.ki .i64))]) (.n none .z (.n none .z (.n none (.n (some [.t 5 (.sc (.ki .i64))]) .z .z) .z))) .z) .z)) .z))))
def a69 : Ann := (.n none .z (.n none (.n (some [.t 4 (.sc .kb)]) .z .z) .z))
def a70 : Ann := (.n none .z (.n none (.n none .z (.n none (.n none .z (.n none (.n none (.n (some [.t 2 (.sc .kb)]) .z .z) .z) (.n none .z (.n none (.n none (.n (some [.t 2 (.sc .kb)]) .z .z) .z) (.n none (.n none .z (.n (some [.t 35 (.sc .kb)]) .z .z)) (.n none (.n none (.n (some [.t 2 (.sc .kb)]) .z .z) .z) (.n none .z (.n none (.n none (.n (some [.t 2 (.sc .kb)]) .z .z) .z) (.n none .z (.n none (.n none (.n (some [.t 2 (.sc .kb)]) .z .z) .z) (.n none .z (.n none (.n none (.n (some [.t 2 (.sc .kb)]) .z .z) .z) (.n none .z (.n none (.n none (.n (some [.t 2 (.sc .kb)]) .z .z) .z) (.n none .z (.n none (.n none (.n (some [.t 2 (.sc .kb)]) .z .z) .z) (.n none .z (.n none (.n none (.n (some [.t 2 (.sc .kb)]) .z .z) .z) (.n none .z (.n none (.n none (.n (some [.t 2 (.sc .kb)]) .z .z) .z) .z)))))))))))))))))))) .z)) .z))
def a57 : Ann := (.n none .z (.n none (.n none .z (.n none (.n none (.n none .z (.n (some [.t 5 (.sc .kb)]) .z .z)) (.n none .z (.n none .z (.n none (.n none (.n (some [.t 2 (.sc .kb)]) .z .z) .z) (.n none .z (.n none (.n none (.n (some [.t 2 (.sc .kb)]) .z .z) .z) (.n none .z (.n none (.n none (.n (some [.t 2 (.sc .kb)]) .z .z) .z) (.n none .z (.n none (.n none (.n (some [.t 2 (.sc .kb)]) .z .z) .z) (.n none .z (.n none (.n none (.n (some [.t 2 (.sc .kb)]) .z .z) .z) (.n none .z (.n none (.n none (.n (some [.t 2 (.sc .kb)]) .z .z) .z) .z)))))))))))))) .z)) .z))
def a58 : Ann := (.n none .z (.n none (.n none .z (.n none (.n none (.n none .z (.n (some [.t 6 (.sc .kb)]) .z .z)) (.n none .z (.n none (.n none .z (.n (some [.t 10 (.sc .kb)]) .z .z)) .z))) .z)) .z))
def a59 : Ann := (.n none .z (.n none .z (.n none (.n none (.n (some [.t 21 (.sc .kb)]) .z .z) .z) .z)))
def a39 : Ann := (.n none .z (.n none .z (.n none .z (.n none .z (.n none .z (.n none (.n none .z (.n (some []) (.n (some [.t 6 (.sc .kb), .t 7 (.sc (.ki .i64)), .t 22 (.sc (.ki .i64))]) (.n none .z (.n none .z (.n none (.n (some [.t 6 (.sc .kb), .t 7 (.sc (.ki .i64))]) (.n none .z (.n none (.n none (.n (some [.t 40 (.sc .kb)]) .z .z) .z) (.n none (.n none .z (.n (some [.t 6 (.sc .kb), .t 7 (.sc (.ki .i64))]) (.n none (.n none .z (.n (some [.t 44 (.sc .kb)]) .z .z)) .z) .z)) (.n none (.n none .z (.n (some [.t 7 (.sc (.ki .i64))]) .z .z)) (.n none .z (.n none (.n none (.n (some [.t 83 (.sc .kb)]) .z .z) .z) .z)))))) .z) .z))) .z) .z)) .z))))))
def a41 : Ann := .z
def a48 : Ann := (.n none .z (.n none .z (.n none (.n none .z (.n (some [.t 3 (.sc (.ki .i64))]) (.n (some [.t 3 (.sc (.ki .i64)), .t 8 (.sc (.ki .i64))]) (.n none .z (.n none .z (.n none (.n none (.n none .z (.n none (.n none .z (.n (some [.t 3 (.sc (.ki .i64))]) .z .z)) (.n none (.n none .z (.n (some [.t 3 (.sc (.ki .i64))]) .z .z)) (.n none (.n (some [.t 27 (.sc .kb)]) .z .z) .z)))) .z) .z))) .z) .z)) .z)))
def a17 : Ann := (.n none .z (.n none .z (.n none (.n none .z (.n (some []) (.n (some [.t 5 (.sc (.ki .i64))]) .z .z) .z)) .z)))
def a62 : Ann := (.n none .z (.n none .z (.n none .z (.n none (.n none .z (.n none (.n none (.n none .z (.n (some [.t 17 (.sc .kb)]) .z .z)) (.n none .z (.n none .z (.n none .z (.n none .z (.n none .z (.n none .z (.n none .z (.n none .z (.n none .z (.n none .z (.n none .z (.n none .z (.n none .z (.n none .z (.n none .z (.n none (.n none .z (.n (some [.t 62 (.sc .kb)]) .z .z)) .z))))))))))))))))) .z)) .z))))
def a49 : Ann := (.n none .z (.n none .z (.n none .z (.n none (.n none (.n (some [.t 82 (.sc .kb)]) .z .z) .z) (.n none .z (.n none (.n none (.n (some [.t 106 (.sc .kb)]) .z .z) .z) (.n none (.n none (.n (some [.t 114 (.sc .kb)]) .z .z) (.n (some []) (.n none (.n (some [.t 151 (.sc .kb)]) .z .z) .z) .z)) (.n none .z (.n none (.n none .z (.n (some [.t 9 (.sc (.ki .i64))]) (.n (some [.t 9 (.sc (.ki .i64)), .t 10 (.sc (.ki .i64))]) (.n none .z (.n none (.n (some [.t 9 (.sc (.ki .i64))]) (.n none (.n none (.n (some [.t 184 (.sc .kb)]) .z .z) .z) .z) .z) .z)) .z) .z)) (.n none (.n (some [.t 4 (.sc .kb)]) .z .z) .z))))))))))
def a30 : Ann := (.n none .z (.n none .z (.n none .z (.n none (.n none .z (.n (some []) (.n (some [.t 13 (.sc (.ki .i64))]) .z .z) .z)) .z))))
def a15 : Ann := .z
def a3 : Ann := (.n none .z (.n none .z (.n none (.n none (.n (some [.t 33 (.sc .kb)]) .z .z) .z) (.n none .z (.n none (.n none .z (.n (some [.t 5 (.sc .kl)]) (.n (some [.t 5 (.sc .kl), .t 38 (.sc (.ki .i64))]) (.n none .z (.n none .z (.n none (.n none (.n none .z (.n none (.n none (.n (some [.t 49 (.sc .kb)]) .z .z) (.n (some [.x 7 (some [(.ki .i64), (.ki .i64), (.ki .i64), (.ki .i64)])]) .z .z)) .z)) .z) .z))) .z) .z)) (.n none .z (.n none (.n none (.n (some [.t 91 (.sc .kb)]) .z .z) .z) (.n none (.n none .z (.n (some []) (.n (some [.t 94 (.sc (.ki .i64))]) .z .z) .z)) .z))))))))
def a43 : Ann := (.n none .z (.n none .z (.n none (.n none (.n none (.n (some [.t 10 (.sc .kb)]) .z .z) (.n none .z (.n none (.n (some [.t 19 (.sc .kb)]) .z .z) (.n none .z (.n none (.n (some [.t 31 (.sc .kb)]) .z .z) .z))))) .z) .z)))
def a19 : Ann := (.n none .z (.n none .z (.n none (.n none .z (.n none (.n none (.n none .z (.n (some [.t 14 (.sc .kb)]) .z .z)) (.n none .z (.n none .z (.n none (.n none (.n (some [.t 6 (.sc .kb)]) .z .z) .z) (.n none .z (.n none (.n none (.n (some [.t 6 (.sc .kb)]) .z .z) .z) .z)))))) .z)) .z)))
def a4 : Ann := (.n none .z (.n none .z (.n none .z (.n none (.n none (.n (some [.t 25 (.sc .kb)]) .z .z) .z) (.n none .z (.n none (.n none .z (.n (some [.t 6 (.sc (.ki .i64))]) (.n (some [.t 6 (.sc (.ki .i64)), .t 7 (.sc (.ki .i64))]) (.n none .z (.n none (.n (some [.t 6 (.sc (.ki .i64))]) (.n none .z (.n none (.n none (.n none (.n (some [.t 50 (.sc .kb)]) .z .z) .z) .z) .z)) .z) .z)) .z) .z)) .z))))))
def a44 : Ann := (.n none .z (.n none .z (.n none .z (.n none (.n none .z (.n (some []) (.n (some [.t 18 (.sc (.ki .i64))]) (.n none .z (.n none .z (.n none (.n (some []) (.n none .z (.n none .z (.n none .z (.n (some []) (.n (some [.t 30 (.sc (.ki .i64))]) .z .z) .z)))) .z) .z))) .z) .z)) .z))))
def a26 : Ann := (.n none .z (.n none .z (.n none (.n none .z (.n (some []) (.r 6300482 [2, 4, 5, 6]) .z)) .z)))
def a23 : Ann := .z
def a46 : Ann := (.n none .z (.n none .z (.n none .z (.n none .z (.n none (.n none .z (.n (some []) (.n (some [.t 5 (.sc (.ki .i64)), .t 15 (.sc (.ki .i64))]) (.n none .z (.n none .z (.n none (.n (some [.t 5 (.sc (.ki .i64))]) (.n none .z (.n none (.n (some []) .z .z) .z)) .z) .z))) .z) .z)) .z)))))
def a47 : Ann := (.n none .z (.n none .z (.n none (.n none .z (.n (some []) (.n (some [.t 12 (.sc (.ki .i64))]) (.n none .z (.n none .z (.n none (.n (some []) .z .z) .z))) .z) .z)) .z)))
def a28 : Ann := (.n none .z (.n none .z (.n none .z (.n none .z (.n none (.n none .z (.n (some [.t 6 (.sc .kl)]) (.n (some [.t 6 (.sc .kl), .t 16 (.sc (.ki .i64))]) (.n none .z (.n none .z (.n none (.n (some [.t 6 (.sc .kl)]) (.n none .z (.n none .z (.n none .z (.n none (.n none (.n (some [.t 33 (.sc .kb)]) .z .z) (.n (some [.x 9 (some [(.ki .i64), (.ki .i64), (.ki .i64), (.ki .i64)])]) .z .z)) .z)))) .z) .z))) .z) .z)) .z)))))
def a29 : Ann := (.n none .z (.n none .z (.n none .z (.n none (.n (some [.t 6 (.sc .kl)]) (.n (some [.t 6 (.sc .kl), .t 7 (.sc (.ki .i64))]) .z .z) .z) .z))))
def a34 : Ann := (.n none .z (.n none (.n none .z (.n none (.n (some [.t 23 (.sc .kb)]) .z .z) .z)) .z))
def a27 : Ann := (.n none .z (.n none .z (.n none .z (.n none .z (.n none (.n (some [.t 0 (.sc .kb)]) .z .z) .z)))))
def a25 : Ann := (.n none .z (.n none .z (.n none .z (.n none (.n none .z (.n (some [.x 5 none]) (.n (some [.t 6 (.sc .kb), .x 5 none]) (.n none .z (.n none (.n none .z (.n none .z (.n (some [.t 6 (.sc .kb), .x 5 none]) (.n (some [.t 6 (.sc .kb), .t 14 (.sc (.ki .i64)), .x 5 none]) (.n none .z (.n none .z (.n none (.n none (.n none .z (.n none .z (.n (some [.t 6 (.sc .kb), .x 5 none]) (.n (some [.t 6 (.sc .kb), .t 8 (.sc (.ki .i64)), .x 5 none]) (.n none .z (.n none (.n (some [.t 6 (.sc .kb), .x 5 none]) (.n none (.n (some [.t 37 (.sc .kb)]) .z .z) .z) .z) .z)) .z) .z))) .z) .z))) .z) .z))) .z)) .z) .z)) .z))))
def a54 : Ann := .z
def a51 : Ann := (.n none .z (.n none (.n none .z (.n (some [.x 5 none]) (.n none .z (.n none .z (.n none .z (.n none .z (.n none .z (.n none (.n none (.n (some [.t 62 (.sc .kb)]) .z .z) .z) .z)))))) .z)) .z))
def a52 : Ann := .z
def a63 : Ann := (.n none .z (.n none (.n none .z (.n (some []) (.n (some [.t 5 (.sc (.ki .i64))]) .z .z) .z)) .z))
def a73 : Ann := (.n none .z (.n none (.n (some [.t 2 (.sc .kb)]) .z .z) .z))
def a74 : Ann := .z
def a75 : Ann := (.n none .z (.n none (.n none (.n (some [.t 15 (.sc .kb)]) .z .z) .z) (.n none .z (.n none (.n none .z (.n (some [.t 7 (.sc .ks)]) (.n (some [.t 7 (.sc .ks), .t 8 (.sc (.ki .i64))]) (.n none (.n none (.n (some [.t 26 (.sc .kb)]) .z .z) .z) (.n none (.n none (.n none .z (.n none (.n none .z (.n (some [.t 9 (.sc (.ki .i64))]) .z .z)) .z)) .z) .z)) .z) .z)) .z))))
def a64 : Ann := (.n none .z (.n none (.n none .z (.n (some []) .z .z)) .z))
def a65 : Ann := (.n none .z (.n none (.n none .z (.n (some []) .z .z)) .z))
def a66 : Ann := (.n none .z (.n none (.n none .z (.n (some []) .z .z)) .z))
def a67 : Ann := (.n none .z (.n none (.n none (.n (some [.t 14 (.sc .kb)]) .z .z) .z) (.n none (.n none (.n (some [.t 26 (.sc .kb)]) .z .z) (.n (some []) .z .z)) .z)))
def a76 : Ann := (.n none .z (.n none (.n none (.n (some [.t 17 (.sc .kb)]) .z .z) .z) (.n none .z (.n none (.n none .z (.n (some [.t 5 (.sc .ks)]) (.n (some [.t 5 (.sc .ks), .t 6 (.sc (.ki .i64))]) .z .z) .z)) .z))))
def a68 : Ann := (.n none .z (.n none (.n none .z (.n (some []) .z .z)) .z))
def a53 : Ann := (.n none .z (.n none .z (.n none .z (.n none (.n none .z (.n (some [.t 9 (.sc (.ki .i64)), .x 3 none]) (.n (some [.t 9 (.sc (.ki .i64)), .t 20 (.sc (.ki .i64)), .x 3 none]) (.n none .z (.n none .z (.n none (.n (some [.t 9 (.sc (.ki .i64)), .x 3 none]) .z .z) .z))) .z) .z)) .z))))
def a35 : Ann := (.n none .z (.n none .z (.n none .z (.n none (.n (some [.x 12 none]) (.n (some [.t 13 (.sc .kl), .x 12 none]) (.n none .z (.n (some [.t 13 (.sc .kl), .x 12 none]) (.n none .z (.n none .z (.n none .z (.n none (.n (some [.t 13 (.sc .kl), .x 12 none]) (.n none .z (.n none .z (.n none .z (.n none (.n none .z (.n none .z (.n none (.n none (.n (some [.t 87 (.sc .kb)]) .z .z) .z) .z))) .z)))) .z) .z)))) .z)) .z) .z) (.n none (.n none .z (.n (some [.x 12 none]) (.n (some [.t 199 (.sc (.ki .i64)), .x 12 none]) .z .z) .z)) .z)))))
def a10 : Ann := (.n none .z (.n none .z (.n none (.n none (.n (some [.t 46 (.sc .kb)]) .z .z) .z) (.n none (.n none .z (.n (some []) (.n (some [.t 50 (.sc (.ki .i64))]) (.n none .z (.n none .z (.n none (.n none (.n none .z (.n none (.n (some [.t 80 (.sc .kb)]) .z .z) .z)) .z) .z))) .z) .z)) (.n none (.n none .z (.n (some []) (.n (some [.t 85 (.sc (.ki .i64))]) (.n none .z (.n none .z (.n none (.n none (.n none .z (.n none (.n (some [.t 101 (.sc .kb)]) .z .z) .z)) .z) .z))) .z) .z)) (.n none .z (.n none .z (.n none .z (.n none (.n none (.n (some [.t 136 (.sc .kb)]) .z .z) .z) (.n none .z (.n none .z (.n none (.n none (.n (some [.t 169 (.sc .kb)]) .z .z) .z) (.n none (.n (some [.t 8 (.sc .kb)]) .z .z) .z)))))))))))))
def a11 : Ann := (.n none .z (.n none .z (.n none (.n none .z (.n none (.n none (.n none .z (.n (some []) (.r 81328721 [6]) .z)) .z) .z)) (.n none .z (.n none (.n none .z (.n (some []) (.r 98604607 [3, 5, 6, 7, 8]) .z)) (.n none (.n none .z (.n (some [.t 9 (.sc (.ki .i64))]) (.n (some [.t 9 (.sc (.ki .i64)), .t 51 (.sc (.ki .i64))]) (.n none .z (.n none .z (.n none (.n (some [.t 9 (.sc (.ki .i64))]) .z .z) .z))) .z) .z)) (.n none .z (.n none (.n none (.n (some [.t 67 (.sc .kb)]) .z .z) (.n (some [.t 12 (.sc (.ki .i64))]) .z .z)) (.n none (.n (some []) .z .z) .z)))))))))
def a12 : Ann := (.n none .z (.n none .z (.n none .z (.n none .z (.n none (.n none .z (.n none (.n (some [.t 41 (.sc .kb)]) .z .z) .z)) (.n none (.n none .z (.n (some []) (.r 93818678 [2]) .z)) (.n none .z (.n none (.n (some []) .z .z) .z))))))))
def a61 : Ann := (.n none .z (.n none .z (.n none (.n none (.n (some [.t 30 (.sc .kb)]) .z .z) .z) (.n none .z (.n none (.n none .z (.n (some []) (.r 82468377 [2, 6, 7]) .z)) .z)))))
def a13 : Ann := (.n none .z (.n none .z (.n none .z (.n none .z (.n none .z (.n none (.n none (.n (some [.t 58 (.sc .kb)]) .z .z) .z) (.n none .z (.n none .z (.n none (.n none .z (.n (some []) (.r 25422154 [7, 8]) .z)) (.n none (.n none .z (.n (some []) (.r 26824521 [9]) .z)) (.n none .z (.n none (.n none .z (.n (some []) (.n (some [.t 98 (.sc (.ki .i64))]) .z .z) .z)) .z))))))))))))
/-- a loop over a function -/
noncomputable def s26_0 : Nat × Site := (sitesF Try.f26 a26).getD 0 (0, ⟨0, #[], .skip, .skip⟩)
/-- a loop over a function -/
noncomputable def s11_0 : Nat × Site := (sitesF Try.f11 a11).getD 0 (0, ⟨0, #[], .skip, .skip⟩)
/-- a loop over a function -/
noncomputable def s11_1 : Nat × Site := (sitesF Try.f11 a11).getD 1 (0, ⟨0, #[], .skip, .skip⟩)
/-- a loop over a function -/
noncomputable def s12_0 : Nat × Site := (sitesF Try.f12 a12).getD 0 (0, ⟨0, #[], .skip, .skip⟩)
/-- a loop over a function -/
noncomputable def s61_0 : Nat × Site := (sitesF Try.f61 a61).getD 0 (0, ⟨0, #[], .skip, .skip⟩)
/-- a loop over a function -/
noncomputable def s13_0 : Nat × Site := (sitesF Try.f13 a13).getD 0 (0, ⟨0, #[], .skip, .skip⟩)
/-- a loop over a function -/
noncomputable def s13_1 : Nat × Site := (sitesF Try.f13 a13).getD 1 (0, ⟨0, #[], .skip, .skip⟩)
noncomputable def es : List (Nat × Site) := [s26_0, s11_0, s11_1, s12_0, s61_0, s13_0, s13_1]
instance : Sites := ⟨fun k _ sz ps a b => siteIn es k sz ps a b⟩
def e56 (D : HV → List HV → M HV) : Env := ⟨lk [], D, fun _ => none⟩

theorem d56 (D : HV → List HV → M HV) : fnD (e56 D) Try.prog [] a56 Try.f56 [] = f_code_spans D := by kernel_rfl
theorem ok56 {D : HV → List HV → M HV} (hD : DOk Try.prog noG D) : FnOk Try.prog noG 56 (f_code_spans D) := d56 D ▸ fn_ok (E := e56 D) ⟨lk_nil, hD⟩ mixed Try.func56 (by kernel_rfl) (by kernel_rfl) (hst_none (by kernel_rfl))

def e69 (D : HV → List HV → M HV) : Env := ⟨lk [], D, fun _ => none⟩

theorem d69 (D : HV → List HV → M HV) : fnD (e69 D) Try.prog [] a69 Try.f69 [] = f_code_in D := by kernel_rfl
theorem ok69 {D : HV → List HV → M HV} (hD : DOk Try.prog noG D) : FnOk Try.prog noG 69 (f_code_in D) := d69 D ▸ fn_ok (E := e69 D) ⟨lk_nil, hD⟩ mixed Try.func69 (by kernel_rfl) (by kernel_rfl) (hst_none (by kernel_rfl))

def e70 (D : HV → List HV → M HV) : Env := ⟨lk [(69, f_code_in D)], D, fun _ => none⟩

theorem d70 (D : HV → List HV → M HV) : fnD (e70 D) Try.prog [] a70 Try.f70 [] = f_code_things D := by kernel_rfl
theorem ok70 {D : HV → List HV → M HV} (hD : DOk Try.prog noG D) : FnOk Try.prog noG 70 (f_code_things D) := d70 D ▸ fn_ok (E := e70 D) ⟨(lk_cons (ok69 hD) lk_nil), hD⟩ mixed Try.func70 (by kernel_rfl) (by kernel_rfl) (hst_none (by kernel_rfl))

def e57 (D : HV → List HV → M HV) : Env := ⟨lk [(69, f_code_in D), (70, f_code_things D)], D, fun _ => none⟩

theorem d57 (D : HV → List HV → M HV) : fnD (e57 D) Try.prog [] a57 Try.f57 [] = f_code_fields D := by kernel_rfl
theorem ok57 {D : HV → List HV → M HV} (hD : DOk Try.prog noG D) : FnOk Try.prog noG 57 (f_code_fields D) := d57 D ▸ fn_ok (E := e57 D) ⟨(lk_cons (ok69 hD) (lk_cons (ok70 hD) lk_nil)), hD⟩ mixed Try.func57 (by kernel_rfl) (by kernel_rfl) (hst_none (by kernel_rfl))

def e58 (D : HV → List HV → M HV) : Env := ⟨lk [], D, fun _ => none⟩

theorem d58 (D : HV → List HV → M HV) : fnD (e58 D) Try.prog [] a58 Try.f58 [] = f_code_placed D := by kernel_rfl
theorem ok58 {D : HV → List HV → M HV} (hD : DOk Try.prog noG D) : FnOk Try.prog noG 58 (f_code_placed D) := d58 D ▸ fn_ok (E := e58 D) ⟨lk_nil, hD⟩ mixed Try.func58 (by kernel_rfl) (by kernel_rfl) (hst_none (by kernel_rfl))

def e59 (D : HV → List HV → M HV) : Env := ⟨lk [], D, fun _ => none⟩

theorem d59 (D : HV → List HV → M HV) : fnD (e59 D) Try.prog [] a59 Try.f59 [] = f_code_lands D := by kernel_rfl
theorem ok59 {D : HV → List HV → M HV} (hD : DOk Try.prog noG D) : FnOk Try.prog noG 59 (f_code_lands D) := d59 D ▸ fn_ok (E := e59 D) ⟨lk_nil, hD⟩ mixed Try.func59 (by kernel_rfl) (by kernel_rfl) (hst_none (by kernel_rfl))

def e39 (D : HV → List HV → M HV) : Env := ⟨lk [(56, f_code_spans D), (57, f_code_fields D), (58, f_code_placed D), (59, f_code_lands D)], D, fun _ => none⟩

theorem d39 (D : HV → List HV → M HV) : fnD (e39 D) Try.prog [] a39 Try.f39 [] = f_code_Check D := by kernel_rfl
theorem ok39 {D : HV → List HV → M HV} (hD : DOk Try.prog noG D) : FnOk Try.prog noG 39 (f_code_Check D) := d39 D ▸ fn_ok (E := e39 D) ⟨(lk_cons (ok56 hD) (lk_cons (ok57 hD) (lk_cons (ok58 hD) (lk_cons (ok59 hD) lk_nil)))), hD⟩ mixed Try.func39 (by kernel_rfl) (by kernel_rfl) (hst_none (by kernel_rfl))

def e41 (D : HV → List HV → M HV) : Env := ⟨lk [(39, f_code_Check D)], D, fun _ => none⟩

theorem d41 (D : HV → List HV → M HV) : fnD (e41 D) Try.prog [] a41 Try.f41 [] = f_bound_can D := by kernel_rfl
theorem ok41 {D : HV → List HV → M HV} (hD : DOk Try.prog noG D) : FnOk Try.prog noG 41 (f_bound_can D) := d41 D ▸ fn_ok (E := e41 D) ⟨(lk_cons (ok39 hD) lk_nil), hD⟩ mixed Try.func41 (by kernel_rfl) (by kernel_rfl) (hst_none (by kernel_rfl))

def e16 (D : HV → List HV → M HV) : Env := ⟨lk [(41, f_bound_can D), (42, f_bound_one D)], D, fun _ => none⟩

def e14 (D : HV → List HV → M HV) : Env := ⟨lk [(16, f_bound_Most D)], D, fun _ => none⟩

def e48 (D : HV → List HV → M HV) : Env := ⟨lk [], D, fun _ => none⟩

theorem d48 (D : HV → List HV → M HV) : fnD (e48 D) Try.prog [] a48 Try.f48 [] = f_ref07_Shaped D := by kernel_rfl
theorem ok48 {D : HV → List HV → M HV} (hD : DOk Try.prog noG D) : FnOk Try.prog noG 48 (f_ref07_Shaped D) := d48 D ▸ fn_ok (E := e48 D) ⟨lk_nil, hD⟩ mixed Try.func48 (by kernel_rfl) (by kernel_rfl) (hst_none (by kernel_rfl))

def e17 (D : HV → List HV → M HV) : Env := ⟨lk [], D, fun _ => none⟩

theorem d17 (D : HV → List HV → M HV) : fnD (e17 D) Try.prog [] a17 Try.f17 [] = f_ref07_Block D := by kernel_rfl
theorem ok17 {D : HV → List HV → M HV} (hD : DOk Try.prog noG D) : FnOk Try.prog noG 17 (f_ref07_Block D) := d17 D ▸ fn_ok (E := e17 D) ⟨lk_nil, hD⟩ mixed Try.func17 (by kernel_rfl) (by kernel_rfl) (hst_none (by kernel_rfl))

def e62 (D : HV → List HV → M HV) : Env := ⟨lk [], D, fun _ => none⟩

theorem d62 (D : HV → List HV → M HV) : fnD (e62 D) Try.prog [] a62 Try.f62 [] = f_ref07_limits D := by kernel_rfl
theorem ok62 {D : HV → List HV → M HV} (hD : DOk Try.prog noG D) : FnOk Try.prog noG 62 (f_ref07_limits D) := d62 D ▸ fn_ok (E := e62 D) ⟨lk_nil, hD⟩ mixed Try.func62 (by kernel_rfl) (by kernel_rfl) (hst_none (by kernel_rfl))

def e49 (D : HV → List HV → M HV) : Env := ⟨lk [(17, f_ref07_Block D), (62, f_ref07_limits D)], D, fun _ => none⟩

theorem d49 (D : HV → List HV → M HV) : fnD (e49 D) Try.prog [] a49 Try.f49 [] = f_ref07_One D := by kernel_rfl
theorem ok49 {D : HV → List HV → M HV} (hD : DOk Try.prog noG D) : FnOk Try.prog noG 49 (f_ref07_One D) := d49 D ▸ fn_ok (E := e49 D) ⟨(lk_cons (ok17 hD) (lk_cons (ok62 hD) lk_nil)), hD⟩ mixed Try.func49 (by kernel_rfl) (by kernel_rfl) (hst_none (by kernel_rfl))

def e30 (D : HV → List HV → M HV) : Env := ⟨lk [(48, f_ref07_Shaped D), (49, f_ref07_One D)], D, fun _ => none⟩

theorem d30 (D : HV → List HV → M HV) : fnD (e30 D) Try.prog [] a30 Try.f30 [] = f_ref07_Check D := by kernel_rfl
theorem ok30 {D : HV → List HV → M HV} (hD : DOk Try.prog noG D) : FnOk Try.prog noG 30 (f_ref07_Check D) := d30 D ▸ fn_ok (E := e30 D) ⟨(lk_cons (ok48 hD) (lk_cons (ok49 hD) lk_nil)), hD⟩ mixed Try.func30 (by kernel_rfl) (by kernel_rfl) (hst_none (by kernel_rfl))

def e15 (D : HV → List HV → M HV) : Env := ⟨lk [(30, f_ref07_Check D)], D, fun _ => none⟩

theorem d15 (D : HV → List HV → M HV) : fnD (e15 D) Try.prog [] a15 Try.f15 [] = f_ref27_Can D := by kernel_rfl
theorem ok15 {D : HV → List HV → M HV} (hD : DOk Try.prog noG D) : FnOk Try.prog noG 15 (f_ref27_Can D) := d15 D ▸ fn_ok (E := e15 D) ⟨(lk_cons (ok30 hD) lk_nil), hD⟩ mixed Try.func15 (by kernel_rfl) (by kernel_rfl) (hst_none (by kernel_rfl))

def e3 (D : HV → List HV → M HV) : Env := ⟨lk [(14, f_law27_alive D), (15, f_ref27_Can D), (16, f_bound_Most D), (17, f_ref07_Block D)], D, fun _ => none⟩

theorem d3 (D : HV → List HV → M HV) : fnD (e3 D) Try.prog [] a3 Try.f3 [] = f_law27_BoundBlocks D := by kernel_rfl
def e43 (D : HV → List HV → M HV) : Env := ⟨lk [], D, fun _ => none⟩

theorem d43 (D : HV → List HV → M HV) : fnD (e43 D) Try.prog [30, 51, 54] a43 Try.f43 [] = f_bound_next D := by kernel_rfl
theorem ok43 {D : HV → List HV → M HV} (hD : DOk Try.prog noG D) : FnOk Try.prog noG 43 (f_bound_next D) := d43 D ▸ fn_ok (E := e43 D) ⟨lk_nil, hD⟩ mixed Try.func43 (by kernel_rfl) (by kernel_rfl) (hst_none (by kernel_rfl))

def e18 (D : HV → List HV → M HV) : Env := ⟨lk [(41, f_bound_can D), (43, f_bound_next D)], D, fun _ => none⟩

def e19 (D : HV → List HV → M HV) : Env := ⟨lk [], D, fun _ => none⟩

theorem d19 (D : HV → List HV → M HV) : fnD (e19 D) Try.prog [] a19 Try.f19 [] = f_ref27_Leads D := by kernel_rfl
theorem ok19 {D : HV → List HV → M HV} (hD : DOk Try.prog noG D) : FnOk Try.prog noG 19 (f_ref27_Leads D) := d19 D ▸ fn_ok (E := e19 D) ⟨lk_nil, hD⟩ mixed Try.func19 (by kernel_rfl) (by kernel_rfl) (hst_none (by kernel_rfl))

def e4 (D : HV → List HV → M HV) : Env := ⟨lk [(14, f_law27_alive D), (15, f_ref27_Can D), (18, f_bound_Next D), (19, f_ref27_Leads D)], D, fun _ => none⟩

def e5 (D : HV → List HV → M HV) : Env := ⟨lk [(14, f_law27_alive D), (15, f_ref27_Can D), (16, f_bound_Most D), (18, f_bound_Next D)], D, fun _ => none⟩

def e20 (D : HV → List HV → M HV) : Env := ⟨lk [(16, f_bound_Most D), (41, f_bound_can D)], D, fun _ => none⟩

def e21 (D : HV → List HV → M HV) : Env := ⟨lk [], D, fun _ => none⟩

def e6 (D : HV → List HV → M HV) : Env := ⟨lk [(14, f_law27_alive D), (15, f_ref27_Can D), (16, f_bound_Most D), (20, f_bound_Total D), (21, f_ref27_Most D), (22, f_ref27_Total D)], D, fun _ => none⟩

def e44 (D : HV → List HV → M HV) : Env := ⟨lk [(43, f_bound_next D)], D, fun _ => none⟩

theorem d44 (D : HV → List HV → M HV) : fnD (e44 D) Try.prog [] a44 Try.f44 [] = f_bound_seen D := by kernel_rfl
theorem ok44 {D : HV → List HV → M HV} (hD : DOk Try.prog noG D) : FnOk Try.prog noG 44 (f_bound_seen D) := d44 D ▸ fn_ok (E := e44 D) ⟨(lk_cons (ok43 hD) lk_nil), hD⟩ mixed Try.func44 (by kernel_rfl) (by kernel_rfl) (hst_none (by kernel_rfl))

def e26 (D : HV → List HV → M HV) : Env := ⟨lk [(24, f_bound_From D)], D, fun _ => none⟩

def e8 (D : HV → List HV → M HV) : Env := ⟨lk [(14, f_law27_alive D), (15, f_ref27_Can D), (18, f_bound_Next D), (26, f_law27_marked D)], D, fun _ => none⟩

def e23 (D : HV → List HV → M HV) : Env := ⟨lk [(41, f_bound_can D), (44, f_bound_seen D)], D, fun _ => none⟩

theorem d23 (D : HV → List HV → M HV) : fnD (e23 D) Try.prog [] a23 Try.f23 [] = f_bound_Reach D := by kernel_rfl
theorem ok23 {D : HV → List HV → M HV} (hD : DOk Try.prog noG D) : FnOk Try.prog noG 23 (f_bound_Reach D) := d23 D ▸ fn_ok (E := e23 D) ⟨(lk_cons (ok41 hD) (lk_cons (ok44 hD) lk_nil)), hD⟩ mixed Try.func23 (by kernel_rfl) (by kernel_rfl) (hst_none (by kernel_rfl))

def e46 (D : HV → List HV → M HV) : Env := ⟨lk [(23, f_bound_Reach D)], D, fun _ => none⟩

theorem d46 (D : HV → List HV → M HV) : fnD (e46 D) Try.prog [] a46 Try.f46 [] = f_trim_idle D := by kernel_rfl
theorem ok46 {D : HV → List HV → M HV} (hD : DOk Try.prog noG D) : FnOk Try.prog noG 46 (f_trim_idle D) := d46 D ▸ fn_ok (E := e46 D) ⟨(lk_cons (ok23 hD) lk_nil), hD⟩ mixed Try.func46 (by kernel_rfl) (by kernel_rfl) (hst_none (by kernel_rfl))

def e47 (D : HV → List HV → M HV) : Env := ⟨lk [], D, fun _ => none⟩

theorem d47 (D : HV → List HV → M HV) : fnD (e47 D) Try.prog [] a47 Try.f47 [] = f_trim_places D := by kernel_rfl
theorem ok47 {D : HV → List HV → M HV} (hD : DOk Try.prog noG D) : FnOk Try.prog noG 47 (f_trim_places D) := d47 D ▸ fn_ok (E := e47 D) ⟨lk_nil, hD⟩ mixed Try.func47 (by kernel_rfl) (by kernel_rfl) (hst_none (by kernel_rfl))

def e28 (D : HV → List HV → M HV) : Env := ⟨lk [(46, f_trim_idle D), (47, f_trim_places D)], D, fun _ => none⟩

theorem d28 (D : HV → List HV → M HV) : fnD (e28 D) Try.prog [] a28 Try.f28 [] = f_trim_Once D := by kernel_rfl
theorem ok28 {D : HV → List HV → M HV} (hD : DOk Try.prog noG D) : FnOk Try.prog noG 28 (f_trim_Once D) := d28 D ▸ fn_ok (E := e28 D) ⟨(lk_cons (ok46 hD) (lk_cons (ok47 hD) lk_nil)), hD⟩ mixed Try.func28 (by kernel_rfl) (by kernel_rfl) (hst_none (by kernel_rfl))

def e29 (D : HV → List HV → M HV) : Env := ⟨lk [(28, f_trim_Once D), (39, f_code_Check D)], D, fun _ => none⟩

theorem d29 (D : HV → List HV → M HV) : fnD (e29 D) Try.prog [] a29 Try.f29 [] = f_trim_Trim D := by kernel_rfl
theorem ok29 {D : HV → List HV → M HV} (hD : DOk Try.prog noG D) : FnOk Try.prog noG 29 (f_trim_Trim D) := d29 D ▸ fn_ok (E := e29 D) ⟨(lk_cons (ok28 hD) (lk_cons (ok39 hD) lk_nil)), hD⟩ mixed Try.func29 (by kernel_rfl) (by kernel_rfl) (hst_none (by kernel_rfl))

def e34 (D : HV → List HV → M HV) : Env := ⟨lk [(39, f_code_Check D), (46, f_trim_idle D), (47, f_trim_places D)], D, fun _ => none⟩

theorem d34 (D : HV → List HV → M HV) : fnD (e34 D) Try.prog [] a34 Try.f34 [] = f_trim_Moved D := by kernel_rfl
theorem ok34 {D : HV → List HV → M HV} (hD : DOk Try.prog noG D) : FnOk Try.prog noG 34 (f_trim_Moved D) := d34 D ▸ fn_ok (E := e34 D) ⟨(lk_cons (ok39 hD) (lk_cons (ok46 hD) (lk_cons (ok47 hD) lk_nil))), hD⟩ mixed Try.func34 (by kernel_rfl) (by kernel_rfl) (hst_none (by kernel_rfl))

def e27 (D : HV → List HV → M HV) : Env := ⟨lk [(28, f_trim_Once D), (29, f_trim_Trim D), (34, f_trim_Moved D)], D, fun _ => none⟩

theorem d27 (D : HV → List HV → M HV) : fnD (e27 D) Try.prog [9] a27 Try.f27 [] = f_law29_alive D := by kernel_rfl
theorem ok27 {D : HV → List HV → M HV} (hD : DOk Try.prog noG D) : FnOk Try.prog noG 27 (f_law29_alive D) := d27 D ▸ fn_ok (E := e27 D) ⟨(lk_cons (ok28 hD) (lk_cons (ok29 hD) (lk_cons (ok34 hD) lk_nil))), hD⟩ mixed Try.func27 (by kernel_rfl) (by kernel_rfl) (hst_none (by kernel_rfl))

def e25 (D : HV → List HV → M HV) : Env := ⟨lk [(19, f_ref27_Leads D)], D, fun _ => none⟩

theorem d25 (D : HV → List HV → M HV) : fnD (e25 D) Try.prog [] a25 Try.f25 [] = f_ref27_Seen D := by kernel_rfl
theorem ok25 {D : HV → List HV → M HV} (hD : DOk Try.prog noG D) : FnOk Try.prog noG 25 (f_ref27_Seen D) := d25 D ▸ fn_ok (E := e25 D) ⟨(lk_cons (ok19 hD) lk_nil), hD⟩ mixed Try.func25 (by kernel_rfl) (by kernel_rfl) (hst_none (by kernel_rfl))

def e33 (D : HV → List HV → M HV) (g : List HV → M HV) : Env := ⟨lk [(32, f_ref29_Once D), (33, g)], D, fun _ => none⟩

def e9 (D : HV → List HV → M HV) : Env := ⟨lk [(27, f_law29_alive D), (28, f_trim_Once D), (29, f_trim_Trim D), (30, f_ref07_Check D), (31, f_law29_same D), (32, f_ref29_Once D), (33, f_ref29_Trim D)], D, fun _ => none⟩

def e54 (D : HV → List HV → M HV) : Env := ⟨lk [], D, fun _ => none⟩

theorem d54 (D : HV → List HV → M HV) : fnD (e54 D) Try.prog [] a54 Try.f54 [] = f_ref23_sum D := by kernel_rfl
theorem ok54 {D : HV → List HV → M HV} (hD : DOk Try.prog noG D) : FnOk Try.prog noG 54 (f_ref23_sum D) := d54 D ▸ fn_ok (E := e54 D) ⟨lk_nil, hD⟩ mixed Try.func54 (by kernel_rfl) (by kernel_rfl) (hst_none (by kernel_rfl))

def e51 (D : HV → List HV → M HV) : Env := ⟨lk [(54, f_ref23_sum D)], D, fun _ => none⟩

theorem d51 (D : HV → List HV → M HV) : fnD (e51 D) Try.prog [] a51 Try.f51 [] = f_ref23_Plain D := by kernel_rfl
theorem ok51 {D : HV → List HV → M HV} (hD : DOk Try.prog noG D) : FnOk Try.prog noG 51 (f_ref23_Plain D) := d51 D ▸ fn_ok (E := e51 D) ⟨(lk_cons (ok54 hD) lk_nil), hD⟩ mixed Try.func51 (by kernel_rfl) (by kernel_rfl) (hst_none (by kernel_rfl))

def e52 (D : HV → List HV → M HV) : Env := ⟨lk [], D, fun _ => none⟩

theorem d52 (D : HV → List HV → M HV) : fnD (e52 D) Try.prog [] a52 Try.f52 [] = f_ref23_deed D := by kernel_rfl
theorem ok52 {D : HV → List HV → M HV} (hD : DOk Try.prog noG D) : FnOk Try.prog noG 52 (f_ref23_deed D) := d52 D ▸ fn_ok (E := e52 D) ⟨lk_nil, hD⟩ mixed Try.func52 (by kernel_rfl) (by kernel_rfl) (hst_none (by kernel_rfl))

def e63 (D : HV → List HV → M HV) : Env := ⟨lk [], D, fun _ => none⟩

theorem d63 (D : HV → List HV → M HV) : fnD (e63 D) Try.prog [] a63 Try.f63 [] = f_ref09_At D := by kernel_rfl
theorem ok63 {D : HV → List HV → M HV} (hD : DOk Try.prog noG D) : FnOk Try.prog noG 63 (f_ref09_At D) := d63 D ▸ fn_ok (E := e63 D) ⟨lk_nil, hD⟩ mixed Try.func63 (by kernel_rfl) (by kernel_rfl) (hst_none (by kernel_rfl))

def e73 (D : HV → List HV → M HV) : Env := ⟨lk [], D, fun _ => none⟩

theorem d73 (D : HV → List HV → M HV) : fnD (e73 D) Try.prog [] a73 Try.f73 [] = f_ref14_Is D := by kernel_rfl
theorem ok73 {D : HV → List HV → M HV} (hD : DOk Try.prog noG D) : FnOk Try.prog noG 73 (f_ref14_Is D) := d73 D ▸ fn_ok (E := e73 D) ⟨lk_nil, hD⟩ mixed Try.func73 (by kernel_rfl) (by kernel_rfl) (hst_none (by kernel_rfl))

def e74 (D : HV → List HV → M HV) : Env := ⟨lk [], D, fun _ => none⟩

theorem d74 (D : HV → List HV → M HV) : fnD (e74 D) Try.prog [] a74 Try.f74 [] = f_ref14_Sheet_put D := by kernel_rfl
theorem ok74 {D : HV → List HV → M HV} (hD : DOk Try.prog noG D) : FnOk Try.prog noG 74 (f_ref14_Sheet_put D) := d74 D ▸ fn_ok (E := e74 D) ⟨lk_nil, hD⟩ mixed Try.func74 (by kernel_rfl) (by kernel_rfl) (hst_none (by kernel_rfl))

def e75 (D : HV → List HV → M HV) : Env := ⟨lk [(63, f_ref09_At D)], D, fun _ => none⟩

theorem d75 (D : HV → List HV → M HV) : fnD (e75 D) Try.prog [] a75 Try.f75 [] = f_ref09_Put D := by kernel_rfl
theorem ok75 {D : HV → List HV → M HV} (hD : DOk Try.prog noG D) : FnOk Try.prog noG 75 (f_ref09_Put D) := d75 D ▸ fn_ok (E := e75 D) ⟨(lk_cons (ok63 hD) lk_nil), hD⟩ mixed Try.func75 (by kernel_rfl) (by kernel_rfl) (hst_none (by kernel_rfl))

def e64 (D : HV → List HV → M HV) : Env := ⟨lk [(73, f_ref14_Is D), (74, f_ref14_Sheet_put D), (75, f_ref09_Put D)], D, fun _ => none⟩

theorem d64 (D : HV → List HV → M HV) : fnD (e64 D) Try.prog [] a64 Try.f64 [] = f_ref14_Sheet_Write D := by kernel_rfl
theorem ok64 {D : HV → List HV → M HV} (hD : DOk Try.prog noG D) : FnOk Try.prog noG 64 (f_ref14_Sheet_Write D) := d64 D ▸ fn_ok (E := e64 D) ⟨(lk_cons (ok73 hD) (lk_cons (ok74 hD) (lk_cons (ok75 hD) lk_nil))), hD⟩ mixed Try.func64 (by kernel_rfl) (by kernel_rfl) (hst_none (by kernel_rfl))

def e65 (D : HV → List HV → M HV) : Env := ⟨lk [(73, f_ref14_Is D), (74, f_ref14_Sheet_put D)], D, fun _ => none⟩

theorem d65 (D : HV → List HV → M HV) : fnD (e65 D) Try.prog [] a65 Try.f65 [] = f_ref14_Sheet_Create D := by kernel_rfl
theorem ok65 {D : HV → List HV → M HV} (hD : DOk Try.prog noG D) : FnOk Try.prog noG 65 (f_ref14_Sheet_Create D) := d65 D ▸ fn_ok (E := e65 D) ⟨(lk_cons (ok73 hD) (lk_cons (ok74 hD) lk_nil)), hD⟩ mixed Try.func65 (by kernel_rfl) (by kernel_rfl) (hst_none (by kernel_rfl))

def e66 (D : HV → List HV → M HV) : Env := ⟨lk [(73, f_ref14_Is D), (74, f_ref14_Sheet_put D)], D, fun _ => none⟩

theorem d66 (D : HV → List HV → M HV) : fnD (e66 D) Try.prog [] a66 Try.f66 [] = f_ref14_Sheet_Remove D := by kernel_rfl
theorem ok66 {D : HV → List HV → M HV} (hD : DOk Try.prog noG D) : FnOk Try.prog noG 66 (f_ref14_Sheet_Remove D) := d66 D ▸ fn_ok (E := e66 D) ⟨(lk_cons (ok73 hD) (lk_cons (ok74 hD) lk_nil)), hD⟩ mixed Try.func66 (by kernel_rfl) (by kernel_rfl) (hst_none (by kernel_rfl))

def e67 (D : HV → List HV → M HV) : Env := ⟨lk [(73, f_ref14_Is D), (74, f_ref14_Sheet_put D)], D, fun _ => none⟩

theorem d67 (D : HV → List HV → M HV) : fnD (e67 D) Try.prog [] a67 Try.f67 [] = f_ref14_Sheet_Rename D := by kernel_rfl
theorem ok67 {D : HV → List HV → M HV} (hD : DOk Try.prog noG D) : FnOk Try.prog noG 67 (f_ref14_Sheet_Rename D) := d67 D ▸ fn_ok (E := e67 D) ⟨(lk_cons (ok73 hD) (lk_cons (ok74 hD) lk_nil)), hD⟩ mixed Try.func67 (by kernel_rfl) (by kernel_rfl) (hst_none (by kernel_rfl))

def e76 (D : HV → List HV → M HV) : Env := ⟨lk [(63, f_ref09_At D)], D, fun _ => none⟩

theorem d76 (D : HV → List HV → M HV) : fnD (e76 D) Try.prog [] a76 Try.f76 [] = f_ref09_Cut D := by kernel_rfl
theorem ok76 {D : HV → List HV → M HV} (hD : DOk Try.prog noG D) : FnOk Try.prog noG 76 (f_ref09_Cut D) := d76 D ▸ fn_ok (E := e76 D) ⟨(lk_cons (ok63 hD) lk_nil), hD⟩ mixed Try.func76 (by kernel_rfl) (by kernel_rfl) (hst_none (by kernel_rfl))

def e68 (D : HV → List HV → M HV) : Env := ⟨lk [(73, f_ref14_Is D), (74, f_ref14_Sheet_put D), (76, f_ref09_Cut D)], D, fun _ => none⟩

theorem d68 (D : HV → List HV → M HV) : fnD (e68 D) Try.prog [] a68 Try.f68 [] = f_ref14_Sheet_Cut D := by kernel_rfl
theorem ok68 {D : HV → List HV → M HV} (hD : DOk Try.prog noG D) : FnOk Try.prog noG 68 (f_ref14_Sheet_Cut D) := d68 D ▸ fn_ok (E := e68 D) ⟨(lk_cons (ok73 hD) (lk_cons (ok74 hD) (lk_cons (ok76 hD) lk_nil))), hD⟩ mixed Try.func68 (by kernel_rfl) (by kernel_rfl) (hst_none (by kernel_rfl))

def e53 (D : HV → List HV → M HV) : Env := ⟨lk [(63, f_ref09_At D), (64, f_ref14_Sheet_Write D), (65, f_ref14_Sheet_Create D), (66, f_ref14_Sheet_Remove D), (67, f_ref14_Sheet_Rename D), (68, f_ref14_Sheet_Cut D)], D, fun _ => none⟩

theorem d53 (D : HV → List HV → M HV) : fnD (e53 D) Try.prog [17] a53 Try.f53 [] = f_ref20_Do D := by kernel_rfl
theorem ok53 {D : HV → List HV → M HV} (hD : DOk Try.prog noG D) : FnOk Try.prog noG 53 (f_ref20_Do D) := d53 D ▸ fn_ok (E := e53 D) ⟨(lk_cons (ok63 hD) (lk_cons (ok64 hD) (lk_cons (ok65 hD) (lk_cons (ok66 hD) (lk_cons (ok67 hD) (lk_cons (ok68 hD) lk_nil)))))), hD⟩ mixed Try.func53 (by kernel_rfl) (by kernel_rfl) (hst_none (by kernel_rfl))

def e35 (D : HV → List HV → M HV) : Env := ⟨lk [(51, f_ref23_Plain D), (52, f_ref23_deed D), (53, f_ref20_Do D), (54, f_ref23_sum D)], D, fun _ => none⟩

theorem d35 (D : HV → List HV → M HV) : fnD (e35 D) Try.prog [75] a35 Try.f35 [] = f_ref23_Block D := by kernel_rfl
theorem ok35 {D : HV → List HV → M HV} (hD : DOk Try.prog noG D) : FnOk Try.prog noG 35 (f_ref23_Block D) := d35 D ▸ fn_ok (E := e35 D) ⟨(lk_cons (ok51 hD) (lk_cons (ok52 hD) (lk_cons (ok53 hD) (lk_cons (ok54 hD) lk_nil)))), hD⟩ mixed Try.func35 (by kernel_rfl) (by kernel_rfl) (hst_none (by kernel_rfl))

def e10 (D : HV → List HV → M HV) : Env := ⟨lk [(15, f_ref27_Can D), (25, f_ref27_Seen D), (27, f_law29_alive D), (28, f_trim_Once D), (34, f_trim_Moved D), (35, f_ref23_Block D)], D, fun _ => none⟩

theorem d10 (D : HV → List HV → M HV) : fnD (e10 D) Try.prog [] a10 Try.f10 [] = f_law29_TrimModel D := by kernel_rfl
theorem ok10 {D : HV → List HV → M HV} (hD : DOk Try.prog noG D) : FnOk Try.prog noG 10 (f_law29_TrimModel D) := d10 D ▸ fn_ok (E := e10 D) ⟨(lk_cons (ok15 hD) (lk_cons (ok25 hD) (lk_cons (ok27 hD) (lk_cons (ok28 hD) (lk_cons (ok34 hD) (lk_cons (ok35 hD) lk_nil)))))), hD⟩ mixed Try.func10 (by kernel_rfl) (by kernel_rfl) (hst_none (by kernel_rfl))

def e11 (D : HV → List HV → M HV) : Env := ⟨lk [(15, f_ref27_Can D), (27, f_law29_alive D), (34, f_trim_Moved D), (36, f_trim_Idle D), (37, f_ref29_Idle D), (38, f_ref29_Ahead D)], D, fun _ => none⟩

def e12 (D : HV → List HV → M HV) : Env := ⟨lk [(15, f_ref27_Can D), (27, f_law29_alive D), (29, f_trim_Trim D), (31, f_law29_same D), (36, f_trim_Idle D), (39, f_code_Check D)], D, fun _ => none⟩

def e13 (D : HV → List HV → M HV) : Env := ⟨lk [(15, f_ref27_Can D), (16, f_bound_Most D), (20, f_bound_Total D), (23, f_bound_Reach D), (27, f_law29_alive D), (29, f_trim_Trim D), (40, f_scope_All D)], D, fun _ => none⟩

end Go.Proofs.Ytolchnaegifckaa.HR
