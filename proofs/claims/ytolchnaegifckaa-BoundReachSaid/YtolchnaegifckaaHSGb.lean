/- The program's functions are as these texts. Conditions: what is called as a value is told (DOk). -/
import Derived.Test.YtolchnaegifckaaHSGa
import Derived.Test.YtolchnaegifckaaChecked
import Derived.KernelRfl
namespace Go.Proofs.Ytolchnaegifckaa.HS
open Go Go.Proofs
set_option maxRecDepth 100000
abbrev noG : Nat → Option Nat := fun _ => none
theorem mixed : Try.prog.follows .mixedOrders = true := by kernel_rfl

def a56 : Ann := (.n none .z (.n none .z (.n none .z (.n none (.n none .z (.n (some [.t 5 (.sc (.ki .i64))]) (.n (some [.t 5 (.sc (.ki .i64)), .t 13 (.sc (.ki .i64))]) (.n none .z (.n none .z (.n none (.n (some [.t 5 (.sc (.ki .i64))]) .z .z) .z))) .z) .z)) .z))))
def a69 : Ann := (.n none .z (.n none (.n (some [.t 4 (.sc .kb)]) .z .z) .z))
def a70 : Ann := (.n none .z (.n none (.n none .z (.n none (.n none .z (.n none (.n none (.n (some [.t 2 (.sc .kb)]) .z .z) .z) (.n none .z (.n none (.n none (.n (some [.t 2 (.sc .kb)]) .z .z) .z) (.n none (.n none .z (.n (some [.t 35 (.sc .kb)]) .z .z)) (.n none (.n none (.n (some [.t 2 (.sc .kb)]) .z .z) .z) (.n none .z (.n none (.n none (.n (some [.t 2 (.sc .kb)]) .z .z) .z) (.n none .z (.n none (.n none (.n (some [.t 2 (.sc .kb)]) .z .z) .z) (.n none .z (.n none (.n none (.n (some [.t 2 (.sc .kb)]) .z .z) .z) (.n none .z (.n none (.n none (.n (some [.t 2 (.sc .kb)]) .z .z) .z) (.n none .z (.n none (.n none (.n (some [.t 2 (.sc .kb)]) .z .z) .z) (.n none .z (.n none (.n none (.n (some [.t 2 (.sc .kb)]) .z .z) .z) (.n none .z (.n none (.n none (.n (some [.t 2 (.sc .kb)]) .z .z) .z) .z)))))))))))))))))))) .z)) .z))
def a57 : Ann := (.n none .z (.n none (.n none .z (.n none (.n none (.n none .z (.n (some [.t 5 (.sc .kb)]) .z .z)) (.n none .z (.n none .z (.n none (.n none (.n (some [.t 2 (.sc .kb)]) .z .z) .z) (.n none .z (.n none (.n none (.n (some [.t 2 (.sc .kb)]) .z .z) .z) (.n none .z (.n none (.n none (.n (some [.t 2 (.sc .kb)]) .z .z) .z) (.n none .z (.n none (.n none (.n (some [.t 2 (.sc .kb)]) .z .z) .z) (.n none .z (.n none (.n none (.n (some [.t 2 (.sc .kb)]) .z .z) .z) (.n none .z (.n none (.n none (.n (some [.t 2 (.sc .kb)]) .z .z) .z) .z)))))))))))))) .z)) .z))
def a58 : Ann := (.n none .z (.n none (.n none .z (.n none (.n none (.n none .z (.n (some [.t 6 (.sc .kb)]) .z .z)) (.n none .z (.n none (.n none .z (.n (some [.t 10 (.sc .kb)]) .z .z)) .z))) .z)) .z))
def a59 : Ann := (.n none .z (.n none .z (.n none (.n none (.n (some [.t 21 (.sc .kb)]) .z .z) .z) .z)))
def a39 : Ann := (.n none .z (.n none .z (.n none .z (.n none .z (.n none .z (.n none (.n none .z (.n (some []) (.n (some [.t 6 (.sc .kb), .t 7 (.sc (.ki .i64)), .t 22 (.sc (.ki .i64))]) (.n none .z (.n none .z (.n none (.n (some [.t 6 (.sc .kb), .t 7 (.sc (.ki .i64))]) (.n none .z (.n none (.n none (.n (some [.t 40 (.sc .kb)]) .z .z) .z) (.n none (.n none .z (.n (some [.t 6 (.sc .kb), .t 7 (.sc (.ki .i64))]) (.n none (.n none .z (.n (some [.t 44 (.sc .kb)]) .z .z)) .z) .z)) (.n none (.n none .z (.n (some [.t 7 (.sc (.ki .i64))]) .z .z)) (.n none .z (.n none (.n none (.n (some [.t 83 (.sc .kb)]) .z .z) .z) .z)))))) .z) .z))) .z) .z)) .z))))))
def a41 : Ann := .z
def a42 : Ann := (.n none .z (.n none (.n none .z (.n none (.n none (.n none .z (.n (some [.t 9 (.sc .kb)]) .z .z)) .z) .z)) .z))
def a16 : Ann := (.n none .z (.n none .z (.n none .z (.n none (.n none .z (.n (some []) (.n (some [.t 4 (.sc (.ki .i64))]) .z .z) .z)) .z))))
def a14 : Ann := (.n none .z (.n none .z (.n none (.n (some [.t 0 (.sc .kb)]) .z .z) .z)))
def a48 : Ann := (.n none .z (.n none .z (.n none (.n none .z (.n (some [.t 3 (.sc (.ki .i64))]) (.n (some [.t 3 (.sc (.ki .i64)), .t 8 (.sc (.ki .i64))]) (.n none .z (.n none .z (.n none (.n none (.n none .z (.n none (.n none .z (.n (some [.t 3 (.sc (.ki .i64))]) .z .z)) (.n none (.n none .z (.n (some [.t 3 (.sc (.ki .i64))]) .z .z)) (.n none (.n (some [.t 27 (.sc .kb)]) .z .z) .z)))) .z) .z))) .z) .z)) .z)))
def a17 : Ann := (.n none .z (.n none .z (.n none (.n none .z (.n (some []) (.n (some [.t 5 (.sc (.ki .i64))]) .z .z) .z)) .z)))
def a62 : Ann := (.n none .z (.n none .z (.n none .z (.n none (.n none .z (.n none (.n none (.n none .z (.n (some [.t 17 (.sc .kb)]) .z .z)) (.n none .z (.n none .z (.n none .z (.n none .z (.n none .z (.n none .z (.n none .z (.n none .z (.n none .z (.n none .z (.n none .z (.n none .z (.n none .z (.n none .z (.n none .z (.n none (.n none .z (.n (some [.t 62 (.sc .kb)]) .z .z)) .z))))))))))))))))) .z)) .z))))
def a49 : Ann := (.n none .z (.n none .z (.n none .z (.n none (.n none (.n (some [.t 82 (.sc .kb)]) .z .z) .z) (.n none .z (.n none (.n none (.n (some [.t 106 (.sc .kb)]) .z .z) .z) (.n none (.n none (.n (some [.t 114 (.sc .kb)]) .z .z) (.n (some []) (.n none (.n (some [.t 151 (.sc .kb)]) .z .z) .z) .z)) (.n none .z (.n none (.n none .z (.n (some [.t 9 (.sc (.ki .i64))]) (.n (some [.t 9 (.sc (.ki .i64)), .t 10 (.sc (.ki .i64))]) (.n none .z (.n none (.n (some [.t 9 (.sc (.ki .i64))]) (.n none (.n none (.n (some [.t 184 (.sc .kb)]) .z .z) .z) .z) .z) .z)) .z) .z)) (.n none (.n (some [.t 4 (.sc .kb)]) .z .z) .z))))))))))
def a30 : Ann := (.n none .z (.n none .z (.n none .z (.n none (.n none .z (.n (some []) (.n (some [.t 13 (.sc (.ki .i64))]) .z .z) .z)) .z))))
def a15 : Ann := .z
def a3 : Ann := (.n none .z (.n none .z (.n none (.n none (.n (some [.t 33 (.sc .kb)]) .z .z) .z) (.n none .z (.n none (.n none .z (.n (some [.t 5 (.sc .kl)]) (.n (some [.t 5 (.sc .kl), .t 38 (.sc (.ki .i64))]) (.n none .z (.n none .z (.n none (.n none (.n none .z (.n none (.n none (.n (some [.t 49 (.sc .kb)]) .z .z) (.n (some [.x 7 (some [(.ki .i64), (.ki .i64), (.ki .i64), (.ki .i64)])]) .z .z)) .z)) .z) .z))) .z) .z)) (.n none .z (.n none (.n none (.n (some [.t 91 (.sc .kb)]) .z .z) .z) (.n none (.n none .z (.n (some []) (.n (some [.t 94 (.sc (.ki .i64))]) .z .z) .z)) .z))))))))
def a43 : Ann := (.n none .z (.n none .z (.n none (.n none (.n none (.n (some [.t 10 (.sc .kb)]) .z .z) (.n none .z (.n none (.n (some [.t 19 (.sc .kb)]) .z .z) (.n none .z (.n none (.n (some [.t 31 (.sc .kb)]) .z .z) .z))))) .z) .z)))
def a19 : Ann := (.n none .z (.n none .z (.n none (.n none .z (.n none (.n none (.n none .z (.n (some [.t 14 (.sc .kb)]) .z .z)) (.n none .z (.n none .z (.n none (.n none (.n (some [.t 6 (.sc .kb)]) .z .z) .z) (.n none .z (.n none (.n none (.n (some [.t 6 (.sc .kb)]) .z .z) .z) .z)))))) .z)) .z)))
def a4 : Ann := (.n none .z (.n none .z (.n none .z (.n none (.n none (.n (some [.t 25 (.sc .kb)]) .z .z) .z) (.n none .z (.n none (.n none .z (.n (some [.t 6 (.sc (.ki .i64))]) (.n (some [.t 6 (.sc (.ki .i64)), .t 7 (.sc (.ki .i64))]) (.n none .z (.n none (.n (some [.t 6 (.sc (.ki .i64))]) (.n none .z (.n none (.n none (.n none (.n (some [.t 50 (.sc .kb)]) .z .z) .z) .z) .z)) .z) .z)) .z) .z)) .z))))))
def a44 : Ann := (.n none .z (.n none .z (.n none .z (.n none (.n none .z (.n (some []) (.n (some [.t 18 (.sc (.ki .i64))]) (.n none .z (.n none .z (.n none (.n (some []) (.n none .z (.n none .z (.n none .z (.n (some []) (.n (some [.t 30 (.sc (.ki .i64))]) .z .z) .z)))) .z) .z))) .z) .z)) .z))))
def a23 : Ann := .z
def a45 : Ann := (.n none (.n none (.n (some [.t 18 (.sc .kb)]) .z .z) .z) (.n none .z (.n (some []) (.n (some [.t 23 (.sc (.ki .i64))]) (.n none .z (.n none .z (.n none (.n none (.n none .z (.n none (.n (some [.t 34 (.sc .kb)]) .z .z) .z)) .z) .z))) .z) .z)))
def a24 : Ann := .z
def a25 : Ann := (.n none .z (.n none .z (.n none .z (.n none (.n none .z (.n (some [.x 5 none]) (.n (some [.t 6 (.sc .kb), .x 5 none]) (.n none .z (.n none (.n none .z (.n none .z (.n (some [.t 6 (.sc .kb), .x 5 none]) (.n (some [.t 6 (.sc .kb), .t 14 (.sc (.ki .i64)), .x 5 none]) (.n none .z (.n none .z (.n none (.n none (.n none .z (.n none .z (.n (some [.t 6 (.sc .kb), .x 5 none]) (.n (some [.t 6 (.sc .kb), .t 8 (.sc (.ki .i64)), .x 5 none]) (.n none .z (.n none (.n (some [.t 6 (.sc .kb), .x 5 none]) (.n none (.n (some [.t 37 (.sc .kb)]) .z .z) .z) .z) .z)) .z) .z))) .z) .z))) .z) .z))) .z)) .z) .z)) .z))))
def a7 : Ann := (.n none .z (.n none .z (.n none .z (.n none .z (.n none (.n none (.n (some [.t 33 (.sc .kb)]) .z .z) (.n none (.n none (.n none .z (.n (some []) (.r 72333135 [6]) .z)) (.n none (.n (some []) .z .z) .z)) .z)) (.n none (.n none (.r 0 [10]) (.r 1 [48])) (.n none (.n none .z (.n (some []) (.r 69661462 [3, 5, 6, 8, 9, 10]) .z)) (.n none .z (.n none (.n none .z (.n (some [.t 13 (.sc (.ki .i64))]) (.n (some [.t 13 (.sc (.ki .i64)), .t 76 (.sc (.ki .i64))]) (.n none .z (.n none .z (.n none (.n (some [.t 13 (.sc (.ki .i64))]) .z .z) .z))) .z) .z)) (.n none (.n none .z (.n (some []) (.n (some [.t 85 (.sc (.ki .i64))]) (.n none .z (.n none .z (.n none (.n none (.n none .z (.n none (.n (some [.t 101 (.sc .kb)]) .z .z) .z)) .z) .z))) .z) .z)) (.n none (.n (some []) .z .z) .z)))))))))))
def a26 : Ann := (.n none .z (.n none .z (.n none (.n none .z (.n (some []) (.r 6300482 [2, 4, 5, 6]) .z)) .z)))
def a46 : Ann := (.n none .z (.n none .z (.n none .z (.n none .z (.n none (.n none .z (.n (some []) (.n (some [.t 5 (.sc (.ki .i64)), .t 15 (.sc (.ki .i64))]) (.n none .z (.n none .z (.n none (.n (some [.t 5 (.sc (.ki .i64))]) (.n none .z (.n none (.n (some []) .z .z) .z)) .z) .z))) .z) .z)) .z)))))
def a50 : Ann := (.n none .z (.n none .z (.n none .z (.n none (.n none .z (.n (some [.x 3 none]) (.n (some [.t 11 (.sc (.ki .i64)), .x 3 none]) (.n none .z (.n none .z (.n none (.n (some [.x 3 none]) (.n none .z (.n none (.n (some [.x 3 none]) .z .z) .z)) .z) .z))) .z) .z)) .z))))
def a55 : Ann := (.n none .z (.n (some []) (.n (some [.t 8 (.sc (.ki .i64))]) (.n none .z (.n none .z (.n none (.n none (.n none .z (.n none (.n (some [.t 19 (.sc .kb)]) .z .z) .z)) .z) .z))) .z) .z))
def a37 : Ann := .z
def a11 : Ann := (.n none .z (.n none .z (.n none (.n none .z (.n none (.n none (.n none .z (.n (some []) (.r 81328721 [6]) .z)) .z) .z)) (.n none .z (.n none (.n none .z (.n (some []) (.r 98604607 [3, 5, 6, 7, 8]) .z)) (.n none (.n none .z (.n (some [.t 9 (.sc (.ki .i64))]) (.n (some [.t 9 (.sc (.ki .i64)), .t 51 (.sc (.ki .i64))]) (.n none .z (.n none .z (.n none (.n (some [.t 9 (.sc (.ki .i64))]) .z .z) .z))) .z) .z)) (.n none .z (.n none (.n none (.n (some [.t 67 (.sc .kb)]) .z .z) (.n (some [.t 12 (.sc (.ki .i64))]) .z .z)) (.n none (.n (some []) .z .z) .z)))))))))
def a12 : Ann := (.n none .z (.n none .z (.n none .z (.n none .z (.n none (.n none .z (.n none (.n (some [.t 41 (.sc .kb)]) .z .z) .z)) (.n none (.n none .z (.n (some []) (.r 93818678 [2]) .z)) (.n none .z (.n none (.n (some []) .z .z) .z))))))))
def a71 : Ann := (.n none .z (.n none (.n (some [.t 1 (.sc (.ki .i64))]) (.n (some [.t 1 (.sc (.ki .i64))]) .z .z) .z) .z))
def a78 : Ann := .z
def a77 : Ann := .z
def a79 : Ann := .z
def a72 : Ann := (.n none .z (.n none .z (.n none (.n none .z (.n none .z (.n none .z (.n none .z (.n none .z (.n none .z (.n none (.n none .z (.n (some [.t 30 (.sc .kb)]) .z .z)) (.n none .z (.n none .z (.n none .z (.n none .z (.n none .z (.n none .z (.n none .z (.n none (.n none .z (.n (some [.t 63 (.sc .kb)]) .z .z)) .z))))))))))))))) .z)))
def a61 : Ann := (.n none .z (.n none .z (.n none (.n none (.n (some [.t 30 (.sc .kb)]) .z .z) .z) (.n none .z (.n none (.n none .z (.n (some []) (.r 82468377 [2, 6, 7]) .z)) .z)))))
def a60 : Ann := (.n none .z (.n (some []) (.n (some [.t 8 (.sc (.ki .i64))]) (.n none .z (.n none .z (.n none (.n none (.n none .z (.n none .z (.n none (.n (some [.t 24 (.sc .kb)]) .z .z) .z))) .z) .z))) .z) .z))
def a13 : Ann := (.n none .z (.n none .z (.n none .z (.n none .z (.n none .z (.n none (.n none (.n (some [.t 58 (.sc .kb)]) .z .z) .z) (.n none .z (.n none .z (.n none (.n none .z (.n (some []) (.r 25422154 [7, 8]) .z)) (.n none (.n none .z (.n (some []) (.r 26824521 [9]) .z)) (.n none .z (.n none (.n none .z (.n (some []) (.n (some [.t 98 (.sc (.ki .i64))]) .z .z) .z)) .z))))))))))))
/-- a loop over a function -/
noncomputable def s7_0 : Nat × Site := (sitesF Try.f7 a7).getD 0 (0, ⟨0, #[], .skip, .skip⟩)
/-- a loop over a function -/
noncomputable def s7_1 : Nat × Site := (sitesF Try.f7 a7).getD 1 (0, ⟨0, #[], .skip, .skip⟩)
/-- a loop over a function -/
noncomputable def s26_0 : Nat × Site := (sitesF Try.f26 a26).getD 0 (0, ⟨0, #[], .skip, .skip⟩)
/-- a loop over a function -/
noncomputable def s11_0 : Nat × Site := (sitesF Try.f11 a11).getD 0 (0, ⟨0, #[], .skip, .skip⟩)
/-- a loop over a function -/
noncomputable def s11_1 : Nat × Site := (sitesF Try.f11 a11).getD 1 (0, ⟨0, #[], .skip, .skip⟩)
/-- a loop over a function -/
noncomputable def s12_0 : Nat × Site := (sitesF Try.f12 a12).getD 0 (0, ⟨0, #[], .skip, .skip⟩)
/-- a loop over a function -/
noncomputable def s61_0 : Nat × Site := (sitesF Try.f61 a61).getD 0 (0, ⟨0, #[], .skip, .skip⟩)
/-- a loop over a function -/
noncomputable def s13_0 : Nat × Site := (sitesF Try.f13 a13).getD 0 (0, ⟨0, #[], .skip, .skip⟩)
/-- a loop over a function -/
noncomputable def s13_1 : Nat × Site := (sitesF Try.f13 a13).getD 1 (0, ⟨0, #[], .skip, .skip⟩)
noncomputable def es : List (Nat × Site) := [s7_0, s7_1, s26_0, s11_0, s11_1, s12_0, s61_0, s13_0, s13_1]
instance : Sites := ⟨fun k _ sz ps a b => siteIn es k sz ps a b⟩
def e56 (D : HV → List HV → M HV) : Env := ⟨lk [], D, fun _ => none⟩

theorem d56 (D : HV → List HV → M HV) : fnD (e56 D) Try.prog [] a56 Try.f56 [] = f_code_spans D := by kernel_rfl
theorem ok56 {D : HV → List HV → M HV} (hD : DOk Try.prog noG D) : FnOk Try.prog noG 56 (f_code_spans D) := d56 D ▸ fn_ok (E := e56 D) ⟨lk_nil, hD⟩ mixed Try.func56 (by kernel_rfl) (by kernel_rfl) (hst_none (by kernel_rfl))

def e69 (D : HV → List HV → M HV) : Env := ⟨lk [], D, fun _ => none⟩

theorem d69 (D : HV → List HV → M HV) : fnD (e69 D) Try.prog [] a69 Try.f69 [] = f_code_in D := by kernel_rfl
theorem ok69 {D : HV → List HV → M HV} (hD : DOk Try.prog noG D) : FnOk Try.prog noG 69 (f_code_in D) := d69 D ▸ fn_ok (E := e69 D) ⟨lk_nil, hD⟩ mixed Try.func69 (by kernel_rfl) (by kernel_rfl) (hst_none (by kernel_rfl))

def e70 (D : HV → List HV → M HV) : Env := ⟨lk [(69, f_code_in D)], D, fun _ => none⟩

theorem d70 (D : HV → List HV → M HV) : fnD (e70 D) Try.prog [] a70 Try.f70 [] = f_code_things D := by kernel_rfl
theorem ok70 {D : HV → List HV → M HV} (hD : DOk Try.prog noG D) : FnOk Try.prog noG 70 (f_code_things D) := d70 D ▸ fn_ok (E := e70 D) ⟨(lk_cons (ok69 hD) lk_nil), hD⟩ mixed Try.func70 (by kernel_rfl) (by kernel_rfl) (hst_none (by kernel_rfl))

def e57 (D : HV → List HV → M HV) : Env := ⟨lk [(69, f_code_in D), (70, f_code_things D)], D, fun _ => none⟩

theorem d57 (D : HV → List HV → M HV) : fnD (e57 D) Try.prog [] a57 Try.f57 [] = f_code_fields D := by kernel_rfl
theorem ok57 {D : HV → List HV → M HV} (hD : DOk Try.prog noG D) : FnOk Try.prog noG 57 (f_code_fields D) := d57 D ▸ fn_ok (E := e57 D) ⟨(lk_cons (ok69 hD) (lk_cons (ok70 hD) lk_nil)), hD⟩ mixed Try.func57 (by kernel_rfl) (by kernel_rfl) (hst_none (by kernel_rfl))

def e58 (D : HV → List HV → M HV) : Env := ⟨lk [], D, fun _ => none⟩

theorem d58 (D : HV → List HV → M HV) : fnD (e58 D) Try.prog [] a58 Try.f58 [] = f_code_placed D := by kernel_rfl
theorem ok58 {D : HV → List HV → M HV} (hD : DOk Try.prog noG D) : FnOk Try.prog noG 58 (f_code_placed D) := d58 D ▸ fn_ok (E := e58 D) ⟨lk_nil, hD⟩ mixed Try.func58 (by kernel_rfl) (by kernel_rfl) (hst_none (by kernel_rfl))

def e59 (D : HV → List HV → M HV) : Env := ⟨lk [], D, fun _ => none⟩

theorem d59 (D : HV → List HV → M HV) : fnD (e59 D) Try.prog [] a59 Try.f59 [] = f_code_lands D := by kernel_rfl
theorem ok59 {D : HV → List HV → M HV} (hD : DOk Try.prog noG D) : FnOk Try.prog noG 59 (f_code_lands D) := d59 D ▸ fn_ok (E := e59 D) ⟨lk_nil, hD⟩ mixed Try.func59 (by kernel_rfl) (by kernel_rfl) (hst_none (by kernel_rfl))

def e39 (D : HV → List HV → M HV) : Env := ⟨lk [(56, f_code_spans D), (57, f_code_fields D), (58, f_code_placed D), (59, f_code_lands D)], D, fun _ => none⟩

theorem d39 (D : HV → List HV → M HV) : fnD (e39 D) Try.prog [] a39 Try.f39 [] = f_code_Check D := by kernel_rfl
theorem ok39 {D : HV → List HV → M HV} (hD : DOk Try.prog noG D) : FnOk Try.prog noG 39 (f_code_Check D) := d39 D ▸ fn_ok (E := e39 D) ⟨(lk_cons (ok56 hD) (lk_cons (ok57 hD) (lk_cons (ok58 hD) (lk_cons (ok59 hD) lk_nil)))), hD⟩ mixed Try.func39 (by kernel_rfl) (by kernel_rfl) (hst_none (by kernel_rfl))

def e41 (D : HV → List HV → M HV) : Env := ⟨lk [(39, f_code_Check D)], D, fun _ => none⟩

theorem d41 (D : HV → List HV → M HV) : fnD (e41 D) Try.prog [] a41 Try.f41 [] = f_bound_can D := by kernel_rfl
theorem ok41 {D : HV → List HV → M HV} (hD : DOk Try.prog noG D) : FnOk Try.prog noG 41 (f_bound_can D) := d41 D ▸ fn_ok (E := e41 D) ⟨(lk_cons (ok39 hD) lk_nil), hD⟩ mixed Try.func41 (by kernel_rfl) (by kernel_rfl) (hst_none (by kernel_rfl))

def e42 (D : HV → List HV → M HV) : Env := ⟨lk [], D, fun _ => none⟩

theorem d42 (D : HV → List HV → M HV) : fnD (e42 D) Try.prog [] a42 Try.f42 [] = f_bound_one D := by kernel_rfl
theorem ok42 {D : HV → List HV → M HV} (hD : DOk Try.prog noG D) : FnOk Try.prog noG 42 (f_bound_one D) := d42 D ▸ fn_ok (E := e42 D) ⟨lk_nil, hD⟩ mixed Try.func42 (by kernel_rfl) (by kernel_rfl) (hst_none (by kernel_rfl))

def e16 (D : HV → List HV → M HV) : Env := ⟨lk [(41, f_bound_can D), (42, f_bound_one D)], D, fun _ => none⟩

theorem d16 (D : HV → List HV → M HV) : fnD (e16 D) Try.prog [] a16 Try.f16 [] = f_bound_Most D := by kernel_rfl
theorem ok16 {D : HV → List HV → M HV} (hD : DOk Try.prog noG D) : FnOk Try.prog noG 16 (f_bound_Most D) := d16 D ▸ fn_ok (E := e16 D) ⟨(lk_cons (ok41 hD) (lk_cons (ok42 hD) lk_nil)), hD⟩ mixed Try.func16 (by kernel_rfl) (by kernel_rfl) (hst_none (by kernel_rfl))

def e14 (D : HV → List HV → M HV) : Env := ⟨lk [(16, f_bound_Most D)], D, fun _ => none⟩

theorem d14 (D : HV → List HV → M HV) : fnD (e14 D) Try.prog [6] a14 Try.f14 [] = f_law27_alive D := by kernel_rfl
theorem ok14 {D : HV → List HV → M HV} (hD : DOk Try.prog noG D) : FnOk Try.prog noG 14 (f_law27_alive D) := d14 D ▸ fn_ok (E := e14 D) ⟨(lk_cons (ok16 hD) lk_nil), hD⟩ mixed Try.func14 (by kernel_rfl) (by kernel_rfl) (hst_none (by kernel_rfl))

def e48 (D : HV → List HV → M HV) : Env := ⟨lk [], D, fun _ => none⟩

theorem d48 (D : HV → List HV → M HV) : fnD (e48 D) Try.prog [] a48 Try.f48 [] = f_ref07_Shaped D := by kernel_rfl
theorem ok48 {D : HV → List HV → M HV} (hD : DOk Try.prog noG D) : FnOk Try.prog noG 48 (f_ref07_Shaped D) := d48 D ▸ fn_ok (E := e48 D) ⟨lk_nil, hD⟩ mixed Try.func48 (by kernel_rfl) (by kernel_rfl) (hst_none (by kernel_rfl))

def e17 (D : HV → List HV → M HV) : Env := ⟨lk [], D, fun _ => none⟩

theorem d17 (D : HV → List HV → M HV) : fnD (e17 D) Try.prog [] a17 Try.f17 [] = f_ref07_Block D := by kernel_rfl
theorem ok17 {D : HV → List HV → M HV} (hD : DOk Try.prog noG D) : FnOk Try.prog noG 17 (f_ref07_Block D) := d17 D ▸ fn_ok (E := e17 D) ⟨lk_nil, hD⟩ mixed Try.func17 (by kernel_rfl) (by kernel_rfl) (hst_none (by kernel_rfl))

def e62 (D : HV → List HV → M HV) : Env := ⟨lk [], D, fun _ => none⟩

theorem d62 (D : HV → List HV → M HV) : fnD (e62 D) Try.prog [] a62 Try.f62 [] = f_ref07_limits D := by kernel_rfl
theorem ok62 {D : HV → List HV → M HV} (hD : DOk Try.prog noG D) : FnOk Try.prog noG 62 (f_ref07_limits D) := d62 D ▸ fn_ok (E := e62 D) ⟨lk_nil, hD⟩ mixed Try.func62 (by kernel_rfl) (by kernel_rfl) (hst_none (by kernel_rfl))

def e49 (D : HV → List HV → M HV) : Env := ⟨lk [(17, f_ref07_Block D), (62, f_ref07_limits D)], D, fun _ => none⟩

theorem d49 (D : HV → List HV → M HV) : fnD (e49 D) Try.prog [] a49 Try.f49 [] = f_ref07_One D := by kernel_rfl
theorem ok49 {D : HV → List HV → M HV} (hD : DOk Try.prog noG D) : FnOk Try.prog noG 49 (f_ref07_One D) := d49 D ▸ fn_ok (E := e49 D) ⟨(lk_cons (ok17 hD) (lk_cons (ok62 hD) lk_nil)), hD⟩ mixed Try.func49 (by kernel_rfl) (by kernel_rfl) (hst_none (by kernel_rfl))

def e30 (D : HV → List HV → M HV) : Env := ⟨lk [(48, f_ref07_Shaped D), (49, f_ref07_One D)], D, fun _ => none⟩

theorem d30 (D : HV → List HV → M HV) : fnD (e30 D) Try.prog [] a30 Try.f30 [] = f_ref07_Check D := by kernel_rfl
theorem ok30 {D : HV → List HV → M HV} (hD : DOk Try.prog noG D) : FnOk Try.prog noG 30 (f_ref07_Check D) := d30 D ▸ fn_ok (E := e30 D) ⟨(lk_cons (ok48 hD) (lk_cons (ok49 hD) lk_nil)), hD⟩ mixed Try.func30 (by kernel_rfl) (by kernel_rfl) (hst_none (by kernel_rfl))

def e15 (D : HV → List HV → M HV) : Env := ⟨lk [(30, f_ref07_Check D)], D, fun _ => none⟩

theorem d15 (D : HV → List HV → M HV) : fnD (e15 D) Try.prog [] a15 Try.f15 [] = f_ref27_Can D := by kernel_rfl
theorem ok15 {D : HV → List HV → M HV} (hD : DOk Try.prog noG D) : FnOk Try.prog noG 15 (f_ref27_Can D) := d15 D ▸ fn_ok (E := e15 D) ⟨(lk_cons (ok30 hD) lk_nil), hD⟩ mixed Try.func15 (by kernel_rfl) (by kernel_rfl) (hst_none (by kernel_rfl))

def e3 (D : HV → List HV → M HV) : Env := ⟨lk [(14, f_law27_alive D), (15, f_ref27_Can D), (16, f_bound_Most D), (17, f_ref07_Block D)], D, fun _ => none⟩

theorem d3 (D : HV → List HV → M HV) : fnD (e3 D) Try.prog [] a3 Try.f3 [] = f_law27_BoundBlocks D := by kernel_rfl
def e43 (D : HV → List HV → M HV) : Env := ⟨lk [], D, fun _ => none⟩

theorem d43 (D : HV → List HV → M HV) : fnD (e43 D) Try.prog [30, 51, 54] a43 Try.f43 [] = f_bound_next D := by kernel_rfl
theorem ok43 {D : HV → List HV → M HV} (hD : DOk Try.prog noG D) : FnOk Try.prog noG 43 (f_bound_next D) := d43 D ▸ fn_ok (E := e43 D) ⟨lk_nil, hD⟩ mixed Try.func43 (by kernel_rfl) (by kernel_rfl) (hst_none (by kernel_rfl))

def e18 (D : HV → List HV → M HV) : Env := ⟨lk [(41, f_bound_can D), (43, f_bound_next D)], D, fun _ => none⟩

def e19 (D : HV → List HV → M HV) : Env := ⟨lk [], D, fun _ => none⟩

theorem d19 (D : HV → List HV → M HV) : fnD (e19 D) Try.prog [] a19 Try.f19 [] = f_ref27_Leads D := by kernel_rfl
theorem ok19 {D : HV → List HV → M HV} (hD : DOk Try.prog noG D) : FnOk Try.prog noG 19 (f_ref27_Leads D) := d19 D ▸ fn_ok (E := e19 D) ⟨lk_nil, hD⟩ mixed Try.func19 (by kernel_rfl) (by kernel_rfl) (hst_none (by kernel_rfl))

def e4 (D : HV → List HV → M HV) : Env := ⟨lk [(14, f_law27_alive D), (15, f_ref27_Can D), (18, f_bound_Next D), (19, f_ref27_Leads D)], D, fun _ => none⟩

def e5 (D : HV → List HV → M HV) : Env := ⟨lk [(14, f_law27_alive D), (15, f_ref27_Can D), (16, f_bound_Most D), (18, f_bound_Next D)], D, fun _ => none⟩

def e21 (D : HV → List HV → M HV) : Env := ⟨lk [], D, fun _ => none⟩

def e6 (D : HV → List HV → M HV) : Env := ⟨lk [(14, f_law27_alive D), (15, f_ref27_Can D), (16, f_bound_Most D), (20, f_bound_Total D), (21, f_ref27_Most D), (22, f_ref27_Total D)], D, fun _ => none⟩

def e44 (D : HV → List HV → M HV) : Env := ⟨lk [(43, f_bound_next D)], D, fun _ => none⟩

theorem d44 (D : HV → List HV → M HV) : fnD (e44 D) Try.prog [] a44 Try.f44 [] = f_bound_seen D := by kernel_rfl
theorem ok44 {D : HV → List HV → M HV} (hD : DOk Try.prog noG D) : FnOk Try.prog noG 44 (f_bound_seen D) := d44 D ▸ fn_ok (E := e44 D) ⟨(lk_cons (ok43 hD) lk_nil), hD⟩ mixed Try.func44 (by kernel_rfl) (by kernel_rfl) (hst_none (by kernel_rfl))

def e23 (D : HV → List HV → M HV) : Env := ⟨lk [(41, f_bound_can D), (44, f_bound_seen D)], D, fun _ => none⟩

theorem d23 (D : HV → List HV → M HV) : fnD (e23 D) Try.prog [] a23 Try.f23 [] = f_bound_Reach D := by kernel_rfl
theorem ok23 {D : HV → List HV → M HV} (hD : DOk Try.prog noG D) : FnOk Try.prog noG 23 (f_bound_Reach D) := d23 D ▸ fn_ok (E := e23 D) ⟨(lk_cons (ok41 hD) (lk_cons (ok44 hD) lk_nil)), hD⟩ mixed Try.func23 (by kernel_rfl) (by kernel_rfl) (hst_none (by kernel_rfl))

def e45 (D : HV → List HV → M HV) : Env := ⟨lk [(41, f_bound_can D), (44, f_bound_seen D)], D, fun _ => none⟩

theorem d45 (D : HV → List HV → M HV) : fnD (e45 D) Try.prog [] a45 Try.f45 [.sc .kp, .sc .kp] = f_bound_From_1 D := by kernel_rfl
theorem ok45 {D : HV → List HV → M HV} (hD : DOk Try.prog noG D) : FnOk Try.prog noG 45 (f_bound_From_1 D) := d45 D ▸ fn_ok (E := e45 D) ⟨(lk_cons (ok41 hD) (lk_cons (ok44 hD) lk_nil)), hD⟩ mixed Try.func45 (by kernel_rfl) (by kernel_rfl) (hst_none (by kernel_rfl))

def e24 (D : HV → List HV → M HV) : Env := ⟨lk [], D, fun _ => none⟩

theorem d24 (D : HV → List HV → M HV) : fnD (e24 D) Try.prog [2, 3] a24 Try.f24 [] = f_bound_From D := by kernel_rfl
theorem ok24 {D : HV → List HV → M HV} (hD : DOk Try.prog noG D) : FnOk Try.prog noG 24 (f_bound_From D) := d24 D ▸ fn_ok (E := e24 D) ⟨lk_nil, hD⟩ mixed Try.func24 (by kernel_rfl) (by kernel_rfl) (hst_none (by kernel_rfl))

def e25 (D : HV → List HV → M HV) : Env := ⟨lk [(19, f_ref27_Leads D)], D, fun _ => none⟩

theorem d25 (D : HV → List HV → M HV) : fnD (e25 D) Try.prog [] a25 Try.f25 [] = f_ref27_Seen D := by kernel_rfl
theorem ok25 {D : HV → List HV → M HV} (hD : DOk Try.prog noG D) : FnOk Try.prog noG 25 (f_ref27_Seen D) := d25 D ▸ fn_ok (E := e25 D) ⟨(lk_cons (ok19 hD) lk_nil), hD⟩ mixed Try.func25 (by kernel_rfl) (by kernel_rfl) (hst_none (by kernel_rfl))

def e7 (D : HV → List HV → M HV) : Env := ⟨lk [(14, f_law27_alive D), (15, f_ref27_Can D), (23, f_bound_Reach D), (24, f_bound_From D), (25, f_ref27_Seen D)], D, fun _ => none⟩

theorem st7 : ∀ e ∈ sitesF Try.f7 a7, e ∈ es := by
  rw [show sitesF Try.f7 a7 = [s7_0, s7_1] by kernel_rfl]
  intro e he
  simp only [List.mem_cons, List.not_mem_nil, or_false] at he
  rcases he with rfl | rfl <;> simp [es]
theorem d7 (D : HV → List HV → M HV) : fnD (e7 D) Try.prog [3, 5, 6, 8, 9, 10] a7 Try.f7 [] = f_law27_BoundReach D := by kernel_rfl
theorem ok7 {D : HV → List HV → M HV} (hD : DOk Try.prog noG D) : FnOk Try.prog noG 7 (f_law27_BoundReach D) := d7 D ▸ fn_ok (E := e7 D) ⟨(lk_cons (ok14 hD) (lk_cons (ok15 hD) (lk_cons (ok23 hD) (lk_cons (ok24 hD) (lk_cons (ok25 hD) lk_nil))))), hD⟩ mixed Try.func7 (by kernel_rfl) (by kernel_rfl) (hst_of (fun _ _ _ _ _ h => h) st7)

def e7_0 (D : HV → List HV → M HV) : Env := ⟨lk [], D, fun _ => none⟩

theorem d7_0 (D : HV → List HV → M HV) (l : Nat) (vs : List (Nat × HV)) (args : List HV) : roundD (e7_0 D) Try.prog [] s7_0.2 [.t 6 (.sc .kp)] [.t 37 (.sc (.ki .i64))] .z .z [] l vs args = r0_law27_BoundReach D l vs args := by kernel_rfl
theorem rd7_0 : RdOk Try.prog noG s7_0 r0_law27_BoundReach := fun D hD => ⟨e7_0 D, [], [.t 6 (.sc .kp)], [.t 37 (.sc (.ki .i64))], .z, .z, [], ⟨lk_nil, hD⟩, rfl, by kernel_rfl, rst_none (by kernel_rfl), fun l vs args => (d7_0 D l vs args).symm⟩

def e7_1 (D : HV → List HV → M HV) : Env := ⟨lk [], D, fun _ => none⟩

theorem d7_1 (D : HV → List HV → M HV) (l : Nat) (vs : List (Nat × HV)) (args : List HV) : roundD (e7_1 D) Try.prog [] s7_1.2 [.t 3 (.sc .kp), .t 5 (.sc .kp), .t 6 (.sc .kp), .t 8 (.sc .kp), .t 9 (.sc .kp), .t 10 (.sc .kp)] [.t 53 (.sc (.ki .i64))] .z (.n none (.n none (.n none (.n (some [.t 68 (.sc .kb)]) .z .z) .z) .z) .z) [2] l vs args = r1_law27_BoundReach D l vs args := by kernel_rfl
theorem rd7_1 : RdOk Try.prog noG s7_1 r1_law27_BoundReach := fun D hD => ⟨e7_1 D, [], [.t 3 (.sc .kp), .t 5 (.sc .kp), .t 6 (.sc .kp), .t 8 (.sc .kp), .t 9 (.sc .kp), .t 10 (.sc .kp)], [.t 53 (.sc (.ki .i64))], .z, (.n none (.n none (.n none (.n (some [.t 68 (.sc .kb)]) .z .z) .z) .z) .z), [2], ⟨lk_nil, hD⟩, rfl, by kernel_rfl, rst_none (by kernel_rfl), fun l vs args => (d7_1 D l vs args).symm⟩

def e26_0 (D : HV → List HV → M HV) : Env := ⟨lk [], D, fun _ => none⟩

theorem d26_0 (D : HV → List HV → M HV) (l : Nat) (vs : List (Nat × HV)) (args : List HV) : roundD (e26_0 D) Try.prog [] s26_0.2 [.t 2 (.sc .kp), .t 4 (.sc .kp), .t 5 (.sc .kp), .t 6 (.sc .kp)] [.t 11 (.sc (.ki .i64))] .z (.n none (.n none (.n none (.n (some [.t 23 (.sc .kb)]) .z .z) .z) .z) .z) [] l vs args = r0_law27_marked D l vs args := by kernel_rfl
theorem rd26_0 : RdOk Try.prog noG s26_0 r0_law27_marked := fun D hD => ⟨e26_0 D, [], [.t 2 (.sc .kp), .t 4 (.sc .kp), .t 5 (.sc .kp), .t 6 (.sc .kp)], [.t 11 (.sc (.ki .i64))], .z, (.n none (.n none (.n none (.n (some [.t 23 (.sc .kb)]) .z .z) .z) .z) .z), [], ⟨lk_nil, hD⟩, rfl, by kernel_rfl, rst_none (by kernel_rfl), fun l vs args => (d26_0 D l vs args).symm⟩

def e8 (D : HV → List HV → M HV) : Env := ⟨lk [(14, f_law27_alive D), (15, f_ref27_Can D), (18, f_bound_Next D), (26, f_law27_marked D)], D, fun _ => none⟩

def e46 (D : HV → List HV → M HV) : Env := ⟨lk [(23, f_bound_Reach D)], D, fun _ => none⟩

theorem d46 (D : HV → List HV → M HV) : fnD (e46 D) Try.prog [] a46 Try.f46 [] = f_trim_idle D := by kernel_rfl
theorem ok46 {D : HV → List HV → M HV} (hD : DOk Try.prog noG D) : FnOk Try.prog noG 46 (f_trim_idle D) := d46 D ▸ fn_ok (E := e46 D) ⟨(lk_cons (ok23 hD) lk_nil), hD⟩ mixed Try.func46 (by kernel_rfl) (by kernel_rfl) (hst_none (by kernel_rfl))

def e50 (D : HV → List HV → M HV) : Env := ⟨lk [(17, f_ref07_Block D), (25, f_ref27_Seen D)], D, fun _ => none⟩

theorem d50 (D : HV → List HV → M HV) : fnD (e50 D) Try.prog [] a50 Try.f50 [] = f_ref29_Idles D := by kernel_rfl
theorem ok50 {D : HV → List HV → M HV} (hD : DOk Try.prog noG D) : FnOk Try.prog noG 50 (f_ref29_Idles D) := d50 D ▸ fn_ok (E := e50 D) ⟨(lk_cons (ok17 hD) (lk_cons (ok25 hD) lk_nil)), hD⟩ mixed Try.func50 (by kernel_rfl) (by kernel_rfl) (hst_none (by kernel_rfl))

def e9 (D : HV → List HV → M HV) : Env := ⟨lk [(27, f_law29_alive D), (28, f_trim_Once D), (29, f_trim_Trim D), (30, f_ref07_Check D), (31, f_law29_same D), (32, f_ref29_Once D), (33, f_ref29_Trim D)], D, fun _ => none⟩

def e10 (D : HV → List HV → M HV) : Env := ⟨lk [(15, f_ref27_Can D), (25, f_ref27_Seen D), (27, f_law29_alive D), (28, f_trim_Once D), (34, f_trim_Moved D), (35, f_ref23_Block D)], D, fun _ => none⟩

def e55 (D : HV → List HV → M HV) : Env := ⟨lk [(46, f_trim_idle D)], D, fun _ => none⟩

theorem d55 (D : HV → List HV → M HV) : fnD (e55 D) Try.prog [] a55 Try.f55 [.sc .kp] = f_trim_Idle_1 D := by kernel_rfl
theorem ok55 {D : HV → List HV → M HV} (hD : DOk Try.prog noG D) : FnOk Try.prog noG 55 (f_trim_Idle_1 D) := d55 D ▸ fn_ok (E := e55 D) ⟨(lk_cons (ok46 hD) lk_nil), hD⟩ mixed Try.func55 (by kernel_rfl) (by kernel_rfl) (hst_none (by kernel_rfl))

def e37 (D : HV → List HV → M HV) : Env := ⟨lk [(50, f_ref29_Idles D)], D, fun _ => none⟩

theorem d37 (D : HV → List HV → M HV) : fnD (e37 D) Try.prog [] a37 Try.f37 [] = f_ref29_Idle D := by kernel_rfl
theorem ok37 {D : HV → List HV → M HV} (hD : DOk Try.prog noG D) : FnOk Try.prog noG 37 (f_ref29_Idle D) := d37 D ▸ fn_ok (E := e37 D) ⟨(lk_cons (ok50 hD) lk_nil), hD⟩ mixed Try.func37 (by kernel_rfl) (by kernel_rfl) (hst_none (by kernel_rfl))

def e11_0 (D : HV → List HV → M HV) : Env := ⟨lk [], D, fun _ => none⟩

theorem d11_0 (D : HV → List HV → M HV) (l : Nat) (vs : List (Nat × HV)) (args : List HV) : roundD (e11_0 D) Try.prog [] s11_0.2 [.t 6 (.sc .kp)] [.t 20 (.sc (.ki .i64))] .z .z [] l vs args = r0_law29_TrimIdle D l vs args := by kernel_rfl
theorem rd11_0 : RdOk Try.prog noG s11_0 r0_law29_TrimIdle := fun D hD => ⟨e11_0 D, [], [.t 6 (.sc .kp)], [.t 20 (.sc (.ki .i64))], .z, .z, [], ⟨lk_nil, hD⟩, rfl, by kernel_rfl, rst_none (by kernel_rfl), fun l vs args => (d11_0 D l vs args).symm⟩

def e11_1 (D : HV → List HV → M HV) : Env := ⟨lk [(37, f_ref29_Idle D)], D, fun _ => none⟩

theorem d11_1 (D : HV → List HV → M HV) (l : Nat) (vs : List (Nat × HV)) (args : List HV) : roundD (e11_1 D) Try.prog [] s11_1.2 [.t 3 (.sc .kp), .t 5 (.sc .kp), .t 6 (.sc .kp), .t 7 (.sc .kp), .t 8 (.sc .kp)] [.t 27 (.sc (.ki .i64))] .z (.n none (.n none (.n none (.n (some [.t 42 (.sc .kb)]) .z .z) .z) .z) .z) [2] l vs args = r1_law29_TrimIdle D l vs args := by kernel_rfl
theorem rd11_1 : RdOk Try.prog noG s11_1 r1_law29_TrimIdle := fun D hD => ⟨e11_1 D, [], [.t 3 (.sc .kp), .t 5 (.sc .kp), .t 6 (.sc .kp), .t 7 (.sc .kp), .t 8 (.sc .kp)], [.t 27 (.sc (.ki .i64))], .z, (.n none (.n none (.n none (.n (some [.t 42 (.sc .kb)]) .z .z) .z) .z) .z), [2], ⟨(lk_cons (ok37 hD) lk_nil), hD⟩, rfl, by kernel_rfl, rst_none (by kernel_rfl), fun l vs args => (d11_1 D l vs args).symm⟩

def e12 (D : HV → List HV → M HV) : Env := ⟨lk [(15, f_ref27_Can D), (27, f_law29_alive D), (29, f_trim_Trim D), (31, f_law29_same D), (36, f_trim_Idle D), (39, f_code_Check D)], D, fun _ => none⟩

def e12_0 (D : HV → List HV → M HV) : Env := ⟨lk [], D, fun _ => none⟩

theorem d12_0 (D : HV → List HV → M HV) (l : Nat) (vs : List (Nat × HV)) (args : List HV) : roundD (e12_0 D) Try.prog [] s12_0.2 [.t 2 (.sc .kp)] [.t 44 (.sc (.ki .i64))] .z .z [] l vs args = r0_law29_TrimKeeps D l vs args := by kernel_rfl
theorem rd12_0 : RdOk Try.prog noG s12_0 r0_law29_TrimKeeps := fun D hD => ⟨e12_0 D, [], [.t 2 (.sc .kp)], [.t 44 (.sc (.ki .i64))], .z, .z, [], ⟨lk_nil, hD⟩, rfl, by kernel_rfl, rst_none (by kernel_rfl), fun l vs args => (d12_0 D l vs args).symm⟩

def e71 (D : HV → List HV → M HV) : Env := ⟨lk [], D, fun _ => none⟩

theorem d71 (D : HV → List HV → M HV) : fnD (e71 D) Try.prog [] a71 Try.f71 [] = f_scope_end D := by kernel_rfl
theorem ok71 {D : HV → List HV → M HV} (hD : DOk Try.prog noG D) : FnOk Try.prog noG 71 (f_scope_end D) := d71 D ▸ fn_ok (E := e71 D) ⟨lk_nil, hD⟩ mixed Try.func71 (by kernel_rfl) (by kernel_rfl) (hst_none (by kernel_rfl))

def e78 (D : HV → List HV → M HV) : Env := ⟨lk [], D, fun _ => none⟩

theorem d78 (D : HV → List HV → M HV) : fnD (e78 D) Try.prog [] a78 Try.f78 [] = f_scope_Things_with D := by kernel_rfl
theorem ok78 {D : HV → List HV → M HV} (hD : DOk Try.prog noG D) : FnOk Try.prog noG 78 (f_scope_Things_with D) := d78 D ▸ fn_ok (E := e78 D) ⟨lk_nil, hD⟩ mixed Try.func78 (by kernel_rfl) (by kernel_rfl) (hst_none (by kernel_rfl))

def e77 (D : HV → List HV → M HV) : Env := ⟨lk [(78, f_scope_Things_with D)], D, fun _ => none⟩

theorem d77 (D : HV → List HV → M HV) : fnD (e77 D) Try.prog [] a77 Try.f77 [] = f_scope_Scope_read D := by kernel_rfl
theorem ok77 {D : HV → List HV → M HV} (hD : DOk Try.prog noG D) : FnOk Try.prog noG 77 (f_scope_Scope_read D) := d77 D ▸ fn_ok (E := e77 D) ⟨(lk_cons (ok78 hD) lk_nil), hD⟩ mixed Try.func77 (by kernel_rfl) (by kernel_rfl) (hst_none (by kernel_rfl))

def e79 (D : HV → List HV → M HV) : Env := ⟨lk [(77, f_scope_Scope_read D), (78, f_scope_Things_with D)], D, fun _ => none⟩

theorem d79 (D : HV → List HV → M HV) : fnD (e79 D) Try.prog [] a79 Try.f79 [] = f_scope_Scope_both D := by kernel_rfl
theorem ok79 {D : HV → List HV → M HV} (hD : DOk Try.prog noG D) : FnOk Try.prog noG 79 (f_scope_Scope_both D) := d79 D ▸ fn_ok (E := e79 D) ⟨(lk_cons (ok77 hD) (lk_cons (ok78 hD) lk_nil)), hD⟩ mixed Try.func79 (by kernel_rfl) (by kernel_rfl) (hst_none (by kernel_rfl))

def e72 (D : HV → List HV → M HV) : Env := ⟨lk [(77, f_scope_Scope_read D), (78, f_scope_Things_with D), (79, f_scope_Scope_both D)], D, fun _ => none⟩

theorem d72 (D : HV → List HV → M HV) : fnD (e72 D) Try.prog [] a72 Try.f72 [] = f_scope_Scope_take D := by kernel_rfl
theorem ok72 {D : HV → List HV → M HV} (hD : DOk Try.prog noG D) : FnOk Try.prog noG 72 (f_scope_Scope_take D) := d72 D ▸ fn_ok (E := e72 D) ⟨(lk_cons (ok77 hD) (lk_cons (ok78 hD) (lk_cons (ok79 hD) lk_nil))), hD⟩ mixed Try.func72 (by kernel_rfl) (by kernel_rfl) (hst_none (by kernel_rfl))

def e61 (D : HV → List HV → M HV) : Env := ⟨lk [(23, f_bound_Reach D), (24, f_bound_From D), (71, f_scope_end D)], D, fun _ => none⟩

theorem st61 : ∀ e ∈ sitesF Try.f61 a61, e ∈ es := by
  rw [show sitesF Try.f61 a61 = [s61_0] by kernel_rfl]
  intro e he
  simp only [List.mem_cons, List.not_mem_nil, or_false] at he
  rcases he with rfl <;> simp [es]
theorem d61 (D : HV → List HV → M HV) : fnD (e61 D) Try.prog [2, 6, 7] a61 Try.f61 [] = f_scope_Of D := by kernel_rfl
theorem ok61 {D : HV → List HV → M HV} (hD : DOk Try.prog noG D) : FnOk Try.prog noG 61 (f_scope_Of D) := d61 D ▸ fn_ok (E := e61 D) ⟨(lk_cons (ok23 hD) (lk_cons (ok24 hD) (lk_cons (ok71 hD) lk_nil))), hD⟩ mixed Try.func61 (by kernel_rfl) (by kernel_rfl) (hst_of (fun _ _ _ _ _ h => h) st61)

def e61_0 (D : HV → List HV → M HV) : Env := ⟨lk [(72, f_scope_Scope_take D)], D, fun _ => none⟩

theorem d61_0 (D : HV → List HV → M HV) (l : Nat) (vs : List (Nat × HV)) (args : List HV) : roundD (e61_0 D) Try.prog [] s61_0.2 [.t 2 (.sc .kp), .t 6 (.sc .kp), .t 7 (.sc .kp)] [.t 38 (.sc (.ki .i64))] .z .z [0] l vs args = r0_scope_Of D l vs args := by kernel_rfl
theorem rd61_0 : RdOk Try.prog noG s61_0 r0_scope_Of := fun D hD => ⟨e61_0 D, [], [.t 2 (.sc .kp), .t 6 (.sc .kp), .t 7 (.sc .kp)], [.t 38 (.sc (.ki .i64))], .z, .z, [0], ⟨(lk_cons (ok72 hD) lk_nil), hD⟩, rfl, by kernel_rfl, rst_none (by kernel_rfl), fun l vs args => (d61_0 D l vs args).symm⟩

def e60 (D : HV → List HV → M HV) : Env := ⟨lk [(61, f_scope_Of D)], D, fun _ => none⟩

theorem d60 (D : HV → List HV → M HV) : fnD (e60 D) Try.prog [] a60 Try.f60 [.sc .kp] = f_scope_All_1 D := by kernel_rfl
theorem ok60 {D : HV → List HV → M HV} (hD : DOk Try.prog noG D) : FnOk Try.prog noG 60 (f_scope_All_1 D) := d60 D ▸ fn_ok (E := e60 D) ⟨(lk_cons (ok61 hD) lk_nil), hD⟩ mixed Try.func60 (by kernel_rfl) (by kernel_rfl) (hst_none (by kernel_rfl))

def e13_0 (D : HV → List HV → M HV) : Env := ⟨lk [], D, fun _ => none⟩

theorem d13_0 (D : HV → List HV → M HV) (l : Nat) (vs : List (Nat × HV)) (args : List HV) : roundD (e13_0 D) Try.prog [] s13_0.2 [.t 7 (.sc .kp), .t 8 (.sc .kp)] [.t 63 (.sc (.ki .i64)), .t 64 .a] .z (.n none (.n none (.n (some [.t 78 (.sc .kb)]) .z .z) .z) .z) [] l vs args = r0_law29_TrimBound D l vs args := by kernel_rfl
theorem rd13_0 : RdOk Try.prog noG s13_0 r0_law29_TrimBound := fun D hD => ⟨e13_0 D, [], [.t 7 (.sc .kp), .t 8 (.sc .kp)], [.t 63 (.sc (.ki .i64)), .t 64 .a], .z, (.n none (.n none (.n (some [.t 78 (.sc .kb)]) .z .z) .z) .z), [], ⟨lk_nil, hD⟩, rfl, by kernel_rfl, rst_none (by kernel_rfl), fun l vs args => (d13_0 D l vs args).symm⟩

def e13_1 (D : HV → List HV → M HV) : Env := ⟨lk [], D, fun _ => none⟩

theorem d13_1 (D : HV → List HV → M HV) (l : Nat) (vs : List (Nat × HV)) (args : List HV) : roundD (e13_1 D) Try.prog [] s13_1.2 [.t 9 (.sc .kp)] [.t 85 (.sc (.ki .i64)), .t 86 .a] .z .z [] l vs args = r1_law29_TrimBound D l vs args := by kernel_rfl
theorem rd13_1 : RdOk Try.prog noG s13_1 r1_law29_TrimBound := fun D hD => ⟨e13_1 D, [], [.t 9 (.sc .kp)], [.t 85 (.sc (.ki .i64)), .t 86 .a], .z, .z, [], ⟨lk_nil, hD⟩, rfl, by kernel_rfl, rst_none (by kernel_rfl), fun l vs args => (d13_1 D l vs args).symm⟩

theorem rnok : RnOk Try.prog noG es [(72333135, r0_law27_BoundReach), (69661462, r1_law27_BoundReach), (6300482, r0_law27_marked), (81328721, r0_law29_TrimIdle), (98604607, r1_law29_TrimIdle), (93818678, r0_law29_TrimKeeps), (82468377, r0_scope_Of), (25422154, r0_law29_TrimBound), (26824521, r1_law29_TrimBound)] := (rn_cons (by kernel_rfl) rd7_0 (by kernel_rfl) (rn_cons (by kernel_rfl) rd7_1 (by kernel_rfl) (rn_cons (by kernel_rfl) rd26_0 (by kernel_rfl) (rn_cons (by kernel_rfl) rd11_0 (by kernel_rfl) (rn_cons (by kernel_rfl) rd11_1 (by kernel_rfl) (rn_cons (by kernel_rfl) rd12_0 (by kernel_rfl) (rn_cons (by kernel_rfl) rd61_0 (by kernel_rfl) (rn_cons (by kernel_rfl) rd13_0 (by kernel_rfl) (rn_cons (by kernel_rfl) rd13_1 (by kernel_rfl) rn_nil)))))))))
theorem clok : ClOk Try.prog noG [(n_bound_From_1, f_bound_From_1), (n_trim_Idle_1, f_trim_Idle_1), (n_scope_All_1, f_scope_All_1)] := (cl_cons (fun _ hD => ok45 hD) (cl_cons (fun _ hD => ok55 hD) (cl_cons (fun _ hD => ok60 hD) cl_nil)))
/-- functions as values, by levels -/
abbrev lev (n : Nat) : DD := levD [(n_bound_From_1, f_bound_From_1), (n_trim_Idle_1, f_trim_Idle_1), (n_scope_All_1, f_scope_All_1)] [(72333135, r0_law27_BoundReach), (69661462, r1_law27_BoundReach), (6300482, r0_law27_marked), (81328721, r0_law29_TrimIdle), (98604607, r1_law29_TrimIdle), (93818678, r0_law29_TrimKeeps), (82468377, r0_scope_Of), (25422154, r0_law29_TrimBound), (26824521, r1_law29_TrimBound)] n
theorem lev_ok (n : Nat) : DOk Try.prog noG (lev n) := levD_ok mixed clok rnok (fun _ _ _ _ _ h => h) n

end Go.Proofs.Ytolchnaegifckaa.HS
