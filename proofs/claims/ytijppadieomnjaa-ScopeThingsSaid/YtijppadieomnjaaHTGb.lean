/- The program's functions are as these texts. Conditions: what is called as a value is told (DOk). -/
import Derived.Test.YtijppadieomnjaaHTGa
import Derived.Test.YtijppadieomnjaaChecked
import Derived.KernelRfl
namespace Go.Proofs.Ytijppadieomnjaa.HT
open Go Go.Proofs
set_option maxRecDepth 100000
abbrev noG : Nat → Option Nat := fun _ => none
theorem mixed : Try.prog.follows .mixedOrders = true := by kernel_rfl

def a69 : Ann := (.n none .z (.n none .z (.n none .z (.n none (.n none .z (.n (some [.t 5 (.sc (.ki .i64))]) (.n (some [.t 5 (.sc (.ki .i64)), .t 13 (.sc (.ki .i64))]) (.n none .z (.n none .z (.n none (.n (some [.t 5 (.sc (.ki .i64))]) .z .z) .z))) .z) .z)) .z))))
def a73 : Ann := (.n none .z (.n none (.n (some [.t 4 (.sc .kb)]) .z .z) .z))
def a74 : Ann := (.n none .z (.n none (.n none .z (.n none (.n none .z (.n none (.n none (.n (some [.t 2 (.sc .kb)]) .z .z) .z) (.n none .z (.n none (.n none (.n (some [.t 2 (.sc .kb)]) .z .z) .z) (.n none (.n none .z (.n (some [.t 35 (.sc .kb)]) .z .z)) (.n none (.n none (.n (some [.t 2 (.sc .kb)]) .z .z) .z) (.n none .z (.n none (.n none (.n (some [.t 2 (.sc .kb)]) .z .z) .z) (.n none .z (.n none (.n none (.n (some [.t 2 (.sc .kb)]) .z .z) .z) (.n none .z (.n none (.n none (.n (some [.t 2 (.sc .kb)]) .z .z) .z) (.n none .z (.n none (.n none (.n (some [.t 2 (.sc .kb)]) .z .z) .z) (.n none .z (.n none (.n none (.n (some [.t 2 (.sc .kb)]) .z .z) .z) (.n none .z (.n none (.n none (.n (some [.t 2 (.sc .kb)]) .z .z) .z) (.n none .z (.n none (.n none (.n (some [.t 2 (.sc .kb)]) .z .z) .z) .z)))))))))))))))))))) .z)) .z))
def a70 : Ann := (.n none .z (.n none (.n none .z (.n none (.n none (.n none .z (.n (some [.t 5 (.sc .kb)]) .z .z)) (.n none .z (.n none .z (.n none (.n none (.n (some [.t 2 (.sc .kb)]) .z .z) .z) (.n none .z (.n none (.n none (.n (some [.t 2 (.sc .kb)]) .z .z) .z) (.n none .z (.n none (.n none (.n (some [.t 2 (.sc .kb)]) .z .z) .z) (.n none .z (.n none (.n none (.n (some [.t 2 (.sc .kb)]) .z .z) .z) (.n none .z (.n none (.n none (.n (some [.t 2 (.sc .kb)]) .z .z) .z) (.n none .z (.n none (.n none (.n (some [.t 2 (.sc .kb)]) .z .z) .z) .z)))))))))))))) .z)) .z))
def a71 : Ann := (.n none .z (.n none (.n none .z (.n none (.n none (.n none .z (.n (some [.t 6 (.sc .kb)]) .z .z)) (.n none .z (.n none (.n none .z (.n (some [.t 10 (.sc .kb)]) .z .z)) .z))) .z)) .z))
def a72 : Ann := (.n none .z (.n none .z (.n none (.n none (.n (some [.t 21 (.sc .kb)]) .z .z) .z) .z)))
def a62 : Ann := (.n none .z (.n none .z (.n none .z (.n none .z (.n none .z (.n none (.n none .z (.n (some []) (.n (some [.t 6 (.sc .kb), .t 7 (.sc (.ki .i64)), .t 22 (.sc (.ki .i64))]) (.n none .z (.n none .z (.n none (.n (some [.t 6 (.sc .kb), .t 7 (.sc (.ki .i64))]) (.n none .z (.n none (.n none (.n (some [.t 40 (.sc .kb)]) .z .z) .z) (.n none (.n none .z (.n (some [.t 6 (.sc .kb), .t 7 (.sc (.ki .i64))]) (.n none (.n none .z (.n (some [.t 44 (.sc .kb)]) .z .z)) .z) .z)) (.n none (.n none .z (.n (some [.t 7 (.sc (.ki .i64))]) .z .z)) (.n none .z (.n none (.n none (.n (some [.t 83 (.sc .kb)]) .z .z) .z) .z)))))) .z) .z))) .z) .z)) .z))))))
def a46 : Ann := .z
def a63 : Ann := (.n none .z (.n none .z (.n none (.n none (.n none (.n (some [.t 10 (.sc .kb)]) .z .z) (.n none .z (.n none (.n (some [.t 19 (.sc .kb)]) .z .z) (.n none .z (.n none (.n (some [.t 31 (.sc .kb)]) .z .z) .z))))) .z) .z)))
def a47 : Ann := (.n none .z (.n none .z (.n none .z (.n none (.n none .z (.n (some []) (.n (some [.t 18 (.sc (.ki .i64))]) (.n none .z (.n none .z (.n none (.n (some []) (.n none .z (.n none .z (.n none .z (.n (some []) (.n (some [.t 30 (.sc (.ki .i64))]) .z .z) .z)))) .z) .z))) .z) .z)) .z))))
def a27 : Ann := .z
def a28 : Ann := (.n none .z (.n none (.n (some [.t 1 (.sc (.ki .i64))]) (.n (some [.t 1 (.sc (.ki .i64))]) .z .z) .z) .z))
def a48 : Ann := (.n none (.n none (.n (some [.t 18 (.sc .kb)]) .z .z) .z) (.n none .z (.n (some []) (.n (some [.t 23 (.sc (.ki .i64))]) (.n none .z (.n none .z (.n none (.n none (.n none .z (.n none (.n (some [.t 34 (.sc .kb)]) .z .z) .z)) .z) .z))) .z) .z)))
def a29 : Ann := .z
def a50 : Ann := .z
def a49 : Ann := .z
def a51 : Ann := .z
def a30 : Ann := (.n none .z (.n none .z (.n none (.n none .z (.n none .z (.n none .z (.n none .z (.n none .z (.n none .z (.n none (.n none .z (.n (some [.t 30 (.sc .kb)]) .z .z)) (.n none .z (.n none .z (.n none .z (.n none .z (.n none .z (.n none .z (.n none .z (.n none (.n none .z (.n (some [.t 63 (.sc .kb)]) .z .z)) .z))))))))))))))) .z)))
def a10 : Ann := (.n none .z (.n none .z (.n none (.n none (.n (some [.t 30 (.sc .kb)]) .z .z) .z) (.n none .z (.n none (.n none .z (.n (some []) (.r 82468377 [2, 6, 7]) .z)) .z)))))
def a40 : Ann := (.n none .z (.n none (.n (some [.t 4 (.sc .kb)]) .z .z) .z))
def a15 : Ann := (.n none .z (.n none (.n (some [.t 6 (.sc .kb)]) .z .z) .z))
def a9 : Ann := (.n none .z (.n none .z (.n none (.n (some [.t 0 (.sc .kb)]) .z .z) .z)))
def a59 : Ann := (.n none .z (.n none .z (.n none (.n none .z (.n (some [.t 3 (.sc (.ki .i64))]) (.n (some [.t 3 (.sc (.ki .i64)), .t 8 (.sc (.ki .i64))]) (.n none .z (.n none .z (.n none (.n none (.n none .z (.n none (.n none .z (.n (some [.t 3 (.sc (.ki .i64))]) .z .z)) (.n none (.n none .z (.n (some [.t 3 (.sc (.ki .i64))]) .z .z)) (.n none (.n (some [.t 27 (.sc .kb)]) .z .z) .z)))) .z) .z))) .z) .z)) .z)))
def a32 : Ann := (.n none .z (.n none .z (.n none (.n none .z (.n (some []) (.n (some [.t 5 (.sc (.ki .i64))]) .z .z) .z)) .z)))
def a68 : Ann := (.n none .z (.n none .z (.n none .z (.n none (.n none .z (.n none (.n none (.n none .z (.n (some [.t 17 (.sc .kb)]) .z .z)) (.n none .z (.n none .z (.n none .z (.n none .z (.n none .z (.n none .z (.n none .z (.n none .z (.n none .z (.n none .z (.n none .z (.n none .z (.n none .z (.n none .z (.n none .z (.n none (.n none .z (.n (some [.t 62 (.sc .kb)]) .z .z)) .z))))))))))))))))) .z)) .z))))
def a60 : Ann := (.n none .z (.n none .z (.n none .z (.n none (.n none (.n (some [.t 82 (.sc .kb)]) .z .z) .z) (.n none .z (.n none (.n none (.n (some [.t 106 (.sc .kb)]) .z .z) .z) (.n none (.n none (.n (some [.t 114 (.sc .kb)]) .z .z) (.n (some []) (.n none (.n (some [.t 151 (.sc .kb)]) .z .z) .z) .z)) (.n none .z (.n none (.n none .z (.n (some [.t 9 (.sc (.ki .i64))]) (.n (some [.t 9 (.sc (.ki .i64)), .t 10 (.sc (.ki .i64))]) (.n none .z (.n none (.n (some [.t 9 (.sc (.ki .i64))]) (.n none (.n none (.n (some [.t 184 (.sc .kb)]) .z .z) .z) .z) .z) .z)) .z) .z)) (.n none (.n (some [.t 4 (.sc .kb)]) .z .z) .z))))))))))
def a41 : Ann := (.n none .z (.n none .z (.n none .z (.n none (.n none .z (.n (some []) (.n (some [.t 13 (.sc (.ki .i64))]) .z .z) .z)) .z))))
def a16 : Ann := .z
def a52 : Ann := (.n none .z (.n none .z (.n none (.n none .z (.n none (.n none (.n none .z (.n (some [.t 14 (.sc .kb)]) .z .z)) (.n none .z (.n none .z (.n none (.n none (.n (some [.t 6 (.sc .kb)]) .z .z) .z) (.n none .z (.n none (.n none (.n (some [.t 6 (.sc .kb)]) .z .z) .z) .z)))))) .z)) .z)))
def a31 : Ann := (.n none .z (.n none .z (.n none .z (.n none (.n none .z (.n (some [.x 5 none]) (.n (some [.t 6 (.sc .kb), .x 5 none]) (.n none .z (.n none (.n none .z (.n none .z (.n (some [.t 6 (.sc .kb), .x 5 none]) (.n (some [.t 6 (.sc .kb), .t 14 (.sc (.ki .i64)), .x 5 none]) (.n none .z (.n none .z (.n none (.n none (.n none .z (.n none .z (.n (some [.t 6 (.sc .kb), .x 5 none]) (.n (some [.t 6 (.sc .kb), .t 8 (.sc (.ki .i64)), .x 5 none]) (.n none .z (.n none (.n (some [.t 6 (.sc .kb), .x 5 none]) (.n none (.n (some [.t 37 (.sc .kb)]) .z .z) .z) .z) .z)) .z) .z))) .z) .z))) .z) .z))) .z)) .z) .z)) .z))))
def a33 : Ann := (.n none .z (.n none (.n none .z (.n none (.n none .z (.n none (.n none (.n (some [.t 6 (.sc .kb)]) .z .z) .z) (.n none .z (.n none (.n none (.n (some [.t 6 (.sc .kb)]) .z .z) .z) (.n none (.n none .z (.n (some [.t 29 (.sc .kb)]) .z .z)) (.n none (.n none (.n (some [.t 6 (.sc .kb)]) .z .z) .z) (.n none .z (.n none (.n none (.n (some [.t 6 (.sc .kb)]) .z .z) .z) (.n none .z (.n none (.n none (.n (some [.t 6 (.sc .kb)]) .z .z) .z) .z)))))))))) .z)) .z))
def a34 : Ann := (.n none .z (.n none (.n none .z (.n none (.n none (.n (some [.t 6 (.sc .kb)]) .z .z) .z) .z)) (.n none (.n (some [.t 6 (.sc .kb)]) .z .z) .z)))
def a11 : Ann := (.n none .z (.n none .z (.n none (.n none (.n (some [.t 33 (.sc .kb)]) .z .z) .z) (.n none .z (.n none (.n none .z (.n (some [.x 6 none]) (.n (some [.t 40 (.sc (.ki .i64)), .x 6 none]) (.n none .z (.n none .z (.n none (.n (some [.x 6 none]) (.n none .z (.n none (.n none (.n (some [.t 55 (.sc .kb)]) .z .z) .z) (.n none (.n none .z (.n (some [.x 6 none]) (.n (some [.t 10 (.sc (.ki .i64)), .x 6 none]) (.n none .z (.n none (.n none (.n none .z (.n (some [.x 6 none]) (.n (some [.t 11 (.sc (.ki .i64)), .x 6 none]) (.n none .z (.n none (.n (some [.x 6 none]) (.n none (.n (some [.x 6 none]) .z .z) .z) .z) .z)) .z) .z)) .z) .z)) .z) .z)) (.n none (.n none .z (.n (some [.x 6 none]) (.n (some [.t 12 (.sc (.ki .i64)), .x 6 none]) (.n none .z (.n none (.n (some [.x 6 none]) (.n none (.n none (.n (some [.t 119 (.sc .kb)]) .z .z) (.n (some [.x 6 none]) .z .z)) (.n none (.n (some [.t 131 (.sc .kb)]) .z .z) .z)) .z) .z)) .z) .z)) (.n none (.n (some [.x 6 none]) .z .z) .z))))) .z) .z))) .z) .z)) .z)))))
def a35 : Ann := (.n none .z (.n none (.n none .z (.n (some []) (.n (some [.t 7 (.sc (.ki .i64))]) (.n none .z (.n none .z (.n none (.n none (.n none .z (.n none .z (.n (some []) (.n (some [.t 10 (.sc (.ki .i64))]) .z .z) .z))) .z) .z))) .z) .z)) .z))
def a12 : Ann := (.n none .z (.n none (.n (some [.t 4 (.sc .kb)]) .z .z) .z))
def a3 : Ann := (.n none .z (.n none .z (.n none .z (.n none .z (.n none (.n none .z (.n none (.n none (.n (some [.t 4 (.sc .kb)]) .z .z) .z) .z)) (.n none (.n (some [.t 4 (.sc .kb)]) .z .z) .z))))))
def a4 : Ann := (.n none .z (.n none .z (.n none .z (.n none (.n none .z (.n none (.n (some [.t 50 (.sc .kb)]) .z .z) (.n none (.n none (.n (some [.t 12 (.sc .kb)]) .z .z) .z) .z))) (.n none .z (.n none (.n none .z (.n (some []) (.n (some [.t 66 (.sc (.ki .i64))]) (.n none .z (.n none .z (.n none (.n none (.n none .z (.n none (.n (some [.t 86 (.sc .kb)]) .z .z) .z)) .z) .z))) .z) .z)) (.n none (.n none .z (.n (some []) (.n (some [.t 88 (.sc (.ki .i64))]) (.n none .z (.n none .z (.n none (.n none (.n none .z (.n none (.n (some [.t 108 (.sc .kb)]) .z .z) .z)) .z) .z))) .z) .z)) (.n none (.n none .z (.n (some []) (.n (some [.t 110 (.sc (.ki .i64))]) (.n none .z (.n none .z (.n none (.n none (.n none .z (.n none (.n (some [.t 148 (.sc .kb)]) .z .z) .z)) .z) .z))) .z) .z)) (.n none (.n none .z (.n (some []) (.n (some [.t 150 (.sc (.ki .i64))]) (.n none .z (.n none .z (.n none (.n none (.n none .z (.n none (.n (some [.t 168 (.sc .kb)]) .z .z) .z)) .z) .z))) .z) .z)) (.n none (.n none (.n (some [.t 181 (.sc .kb)]) .z .z) .z) (.n none .z (.n none .z (.n none .z (.n none (.n none (.n (some [.t 210 (.sc .kb)]) .z .z) .z) (.n none .z (.n none (.n none (.n (some [.t 226 (.sc .kb)]) .z .z) .z) .z))))))))))))))))
def a42 : Ann := (.n none .z (.n (some []) (.n (some [.t 8 (.sc (.ki .i64))]) (.n none .z (.n none .z (.n none (.n none (.n none .z (.n none .z (.n none (.n (some [.t 24 (.sc .kb)]) .z .z) .z))) .z) .z))) .z) .z))
def a17 : Ann := .z
def a5 : Ann := (.n none .z (.n none .z (.n none .z (.n none (.n none .z (.n (some [.t 7 (.sc (.ki .i64))]) (.n (some [.t 7 (.sc (.ki .i64)), .t 19 (.sc (.ki .i64))]) (.n none .z (.n none .z (.n none (.n none (.n none .z (.n none (.n none .z (.n none .z (.n (some [.t 7 (.sc (.ki .i64))]) .z .z))) .z)) .z) .z))) .z) .z)) (.n none (.n none .z (.n (some []) (.r 34873769 [2, 3, 4, 5, 6]) .z)) (.n none (.n (some []) .z .z) .z))))))
def a24 : Ann := (.n none .z (.n none (.n none .z (.n (some []) (.n (some [.t 6 (.sc (.ki .i64))]) .z .z) .z)) .z))
def a18 : Ann := (.n none .z (.n none (.n (some [.t 4 (.sc .kb)]) .z .z) .z))
def a19 : Ann := (.n none .z (.n none (.n none .z (.n (some []) (.n (some [.t 5 (.sc (.ki .i64))]) (.n none .z (.n none (.n none (.n none .z (.n (some []) (.n (some [.t 6 (.sc (.ki .i64))]) (.n none .z (.n none (.n none (.n none (.n (some [.t 52 (.sc .kb)]) .z .z) .z) .z) .z)) .z) .z)) .z) .z)) .z) .z)) .z))
def a21 : Ann := (.n none .z (.n none .z (.n none (.n none .z (.n (some [.x 3 none]) (.n (some [.t 6 (.sc (.ki .i64)), .x 3 none]) (.n none .z (.n none .z (.n none (.n none (.n none .z (.n none .z (.n (some [.x 3 none]) (.n (some [.t 9 (.sc (.ki .i64)), .x 3 none]) .z .z) .z))) .z) .z))) .z) .z)) .z)))
def a20 : Ann := .z
def a43 : Ann := (.n none .z (.n (some []) (.n (some [.t 3 (.sc (.ki .i64))]) (.n none .z (.n none (.n none (.n none .z (.n (some []) (.n (some [.t 9 (.sc (.ki .i64))]) (.n none .z (.n none .z (.n none (.n none (.n none .z (.n none (.n (some [.t 22 (.sc .kb)]) .z .z) .z)) .z) .z))) .z) .z)) .z) .z)) .z) .z))
def a22 : Ann := .z
def a44 : Ann := .z
def a23 : Ann := (.n none .z (.n none .z (.n none (.n none .z (.n (some [.t 3 (.sc (.ki .i64))]) (.n (some [.t 3 (.sc (.ki .i64)), .t 7 (.sc (.ki .i64))]) .z .z) .z)) .z)))
def a7 : Ann := (.n none .z (.n none .z (.n none (.n none (.r 0 [11]) (.r 1 [])) (.n none .z (.n none (.n none .z (.n (some [.t 13 (.sc (.ki .i64)), .t 14 (.sc .kb)]) (.n (some [.t 13 (.sc (.ki .i64)), .t 14 (.sc .kb), .t 27 (.sc (.ki .i64))]) (.n none .z (.n none .z (.n none (.n none (.n none .z (.n none .z (.n (some [.t 13 (.sc (.ki .i64)), .t 14 (.sc .kb)]) (.n (some [.t 13 (.sc (.ki .i64)), .t 14 (.sc .kb), .t 30 (.sc (.ki .i64))]) (.n none .z (.n none .z (.n none (.n (some [.t 13 (.sc (.ki .i64)), .t 14 (.sc .kb)]) (.n none .z (.n none (.n none (.n none (.r 0 []) (.r 1 [41])) .z) (.n none (.n none .z (.n (some [.t 13 (.sc (.ki .i64))]) .z .z)) .z))) .z) .z))) .z) .z))) .z) .z))) .z) .z)) (.n none .z (.n none (.n none .z (.n (some []) (.r 42271286 [9, 10, 11, 15, 18]) .z)) (.n none (.n none (.n (some [.t 129 (.sc .kb)]) .z .z) .z) (.n none (.n (some []) .z .z) .z)))))))))
def a61 : Ann := (.n none .z (.n none (.n none .z (.n none (.n none (.n none .z (.n (some [.t 9 (.sc .kb)]) .z .z)) .z) .z)) .z))
def a45 : Ann := (.n none .z (.n none .z (.n none .z (.n none (.n none .z (.n (some []) (.n (some [.t 4 (.sc (.ki .i64))]) .z .z) .z)) .z))))
def a25 : Ann := (.n none .z (.n none (.n none (.n (some [.t 18 (.sc .kb)]) .z .z) .z) (.n none (.n none .z (.n (some []) (.r 91524749 [3, 4]) .z)) .z)))
def a26 : Ann := (.n none .z (.n none (.n none (.n (some [.t 18 (.sc .kb)]) .z .z) .z) (.n none (.n none .z (.n (some []) (.n (some [.t 21 (.sc (.ki .i64))]) (.n none .z (.n none .z (.n none (.n (some []) (.n none .z (.n none .z (.n none .z (.n none .z (.n (some []) (.n (some [.t 34 (.sc (.ki .i64))]) (.n none .z (.n none .z (.n none (.n none (.n none .z (.n none .z (.n none (.n (some [.t 48 (.sc .kb)]) .z .z) .z))) .z) .z))) .z) .z))))) .z) .z))) .z) .z)) .z)))
def a8 : Ann := (.n none .z (.n none .z (.n none .z (.n none (.n (some [.t 8 (.sc .kb)]) .z .z) .z))))
/-- a loop over a function -/
noncomputable def s10_0 : Nat × Site := (sitesF Try.f10 a10).getD 0 (0, ⟨0, #[], .skip, .skip⟩)
/-- a loop over a function -/
noncomputable def s5_0 : Nat × Site := (sitesF Try.f5 a5).getD 0 (0, ⟨0, #[], .skip, .skip⟩)
/-- a loop over a function -/
noncomputable def s7_0 : Nat × Site := (sitesF Try.f7 a7).getD 0 (0, ⟨0, #[], .skip, .skip⟩)
/-- a loop over a function -/
noncomputable def s25_0 : Nat × Site := (sitesF Try.f25 a25).getD 0 (0, ⟨0, #[], .skip, .skip⟩)
/-- a loop over a function -/
noncomputable def s25_0_0 : Nat × Site := ((sites s25_0.2.b (.n none (.n none .z (.n none (.r 23525095 [4, 6]) .z)) .z)).map fun s => (s25_0.1, s)).getD 0 (0, ⟨0, #[], .skip, .skip⟩)
noncomputable def es : List (Nat × Site) := [s10_0, s5_0, s7_0, s25_0, s25_0_0]
instance : Sites := ⟨fun k _ sz ps a b => siteIn es k sz ps a b⟩
def e69 (D : HV → List HV → M HV) : Env := ⟨lk [], D, fun _ => none⟩

theorem d69 (D : HV → List HV → M HV) : fnD (e69 D) Try.prog [] a69 Try.f69 [] = f_code_spans D := by kernel_rfl
theorem ok69 {D : HV → List HV → M HV} (hD : DOk Try.prog noG D) : FnOk Try.prog noG 69 (f_code_spans D) := d69 D ▸ fn_ok (E := e69 D) ⟨lk_nil, hD⟩ mixed Try.func69 (by kernel_rfl) (by kernel_rfl) (hst_none (by kernel_rfl))

def e73 (D : HV → List HV → M HV) : Env := ⟨lk [], D, fun _ => none⟩

theorem d73 (D : HV → List HV → M HV) : fnD (e73 D) Try.prog [] a73 Try.f73 [] = f_code_in D := by kernel_rfl
theorem ok73 {D : HV → List HV → M HV} (hD : DOk Try.prog noG D) : FnOk Try.prog noG 73 (f_code_in D) := d73 D ▸ fn_ok (E := e73 D) ⟨lk_nil, hD⟩ mixed Try.func73 (by kernel_rfl) (by kernel_rfl) (hst_none (by kernel_rfl))

def e74 (D : HV → List HV → M HV) : Env := ⟨lk [(73, f_code_in D)], D, fun _ => none⟩

theorem d74 (D : HV → List HV → M HV) : fnD (e74 D) Try.prog [] a74 Try.f74 [] = f_code_things D := by kernel_rfl
theorem ok74 {D : HV → List HV → M HV} (hD : DOk Try.prog noG D) : FnOk Try.prog noG 74 (f_code_things D) := d74 D ▸ fn_ok (E := e74 D) ⟨(lk_cons (ok73 hD) lk_nil), hD⟩ mixed Try.func74 (by kernel_rfl) (by kernel_rfl) (hst_none (by kernel_rfl))

def e70 (D : HV → List HV → M HV) : Env := ⟨lk [(73, f_code_in D), (74, f_code_things D)], D, fun _ => none⟩

theorem d70 (D : HV → List HV → M HV) : fnD (e70 D) Try.prog [] a70 Try.f70 [] = f_code_fields D := by kernel_rfl
theorem ok70 {D : HV → List HV → M HV} (hD : DOk Try.prog noG D) : FnOk Try.prog noG 70 (f_code_fields D) := d70 D ▸ fn_ok (E := e70 D) ⟨(lk_cons (ok73 hD) (lk_cons (ok74 hD) lk_nil)), hD⟩ mixed Try.func70 (by kernel_rfl) (by kernel_rfl) (hst_none (by kernel_rfl))

def e71 (D : HV → List HV → M HV) : Env := ⟨lk [], D, fun _ => none⟩

theorem d71 (D : HV → List HV → M HV) : fnD (e71 D) Try.prog [] a71 Try.f71 [] = f_code_placed D := by kernel_rfl
theorem ok71 {D : HV → List HV → M HV} (hD : DOk Try.prog noG D) : FnOk Try.prog noG 71 (f_code_placed D) := d71 D ▸ fn_ok (E := e71 D) ⟨lk_nil, hD⟩ mixed Try.func71 (by kernel_rfl) (by kernel_rfl) (hst_none (by kernel_rfl))

def e72 (D : HV → List HV → M HV) : Env := ⟨lk [], D, fun _ => none⟩

theorem d72 (D : HV → List HV → M HV) : fnD (e72 D) Try.prog [] a72 Try.f72 [] = f_code_lands D := by kernel_rfl
theorem ok72 {D : HV → List HV → M HV} (hD : DOk Try.prog noG D) : FnOk Try.prog noG 72 (f_code_lands D) := d72 D ▸ fn_ok (E := e72 D) ⟨lk_nil, hD⟩ mixed Try.func72 (by kernel_rfl) (by kernel_rfl) (hst_none (by kernel_rfl))

def e62 (D : HV → List HV → M HV) : Env := ⟨lk [(69, f_code_spans D), (70, f_code_fields D), (71, f_code_placed D), (72, f_code_lands D)], D, fun _ => none⟩

theorem d62 (D : HV → List HV → M HV) : fnD (e62 D) Try.prog [] a62 Try.f62 [] = f_code_Check D := by kernel_rfl
theorem ok62 {D : HV → List HV → M HV} (hD : DOk Try.prog noG D) : FnOk Try.prog noG 62 (f_code_Check D) := d62 D ▸ fn_ok (E := e62 D) ⟨(lk_cons (ok69 hD) (lk_cons (ok70 hD) (lk_cons (ok71 hD) (lk_cons (ok72 hD) lk_nil)))), hD⟩ mixed Try.func62 (by kernel_rfl) (by kernel_rfl) (hst_none (by kernel_rfl))

def e46 (D : HV → List HV → M HV) : Env := ⟨lk [(62, f_code_Check D)], D, fun _ => none⟩

theorem d46 (D : HV → List HV → M HV) : fnD (e46 D) Try.prog [] a46 Try.f46 [] = f_bound_can D := by kernel_rfl
theorem ok46 {D : HV → List HV → M HV} (hD : DOk Try.prog noG D) : FnOk Try.prog noG 46 (f_bound_can D) := d46 D ▸ fn_ok (E := e46 D) ⟨(lk_cons (ok62 hD) lk_nil), hD⟩ mixed Try.func46 (by kernel_rfl) (by kernel_rfl) (hst_none (by kernel_rfl))

def e63 (D : HV → List HV → M HV) : Env := ⟨lk [], D, fun _ => none⟩

theorem d63 (D : HV → List HV → M HV) : fnD (e63 D) Try.prog [30, 51, 54] a63 Try.f63 [] = f_bound_next D := by kernel_rfl
theorem ok63 {D : HV → List HV → M HV} (hD : DOk Try.prog noG D) : FnOk Try.prog noG 63 (f_bound_next D) := d63 D ▸ fn_ok (E := e63 D) ⟨lk_nil, hD⟩ mixed Try.func63 (by kernel_rfl) (by kernel_rfl) (hst_none (by kernel_rfl))

def e47 (D : HV → List HV → M HV) : Env := ⟨lk [(63, f_bound_next D)], D, fun _ => none⟩

theorem d47 (D : HV → List HV → M HV) : fnD (e47 D) Try.prog [] a47 Try.f47 [] = f_bound_seen D := by kernel_rfl
theorem ok47 {D : HV → List HV → M HV} (hD : DOk Try.prog noG D) : FnOk Try.prog noG 47 (f_bound_seen D) := d47 D ▸ fn_ok (E := e47 D) ⟨(lk_cons (ok63 hD) lk_nil), hD⟩ mixed Try.func47 (by kernel_rfl) (by kernel_rfl) (hst_none (by kernel_rfl))

def e27 (D : HV → List HV → M HV) : Env := ⟨lk [(46, f_bound_can D), (47, f_bound_seen D)], D, fun _ => none⟩

theorem d27 (D : HV → List HV → M HV) : fnD (e27 D) Try.prog [] a27 Try.f27 [] = f_bound_Reach D := by kernel_rfl
theorem ok27 {D : HV → List HV → M HV} (hD : DOk Try.prog noG D) : FnOk Try.prog noG 27 (f_bound_Reach D) := d27 D ▸ fn_ok (E := e27 D) ⟨(lk_cons (ok46 hD) (lk_cons (ok47 hD) lk_nil)), hD⟩ mixed Try.func27 (by kernel_rfl) (by kernel_rfl) (hst_none (by kernel_rfl))

def e28 (D : HV → List HV → M HV) : Env := ⟨lk [], D, fun _ => none⟩

theorem d28 (D : HV → List HV → M HV) : fnD (e28 D) Try.prog [] a28 Try.f28 [] = f_scope_end D := by kernel_rfl
theorem ok28 {D : HV → List HV → M HV} (hD : DOk Try.prog noG D) : FnOk Try.prog noG 28 (f_scope_end D) := d28 D ▸ fn_ok (E := e28 D) ⟨lk_nil, hD⟩ mixed Try.func28 (by kernel_rfl) (by kernel_rfl) (hst_none (by kernel_rfl))

def e48 (D : HV → List HV → M HV) : Env := ⟨lk [(46, f_bound_can D), (47, f_bound_seen D)], D, fun _ => none⟩

theorem d48 (D : HV → List HV → M HV) : fnD (e48 D) Try.prog [] a48 Try.f48 [.sc .kp, .sc .kp] = f_bound_From_1 D := by kernel_rfl
theorem ok48 {D : HV → List HV → M HV} (hD : DOk Try.prog noG D) : FnOk Try.prog noG 48 (f_bound_From_1 D) := d48 D ▸ fn_ok (E := e48 D) ⟨(lk_cons (ok46 hD) (lk_cons (ok47 hD) lk_nil)), hD⟩ mixed Try.func48 (by kernel_rfl) (by kernel_rfl) (hst_none (by kernel_rfl))

def e29 (D : HV → List HV → M HV) : Env := ⟨lk [], D, fun _ => none⟩

theorem d29 (D : HV → List HV → M HV) : fnD (e29 D) Try.prog [2, 3] a29 Try.f29 [] = f_bound_From D := by kernel_rfl
theorem ok29 {D : HV → List HV → M HV} (hD : DOk Try.prog noG D) : FnOk Try.prog noG 29 (f_bound_From D) := d29 D ▸ fn_ok (E := e29 D) ⟨lk_nil, hD⟩ mixed Try.func29 (by kernel_rfl) (by kernel_rfl) (hst_none (by kernel_rfl))

def e50 (D : HV → List HV → M HV) : Env := ⟨lk [], D, fun _ => none⟩

theorem d50 (D : HV → List HV → M HV) : fnD (e50 D) Try.prog [] a50 Try.f50 [] = f_scope_Things_with D := by kernel_rfl
theorem ok50 {D : HV → List HV → M HV} (hD : DOk Try.prog noG D) : FnOk Try.prog noG 50 (f_scope_Things_with D) := d50 D ▸ fn_ok (E := e50 D) ⟨lk_nil, hD⟩ mixed Try.func50 (by kernel_rfl) (by kernel_rfl) (hst_none (by kernel_rfl))

def e49 (D : HV → List HV → M HV) : Env := ⟨lk [(50, f_scope_Things_with D)], D, fun _ => none⟩

theorem d49 (D : HV → List HV → M HV) : fnD (e49 D) Try.prog [] a49 Try.f49 [] = f_scope_Scope_read D := by kernel_rfl
theorem ok49 {D : HV → List HV → M HV} (hD : DOk Try.prog noG D) : FnOk Try.prog noG 49 (f_scope_Scope_read D) := d49 D ▸ fn_ok (E := e49 D) ⟨(lk_cons (ok50 hD) lk_nil), hD⟩ mixed Try.func49 (by kernel_rfl) (by kernel_rfl) (hst_none (by kernel_rfl))

def e51 (D : HV → List HV → M HV) : Env := ⟨lk [(49, f_scope_Scope_read D), (50, f_scope_Things_with D)], D, fun _ => none⟩

theorem d51 (D : HV → List HV → M HV) : fnD (e51 D) Try.prog [] a51 Try.f51 [] = f_scope_Scope_both D := by kernel_rfl
theorem ok51 {D : HV → List HV → M HV} (hD : DOk Try.prog noG D) : FnOk Try.prog noG 51 (f_scope_Scope_both D) := d51 D ▸ fn_ok (E := e51 D) ⟨(lk_cons (ok49 hD) (lk_cons (ok50 hD) lk_nil)), hD⟩ mixed Try.func51 (by kernel_rfl) (by kernel_rfl) (hst_none (by kernel_rfl))

def e30 (D : HV → List HV → M HV) : Env := ⟨lk [(49, f_scope_Scope_read D), (50, f_scope_Things_with D), (51, f_scope_Scope_both D)], D, fun _ => none⟩

theorem d30 (D : HV → List HV → M HV) : fnD (e30 D) Try.prog [] a30 Try.f30 [] = f_scope_Scope_take D := by kernel_rfl
theorem ok30 {D : HV → List HV → M HV} (hD : DOk Try.prog noG D) : FnOk Try.prog noG 30 (f_scope_Scope_take D) := d30 D ▸ fn_ok (E := e30 D) ⟨(lk_cons (ok49 hD) (lk_cons (ok50 hD) (lk_cons (ok51 hD) lk_nil))), hD⟩ mixed Try.func30 (by kernel_rfl) (by kernel_rfl) (hst_none (by kernel_rfl))

def e10 (D : HV → List HV → M HV) : Env := ⟨lk [(27, f_bound_Reach D), (28, f_scope_end D), (29, f_bound_From D)], D, fun _ => none⟩

theorem st10 : ∀ e ∈ sitesF Try.f10 a10, e ∈ es := by
  rw [show sitesF Try.f10 a10 = [s10_0] by kernel_rfl]
  intro e he
  simp only [List.mem_cons, List.not_mem_nil, or_false] at he
  rcases he with rfl <;> simp [es]
theorem d10 (D : HV → List HV → M HV) : fnD (e10 D) Try.prog [2, 6, 7] a10 Try.f10 [] = f_scope_Of D := by kernel_rfl
theorem ok10 {D : HV → List HV → M HV} (hD : DOk Try.prog noG D) : FnOk Try.prog noG 10 (f_scope_Of D) := d10 D ▸ fn_ok (E := e10 D) ⟨(lk_cons (ok27 hD) (lk_cons (ok28 hD) (lk_cons (ok29 hD) lk_nil))), hD⟩ mixed Try.func10 (by kernel_rfl) (by kernel_rfl) (hst_of (fun _ _ _ _ _ h => h) st10)

def e10_0 (D : HV → List HV → M HV) : Env := ⟨lk [(30, f_scope_Scope_take D)], D, fun _ => none⟩

theorem d10_0 (D : HV → List HV → M HV) (l : Nat) (vs : List (Nat × HV)) (args : List HV) : roundD (e10_0 D) Try.prog [] s10_0.2 [.t 2 (.sc .kp), .t 6 (.sc .kp), .t 7 (.sc .kp)] [.t 38 (.sc (.ki .i64))] .z .z [0] l vs args = r0_scope_Of D l vs args := by kernel_rfl
theorem rd10_0 : RdOk Try.prog noG s10_0 r0_scope_Of := fun D hD => ⟨e10_0 D, [], [.t 2 (.sc .kp), .t 6 (.sc .kp), .t 7 (.sc .kp)], [.t 38 (.sc (.ki .i64))], .z, .z, [0], ⟨(lk_cons (ok30 hD) lk_nil), hD⟩, rfl, by kernel_rfl, rst_none (by kernel_rfl), fun l vs args => (d10_0 D l vs args).symm⟩

def e40 (D : HV → List HV → M HV) : Env := ⟨lk [], D, fun _ => none⟩

theorem d40 (D : HV → List HV → M HV) : fnD (e40 D) Try.prog [] a40 Try.f40 [] = f_scope_good D := by kernel_rfl
theorem ok40 {D : HV → List HV → M HV} (hD : DOk Try.prog noG D) : FnOk Try.prog noG 40 (f_scope_good D) := d40 D ▸ fn_ok (E := e40 D) ⟨lk_nil, hD⟩ mixed Try.func40 (by kernel_rfl) (by kernel_rfl) (hst_none (by kernel_rfl))

def e15 (D : HV → List HV → M HV) : Env := ⟨lk [(40, f_scope_good D)], D, fun _ => none⟩

theorem d15 (D : HV → List HV → M HV) : fnD (e15 D) Try.prog [] a15 Try.f15 [] = f_scope_Things_Has D := by kernel_rfl
theorem ok15 {D : HV → List HV → M HV} (hD : DOk Try.prog noG D) : FnOk Try.prog noG 15 (f_scope_Things_Has D) := d15 D ▸ fn_ok (E := e15 D) ⟨(lk_cons (ok40 hD) lk_nil), hD⟩ mixed Try.func15 (by kernel_rfl) (by kernel_rfl) (hst_none (by kernel_rfl))

def e9 (D : HV → List HV → M HV) : Env := ⟨lk [(10, f_scope_Of D), (15, f_scope_Things_Has D)], D, fun _ => none⟩

theorem d9 (D : HV → List HV → M HV) : fnD (e9 D) Try.prog [8] a9 Try.f9 [] = f_law28_alive D := by kernel_rfl
theorem ok9 {D : HV → List HV → M HV} (hD : DOk Try.prog noG D) : FnOk Try.prog noG 9 (f_law28_alive D) := d9 D ▸ fn_ok (E := e9 D) ⟨(lk_cons (ok10 hD) (lk_cons (ok15 hD) lk_nil)), hD⟩ mixed Try.func9 (by kernel_rfl) (by kernel_rfl) (hst_none (by kernel_rfl))

def e59 (D : HV → List HV → M HV) : Env := ⟨lk [], D, fun _ => none⟩

theorem d59 (D : HV → List HV → M HV) : fnD (e59 D) Try.prog [] a59 Try.f59 [] = f_ref07_Shaped D := by kernel_rfl
theorem ok59 {D : HV → List HV → M HV} (hD : DOk Try.prog noG D) : FnOk Try.prog noG 59 (f_ref07_Shaped D) := d59 D ▸ fn_ok (E := e59 D) ⟨lk_nil, hD⟩ mixed Try.func59 (by kernel_rfl) (by kernel_rfl) (hst_none (by kernel_rfl))

def e32 (D : HV → List HV → M HV) : Env := ⟨lk [], D, fun _ => none⟩

theorem d32 (D : HV → List HV → M HV) : fnD (e32 D) Try.prog [] a32 Try.f32 [] = f_ref07_Block D := by kernel_rfl
theorem ok32 {D : HV → List HV → M HV} (hD : DOk Try.prog noG D) : FnOk Try.prog noG 32 (f_ref07_Block D) := d32 D ▸ fn_ok (E := e32 D) ⟨lk_nil, hD⟩ mixed Try.func32 (by kernel_rfl) (by kernel_rfl) (hst_none (by kernel_rfl))

def e68 (D : HV → List HV → M HV) : Env := ⟨lk [], D, fun _ => none⟩

theorem d68 (D : HV → List HV → M HV) : fnD (e68 D) Try.prog [] a68 Try.f68 [] = f_ref07_limits D := by kernel_rfl
theorem ok68 {D : HV → List HV → M HV} (hD : DOk Try.prog noG D) : FnOk Try.prog noG 68 (f_ref07_limits D) := d68 D ▸ fn_ok (E := e68 D) ⟨lk_nil, hD⟩ mixed Try.func68 (by kernel_rfl) (by kernel_rfl) (hst_none (by kernel_rfl))

def e60 (D : HV → List HV → M HV) : Env := ⟨lk [(32, f_ref07_Block D), (68, f_ref07_limits D)], D, fun _ => none⟩

theorem d60 (D : HV → List HV → M HV) : fnD (e60 D) Try.prog [] a60 Try.f60 [] = f_ref07_One D := by kernel_rfl
theorem ok60 {D : HV → List HV → M HV} (hD : DOk Try.prog noG D) : FnOk Try.prog noG 60 (f_ref07_One D) := d60 D ▸ fn_ok (E := e60 D) ⟨(lk_cons (ok32 hD) (lk_cons (ok68 hD) lk_nil)), hD⟩ mixed Try.func60 (by kernel_rfl) (by kernel_rfl) (hst_none (by kernel_rfl))

def e41 (D : HV → List HV → M HV) : Env := ⟨lk [(59, f_ref07_Shaped D), (60, f_ref07_One D)], D, fun _ => none⟩

theorem d41 (D : HV → List HV → M HV) : fnD (e41 D) Try.prog [] a41 Try.f41 [] = f_ref07_Check D := by kernel_rfl
theorem ok41 {D : HV → List HV → M HV} (hD : DOk Try.prog noG D) : FnOk Try.prog noG 41 (f_ref07_Check D) := d41 D ▸ fn_ok (E := e41 D) ⟨(lk_cons (ok59 hD) (lk_cons (ok60 hD) lk_nil)), hD⟩ mixed Try.func41 (by kernel_rfl) (by kernel_rfl) (hst_none (by kernel_rfl))

def e16 (D : HV → List HV → M HV) : Env := ⟨lk [(41, f_ref07_Check D)], D, fun _ => none⟩

theorem d16 (D : HV → List HV → M HV) : fnD (e16 D) Try.prog [] a16 Try.f16 [] = f_ref27_Can D := by kernel_rfl
theorem ok16 {D : HV → List HV → M HV} (hD : DOk Try.prog noG D) : FnOk Try.prog noG 16 (f_ref27_Can D) := d16 D ▸ fn_ok (E := e16 D) ⟨(lk_cons (ok41 hD) lk_nil), hD⟩ mixed Try.func16 (by kernel_rfl) (by kernel_rfl) (hst_none (by kernel_rfl))

def e52 (D : HV → List HV → M HV) : Env := ⟨lk [], D, fun _ => none⟩

theorem d52 (D : HV → List HV → M HV) : fnD (e52 D) Try.prog [] a52 Try.f52 [] = f_ref27_Leads D := by kernel_rfl
theorem ok52 {D : HV → List HV → M HV} (hD : DOk Try.prog noG D) : FnOk Try.prog noG 52 (f_ref27_Leads D) := d52 D ▸ fn_ok (E := e52 D) ⟨lk_nil, hD⟩ mixed Try.func52 (by kernel_rfl) (by kernel_rfl) (hst_none (by kernel_rfl))

def e31 (D : HV → List HV → M HV) : Env := ⟨lk [(52, f_ref27_Leads D)], D, fun _ => none⟩

theorem d31 (D : HV → List HV → M HV) : fnD (e31 D) Try.prog [] a31 Try.f31 [] = f_ref27_Seen D := by kernel_rfl
theorem ok31 {D : HV → List HV → M HV} (hD : DOk Try.prog noG D) : FnOk Try.prog noG 31 (f_ref27_Seen D) := d31 D ▸ fn_ok (E := e31 D) ⟨(lk_cons (ok52 hD) lk_nil), hD⟩ mixed Try.func31 (by kernel_rfl) (by kernel_rfl) (hst_none (by kernel_rfl))

def e33 (D : HV → List HV → M HV) : Env := ⟨lk [], D, fun _ => none⟩

theorem d33 (D : HV → List HV → M HV) : fnD (e33 D) Try.prog [] a33 Try.f33 [] = f_ref28_Reads D := by kernel_rfl
theorem ok33 {D : HV → List HV → M HV} (hD : DOk Try.prog noG D) : FnOk Try.prog noG 33 (f_ref28_Reads D) := d33 D ▸ fn_ok (E := e33 D) ⟨lk_nil, hD⟩ mixed Try.func33 (by kernel_rfl) (by kernel_rfl) (hst_none (by kernel_rfl))

def e34 (D : HV → List HV → M HV) : Env := ⟨lk [(33, f_ref28_Reads D)], D, fun _ => none⟩

theorem d34 (D : HV → List HV → M HV) : fnD (e34 D) Try.prog [] a34 Try.f34 [] = f_ref28_Writes D := by kernel_rfl
theorem ok34 {D : HV → List HV → M HV} (hD : DOk Try.prog noG D) : FnOk Try.prog noG 34 (f_ref28_Writes D) := d34 D ▸ fn_ok (E := e34 D) ⟨(lk_cons (ok33 hD) lk_nil), hD⟩ mixed Try.func34 (by kernel_rfl) (by kernel_rfl) (hst_none (by kernel_rfl))

def e11 (D : HV → List HV → M HV) : Env := ⟨lk [(16, f_ref27_Can D), (31, f_ref27_Seen D), (32, f_ref07_Block D), (33, f_ref28_Reads D), (34, f_ref28_Writes D)], D, fun _ => none⟩

theorem d11 (D : HV → List HV → M HV) : fnD (e11 D) Try.prog [] a11 Try.f11 [] = f_ref28_Of D := by kernel_rfl
theorem ok11 {D : HV → List HV → M HV} (hD : DOk Try.prog noG D) : FnOk Try.prog noG 11 (f_ref28_Of D) := d11 D ▸ fn_ok (E := e11 D) ⟨(lk_cons (ok16 hD) (lk_cons (ok31 hD) (lk_cons (ok32 hD) (lk_cons (ok33 hD) (lk_cons (ok34 hD) lk_nil))))), hD⟩ mixed Try.func11 (by kernel_rfl) (by kernel_rfl) (hst_none (by kernel_rfl))

def e35 (D : HV → List HV → M HV) : Env := ⟨lk [], D, fun _ => none⟩

theorem d35 (D : HV → List HV → M HV) : fnD (e35 D) Try.prog [] a35 Try.f35 [] = f_law28_are D := by kernel_rfl
theorem ok35 {D : HV → List HV → M HV} (hD : DOk Try.prog noG D) : FnOk Try.prog noG 35 (f_law28_are D) := d35 D ▸ fn_ok (E := e35 D) ⟨lk_nil, hD⟩ mixed Try.func35 (by kernel_rfl) (by kernel_rfl) (hst_none (by kernel_rfl))

def e12 (D : HV → List HV → M HV) : Env := ⟨lk [(35, f_law28_are D)], D, fun _ => none⟩

theorem d12 (D : HV → List HV → M HV) : fnD (e12 D) Try.prog [] a12 Try.f12 [] = f_law28_same D := by kernel_rfl
theorem ok12 {D : HV → List HV → M HV} (hD : DOk Try.prog noG D) : FnOk Try.prog noG 12 (f_law28_same D) := d12 D ▸ fn_ok (E := e12 D) ⟨(lk_cons (ok35 hD) lk_nil), hD⟩ mixed Try.func12 (by kernel_rfl) (by kernel_rfl) (hst_none (by kernel_rfl))

def e3 (D : HV → List HV → M HV) : Env := ⟨lk [(9, f_law28_alive D), (10, f_scope_Of D), (11, f_ref28_Of D), (12, f_law28_same D)], D, fun _ => none⟩

theorem d3 (D : HV → List HV → M HV) : fnD (e3 D) Try.prog [] a3 Try.f3 [] = f_law28_ScopeOf D := by kernel_rfl
def e14 (D : HV → List HV → M HV) : Env := ⟨lk [(36, f_ref23_Plain D), (37, f_ref23_deed D), (38, f_ref20_Do D), (39, f_ref23_sum D)], D, fun _ => none⟩

def e4 (D : HV → List HV → M HV) : Env := ⟨lk [(9, f_law28_alive D), (10, f_scope_Of D), (11, f_ref28_Of D), (13, f_law28_good D), (14, f_ref23_Block D), (15, f_scope_Things_Has D)], D, fun _ => none⟩

theorem d4 (D : HV → List HV → M HV) : fnD (e4 D) Try.prog [] a4 Try.f4 [] = f_law28_ScopeModel D := by kernel_rfl
def e42 (D : HV → List HV → M HV) : Env := ⟨lk [(10, f_scope_Of D)], D, fun _ => none⟩

theorem d42 (D : HV → List HV → M HV) : fnD (e42 D) Try.prog [] a42 Try.f42 [.sc .kp] = f_scope_All_1 D := by kernel_rfl
theorem ok42 {D : HV → List HV → M HV} (hD : DOk Try.prog noG D) : FnOk Try.prog noG 42 (f_scope_All_1 D) := d42 D ▸ fn_ok (E := e42 D) ⟨(lk_cons (ok10 hD) lk_nil), hD⟩ mixed Try.func42 (by kernel_rfl) (by kernel_rfl) (hst_none (by kernel_rfl))

def e17 (D : HV → List HV → M HV) : Env := ⟨lk [], D, fun _ => none⟩

theorem d17 (D : HV → List HV → M HV) : fnD (e17 D) Try.prog [1] a17 Try.f17 [] = f_scope_All D := by kernel_rfl
theorem ok17 {D : HV → List HV → M HV} (hD : DOk Try.prog noG D) : FnOk Try.prog noG 17 (f_scope_All D) := d17 D ▸ fn_ok (E := e17 D) ⟨lk_nil, hD⟩ mixed Try.func17 (by kernel_rfl) (by kernel_rfl) (hst_none (by kernel_rfl))

theorem st5 : ∀ e ∈ sitesF Try.f5 a5, e ∈ es := by
  rw [show sitesF Try.f5 a5 = [s5_0] by kernel_rfl]
  intro e he
  simp only [List.mem_cons, List.not_mem_nil, or_false] at he
  rcases he with rfl <;> simp [es]
def e5_0 (D : HV → List HV → M HV) : Env := ⟨lk [(11, f_ref28_Of D), (12, f_law28_same D)], D, fun _ => none⟩

theorem d5_0 (D : HV → List HV → M HV) (l : Nat) (vs : List (Nat × HV)) (args : List HV) : roundD (e5_0 D) Try.prog [] s5_0.2 [.t 2 (.sc .kp), .t 3 (.sc .kp), .t 4 (.sc .kp), .t 5 (.sc .kp), .t 6 (.sc .kp)] [.t 37 (.sc (.ki .i64)), .t 38 .a] .z (.n none (.n none .z (.n none (.n none (.n (some [.t 57 (.sc .kb)]) .z .z) .z) .z)) .z) [2] l vs args = r0_law28_ScopeAll D l vs args := by kernel_rfl
theorem rd5_0 : RdOk Try.prog noG s5_0 r0_law28_ScopeAll := fun D hD => ⟨e5_0 D, [], [.t 2 (.sc .kp), .t 3 (.sc .kp), .t 4 (.sc .kp), .t 5 (.sc .kp), .t 6 (.sc .kp)], [.t 37 (.sc (.ki .i64)), .t 38 .a], .z, (.n none (.n none .z (.n none (.n none (.n (some [.t 57 (.sc .kb)]) .z .z) .z) .z)) .z), [2], ⟨(lk_cons (ok11 hD) (lk_cons (ok12 hD) lk_nil)), hD⟩, rfl, by kernel_rfl, rst_none (by kernel_rfl), fun l vs args => (d5_0 D l vs args).symm⟩

def e24 (D : HV → List HV → M HV) : Env := ⟨lk [], D, fun _ => none⟩

theorem d24 (D : HV → List HV → M HV) : fnD (e24 D) Try.prog [] a24 Try.f24 [] = f_scope_Things_Meets D := by kernel_rfl
theorem ok24 {D : HV → List HV → M HV} (hD : DOk Try.prog noG D) : FnOk Try.prog noG 24 (f_scope_Things_Meets D) := d24 D ▸ fn_ok (E := e24 D) ⟨lk_nil, hD⟩ mixed Try.func24 (by kernel_rfl) (by kernel_rfl) (hst_none (by kernel_rfl))

def e18 (D : HV → List HV → M HV) : Env := ⟨lk [(24, f_scope_Things_Meets D)], D, fun _ => none⟩

theorem d18 (D : HV → List HV → M HV) : fnD (e18 D) Try.prog [] a18 Try.f18 [] = f_scope_Clash D := by kernel_rfl
theorem ok18 {D : HV → List HV → M HV} (hD : DOk Try.prog noG D) : FnOk Try.prog noG 18 (f_scope_Clash D) := d18 D ▸ fn_ok (E := e18 D) ⟨(lk_cons (ok24 hD) lk_nil), hD⟩ mixed Try.func18 (by kernel_rfl) (by kernel_rfl) (hst_none (by kernel_rfl))

def e19 (D : HV → List HV → M HV) : Env := ⟨lk [], D, fun _ => none⟩

theorem d19 (D : HV → List HV → M HV) : fnD (e19 D) Try.prog [] a19 Try.f19 [] = f_ref28_Clash D := by kernel_rfl
theorem ok19 {D : HV → List HV → M HV} (hD : DOk Try.prog noG D) : FnOk Try.prog noG 19 (f_ref28_Clash D) := d19 D ▸ fn_ok (E := e19 D) ⟨lk_nil, hD⟩ mixed Try.func19 (by kernel_rfl) (by kernel_rfl) (hst_none (by kernel_rfl))

def e21 (D : HV → List HV → M HV) : Env := ⟨lk [], D, fun _ => none⟩

theorem d21 (D : HV → List HV → M HV) : fnD (e21 D) Try.prog [] a21 Try.f21 [] = f_law28_bitsOf D := by kernel_rfl
theorem ok21 {D : HV → List HV → M HV} (hD : DOk Try.prog noG D) : FnOk Try.prog noG 21 (f_law28_bitsOf D) := d21 D ▸ fn_ok (E := e21 D) ⟨lk_nil, hD⟩ mixed Try.func21 (by kernel_rfl) (by kernel_rfl) (hst_none (by kernel_rfl))

def e20 (D : HV → List HV → M HV) : Env := ⟨lk [(21, f_law28_bitsOf D)], D, fun _ => none⟩

theorem d20 (D : HV → List HV → M HV) : fnD (e20 D) Try.prog [] a20 Try.f20 [] = f_law28_plain D := by kernel_rfl
theorem ok20 {D : HV → List HV → M HV} (hD : DOk Try.prog noG D) : FnOk Try.prog noG 20 (f_law28_plain D) := d20 D ▸ fn_ok (E := e20 D) ⟨(lk_cons (ok21 hD) lk_nil), hD⟩ mixed Try.func20 (by kernel_rfl) (by kernel_rfl) (hst_none (by kernel_rfl))

def e6 (D : HV → List HV → M HV) : Env := ⟨lk [(9, f_law28_alive D), (10, f_scope_Of D), (11, f_ref28_Of D), (13, f_law28_good D), (14, f_ref23_Block D), (18, f_scope_Clash D), (19, f_ref28_Clash D), (20, f_law28_plain D)], D, fun _ => none⟩

def e43 (D : HV → List HV → M HV) : Env := ⟨lk [(15, f_scope_Things_Has D)], D, fun _ => none⟩

theorem d43 (D : HV → List HV → M HV) : fnD (e43 D) Try.prog [] a43 Try.f43 [.sc .kp] = f_scope_Things_All_1 D := by kernel_rfl
theorem ok43 {D : HV → List HV → M HV} (hD : DOk Try.prog noG D) : FnOk Try.prog noG 43 (f_scope_Things_All_1 D) := d43 D ▸ fn_ok (E := e43 D) ⟨(lk_cons (ok15 hD) lk_nil), hD⟩ mixed Try.func43 (by kernel_rfl) (by kernel_rfl) (hst_none (by kernel_rfl))

def e22 (D : HV → List HV → M HV) : Env := ⟨lk [], D, fun _ => none⟩

theorem d22 (D : HV → List HV → M HV) : fnD (e22 D) Try.prog [1] a22 Try.f22 [] = f_scope_Things_All D := by kernel_rfl
theorem ok22 {D : HV → List HV → M HV} (hD : DOk Try.prog noG D) : FnOk Try.prog noG 22 (f_scope_Things_All D) := d22 D ▸ fn_ok (E := e22 D) ⟨lk_nil, hD⟩ mixed Try.func22 (by kernel_rfl) (by kernel_rfl) (hst_none (by kernel_rfl))

def e44 (D : HV → List HV → M HV) : Env := ⟨lk [], D, fun _ => none⟩

theorem d44 (D : HV → List HV → M HV) : fnD (e44 D) Try.prog [] a44 Try.f44 [] = f_math_bits_OnesCount8 D := by kernel_rfl
theorem ok44 {D : HV → List HV → M HV} (hD : DOk Try.prog noG D) : FnOk Try.prog noG 44 (f_math_bits_OnesCount8 D) := d44 D ▸ fn_ok (E := e44 D) ⟨lk_nil, hD⟩ mixed Try.func44 (by kernel_rfl) (by kernel_rfl) (hst_none (by kernel_rfl))

def e23 (D : HV → List HV → M HV) : Env := ⟨lk [(44, f_math_bits_OnesCount8 D)], D, fun _ => none⟩

theorem d23 (D : HV → List HV → M HV) : fnD (e23 D) Try.prog [] a23 Try.f23 [] = f_scope_Things_Len D := by kernel_rfl
theorem ok23 {D : HV → List HV → M HV} (hD : DOk Try.prog noG D) : FnOk Try.prog noG 23 (f_scope_Things_Len D) := d23 D ▸ fn_ok (E := e23 D) ⟨(lk_cons (ok44 hD) lk_nil), hD⟩ mixed Try.func23 (by kernel_rfl) (by kernel_rfl) (hst_none (by kernel_rfl))

def e7 (D : HV → List HV → M HV) : Env := ⟨lk [(9, f_law28_alive D), (15, f_scope_Things_Has D), (21, f_law28_bitsOf D), (22, f_scope_Things_All D), (23, f_scope_Things_Len D), (24, f_scope_Things_Meets D)], D, fun _ => none⟩

theorem st7 : ∀ e ∈ sitesF Try.f7 a7, e ∈ es := by
  rw [show sitesF Try.f7 a7 = [s7_0] by kernel_rfl]
  intro e he
  simp only [List.mem_cons, List.not_mem_nil, or_false] at he
  rcases he with rfl <;> simp [es]
theorem d7 (D : HV → List HV → M HV) : fnD (e7 D) Try.prog [9, 10, 11, 15, 18] a7 Try.f7 [] = f_law28_ScopeThings D := by kernel_rfl
theorem ok7 {D : HV → List HV → M HV} (hD : DOk Try.prog noG D) : FnOk Try.prog noG 7 (f_law28_ScopeThings D) := d7 D ▸ fn_ok (E := e7 D) ⟨(lk_cons (ok9 hD) (lk_cons (ok15 hD) (lk_cons (ok21 hD) (lk_cons (ok22 hD) (lk_cons (ok23 hD) (lk_cons (ok24 hD) lk_nil)))))), hD⟩ mixed Try.func7 (by kernel_rfl) (by kernel_rfl) (hst_of (fun _ _ _ _ _ h => h) st7)

def e7_0 (D : HV → List HV → M HV) : Env := ⟨lk [], D, fun _ => none⟩

theorem d7_0 (D : HV → List HV → M HV) (l : Nat) (vs : List (Nat × HV)) (args : List HV) : roundD (e7_0 D) Try.prog [] s7_0.2 [.t 9 (.sc .kp), .t 10 (.sc .kp), .t 11 (.sc .kp), .t 15 (.sc .kp), .t 18 (.sc .kp)] [.t 69 (.sc (.ki .i64)), .t 70 (.sc (.ki .i64))] .z (.n none (.n none (.n none (.n (some [.t 100 (.sc .kb)]) .z .z) .z) .z) .z) [4] l vs args = r0_law28_ScopeThings D l vs args := by kernel_rfl
theorem rd7_0 : RdOk Try.prog noG s7_0 r0_law28_ScopeThings := fun D hD => ⟨e7_0 D, [], [.t 9 (.sc .kp), .t 10 (.sc .kp), .t 11 (.sc .kp), .t 15 (.sc .kp), .t 18 (.sc .kp)], [.t 69 (.sc (.ki .i64)), .t 70 (.sc (.ki .i64))], .z, (.n none (.n none (.n none (.n (some [.t 100 (.sc .kb)]) .z .z) .z) .z) .z), [4], ⟨lk_nil, hD⟩, rfl, by kernel_rfl, rst_none (by kernel_rfl), fun l vs args => (d7_0 D l vs args).symm⟩

def e61 (D : HV → List HV → M HV) : Env := ⟨lk [], D, fun _ => none⟩

theorem d61 (D : HV → List HV → M HV) : fnD (e61 D) Try.prog [] a61 Try.f61 [] = f_bound_one D := by kernel_rfl
theorem ok61 {D : HV → List HV → M HV} (hD : DOk Try.prog noG D) : FnOk Try.prog noG 61 (f_bound_one D) := d61 D ▸ fn_ok (E := e61 D) ⟨lk_nil, hD⟩ mixed Try.func61 (by kernel_rfl) (by kernel_rfl) (hst_none (by kernel_rfl))

def e45 (D : HV → List HV → M HV) : Env := ⟨lk [(46, f_bound_can D), (61, f_bound_one D)], D, fun _ => none⟩

theorem d45 (D : HV → List HV → M HV) : fnD (e45 D) Try.prog [] a45 Try.f45 [] = f_bound_Most D := by kernel_rfl
theorem ok45 {D : HV → List HV → M HV} (hD : DOk Try.prog noG D) : FnOk Try.prog noG 45 (f_bound_Most D) := d45 D ▸ fn_ok (E := e45 D) ⟨(lk_cons (ok46 hD) (lk_cons (ok61 hD) lk_nil)), hD⟩ mixed Try.func45 (by kernel_rfl) (by kernel_rfl) (hst_none (by kernel_rfl))

def e25 (D : HV → List HV → M HV) : Env := ⟨lk [(17, f_scope_All D), (45, f_bound_Most D)], D, fun _ => none⟩

theorem st25 : ∀ e ∈ sitesF Try.f25 a25, e ∈ es := by
  rw [show sitesF Try.f25 a25 = [s25_0] by kernel_rfl]
  intro e he
  simp only [List.mem_cons, List.not_mem_nil, or_false] at he
  rcases he with rfl <;> simp [es]
theorem d25 (D : HV → List HV → M HV) : fnD (e25 D) Try.prog [3, 4] a25 Try.f25 [] = f_scope_Apart D := by kernel_rfl
theorem ok25 {D : HV → List HV → M HV} (hD : DOk Try.prog noG D) : FnOk Try.prog noG 25 (f_scope_Apart D) := d25 D ▸ fn_ok (E := e25 D) ⟨(lk_cons (ok17 hD) (lk_cons (ok45 hD) lk_nil)), hD⟩ mixed Try.func25 (by kernel_rfl) (by kernel_rfl) (hst_of (fun _ _ _ _ _ h => h) st25)

def e25_0 (D : HV → List HV → M HV) : Env := ⟨lk [(17, f_scope_All D)], D, fun _ => none⟩

theorem st25_0 : ∀ x ∈ (sites s25_0.2.b (.n none (.n none .z (.n none (.r 23525095 [4, 6]) .z)) .z)).map fun s => (s25_0.1, s), x ∈ es := by
  rw [show ((sites s25_0.2.b (.n none (.n none .z (.n none (.r 23525095 [4, 6]) .z)) .z)).map fun s => (s25_0.1, s)) = [s25_0_0] by kernel_rfl]
  intro e he
  simp only [List.mem_cons, List.not_mem_nil, or_false] at he
  rcases he with rfl <;> simp [es]
theorem d25_0 (D : HV → List HV → M HV) (l : Nat) (vs : List (Nat × HV)) (args : List HV) : roundD (e25_0 D) Try.prog [6] s25_0.2 [.t 3 (.sc .kp), .t 4 (.sc .kp)] [.t 21 (.sc (.ki .i64)), .t 22 .a] .z (.n none (.n none .z (.n none (.r 23525095 [4, 6]) .z)) .z) [] l vs args = r0_scope_Apart D l vs args := by kernel_rfl
theorem rd25_0 : RdOk Try.prog noG s25_0 r0_scope_Apart := fun D hD => ⟨e25_0 D, [6], [.t 3 (.sc .kp), .t 4 (.sc .kp)], [.t 21 (.sc (.ki .i64)), .t 22 .a], .z, (.n none (.n none .z (.n none (.r 23525095 [4, 6]) .z)) .z), [], ⟨(lk_cons (ok17 hD) lk_nil), hD⟩, rfl, by kernel_rfl, rst_of (fun _ _ _ _ _ h => h) st25_0, fun l vs args => (d25_0 D l vs args).symm⟩

def e25_0_0 (D : HV → List HV → M HV) : Env := ⟨lk [(18, f_scope_Clash D)], D, fun _ => none⟩

theorem d25_0_0 (D : HV → List HV → M HV) (l : Nat) (vs : List (Nat × HV)) (args : List HV) : roundD (e25_0_0 D) Try.prog [] s25_0_0.2 [.t 4 (.sc .kp), .t 6 (.sc .kp)] [.t 25 (.sc (.ki .i64)), .t 26 .a] .z .z [] l vs args = r0_0_scope_Apart D l vs args := by kernel_rfl
theorem rd25_0_0 : RdOk Try.prog noG s25_0_0 r0_0_scope_Apart := fun D hD => ⟨e25_0_0 D, [], [.t 4 (.sc .kp), .t 6 (.sc .kp)], [.t 25 (.sc (.ki .i64)), .t 26 .a], .z, .z, [], ⟨(lk_cons (ok18 hD) lk_nil), hD⟩, rfl, by kernel_rfl, rst_none (by kernel_rfl), fun l vs args => (d25_0_0 D l vs args).symm⟩

def e26 (D : HV → List HV → M HV) : Env := ⟨lk [(11, f_ref28_Of D), (16, f_ref27_Can D), (19, f_ref28_Clash D)], D, fun _ => none⟩

theorem d26 (D : HV → List HV → M HV) : fnD (e26 D) Try.prog [] a26 Try.f26 [] = f_ref28_Apart D := by kernel_rfl
theorem ok26 {D : HV → List HV → M HV} (hD : DOk Try.prog noG D) : FnOk Try.prog noG 26 (f_ref28_Apart D) := d26 D ▸ fn_ok (E := e26 D) ⟨(lk_cons (ok11 hD) (lk_cons (ok16 hD) (lk_cons (ok19 hD) lk_nil))), hD⟩ mixed Try.func26 (by kernel_rfl) (by kernel_rfl) (hst_none (by kernel_rfl))

def e8 (D : HV → List HV → M HV) : Env := ⟨lk [(9, f_law28_alive D), (18, f_scope_Clash D), (19, f_ref28_Clash D), (20, f_law28_plain D), (25, f_scope_Apart D), (26, f_ref28_Apart D)], D, fun _ => none⟩

theorem d8 (D : HV → List HV → M HV) : fnD (e8 D) Try.prog [] a8 Try.f8 [] = f_law28_ScopeClash D := by kernel_rfl
theorem ok8 {D : HV → List HV → M HV} (hD : DOk Try.prog noG D) : FnOk Try.prog noG 8 (f_law28_ScopeClash D) := d8 D ▸ fn_ok (E := e8 D) ⟨(lk_cons (ok9 hD) (lk_cons (ok18 hD) (lk_cons (ok19 hD) (lk_cons (ok20 hD) (lk_cons (ok25 hD) (lk_cons (ok26 hD) lk_nil)))))), hD⟩ mixed Try.func8 (by kernel_rfl) (by kernel_rfl) (hst_none (by kernel_rfl))

theorem rnok : RnOk Try.prog noG es [(82468377, r0_scope_Of), (34873769, r0_law28_ScopeAll), (42271286, r0_law28_ScopeThings), (91524749, r0_scope_Apart), (23525095, r0_0_scope_Apart)] := (rn_cons (by kernel_rfl) rd10_0 (by kernel_rfl) (rn_cons (by kernel_rfl) rd5_0 (by kernel_rfl) (rn_cons (by kernel_rfl) rd7_0 (by kernel_rfl) (rn_cons (by kernel_rfl) rd25_0 (by kernel_rfl) (rn_cons (by kernel_rfl) rd25_0_0 (by kernel_rfl) rn_nil)))))
theorem clok : ClOk Try.prog noG [(n_scope_All_1, f_scope_All_1), (n_scope_Things_All_1, f_scope_Things_All_1), (n_bound_From_1, f_bound_From_1)] := (cl_cons (fun _ hD => ok42 hD) (cl_cons (fun _ hD => ok43 hD) (cl_cons (fun _ hD => ok48 hD) cl_nil)))
/-- functions as values, by levels -/
abbrev lev (n : Nat) : DD := levD [(n_scope_All_1, f_scope_All_1), (n_scope_Things_All_1, f_scope_Things_All_1), (n_bound_From_1, f_bound_From_1)] [(82468377, r0_scope_Of), (34873769, r0_law28_ScopeAll), (42271286, r0_law28_ScopeThings), (91524749, r0_scope_Apart), (23525095, r0_0_scope_Apart)] n
theorem lev_ok (n : Nat) : DOk Try.prog noG (lev n) := levD_ok mixed clok rnok (fun _ _ _ _ _ h => h) n

end Go.Proofs.Ytijppadieomnjaa.HT
