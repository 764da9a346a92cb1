/- The program's functions are as these texts. Conditions: what is called as a value is told (DOk). -/
import Derived.Test.YtolchnaegifckaaHLGa
import Derived.Test.YtolchnaegifckaaChecked
import Derived.KernelRfl
namespace Go.Proofs.Ytolchnaegifckaa.HL
open Go Go.Proofs
set_option maxRecDepth 100000
abbrev noG : Nat → Option Nat := fun _ => none
theorem mixed : Try.prog.follows .mixedOrders = true := by kernel_rfl

def a56 : Ann := (.n none .z (.n none .z (.n none .z (.n none (.n none .z (.n (some [.t 5 (.sc (.ki .i64))]) (.n (some [.t 5 (.sc (.ki .i64)), .t 13 (.sc (.ki .i64))]) (.n none .z (.n none .z (.n none (.n (some [.t 5 (.sc (.ki .i64))]) .z .z) .z))) .z) .z)) .z))))

def e56 (D : HV → List HV → M HV) : Env := ⟨lk [], D, fun _ => none⟩

theorem d56 (D : HV → List HV → M HV) : fnD (e56 D) Try.prog [] a56 Try.f56 [] = f_code_spans D := by kernel_rfl
theorem ok56 {D : HV → List HV → M HV} (hD : DOk Try.prog noG D) : FnOk Try.prog noG 56 (f_code_spans D) := d56 D ▸ fn_ok (E := e56 D) ⟨lk_nil, hD⟩ mixed Try.func56 (by kernel_rfl) (by kernel_rfl)

def a69 : Ann := (.n none .z (.n none (.n (some [.t 4 (.sc .kb)]) .z .z) .z))

def e69 (D : HV → List HV → M HV) : Env := ⟨lk [], D, fun _ => none⟩

theorem d69 (D : HV → List HV → M HV) : fnD (e69 D) Try.prog [] a69 Try.f69 [] = f_code_in D := by kernel_rfl
theorem ok69 {D : HV → List HV → M HV} (hD : DOk Try.prog noG D) : FnOk Try.prog noG 69 (f_code_in D) := d69 D ▸ fn_ok (E := e69 D) ⟨lk_nil, hD⟩ mixed Try.func69 (by kernel_rfl) (by kernel_rfl)

def a70 : Ann := (.n none .z (.n none (.n none .z (.n none (.n none .z (.n none (.n none (.n (some [.t 2 (.sc .kb)]) .z .z) .z) (.n none .z (.n none (.n none (.n (some [.t 2 (.sc .kb)]) .z .z) .z) (.n none (.n none .z (.n (some [.t 35 (.sc .kb)]) .z .z)) (.n none (.n none (.n (some [.t 2 (.sc .kb)]) .z .z) .z) (.n none .z (.n none (.n none (.n (some [.t 2 (.sc .kb)]) .z .z) .z) (.n none .z (.n none (.n none (.n (some [.t 2 (.sc .kb)]) .z .z) .z) (.n none .z (.n none (.n none (.n (some [.t 2 (.sc .kb)]) .z .z) .z) (.n none .z (.n none (.n none (.n (some [.t 2 (.sc .kb)]) .z .z) .z) (.n none .z (.n none (.n none (.n (some [.t 2 (.sc .kb)]) .z .z) .z) (.n none .z (.n none (.n none (.n (some [.t 2 (.sc .kb)]) .z .z) .z) (.n none .z (.n none (.n none (.n (some [.t 2 (.sc .kb)]) .z .z) .z) .z)))))))))))))))))))) .z)) .z))

def e70 (D : HV → List HV → M HV) : Env := ⟨lk [(69, f_code_in D)], D, fun _ => none⟩

theorem d70 (D : HV → List HV → M HV) : fnD (e70 D) Try.prog [] a70 Try.f70 [] = f_code_things D := by kernel_rfl
theorem ok70 {D : HV → List HV → M HV} (hD : DOk Try.prog noG D) : FnOk Try.prog noG 70 (f_code_things D) := d70 D ▸ fn_ok (E := e70 D) ⟨(lk_cons (ok69 hD) lk_nil), hD⟩ mixed Try.func70 (by kernel_rfl) (by kernel_rfl)

def a57 : Ann := (.n none .z (.n none (.n none .z (.n none (.n none (.n none .z (.n (some [.t 5 (.sc .kb)]) .z .z)) (.n none .z (.n none .z (.n none (.n none (.n (some [.t 2 (.sc .kb)]) .z .z) .z) (.n none .z (.n none (.n none (.n (some [.t 2 (.sc .kb)]) .z .z) .z) (.n none .z (.n none (.n none (.n (some [.t 2 (.sc .kb)]) .z .z) .z) (.n none .z (.n none (.n none (.n (some [.t 2 (.sc .kb)]) .z .z) .z) (.n none .z (.n none (.n none (.n (some [.t 2 (.sc .kb)]) .z .z) .z) (.n none .z (.n none (.n none (.n (some [.t 2 (.sc .kb)]) .z .z) .z) .z)))))))))))))) .z)) .z))

def e57 (D : HV → List HV → M HV) : Env := ⟨lk [(69, f_code_in D), (70, f_code_things D)], D, fun _ => none⟩

theorem d57 (D : HV → List HV → M HV) : fnD (e57 D) Try.prog [] a57 Try.f57 [] = f_code_fields D := by kernel_rfl
theorem ok57 {D : HV → List HV → M HV} (hD : DOk Try.prog noG D) : FnOk Try.prog noG 57 (f_code_fields D) := d57 D ▸ fn_ok (E := e57 D) ⟨(lk_cons (ok69 hD) (lk_cons (ok70 hD) lk_nil)), hD⟩ mixed Try.func57 (by kernel_rfl) (by kernel_rfl)

def a58 : Ann := (.n none .z (.n none (.n none .z (.n none (.n none (.n none .z (.n (some [.t 6 (.sc .kb)]) .z .z)) (.n none .z (.n none (.n none .z (.n (some [.t 10 (.sc .kb)]) .z .z)) .z))) .z)) .z))

def e58 (D : HV → List HV → M HV) : Env := ⟨lk [], D, fun _ => none⟩

theorem d58 (D : HV → List HV → M HV) : fnD (e58 D) Try.prog [] a58 Try.f58 [] = f_code_placed D := by kernel_rfl
theorem ok58 {D : HV → List HV → M HV} (hD : DOk Try.prog noG D) : FnOk Try.prog noG 58 (f_code_placed D) := d58 D ▸ fn_ok (E := e58 D) ⟨lk_nil, hD⟩ mixed Try.func58 (by kernel_rfl) (by kernel_rfl)

def a59 : Ann := (.n none .z (.n none .z (.n none (.n none (.n (some [.t 21 (.sc .kb)]) .z .z) .z) .z)))

def e59 (D : HV → List HV → M HV) : Env := ⟨lk [], D, fun _ => none⟩

theorem d59 (D : HV → List HV → M HV) : fnD (e59 D) Try.prog [] a59 Try.f59 [] = f_code_lands D := by kernel_rfl
theorem ok59 {D : HV → List HV → M HV} (hD : DOk Try.prog noG D) : FnOk Try.prog noG 59 (f_code_lands D) := d59 D ▸ fn_ok (E := e59 D) ⟨lk_nil, hD⟩ mixed Try.func59 (by kernel_rfl) (by kernel_rfl)

def a39 : Ann := (.n none .z (.n none .z (.n none .z (.n none .z (.n none .z (.n none (.n none .z (.n (some []) (.n (some [.t 6 (.sc .kb), .t 7 (.sc (.ki .i64)), .t 22 (.sc (.ki .i64))]) (.n none .z (.n none .z (.n none (.n (some [.t 6 (.sc .kb), .t 7 (.sc (.ki .i64))]) (.n none .z (.n none (.n none (.n (some [.t 40 (.sc .kb)]) .z .z) .z) (.n none (.n none .z (.n (some [.t 6 (.sc .kb), .t 7 (.sc (.ki .i64))]) (.n none (.n none .z (.n (some [.t 44 (.sc .kb)]) .z .z)) .z) .z)) (.n none (.n none .z (.n (some [.t 7 (.sc (.ki .i64))]) .z .z)) (.n none .z (.n none (.n none (.n (some [.t 83 (.sc .kb)]) .z .z) .z) .z)))))) .z) .z))) .z) .z)) .z))))))

def e39 (D : HV → List HV → M HV) : Env := ⟨lk [(56, f_code_spans D), (57, f_code_fields D), (58, f_code_placed D), (59, f_code_lands D)], D, fun _ => none⟩

theorem d39 (D : HV → List HV → M HV) : fnD (e39 D) Try.prog [] a39 Try.f39 [] = f_code_Check D := by kernel_rfl
theorem ok39 {D : HV → List HV → M HV} (hD : DOk Try.prog noG D) : FnOk Try.prog noG 39 (f_code_Check D) := d39 D ▸ fn_ok (E := e39 D) ⟨(lk_cons (ok56 hD) (lk_cons (ok57 hD) (lk_cons (ok58 hD) (lk_cons (ok59 hD) lk_nil)))), hD⟩ mixed Try.func39 (by kernel_rfl) (by kernel_rfl)

def a41 : Ann := .z

def e41 (D : HV → List HV → M HV) : Env := ⟨lk [(39, f_code_Check D)], D, fun _ => none⟩

theorem d41 (D : HV → List HV → M HV) : fnD (e41 D) Try.prog [] a41 Try.f41 [] = f_bound_can D := by kernel_rfl
theorem ok41 {D : HV → List HV → M HV} (hD : DOk Try.prog noG D) : FnOk Try.prog noG 41 (f_bound_can D) := d41 D ▸ fn_ok (E := e41 D) ⟨(lk_cons (ok39 hD) lk_nil), hD⟩ mixed Try.func41 (by kernel_rfl) (by kernel_rfl)

def a42 : Ann := (.n none .z (.n none (.n none .z (.n none (.n none (.n none .z (.n (some [.t 9 (.sc .kb)]) .z .z)) .z) .z)) .z))

def e42 (D : HV → List HV → M HV) : Env := ⟨lk [], D, fun _ => none⟩

theorem d42 (D : HV → List HV → M HV) : fnD (e42 D) Try.prog [] a42 Try.f42 [] = f_bound_one D := by kernel_rfl
theorem ok42 {D : HV → List HV → M HV} (hD : DOk Try.prog noG D) : FnOk Try.prog noG 42 (f_bound_one D) := d42 D ▸ fn_ok (E := e42 D) ⟨lk_nil, hD⟩ mixed Try.func42 (by kernel_rfl) (by kernel_rfl)

def a16 : Ann := (.n none .z (.n none .z (.n none .z (.n none (.n none .z (.n (some []) (.n (some [.t 4 (.sc (.ki .i64))]) .z .z) .z)) .z))))

def e16 (D : HV → List HV → M HV) : Env := ⟨lk [(41, f_bound_can D), (42, f_bound_one D)], D, fun _ => none⟩

theorem d16 (D : HV → List HV → M HV) : fnD (e16 D) Try.prog [] a16 Try.f16 [] = f_bound_Most D := by kernel_rfl
theorem ok16 {D : HV → List HV → M HV} (hD : DOk Try.prog noG D) : FnOk Try.prog noG 16 (f_bound_Most D) := d16 D ▸ fn_ok (E := e16 D) ⟨(lk_cons (ok41 hD) (lk_cons (ok42 hD) lk_nil)), hD⟩ mixed Try.func16 (by kernel_rfl) (by kernel_rfl)

def a14 : Ann := (.n none .z (.n none .z (.n none (.n (some [.t 0 (.sc .kb)]) .z .z) .z)))

def e14 (D : HV → List HV → M HV) : Env := ⟨lk [(16, f_bound_Most D)], D, fun _ => none⟩

theorem d14 (D : HV → List HV → M HV) : fnD (e14 D) Try.prog [6] a14 Try.f14 [] = f_law27_alive D := by kernel_rfl
theorem ok14 {D : HV → List HV → M HV} (hD : DOk Try.prog noG D) : FnOk Try.prog noG 14 (f_law27_alive D) := d14 D ▸ fn_ok (E := e14 D) ⟨(lk_cons (ok16 hD) lk_nil), hD⟩ mixed Try.func14 (by kernel_rfl) (by kernel_rfl)

def a48 : Ann := (.n none .z (.n none .z (.n none (.n none .z (.n (some [.t 3 (.sc (.ki .i64))]) (.n (some [.t 3 (.sc (.ki .i64)), .t 8 (.sc (.ki .i64))]) (.n none .z (.n none .z (.n none (.n none (.n none .z (.n none (.n none .z (.n (some [.t 3 (.sc (.ki .i64))]) .z .z)) (.n none (.n none .z (.n (some [.t 3 (.sc (.ki .i64))]) .z .z)) (.n none (.n (some [.t 27 (.sc .kb)]) .z .z) .z)))) .z) .z))) .z) .z)) .z)))

def e48 (D : HV → List HV → M HV) : Env := ⟨lk [], D, fun _ => none⟩

theorem d48 (D : HV → List HV → M HV) : fnD (e48 D) Try.prog [] a48 Try.f48 [] = f_ref07_Shaped D := by kernel_rfl
theorem ok48 {D : HV → List HV → M HV} (hD : DOk Try.prog noG D) : FnOk Try.prog noG 48 (f_ref07_Shaped D) := d48 D ▸ fn_ok (E := e48 D) ⟨lk_nil, hD⟩ mixed Try.func48 (by kernel_rfl) (by kernel_rfl)

def a17 : Ann := (.n none .z (.n none .z (.n none (.n none .z (.n (some []) (.n (some [.t 5 (.sc (.ki .i64))]) .z .z) .z)) .z)))

def e17 (D : HV → List HV → M HV) : Env := ⟨lk [], D, fun _ => none⟩

theorem d17 (D : HV → List HV → M HV) : fnD (e17 D) Try.prog [] a17 Try.f17 [] = f_ref07_Block D := by kernel_rfl
theorem ok17 {D : HV → List HV → M HV} (hD : DOk Try.prog noG D) : FnOk Try.prog noG 17 (f_ref07_Block D) := d17 D ▸ fn_ok (E := e17 D) ⟨lk_nil, hD⟩ mixed Try.func17 (by kernel_rfl) (by kernel_rfl)

def a62 : Ann := (.n none .z (.n none .z (.n none .z (.n none (.n none .z (.n none (.n none (.n none .z (.n (some [.t 17 (.sc .kb)]) .z .z)) (.n none .z (.n none .z (.n none .z (.n none .z (.n none .z (.n none .z (.n none .z (.n none .z (.n none .z (.n none .z (.n none .z (.n none .z (.n none .z (.n none .z (.n none .z (.n none (.n none .z (.n (some [.t 62 (.sc .kb)]) .z .z)) .z))))))))))))))))) .z)) .z))))

def e62 (D : HV → List HV → M HV) : Env := ⟨lk [], D, fun _ => none⟩

theorem d62 (D : HV → List HV → M HV) : fnD (e62 D) Try.prog [] a62 Try.f62 [] = f_ref07_limits D := by kernel_rfl
theorem ok62 {D : HV → List HV → M HV} (hD : DOk Try.prog noG D) : FnOk Try.prog noG 62 (f_ref07_limits D) := d62 D ▸ fn_ok (E := e62 D) ⟨lk_nil, hD⟩ mixed Try.func62 (by kernel_rfl) (by kernel_rfl)

def a49 : Ann := (.n none .z (.n none .z (.n none .z (.n none (.n none (.n (some [.t 82 (.sc .kb)]) .z .z) .z) (.n none .z (.n none (.n none (.n (some [.t 106 (.sc .kb)]) .z .z) .z) (.n none (.n none (.n (some [.t 114 (.sc .kb)]) .z .z) (.n (some []) (.n none (.n (some [.t 151 (.sc .kb)]) .z .z) .z) .z)) (.n none .z (.n none (.n none .z (.n (some [.t 9 (.sc (.ki .i64))]) (.n (some [.t 9 (.sc (.ki .i64)), .t 10 (.sc (.ki .i64))]) (.n none .z (.n none (.n (some [.t 9 (.sc (.ki .i64))]) (.n none (.n none (.n (some [.t 184 (.sc .kb)]) .z .z) .z) .z) .z) .z)) .z) .z)) (.n none (.n (some [.t 4 (.sc .kb)]) .z .z) .z))))))))))

def e49 (D : HV → List HV → M HV) : Env := ⟨lk [(17, f_ref07_Block D), (62, f_ref07_limits D)], D, fun _ => none⟩

theorem d49 (D : HV → List HV → M HV) : fnD (e49 D) Try.prog [] a49 Try.f49 [] = f_ref07_One D := by kernel_rfl
theorem ok49 {D : HV → List HV → M HV} (hD : DOk Try.prog noG D) : FnOk Try.prog noG 49 (f_ref07_One D) := d49 D ▸ fn_ok (E := e49 D) ⟨(lk_cons (ok17 hD) (lk_cons (ok62 hD) lk_nil)), hD⟩ mixed Try.func49 (by kernel_rfl) (by kernel_rfl)

def a30 : Ann := (.n none .z (.n none .z (.n none .z (.n none (.n none .z (.n (some []) (.n (some [.t 13 (.sc (.ki .i64))]) .z .z) .z)) .z))))

def e30 (D : HV → List HV → M HV) : Env := ⟨lk [(48, f_ref07_Shaped D), (49, f_ref07_One D)], D, fun _ => none⟩

theorem d30 (D : HV → List HV → M HV) : fnD (e30 D) Try.prog [] a30 Try.f30 [] = f_ref07_Check D := by kernel_rfl
theorem ok30 {D : HV → List HV → M HV} (hD : DOk Try.prog noG D) : FnOk Try.prog noG 30 (f_ref07_Check D) := d30 D ▸ fn_ok (E := e30 D) ⟨(lk_cons (ok48 hD) (lk_cons (ok49 hD) lk_nil)), hD⟩ mixed Try.func30 (by kernel_rfl) (by kernel_rfl)

def a15 : Ann := .z

def e15 (D : HV → List HV → M HV) : Env := ⟨lk [(30, f_ref07_Check D)], D, fun _ => none⟩

theorem d15 (D : HV → List HV → M HV) : fnD (e15 D) Try.prog [] a15 Try.f15 [] = f_ref27_Can D := by kernel_rfl
theorem ok15 {D : HV → List HV → M HV} (hD : DOk Try.prog noG D) : FnOk Try.prog noG 15 (f_ref27_Can D) := d15 D ▸ fn_ok (E := e15 D) ⟨(lk_cons (ok30 hD) lk_nil), hD⟩ mixed Try.func15 (by kernel_rfl) (by kernel_rfl)

def a3 : Ann := (.n none .z (.n none .z (.n none (.n none (.n (some [.t 33 (.sc .kb)]) .z .z) .z) (.n none .z (.n none (.n none .z (.n (some [.t 5 (.sc .kl)]) (.n (some [.t 5 (.sc .kl), .t 38 (.sc (.ki .i64))]) (.n none .z (.n none .z (.n none (.n none (.n none .z (.n none (.n none (.n (some [.t 49 (.sc .kb)]) .z .z) (.n (some [.x 7 (some [(.ki .i64), (.ki .i64), (.ki .i64), (.ki .i64)])]) .z .z)) .z)) .z) .z))) .z) .z)) (.n none .z (.n none (.n none (.n (some [.t 91 (.sc .kb)]) .z .z) .z) (.n none (.n none .z (.n (some []) (.n (some [.t 94 (.sc (.ki .i64))]) .z .z) .z)) .z))))))))

def e3 (D : HV → List HV → M HV) : Env := ⟨lk [(14, f_law27_alive D), (15, f_ref27_Can D), (16, f_bound_Most D), (17, f_ref07_Block D)], D, fun _ => none⟩

theorem d3 (D : HV → List HV → M HV) : fnD (e3 D) Try.prog [] a3 Try.f3 [] = f_law27_BoundBlocks D := by kernel_rfl
theorem ok3 {D : HV → List HV → M HV} (hD : DOk Try.prog noG D) : FnOk Try.prog noG 3 (f_law27_BoundBlocks D) := d3 D ▸ fn_ok (E := e3 D) ⟨(lk_cons (ok14 hD) (lk_cons (ok15 hD) (lk_cons (ok16 hD) (lk_cons (ok17 hD) lk_nil)))), hD⟩ mixed Try.func3 (by kernel_rfl) (by kernel_rfl)

def a43 : Ann := (.n none .z (.n none .z (.n none (.n none (.n none (.n (some [.t 10 (.sc .kb)]) .z .z) (.n none .z (.n none (.n (some [.t 19 (.sc .kb)]) .z .z) (.n none .z (.n none (.n (some [.t 31 (.sc .kb)]) .z .z) .z))))) .z) .z)))

def e43 (D : HV → List HV → M HV) : Env := ⟨lk [], D, fun _ => none⟩

theorem d43 (D : HV → List HV → M HV) : fnD (e43 D) Try.prog [30, 51, 54] a43 Try.f43 [] = f_bound_next D := by kernel_rfl
theorem ok43 {D : HV → List HV → M HV} (hD : DOk Try.prog noG D) : FnOk Try.prog noG 43 (f_bound_next D) := d43 D ▸ fn_ok (E := e43 D) ⟨lk_nil, hD⟩ mixed Try.func43 (by kernel_rfl) (by kernel_rfl)

def a18 : Ann := (.n none .z (.n none (.n none (.n (some [.t 17 (.sc .kb)]) .z .z) .z) .z))

def e18 (D : HV → List HV → M HV) : Env := ⟨lk [(41, f_bound_can D), (43, f_bound_next D)], D, fun _ => none⟩

theorem d18 (D : HV → List HV → M HV) : fnD (e18 D) Try.prog [] a18 Try.f18 [] = f_bound_Next D := by kernel_rfl
theorem ok18 {D : HV → List HV → M HV} (hD : DOk Try.prog noG D) : FnOk Try.prog noG 18 (f_bound_Next D) := d18 D ▸ fn_ok (E := e18 D) ⟨(lk_cons (ok41 hD) (lk_cons (ok43 hD) lk_nil)), hD⟩ mixed Try.func18 (by kernel_rfl) (by kernel_rfl)

def a19 : Ann := (.n none .z (.n none .z (.n none (.n none .z (.n none (.n none (.n none .z (.n (some [.t 14 (.sc .kb)]) .z .z)) (.n none .z (.n none .z (.n none (.n none (.n (some [.t 6 (.sc .kb)]) .z .z) .z) (.n none .z (.n none (.n none (.n (some [.t 6 (.sc .kb)]) .z .z) .z) .z)))))) .z)) .z)))

def e19 (D : HV → List HV → M HV) : Env := ⟨lk [], D, fun _ => none⟩

theorem d19 (D : HV → List HV → M HV) : fnD (e19 D) Try.prog [] a19 Try.f19 [] = f_ref27_Leads D := by kernel_rfl
theorem ok19 {D : HV → List HV → M HV} (hD : DOk Try.prog noG D) : FnOk Try.prog noG 19 (f_ref27_Leads D) := d19 D ▸ fn_ok (E := e19 D) ⟨lk_nil, hD⟩ mixed Try.func19 (by kernel_rfl) (by kernel_rfl)

def a4 : Ann := (.n none .z (.n none .z (.n none .z (.n none (.n none (.n (some [.t 25 (.sc .kb)]) .z .z) .z) (.n none .z (.n none (.n none .z (.n (some [.t 6 (.sc (.ki .i64))]) (.n (some [.t 6 (.sc (.ki .i64)), .t 7 (.sc (.ki .i64))]) (.n none .z (.n none (.n (some [.t 6 (.sc (.ki .i64))]) (.n none .z (.n none (.n none (.n none (.n (some [.t 50 (.sc .kb)]) .z .z) .z) .z) .z)) .z) .z)) .z) .z)) .z))))))

def e4 (D : HV → List HV → M HV) : Env := ⟨lk [(14, f_law27_alive D), (15, f_ref27_Can D), (18, f_bound_Next D), (19, f_ref27_Leads D)], D, fun _ => none⟩

theorem d4 (D : HV → List HV → M HV) : fnD (e4 D) Try.prog [] a4 Try.f4 [] = f_law27_BoundNext D := by kernel_rfl
theorem ok4 {D : HV → List HV → M HV} (hD : DOk Try.prog noG D) : FnOk Try.prog noG 4 (f_law27_BoundNext D) := d4 D ▸ fn_ok (E := e4 D) ⟨(lk_cons (ok14 hD) (lk_cons (ok15 hD) (lk_cons (ok18 hD) (lk_cons (ok19 hD) lk_nil)))), hD⟩ mixed Try.func4 (by kernel_rfl) (by kernel_rfl)

def a5 : Ann := (.n none .z (.n none .z (.n none .z (.n none .z (.n none .z (.n none (.n none .z (.n (some []) (.n (some [.t 22 (.sc (.ki .i64))]) (.n none .z (.n none .z (.n none (.n none (.n none .z (.n none (.n none (.n (some [.t 41 (.sc .kb)]) .z .z) .z) (.n none .z (.n (some []) (.n (some [.t 46 (.sc (.ki .i64))]) (.n none .z (.n none .z (.n none (.n none (.n none .z (.n none (.n (some [.t 76 (.sc .kb)]) .z .z) .z)) .z) .z))) .z) .z)))) .z) .z))) .z) .z)) .z))))))

def e5 (D : HV → List HV → M HV) : Env := ⟨lk [(14, f_law27_alive D), (15, f_ref27_Can D), (16, f_bound_Most D), (18, f_bound_Next D)], D, fun _ => none⟩

theorem d5 (D : HV → List HV → M HV) : fnD (e5 D) Try.prog [] a5 Try.f5 [] = f_law27_BoundSmall D := by kernel_rfl
theorem ok5 {D : HV → List HV → M HV} (hD : DOk Try.prog noG D) : FnOk Try.prog noG 5 (f_law27_BoundSmall D) := d5 D ▸ fn_ok (E := e5 D) ⟨(lk_cons (ok14 hD) (lk_cons (ok15 hD) (lk_cons (ok16 hD) (lk_cons (ok18 hD) lk_nil)))), hD⟩ mixed Try.func5 (by kernel_rfl) (by kernel_rfl)

def a20 : Ann := (.n none .z (.n none .z (.n none .z (.n none .z (.n none .z (.n none (.n none .z (.n (some [.t 4 (.sc (.ki .i64))]) (.n (some [.t 4 (.sc (.ki .i64)), .t 5 (.sc .kb), .t 15 (.sc (.ki .i64))]) (.n none .z (.n none .z (.n none (.n (some [.t 4 (.sc (.ki .i64)), .t 5 (.sc .kb)]) .z .z) .z))) .z) .z)) .z))))))

def e20 (D : HV → List HV → M HV) : Env := ⟨lk [(16, f_bound_Most D), (41, f_bound_can D)], D, fun _ => none⟩

theorem d20 (D : HV → List HV → M HV) : fnD (e20 D) Try.prog [] a20 Try.f20 [] = f_bound_Total D := by kernel_rfl
theorem ok20 {D : HV → List HV → M HV} (hD : DOk Try.prog noG D) : FnOk Try.prog noG 20 (f_bound_Total D) := d20 D ▸ fn_ok (E := e20 D) ⟨(lk_cons (ok16 hD) (lk_cons (ok41 hD) lk_nil)), hD⟩ mixed Try.func20 (by kernel_rfl) (by kernel_rfl)

def a21 : Ann := (.n none .z (.n none .z (.n none (.n none .z (.n (some [.x 3 none]) (.n (some [.t 10 (.sc (.ki .i64)), .x 3 none]) (.n none .z (.n none .z (.n none (.n none (.n none .z (.n (some [.x 3 none]) (.n (some [.t 14 (.sc (.ki .i64)), .x 3 none]) (.n none .z (.n none .z (.n none (.n (some [.x 3 none]) (.n none .z (.n none .z (.n none (.n none (.n none .z (.n (some [.t 28 (.sc .kb)]) .z .z)) (.n none .z (.n none .z (.n none (.n none .z (.n none (.n none (.n (some [.t 50 (.sc .kb)]) .z .z) (.n (some [.t 6 (.sc (.ki .i64))]) .z .z)) .z)) .z)))) .z))) .z) .z))) .z) .z)) .z) .z))) .z) .z)) .z)))

def e21 (D : HV → List HV → M HV) : Env := ⟨lk [], D, fun _ => none⟩

theorem d21 (D : HV → List HV → M HV) : fnD (e21 D) Try.prog [] a21 Try.f21 [] = f_ref27_Most D := by kernel_rfl
theorem ok21 {D : HV → List HV → M HV} (hD : DOk Try.prog noG D) : FnOk Try.prog noG 21 (f_ref27_Most D) := d21 D ▸ fn_ok (E := e21 D) ⟨lk_nil, hD⟩ mixed Try.func21 (by kernel_rfl) (by kernel_rfl)

def a22 : Ann := (.n none .z (.n none .z (.n none .z (.n none (.n none .z (.n (some [.t 4 (.sc (.ki .i64))]) (.n (some [.t 4 (.sc (.ki .i64)), .t 11 (.sc (.ki .i64))]) (.n none .z (.n none .z (.n none (.n (some [.t 4 (.sc (.ki .i64))]) .z .z) .z))) .z) .z)) .z))))

def e22 (D : HV → List HV → M HV) : Env := ⟨lk [(17, f_ref07_Block D), (21, f_ref27_Most D)], D, fun _ => none⟩

theorem d22 (D : HV → List HV → M HV) : fnD (e22 D) Try.prog [] a22 Try.f22 [] = f_ref27_Total D := by kernel_rfl
theorem ok22 {D : HV → List HV → M HV} (hD : DOk Try.prog noG D) : FnOk Try.prog noG 22 (f_ref27_Total D) := d22 D ▸ fn_ok (E := e22 D) ⟨(lk_cons (ok17 hD) (lk_cons (ok21 hD) lk_nil)), hD⟩ mixed Try.func22 (by kernel_rfl) (by kernel_rfl)

def a6 : Ann := (.n none .z (.n none .z (.n none .z (.n none (.n none .z (.n none (.n none (.n (some [.t 2 (.sc .kb)]) .z .z) .z) .z)) (.n none .z (.n none (.n none (.n (some [.t 36 (.sc .kb)]) .z .z) .z) (.n none (.n none .z (.n (some []) (.n (some [.t 39 (.sc (.ki .i64))]) .z .z) .z)) .z)))))))

def e6 (D : HV → List HV → M HV) : Env := ⟨lk [(14, f_law27_alive D), (15, f_ref27_Can D), (16, f_bound_Most D), (20, f_bound_Total D), (21, f_ref27_Most D), (22, f_ref27_Total D)], D, fun _ => none⟩

theorem d6 (D : HV → List HV → M HV) : fnD (e6 D) Try.prog [] a6 Try.f6 [] = f_law27_BoundMost D := by kernel_rfl
theorem ok6 {D : HV → List HV → M HV} (hD : DOk Try.prog noG D) : FnOk Try.prog noG 6 (f_law27_BoundMost D) := d6 D ▸ fn_ok (E := e6 D) ⟨(lk_cons (ok14 hD) (lk_cons (ok15 hD) (lk_cons (ok16 hD) (lk_cons (ok20 hD) (lk_cons (ok21 hD) (lk_cons (ok22 hD) lk_nil)))))), hD⟩ mixed Try.func6 (by kernel_rfl) (by kernel_rfl)

end Go.Proofs.Ytolchnaegifckaa.HL
