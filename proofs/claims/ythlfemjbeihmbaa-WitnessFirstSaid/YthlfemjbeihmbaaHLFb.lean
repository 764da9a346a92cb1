/- The program's functions are as these texts. Conditions: what is called as a value is told (DOk). -/
import Derived.Test.YthlfemjbeihmbaaHLFa
import Derived.Test.YthlfemjbeihmbaaChecked
import Derived.KernelRfl
namespace Go.Proofs.Ythlfemjbeihmbaa.HL
open Go Go.Proofs
set_option maxRecDepth 100000
abbrev noG : Nat → Option Nat := fun _ => none
theorem mixed : Try.prog.follows .mixedOrders = true := by kernel_rfl

theorem d29 (D : HV → List HV → M HV) : fnD (e29 D) Try.prog [] a29 Try.f29 [] = s29 D := by kernel_rfl
theorem ok29 {D : HV → List HV → M HV} (hD : DOk Try.prog noG D) : FnOk Try.prog noG 29 (s29 D) := d29 D ▸ fn_ok (E := e29 D) ⟨lk_nil, hD⟩ mixed Try.func29 (by kernel_rfl) (by kernel_rfl)

theorem d27 (D : HV → List HV → M HV) : fnD (e27 D) Try.prog [] a27 Try.f27 [] = s27 D := by kernel_rfl
theorem ok27 {D : HV → List HV → M HV} (hD : DOk Try.prog noG D) : FnOk Try.prog noG 27 (s27 D) := d27 D ▸ fn_ok (E := e27 D) ⟨(lk_cons (ok29 hD) lk_nil), hD⟩ mixed Try.func27 (by kernel_rfl) (by kernel_rfl)

theorem d32 (D : HV → List HV → M HV) : fnD (e32 D) Try.prog [] a32 Try.f32 [] = s32 D := by kernel_rfl
theorem ok32 {D : HV → List HV → M HV} (hD : DOk Try.prog noG D) : FnOk Try.prog noG 32 (s32 D) := d32 D ▸ fn_ok (E := e32 D) ⟨lk_nil, hD⟩ mixed Try.func32 (by kernel_rfl) (by kernel_rfl)

theorem d31 (D : HV → List HV → M HV) : fnD (e31 D) Try.prog [] a31 Try.f31 [] = s31 D := by kernel_rfl
theorem ok31 {D : HV → List HV → M HV} (hD : DOk Try.prog noG D) : FnOk Try.prog noG 31 (s31 D) := d31 D ▸ fn_ok (E := e31 D) ⟨(lk_cons (ok32 hD) lk_nil), hD⟩ mixed Try.func31 (by kernel_rfl) (by kernel_rfl)

theorem d28 (D : HV → List HV → M HV) : fnD (e28 D) Try.prog [] a28 Try.f28 [] = s28 D := by kernel_rfl
theorem ok28 {D : HV → List HV → M HV} (hD : DOk Try.prog noG D) : FnOk Try.prog noG 28 (s28 D) := d28 D ▸ fn_ok (E := e28 D) ⟨(lk_cons (ok31 hD) lk_nil), hD⟩ mixed Try.func28 (by kernel_rfl) (by kernel_rfl)

theorem d16 (D : HV → List HV → M HV) : fnD (e16 D) Try.prog [] a16 Try.f16 [] = s16 D := by kernel_rfl
theorem ok16 {D : HV → List HV → M HV} (hD : DOk Try.prog noG D) : FnOk Try.prog noG 16 (s16 D) := d16 D ▸ fn_ok (E := e16 D) ⟨(lk_cons (ok27 hD) (lk_cons (ok28 hD) lk_nil)), hD⟩ mixed Try.func16 (by kernel_rfl) (by kernel_rfl)

theorem d17 (D : HV → List HV → M HV) : fnD (e17 D) Try.prog [] a17 Try.f17 [] = s17 D := by kernel_rfl
theorem ok17 {D : HV → List HV → M HV} (hD : DOk Try.prog noG D) : FnOk Try.prog noG 17 (s17 D) := d17 D ▸ fn_ok (E := e17 D) ⟨(lk_cons (ok29 hD) lk_nil), hD⟩ mixed Try.func17 (by kernel_rfl) (by kernel_rfl)

theorem d30 (D : HV → List HV → M HV) : fnD (e30 D) Try.prog [] a30 Try.f30 [] = s30 D := by kernel_rfl
theorem ok30 {D : HV → List HV → M HV} (hD : DOk Try.prog noG D) : FnOk Try.prog noG 30 (s30 D) := d30 D ▸ fn_ok (E := e30 D) ⟨lk_nil, hD⟩ mixed Try.func30 (by kernel_rfl) (by kernel_rfl)

theorem d18 (D : HV → List HV → M HV) : fnD (e18 D) Try.prog [] a18 Try.f18 [] = s18 D := by kernel_rfl
theorem ok18 {D : HV → List HV → M HV} (hD : DOk Try.prog noG D) : FnOk Try.prog noG 18 (s18 D) := d18 D ▸ fn_ok (E := e18 D) ⟨(lk_cons (ok30 hD) lk_nil), hD⟩ mixed Try.func18 (by kernel_rfl) (by kernel_rfl)

theorem d10 (D : HV → List HV → M HV) : fnD (e10 D) Try.prog [] a10 Try.f10 [] = s10 D := by kernel_rfl
theorem ok10 {D : HV → List HV → M HV} (hD : DOk Try.prog noG D) : FnOk Try.prog noG 10 (s10 D) := d10 D ▸ fn_ok (E := e10 D) ⟨(lk_cons (ok16 hD) (lk_cons (ok17 hD) (lk_cons (ok18 hD) lk_nil))), hD⟩ mixed Try.func10 (by kernel_rfl) (by kernel_rfl)

theorem d26 (D : HV → List HV → M HV) : fnD (e26 D) Try.prog [] a26 Try.f26 [] = s26 D := by kernel_rfl
theorem ok26 {D : HV → List HV → M HV} (hD : DOk Try.prog noG D) : FnOk Try.prog noG 26 (s26 D) := d26 D ▸ fn_ok (E := e26 D) ⟨lk_nil, hD⟩ mixed Try.func26 (by kernel_rfl) (by kernel_rfl)

theorem d15 (D : HV → List HV → M HV) : fnD (e15 D) Try.prog [5] a15 Try.f15 [] = s15 D := by kernel_rfl
theorem ok15 {D : HV → List HV → M HV} (hD : DOk Try.prog noG D) : FnOk Try.prog noG 15 (s15 D) := d15 D ▸ fn_ok (E := e15 D) ⟨(lk_cons (ok16 hD) (lk_cons (ok26 hD) lk_nil)), hD⟩ mixed Try.func15 (by kernel_rfl) (by kernel_rfl)

theorem d8 (D : HV → List HV → M HV) : fnD (e8 D) Try.prog [8, 11, 15, 17] a8 Try.f8 [] = s8 D := by kernel_rfl
theorem ok8 {D : HV → List HV → M HV} (hD : DOk Try.prog noG D) : FnOk Try.prog noG 8 (s8 D) := d8 D ▸ fn_ok (E := e8 D) ⟨(lk_cons (ok10 hD) (lk_cons (ok15 hD) lk_nil)), hD⟩ mixed Try.func8 (by kernel_rfl) (by kernel_rfl)

theorem d9 (D : HV → List HV → M HV) : fnD (e9 D) Try.prog [] a9 Try.f9 [] = s9 D := by kernel_rfl
theorem ok9 {D : HV → List HV → M HV} (hD : DOk Try.prog noG D) : FnOk Try.prog noG 9 (s9 D) := d9 D ▸ fn_ok (E := e9 D) ⟨lk_nil, hD⟩ mixed Try.func9 (by kernel_rfl) (by kernel_rfl)

theorem d20 (D : HV → List HV → M HV) : fnD (e20 D) Try.prog [] a20 Try.f20 [] = s20 D := by kernel_rfl
theorem ok20 {D : HV → List HV → M HV} (hD : DOk Try.prog noG D) : FnOk Try.prog noG 20 (s20 D) := d20 D ▸ fn_ok (E := e20 D) ⟨lk_nil, hD⟩ mixed Try.func20 (by kernel_rfl) (by kernel_rfl)

theorem d11 (D : HV → List HV → M HV) : fnD (e11 D) Try.prog [] a11 Try.f11 [] = s11 D := by kernel_rfl
theorem ok11 {D : HV → List HV → M HV} (hD : DOk Try.prog noG D) : FnOk Try.prog noG 11 (s11 D) := d11 D ▸ fn_ok (E := e11 D) ⟨(lk_cons (ok20 hD) lk_nil), hD⟩ mixed Try.func11 (by kernel_rfl) (by kernel_rfl)

theorem d21 (D : HV → List HV → M HV) : fnD (e21 D) Try.prog [] a21 Try.f21 [] = s21 D := by kernel_rfl
theorem ok21 {D : HV → List HV → M HV} (hD : DOk Try.prog noG D) : FnOk Try.prog noG 21 (s21 D) := d21 D ▸ fn_ok (E := e21 D) ⟨lk_nil, hD⟩ mixed Try.func21 (by kernel_rfl) (by kernel_rfl)

theorem d22 (D : HV → List HV → M HV) : fnD (e22 D) Try.prog [] a22 Try.f22 [] = s22 D := by kernel_rfl
theorem ok22 {D : HV → List HV → M HV} (hD : DOk Try.prog noG D) : FnOk Try.prog noG 22 (s22 D) := d22 D ▸ fn_ok (E := e22 D) ⟨lk_nil, hD⟩ mixed Try.func22 (by kernel_rfl) (by kernel_rfl)

theorem d12 (D : HV → List HV → M HV) : fnD (e12 D) Try.prog [] a12 Try.f12 [] = s12 D := by kernel_rfl
theorem ok12 {D : HV → List HV → M HV} (hD : DOk Try.prog noG D) : FnOk Try.prog noG 12 (s12 D) := d12 D ▸ fn_ok (E := e12 D) ⟨(lk_cons (ok21 hD) (lk_cons (ok22 hD) lk_nil)), hD⟩ mixed Try.func12 (by kernel_rfl) (by kernel_rfl)

theorem d23 (D : HV → List HV → M HV) : fnD (e23 D) Try.prog [] a23 Try.f23 [] = s23 D := by kernel_rfl
theorem ok23 {D : HV → List HV → M HV} (hD : DOk Try.prog noG D) : FnOk Try.prog noG 23 (s23 D) := d23 D ▸ fn_ok (E := e23 D) ⟨lk_nil, hD⟩ mixed Try.func23 (by kernel_rfl) (by kernel_rfl)

theorem d24 (D : HV → List HV → M HV) : fnD (e24 D) Try.prog [] a24 Try.f24 [] = s24 D := by kernel_rfl
theorem ok24 {D : HV → List HV → M HV} (hD : DOk Try.prog noG D) : FnOk Try.prog noG 24 (s24 D) := d24 D ▸ fn_ok (E := e24 D) ⟨lk_nil, hD⟩ mixed Try.func24 (by kernel_rfl) (by kernel_rfl)

theorem d25 (D : HV → List HV → M HV) : fnD (e25 D) Try.prog [] a25 Try.f25 [] = s25 D := by kernel_rfl
theorem ok25 {D : HV → List HV → M HV} (hD : DOk Try.prog noG D) : FnOk Try.prog noG 25 (s25 D) := d25 D ▸ fn_ok (E := e25 D) ⟨lk_nil, hD⟩ mixed Try.func25 (by kernel_rfl) (by kernel_rfl)

theorem d13 (D : HV → List HV → M HV) : fnD (e13 D) Try.prog [] a13 Try.f13 [] = s13 D := by kernel_rfl
theorem ok13 {D : HV → List HV → M HV} (hD : DOk Try.prog noG D) : FnOk Try.prog noG 13 (s13 D) := d13 D ▸ fn_ok (E := e13 D) ⟨(lk_cons (ok23 hD) (lk_cons (ok24 hD) (lk_cons (ok25 hD) lk_nil))), hD⟩ mixed Try.func13 (by kernel_rfl) (by kernel_rfl)

theorem d3 (D : HV → List HV → M HV) : fnD (e3 D) Try.prog [] a3 Try.f3 [] = s3 D := by kernel_rfl
theorem ok3 {D : HV → List HV → M HV} (hD : DOk Try.prog noG D) : FnOk Try.prog noG 3 (s3 D) := d3 D ▸ fn_ok (E := e3 D) ⟨(lk_cons (ok8 hD) (lk_cons (ok9 hD) (lk_cons (ok10 hD) (lk_cons (ok11 hD) (lk_cons (ok12 hD) (lk_cons (ok13 hD) lk_nil)))))), hD⟩ mixed Try.func3 (by kernel_rfl) (by kernel_rfl)

theorem d14 (D : HV → List HV → M HV) : fnD (e14 D) Try.prog [] a14 Try.f14 [] = s14 D := by kernel_rfl
theorem ok14 {D : HV → List HV → M HV} (hD : DOk Try.prog noG D) : FnOk Try.prog noG 14 (s14 D) := d14 D ▸ fn_ok (E := e14 D) ⟨(lk_cons (ok23 hD) (lk_cons (ok25 hD) lk_nil)), hD⟩ mixed Try.func14 (by kernel_rfl) (by kernel_rfl)

theorem d4 (D : HV → List HV → M HV) : fnD (e4 D) Try.prog [] a4 Try.f4 [] = s4 D := by kernel_rfl
theorem ok4 {D : HV → List HV → M HV} (hD : DOk Try.prog noG D) : FnOk Try.prog noG 4 (s4 D) := d4 D ▸ fn_ok (E := e4 D) ⟨(lk_cons (ok8 hD) (lk_cons (ok9 hD) (lk_cons (ok11 hD) (lk_cons (ok12 hD) (lk_cons (ok14 hD) (lk_cons (ok15 hD) lk_nil)))))), hD⟩ mixed Try.func4 (by kernel_rfl) (by kernel_rfl)

theorem d5 (D : HV → List HV → M HV) : fnD (e5 D) Try.prog [] a5 Try.f5 [] = s5 D := by kernel_rfl
theorem ok5 {D : HV → List HV → M HV} (hD : DOk Try.prog noG D) : FnOk Try.prog noG 5 (s5 D) := d5 D ▸ fn_ok (E := e5 D) ⟨(lk_cons (ok8 hD) (lk_cons (ok9 hD) (lk_cons (ok10 hD) (lk_cons (ok11 hD) (lk_cons (ok12 hD) (lk_cons (ok14 hD) (lk_cons (ok15 hD) lk_nil))))))), hD⟩ mixed Try.func5 (by kernel_rfl) (by kernel_rfl)

theorem d6 (D : HV → List HV → M HV) : fnD (e6 D) Try.prog [] a6 Try.f6 [] = s6 D := by kernel_rfl
theorem ok6 {D : HV → List HV → M HV} (hD : DOk Try.prog noG D) : FnOk Try.prog noG 6 (s6 D) := d6 D ▸ fn_ok (E := e6 D) ⟨(lk_cons (ok8 hD) (lk_cons (ok9 hD) (lk_cons (ok10 hD) (lk_cons (ok11 hD) (lk_cons (ok12 hD) (lk_cons (ok14 hD) lk_nil)))))), hD⟩ mixed Try.func6 (by kernel_rfl) (by kernel_rfl)

theorem d7 (D : HV → List HV → M HV) : fnD (e7 D) Try.prog [] a7 Try.f7 [] = s7 D := by kernel_rfl
theorem ok7 {D : HV → List HV → M HV} (hD : DOk Try.prog noG D) : FnOk Try.prog noG 7 (s7 D) := d7 D ▸ fn_ok (E := e7 D) ⟨(lk_cons (ok8 hD) (lk_cons (ok10 hD) (lk_cons (ok15 hD) lk_nil))), hD⟩ mixed Try.func7 (by kernel_rfl) (by kernel_rfl)

theorem d19 (D : HV → List HV → M HV) : fnD (e19 D) Try.prog [] a19 Try.f19 [] = s19 D := by kernel_rfl
theorem ok19 {D : HV → List HV → M HV} (hD : DOk Try.prog noG D) : FnOk Try.prog noG 19 (s19 D) := d19 D ▸ fn_ok (E := e19 D) ⟨(lk_cons (ok17 hD) lk_nil), hD⟩ mixed Try.func19 (by kernel_rfl) (by kernel_rfl)

end Go.Proofs.Ythlfemjbeihmbaa.HL
