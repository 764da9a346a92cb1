/- What bound's functions compute: Next, Total; and the document's Leads. Conditions: none (lemmas). -/
import Derived.Test.YtijppadieomnjaaHLCf
import Derived.Test.YtijppadieomnjaaHLDa
namespace Go.Proofs.Ytijppadieomnjaa.HL
open Go

/-- the places next to an instruction. -/
def nextL (x : Ins) (i : Nat) : List Int :=
  if x.op = 0 ∨ x.op = 19 then [] else if x.op = 3 ∧ x.c = 2 then [x.a] else if (x.op = 3 ∨ x.op = 20) ∧ x.a > (i : Int) + 1 then [(i : Int) + 1, x.a] else [(i : Int) + 1]
/-- is a place next to another one? -/
def leads (x : Ins) (i : Nat) (to : Int) : Prop :=
  if x.op = 0 ∨ x.op = 19 then False else if x.op = 3 then to = x.a ∨ x.c < 2 ∧ to = (i : Int) + 1 else if x.op = 20 then to = x.a ∨ to = (i : Int) + 1 else to = (i : Int) + 1
theorem ref27_Leads_wp {D : HV → List HV → M HV} {H : Heap} {Q : HV → Heap → Prop} {s : Sl} {p : List Ins} (hs : RProg H s p) (hn : p.length ≤ 1000) {i : Nat} (hi : i < p.length) {to : Int}
    (h : ∀ z : Bool, (z = true ↔ leads p[i] i to) → Q (.bool z) H) : wp (f_ref27_Leads D [.sl s, I i, I to]) Q H := by
  unfold f_ref27_Leads
  with_reducible repeat' (first | refine wp_finF ?_ | refine wp_uA ?_ | refine wp_uI ?_ | refine wp_uB ?_ | refine wp_uL ?_ | refine wp_uS ?_ | refine wp_uP ?_ | refine wp_uc ?_ | refine wp_nl ?_ | refine wp_asB ?_ | refine wp_asI ?_ | refine wp_asSl ?_ | refine wp_asT ?_ | refine wp_asA ?_ | refine wp_asS ?_ | refine wp_asP ?_ | refine wp_nN ?_ | refine wp_rN ?_ | refine wp_xN ?_ | refine wp_nB ?_ | refine wp_rB ?_ | refine wp_xB rfl ?_ | refine wp_xB' rfl ?_ | refine wp_bB ?_ | refine wp_rX ?_ | refine wp_xX ?_ | refine wp_rE ?_ | refine wp_xE ?_ | refine wp_rR ?_ | refine wp_xR ?_ | refine wp_r0 ?_ | refine wp_x0 ?_ | refine wp_rF ?_ | refine wp_rF0 ?_ | refine wp_rF2 ?_ | refine wp_rF3 ?_ | refine wp_rF4 ?_ | refine wp_condT ?_ | refine wp_condF ?_ | refine wp_condNT ?_ | refine wp_condNF ?_)
  refine wp_at hs hi fun _ _ => ?_
  have h1 : wr ((i : Int) + 1) = (i : Int) + 1 := wr_small (by omega) (by omega)
  with_reducible repeat' (first | refine wp_finF ?_ | refine wp_uA ?_ | refine wp_uI ?_ | refine wp_uB ?_ | refine wp_uL ?_ | refine wp_uS ?_ | refine wp_uP ?_ | refine wp_uc ?_ | refine wp_nl ?_ | refine wp_asB ?_ | refine wp_asI ?_ | refine wp_asSl ?_ | refine wp_asT ?_ | refine wp_asA ?_ | refine wp_asS ?_ | refine wp_asP ?_ | refine wp_nN ?_ | refine wp_rN ?_ | refine wp_xN ?_ | refine wp_nB ?_ | refine wp_rB ?_ | refine wp_xB rfl ?_ | refine wp_xB' rfl ?_ | refine wp_bB ?_ | refine wp_rX ?_ | refine wp_xX ?_ | refine wp_rE ?_ | refine wp_xE ?_ | refine wp_rR ?_ | refine wp_xR ?_ | refine wp_r0 ?_ | refine wp_x0 ?_ | refine wp_rF ?_ | refine wp_rF0 ?_ | refine wp_rF2 ?_ | refine wp_rF3 ?_ | refine wp_rF4 ?_ | refine wp_condT ?_ | refine wp_condF ?_ | refine wp_condNT ?_ | refine wp_condNF ?_)
  rw [h1]
  with_reducible repeat' (first | refine wp_finF ?_ | refine wp_uA ?_ | refine wp_uI ?_ | refine wp_uB ?_ | refine wp_uL ?_ | refine wp_uS ?_ | refine wp_uP ?_ | refine wp_uc ?_ | refine wp_nl ?_ | refine wp_asB ?_ | refine wp_asI ?_ | refine wp_asSl ?_ | refine wp_asT ?_ | refine wp_asA ?_ | refine wp_asS ?_ | refine wp_asP ?_ | refine wp_jn ?_ | refine wp_nN ?_ | refine wp_rN ?_ | refine wp_xN ?_ | refine wp_nB ?_ | refine wp_rB ?_ | refine wp_xB rfl ?_ | refine wp_xB' rfl ?_ | refine wp_bB ?_ | refine wp_rX ?_ | refine wp_xX ?_ | refine wp_rE ?_ | refine wp_xE ?_ | refine wp_rR ?_ | refine wp_xR ?_ | refine wp_r0 ?_ | refine wp_x0 ?_ | refine wp_rF ?_ | refine wp_rF0 ?_ | refine wp_rF2 ?_ | refine wp_rF3 ?_ | refine wp_rF4 ?_ | refine wp_condT ?_ | refine wp_condF ?_ | refine wp_condNT ?_ | refine wp_condNF ?_ | refine wp_condD (fun _ => ?_) (fun _ => ?_) | refine wp_condE (fun _ => ?_) (fun _ => ?_) | refine wp_condNE (fun _ => ?_) (fun _ => ?_) | refine wp_condN (fun _ => ?_) (fun _ => ?_) | refine wp_cond (fun _ => ?_) (fun _ => ?_))
  all_goals
    refine h _ ?_
    clear h
    unfold leads
    grind
/-- the places that are named are those that are led to. -/
theorem mem_nextL {x : Ins} {i : Nat} {to : Int} (hc : x.op = 3 → 0 ≤ x.c ∧ x.c ≤ 2) (ha : x.op = 3 ∨ x.op = 20 → (i : Int) < x.a) : to ∈ nextL x i ↔ leads x i to := by
  unfold nextL leads
  by_cases h1 : x.op = 0 ∨ x.op = 19
  · simp [h1]
  rw [if_neg h1, if_neg h1]
  by_cases h3 : x.op = 3
  · have := hc h3
    have := ha (.inl h3)
    rw [if_pos h3]
    by_cases h2 : x.c = 2
    · simp [h3, h2]
    · rw [if_neg (fun hh => h2 hh.2)]
      by_cases h4 : x.a > (i : Int) + 1
      · rw [if_pos ⟨.inl h3, h4⟩]; simp; omega
      · rw [if_neg (fun hh => h4 hh.2)]; simp; omega
  · rw [if_neg h3, if_neg (fun hh => h3 hh.1)]
    by_cases h20 : x.op = 20
    · have := ha (.inr h20)
      rw [if_pos h20]
      by_cases h4 : x.a > (i : Int) + 1
      · rw [if_pos ⟨.inr h20, h4⟩]; simp; omega
      · rw [if_neg (fun hh => h4 hh.2)]; simp; omega
    · rw [if_neg h20, if_neg (fun hh => by omega)]; simp

end Go.Proofs.Ytijppadieomnjaa.HL
