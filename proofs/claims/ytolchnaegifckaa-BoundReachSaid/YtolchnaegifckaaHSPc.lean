/- Things as bits; what one instruction adds to a scope. Conditions: numbers are in their ranges (lemmas). -/
import Derived.Test.YtolchnaegifckaaHSFo
import Derived.Test.YtolchnaegifckaaHSDe
import Derived.Test.YtolchnaegifckaaHSCe
namespace Go.Proofs.Ytolchnaegifckaa.HS
open Go

abbrev U8 (b : BitVec 8) : HV := .int .u8 (b.toNat : Int)
def bitOf (i : Nat) : BitVec 8 := BitVec.ofNat 8 (2 ^ i)
theorem bit_self {i : Nat} (hi : i < 8) (j : Nat) (hj : j < 8) : (bitOf i).getLsbD j = decide (j = i) := by
  have : ∀ i : Fin 8, ∀ j : Fin 8, (bitOf i).getLsbD j = decide ((j : Nat) = i) := by decide
  exact this ⟨i, hi⟩ ⟨j, hj⟩
/-- a scope: of each kind the bits read, and written; sockets; tallies; may it be sure, may it wait. -/
structure Sco where
  r : Nat → BitVec 8
  w : Nat → BitVec 8
  s : Nat → Bool
  t : Nat → Bool
  su : Bool
  wa : Bool
def Sco.cells (S : Sco) : List HV := [U8 (S.r 0), U8 (S.r 1), U8 (S.r 2), U8 (S.w 0), U8 (S.w 1), U8 (S.w 2), .bool (S.s 0), .bool (S.s 1), .bool (S.s 2), .bool (S.t 0), .bool (S.t 1), .bool (S.t 2), .bool (S.t 3), .bool S.su, .bool S.wa]
def Sco.zero : Sco := ⟨fun _ => 0, fun _ => 0, fun _ => false, fun _ => false, false, false⟩
def addB (f : Nat → BitVec 8) (k i : Nat) : Nat → BitVec 8 := fun j => if j = k then f k ||| bitOf i else f j
def setT (f : Nat → Bool) (k : Nat) : Nat → Bool := fun j => if j = k then true else f j
def Sco.read (S : Sco) (k i : Nat) : Sco := { S with r := addB S.r k i }
def Sco.write (S : Sco) (k i : Nat) : Sco := { S with w := addB S.w k i }
def Sco.both (S : Sco) (k i : Nat) : Sco := (S.read k i).write k i
def takeR (c : Ins) (S : Sco) : Sco :=
  if c.op = 6 then S.read 0 c.b.toNat else if c.op = 7 then S.write 0 c.a.toNat else if c.op = 8 then S.read 1 c.b.toNat
  else if c.op = 9 ∨ c.op = 13 ∨ c.op = 10 ∨ c.op = 11 then S.both 1 c.a.toNat
  else if c.op = 12 then (S.both 1 c.a.toNat).both 1 c.b.toNat
  else if c.op = 14 then { S.both 2 c.b.toNat with wa := true }
  else if c.op = 19 then { S with wa := true }
  else if c.op = 15 ∨ c.op = 16 then { S with s := setT S.s c.a.toNat }
  else if c.op = 18 then { S with t := setT S.t c.a.toNat }
  else if c.op = 21 then { S with su := true } else S

section
variable {α : Type} {Q : α → Heap → Prop} {H : Heap}
theorem wp_gxg {cs : List HV} {e : Nat} {v : HV} {f : HV → M α} (h : cs[e]? = some v) (hf : wp (f v) Q H) : wp (gx cs e f) Q H := by
  unfold gx; rw [h]; exact hf
end
/-- the numbers that an instruction names are of things that there are. -/
structure Rng (c : Ins) : Prop where
  h6 : c.op = 6 → 0 ≤ c.b ∧ c.b < 8
  h7 : c.op = 7 → 0 ≤ c.a ∧ c.a < 8
  h8 : c.op = 8 → 0 ≤ c.b ∧ c.b < 8
  h9 : c.op = 9 ∨ c.op = 10 ∨ c.op = 11 ∨ c.op = 13 → 0 ≤ c.a ∧ c.a < 8
  h12 : c.op = 12 → 0 ≤ c.a ∧ c.a < 8 ∧ 0 ≤ c.b ∧ c.b < 8
  h14 : c.op = 14 → 0 ≤ c.b ∧ c.b < 8
  h15 : c.op = 15 ∨ c.op = 16 → 0 ≤ c.a ∧ c.a < 3
  h18 : c.op = 18 → 0 ≤ c.a ∧ c.a < 4
end Go.Proofs.Ytolchnaegifckaa.HS
namespace Go.Proofs.Ytolchnaegifckaa.HS
open Go

/-- does an instruction read a thing? -/
def rdP (c : Ins) (k i : Nat) : Prop :=
  (c.op = 6 ∧ k = 0 ∧ (i : Int) = c.b) ∨ (c.op = 8 ∧ k = 1 ∧ (i : Int) = c.b) ∨ ((c.op = 9 ∨ c.op = 10 ∨ c.op = 11 ∨ c.op = 13) ∧ k = 1 ∧ (i : Int) = c.a) ∨
  (c.op = 12 ∧ k = 1 ∧ ((i : Int) = c.a ∨ (i : Int) = c.b)) ∨ (c.op = 14 ∧ k = 2 ∧ (i : Int) = c.b)
def wrP (c : Ins) (k i : Nat) : Prop := (c.op = 7 ∧ k = 0 ∧ (i : Int) = c.a) ∨ (c.op ≠ 6 ∧ c.op ≠ 8 ∧ rdP c k i)
def seP (c : Ins) (i : Nat) : Prop := (c.op = 15 ∨ c.op = 16) ∧ c.a = i
def taP (c : Ins) (i : Nat) : Prop := c.op = 18 ∧ c.a = i
/-- one of the instructions below j to which a way leads from a place. -/
def Ex (p : List Ins) (a j : Nat) (P : Ins → Prop) : Prop := ∃ n, ∃ hn : n < p.length, n < j ∧ Rch p a n ∧ P p[n]
theorem ex_skip {p : List Ins} {a j : Nat} {P : Ins → Prop} (h : ¬ Rch p a j) : Ex p a (j + 1) P ↔ Ex p a j P := by
  constructor
  · rintro ⟨n, hn, h1, h2, h3⟩
    refine ⟨n, hn, ?_, h2, h3⟩
    by_cases e : n = j
    · subst e; exact absurd h2 h
    · omega
  · rintro ⟨n, hn, h1, h2, h3⟩
    exact ⟨n, hn, by omega, h2, h3⟩
theorem ex_step {p : List Ins} {a j : Nat} {P : Ins → Prop} (hj : j < p.length) (h : Rch p a j) : Ex p a (j + 1) P ↔ Ex p a j P ∨ P p[j] := by
  constructor
  · rintro ⟨n, hn, h1, h2, h3⟩
    by_cases e : n = j
    · subst e; exact .inr h3
    · exact .inl ⟨n, hn, by omega, h2, h3⟩
  · rintro (⟨n, hn, h1, h2, h3⟩ | h3)
    · exact ⟨n, hn, by omega, h2, h3⟩
    · exact ⟨j, hj, by omega, h, h3⟩
/-- what a scope tells of all below j. -/
structure ScoI (p : List Ins) (a j : Nat) (S : Sco) : Prop where
  r : ∀ k, k < 3 → ∀ i, i < 8 → ((S.r k).getLsbD i = true ↔ Ex p a j (rdP · k i))
  w : ∀ k, k < 3 → ∀ i, i < 8 → ((S.w k).getLsbD i = true ↔ Ex p a j (wrP · k i))
  s : ∀ i, i < 3 → (S.s i = true ↔ Ex p a j (seP · i))
  t : ∀ i, i < 4 → (S.t i = true ↔ Ex p a j (taP · i))
  su : S.su = true ↔ Ex p a j (fun c => c.op = 21)
  wa : S.wa = true ↔ Ex p a j (fun c => c.op = 14 ∨ c.op = 19)
theorem ScoI.skip {p : List Ins} {a j : Nat} {S : Sco} (h : ScoI p a j S) (hn : ¬ Rch p a j) : ScoI p a (j + 1) S :=
  ⟨fun k hk i hi => by rw [h.r k hk i hi, ex_skip hn], fun k hk i hi => by rw [h.w k hk i hi, ex_skip hn], fun i hi => by rw [h.s i hi, ex_skip hn], fun i hi => by rw [h.t i hi, ex_skip hn], by rw [h.su, ex_skip hn], by rw [h.wa, ex_skip hn]⟩
theorem addB_bit {f : Nat → BitVec 8} {k i : Nat} (hi : i < 8) {k' i' : Nat} (hi' : i' < 8) : (addB f k i k').getLsbD i' = true ↔ (f k').getLsbD i' = true ∨ (k' = k ∧ i' = i) := by
  unfold addB
  by_cases e : k' = k
  · subst e
    rw [if_pos rfl, BitVec.getLsbD_or, bit_self hi i' hi']
    simp
  · rw [if_neg e]; simp [e]
/-- what one instruction adds. -/
theorem takeR_r {c : Ins} (hr : Rng c) (S : Sco) {k i : Nat} (hi : i < 8) : ((takeR c S).r k).getLsbD i = true ↔ (S.r k).getLsbD i = true ∨ rdP c k i := by
  have nat : ∀ {x : Int}, 0 ≤ x ∧ x < 8 → x.toNat < 8 ∧ ∀ j : Nat, (j = x.toNat ↔ (j : Int) = x) := fun {x} hx => ⟨by omega, fun j => by omega⟩
  unfold takeR rdP
  by_cases e : c.op = 6
  · obtain ⟨n1, n2⟩ := nat (hr.h6 e)
    rw [if_pos e]; simp only [Sco.read]; rw [addB_bit n1 hi, n2]; simp [e]
  rw [if_neg e]
  by_cases e7 : c.op = 7
  · rw [if_pos e7]; simp [Sco.write, e7]
  rw [if_neg e7]
  by_cases e8 : c.op = 8
  · obtain ⟨n1, n2⟩ := nat (hr.h8 e8)
    rw [if_pos e8]; simp only [Sco.read]; rw [addB_bit n1 hi, n2]; simp [e8]
  rw [if_neg e8]
  by_cases e9 : c.op = 9 ∨ c.op = 13 ∨ c.op = 10 ∨ c.op = 11
  · obtain ⟨n1, n2⟩ := nat (hr.h9 (by rcases e9 with h | h | h | h <;> simp [h]))
    rw [if_pos e9]; simp only [Sco.read, Sco.both, Sco.write]; rw [addB_bit n1 hi, n2]
    rcases e9 with h | h | h | h <;> simp [h]
  rw [if_neg e9]
  by_cases e12 : c.op = 12
  · obtain ⟨q1, q2, q3, q4⟩ := hr.h12 e12
    obtain ⟨n1, n2⟩ := nat ⟨q1, q2⟩
    obtain ⟨m1, m2⟩ := nat ⟨q3, q4⟩
    rw [if_pos e12]; simp only [Sco.read, Sco.both, Sco.write]; rw [addB_bit m1 hi, addB_bit n1 hi, n2, m2]
    simp only [e12]
    constructor
    · rintro ((h | ⟨h, h'⟩) | ⟨h, h'⟩)
      · exact .inl h
      · exact .inr (by simp [h, h'])
      · exact .inr (by simp [h, h'])
    · rintro (h | h)
      · exact .inl (.inl h)
      · simp at h
        rcases h with ⟨h, h' | h'⟩
        · exact .inl (.inr ⟨h, h'⟩)
        · exact .inr ⟨h, h'⟩
  rw [if_neg e12]
  by_cases e14 : c.op = 14
  · obtain ⟨n1, n2⟩ := nat (hr.h14 e14)
    rw [if_pos e14]; simp only [Sco.read, Sco.both, Sco.write]; rw [addB_bit n1 hi, n2]; simp [e14]
  rw [if_neg e14]
  have hn : ¬ ((c.op = 6 ∧ k = 0 ∧ (i : Int) = c.b) ∨ (c.op = 8 ∧ k = 1 ∧ (i : Int) = c.b) ∨ ((c.op = 9 ∨ c.op = 10 ∨ c.op = 11 ∨ c.op = 13) ∧ k = 1 ∧ (i : Int) = c.a) ∨ (c.op = 12 ∧ k = 1 ∧ ((i : Int) = c.a ∨ (i : Int) = c.b)) ∨ (c.op = 14 ∧ k = 2 ∧ (i : Int) = c.b)) := by
    rintro (⟨h, _⟩ | ⟨h, _⟩ | ⟨h, _⟩ | ⟨h, _⟩ | ⟨h, _⟩)
    · exact e h
    · exact e8 h
    · exact e9 (by rcases h with h | h | h | h <;> simp [h])
    · exact e12 h
    · exact e14 h
  simp only [hn, or_false]
  split
  · rfl
  · split
    · rfl
    · split
      · rfl
      · split <;> rfl
theorem takeR_w {c : Ins} (hr : Rng c) (S : Sco) {k i : Nat} (hi : i < 8) : ((takeR c S).w k).getLsbD i = true ↔ (S.w k).getLsbD i = true ∨ wrP c k i := by
  have nat : ∀ {x : Int}, 0 ≤ x ∧ x < 8 → x.toNat < 8 ∧ ∀ j : Nat, (j = x.toNat ↔ (j : Int) = x) := fun {x} hx => ⟨by omega, fun j => by omega⟩
  unfold takeR wrP rdP
  by_cases e : c.op = 6
  · rw [if_pos e]; simp [Sco.read, e]
  rw [if_neg e]
  by_cases e7 : c.op = 7
  · obtain ⟨n1, n2⟩ := nat (hr.h7 e7)
    rw [if_pos e7]; simp only [Sco.write]; rw [addB_bit n1 hi, n2]; simp [e7]
  rw [if_neg e7]
  by_cases e8 : c.op = 8
  · rw [if_pos e8]; simp [Sco.read, e8]
  rw [if_neg e8]
  by_cases e9 : c.op = 9 ∨ c.op = 13 ∨ c.op = 10 ∨ c.op = 11
  · obtain ⟨n1, n2⟩ := nat (hr.h9 (by rcases e9 with h | h | h | h <;> simp [h]))
    rw [if_pos e9]; simp only [Sco.read, Sco.both, Sco.write]; rw [addB_bit n1 hi, n2]
    rcases e9 with h | h | h | h <;> simp [h]
  rw [if_neg e9]
  by_cases e12 : c.op = 12
  · obtain ⟨q1, q2, q3, q4⟩ := hr.h12 e12
    obtain ⟨n1, n2⟩ := nat ⟨q1, q2⟩
    obtain ⟨m1, m2⟩ := nat ⟨q3, q4⟩
    rw [if_pos e12]; simp only [Sco.read, Sco.both, Sco.write]; rw [addB_bit m1 hi, addB_bit n1 hi, n2, m2]
    simp only [e12]
    constructor
    · rintro ((h | ⟨h, h'⟩) | ⟨h, h'⟩)
      · exact .inl h
      · exact .inr (by simp [h, h'])
      · exact .inr (by simp [h, h'])
    · rintro (h | h)
      · exact .inl (.inl h)
      · simp at h
        rcases h with ⟨h, h' | h'⟩
        · exact .inl (.inr ⟨h, h'⟩)
        · exact .inr ⟨h, h'⟩
  rw [if_neg e12]
  by_cases e14 : c.op = 14
  · obtain ⟨n1, n2⟩ := nat (hr.h14 e14)
    rw [if_pos e14]; simp only [Sco.read, Sco.both, Sco.write]; rw [addB_bit n1 hi, n2]; simp [e14]
  rw [if_neg e14]
  have hn : ¬ ((c.op = 7 ∧ k = 0 ∧ (i : Int) = c.a) ∨ (c.op ≠ 6 ∧ c.op ≠ 8 ∧ ((c.op = 6 ∧ k = 0 ∧ (i : Int) = c.b) ∨ (c.op = 8 ∧ k = 1 ∧ (i : Int) = c.b) ∨ ((c.op = 9 ∨ c.op = 10 ∨ c.op = 11 ∨ c.op = 13) ∧ k = 1 ∧ (i : Int) = c.a) ∨ (c.op = 12 ∧ k = 1 ∧ ((i : Int) = c.a ∨ (i : Int) = c.b)) ∨ (c.op = 14 ∧ k = 2 ∧ (i : Int) = c.b)))) := by
    rintro (⟨h, _⟩ | ⟨_, _, ⟨h, _⟩ | ⟨h, _⟩ | ⟨h, _⟩ | ⟨h, _⟩ | ⟨h, _⟩⟩)
    · exact e7 h
    · exact e h
    · exact e8 h
    · exact e9 (by rcases h with h | h | h | h <;> simp [h])
    · exact e12 h
    · exact e14 h
  simp only [hn, or_false]
  split
  · rfl
  · split
    · rfl
    · split
      · rfl
      · split <;> rfl
theorem takeR_rest {c : Ins} (hr : Rng c) (S : Sco) : (∀ i, i < 3 → ((takeR c S).s i = true ↔ S.s i = true ∨ seP c i)) ∧ (∀ i, i < 4 → ((takeR c S).t i = true ↔ S.t i = true ∨ taP c i)) ∧
    ((takeR c S).su = true ↔ S.su = true ∨ c.op = 21) ∧ ((takeR c S).wa = true ↔ S.wa = true ∨ c.op = 14 ∨ c.op = 19) := by
  unfold takeR seP taP
  by_cases e : c.op = 6
  · rw [if_pos e]; simp [Sco.read, e]
  rw [if_neg e]
  by_cases e7 : c.op = 7
  · rw [if_pos e7]; simp [Sco.write, e7]
  rw [if_neg e7]
  by_cases e8 : c.op = 8
  · rw [if_pos e8]; simp [Sco.read, e8]
  rw [if_neg e8]
  by_cases e9 : c.op = 9 ∨ c.op = 13 ∨ c.op = 10 ∨ c.op = 11
  · rw [if_pos e9]
    rcases e9 with h | h | h | h <;> simp [Sco.read, Sco.both, Sco.write, h]
  rw [if_neg e9]
  by_cases e12 : c.op = 12
  · rw [if_pos e12]; simp [Sco.read, Sco.both, Sco.write, e12]
  rw [if_neg e12]
  by_cases e14 : c.op = 14
  · rw [if_pos e14]; simp [Sco.read, Sco.both, Sco.write, e14]
  rw [if_neg e14]
  by_cases e19 : c.op = 19
  · rw [if_pos e19]; simp [e19]
  rw [if_neg e19]
  by_cases e15 : c.op = 15 ∨ c.op = 16
  · obtain ⟨q1, q2⟩ := hr.h15 e15
    rw [if_pos e15]
    have h18 : c.op ≠ 18 := by rcases e15 with h | h <;> omega
    have h21 : c.op ≠ 21 := by rcases e15 with h | h <;> omega
    have h14 : c.op ≠ 14 := by rcases e15 with h | h <;> omega
    have h19 : c.op ≠ 19 := by rcases e15 with h | h <;> omega
    refine ⟨fun i hi => ?_, by simp [h18], by simp [h21], by simp [h14, h19]⟩
    simp only [setT]
    by_cases ei : i = c.a.toNat
    · rw [if_pos ei]; simp [e15]; right; omega
    · rw [if_neg ei]
      constructor
      · exact .inl
      · rintro (h | ⟨_, h⟩)
        · exact h
        · omega
  rw [if_neg e15]
  by_cases e18 : c.op = 18
  · obtain ⟨q1, q2⟩ := hr.h18 e18
    rw [if_pos e18]
    refine ⟨by simp [e18], fun i hi => ?_, by simp [e18], by simp [e18]⟩
    simp only [setT]
    by_cases ei : i = c.a.toNat
    · rw [if_pos ei]; simp [e18]; right; omega
    · rw [if_neg ei]
      constructor
      · exact .inl
      · rintro (h | ⟨_, h⟩)
        · exact h
        · omega
  rw [if_neg e18]
  by_cases e21 : c.op = 21
  · rw [if_pos e21]; simp [e21]
  · rw [if_neg e21]; simp [e15, e18, e21, e14, e19]
theorem ScoI.take {p : List Ins} {a j : Nat} {S : Sco} (h : ScoI p a j S) (hj : j < p.length) (hr : Rng p[j]) (hR : Rch p a j) : ScoI p a (j + 1) (takeR p[j] S) := by
  obtain ⟨t1, t2, t3, t4⟩ := takeR_rest hr S
  refine ⟨fun k hk i hi => ?_, fun k hk i hi => ?_, fun i hi => ?_, fun i hi => ?_, ?_, ?_⟩
  · rw [takeR_r hr S hi, h.r k hk i hi, ex_step hj hR]
  · rw [takeR_w hr S hi, h.w k hk i hi, ex_step hj hR]
  · rw [t1 i hi, h.s i hi, ex_step hj hR]
  · rw [t2 i hi, h.t i hi, ex_step hj hR]
  · rw [t3, h.su, ex_step hj hR]
  · rw [t4, h.wa, ex_step hj hR]
end Go.Proofs.Ytolchnaegifckaa.HS
namespace Go.Proofs.Ytolchnaegifckaa.HS
open Go

theorem bound_Reach_wpN {D : HV → List HV → M HV} {H : Heap} {Q : HV → Heap → Prop} {s : Sl} {p : List Ins} (hs : RProg H s p) (hf : ∀ x ∈ p, IFit x) (hc : ¬ CanB p)
    (h : ∀ H', Keeps H H' → Q (.sl ⟨none, 0, 0, none⟩) H') : wp (f_bound_Reach D [.sl s]) Q H := by
  unfold f_bound_Reach
  with_reducible repeat' (first | refine wp_finF ?_ | refine wp_uA ?_ | refine wp_uI ?_ | refine wp_uB ?_ | refine wp_uL ?_ | refine wp_uS ?_ | refine wp_uP ?_ | refine wp_uc ?_ | refine wp_nl ?_ | refine wp_asB ?_ | refine wp_asI ?_ | refine wp_asSl ?_ | refine wp_asT ?_ | refine wp_asA ?_ | refine wp_asS ?_ | refine wp_asP ?_ | refine wp_nN ?_ | refine wp_rN ?_ | refine wp_xN ?_ | refine wp_nB ?_ | refine wp_rB ?_ | refine wp_xB rfl ?_ | refine wp_xB' rfl ?_ | refine wp_bB ?_ | refine wp_rX ?_ | refine wp_xX ?_ | refine wp_rE ?_ | refine wp_xE ?_ | refine wp_rR ?_ | refine wp_xR ?_ | refine wp_r0 ?_ | refine wp_x0 ?_ | refine wp_rF ?_ | refine wp_rF0 ?_ | refine wp_rF2 ?_ | refine wp_rF3 ?_ | refine wp_rF4 ?_ | refine wp_condT ?_ | refine wp_condF ?_ | refine wp_condNT ?_ | refine wp_condNF ?_)
  refine wp_bnd (bound_can_wp hs hf fun z H1 hk hz => wp_asB ?_)
  have : z = false := by
    cases z
    · rfl
    · exact absurd (hz.1 rfl) hc
  subst this
  exact wp_condNF (wp_rF (h _ hk))
/-- what scope.Of keeps in memory. -/
structure OfK (H : Heap) (n m : Nat) (s : Sl) (S : Sco) (e : Nat) : Prop where
  c2 : Cel H n (.sl s)
  c6 : H.get (n + 1) = .cells S.cells false
  l6 : n + 1 < H.n
  c7 : Cel H m (I (e : Int))
theorem OfK.keeps {H H' : Heap} {n m : Nat} {s : Sl} {S : Sco} {e : Nat} (h : OfK H n m s S e) (k : Keeps H H') : OfK H' n m s S e :=
  ⟨h.c2.keeps k, by rw [k.get _ h.l6]; exact h.c6, Nat.lt_of_lt_of_le h.l6 k.n, h.c7.keeps k⟩
theorem OfK.ne {H : Heap} {n m : Nat} {s : Sl} {S : Sco} {e : Nat} (h : OfK H n m s S e) {b : Nat} (h1 : n + 1 < b) (h2 : m < b) (o : HObj) : OfK (H.set b o) n m s S e :=
  ⟨h.c2.ne (by omega), by simp only [Heap.set]; rw [if_neg (by omega)]; exact h.c6, h.l6, h.c7.ne (by omega)⟩
theorem OfK.take {H H' : Heap} {n m : Nat} {s : Sl} {S S' : Sco} {e : Nat} (h : OfK H n m s S e) (hm : n + 1 < m) (hb : But (fun x => x = n + 1) H H') (hg : H'.get (n + 1) = .cells S'.cells false) : OfK H' n m s S' e :=
  ⟨h.c2.but hb (by omega), hg, Nat.lt_of_lt_of_le h.l6 hb.n, h.c7.but hb (by omega)⟩

end Go.Proofs.Ytolchnaegifckaa.HS
