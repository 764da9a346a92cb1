/- Things as bits; what one instruction adds to a scope. Conditions: numbers are in their ranges (lemmas). -/
import Derived.Test.YtijppadieomnjaaHTFo
import Derived.Test.YtijppadieomnjaaHTDg
namespace Go.Proofs.Ytijppadieomnjaa.HT
open Go

abbrev U8 (b : BitVec 8) : HV := .int .u8 (b.toNat : Int)
def bitOf (i : Nat) : BitVec 8 := BitVec.ofNat 8 (2 ^ i)
theorem u8_bit : ∀ {i : Nat}, i < 8 → BitVec.ofInt 8 (IntKind.wrap .u8 (1 * 2 ^ (min (i : Int).toNat 8))) = bitOf i
  | 0, _ => rfl
  | 1, _ => rfl
  | 2, _ => rfl
  | 3, _ => rfl
  | 4, _ => rfl
  | 5, _ => rfl
  | 6, _ => rfl
  | 7, _ => rfl
  | n + 8, h => by omega
theorem u8_of (b : BitVec 8) : BitVec.ofInt 8 (b.toNat : Int) = b := by
  apply BitVec.eq_of_toNat_eq
  rw [BitVec.toNat_ofInt]
  have := b.isLt
  omega
theorem u8_wrap (b : BitVec 8) : IntKind.wrap .u8 (b.toNat : Int) = (b.toNat : Int) := by
  have := b.isLt
  show (b.toNat : Int) % 256 = _
  omega
theorem bit_self {i : Nat} (hi : i < 8) (j : Nat) (hj : j < 8) : (bitOf i).getLsbD j = decide (j = i) := by
  have : ∀ i : Fin 8, ∀ j : Fin 8, (bitOf i).getLsbD j = decide ((j : Nat) = i) := by decide
  exact this ⟨i, hi⟩ ⟨j, hj⟩
theorem bit_test (b : BitVec 8) {i : Nat} (hi : i < 8) : (IntKind.wrap .u8 ((BitVec.ofInt 8 (Int.fdiv (b.toNat : Int) (2 ^ (min (i : Int).toNat 8))) &&& BitVec.ofInt 8 1).toNat : Int) == 1) = b.getLsbD i := by
  have : ∀ i : Fin 8, ∀ b : Fin 256, (IntKind.wrap .u8 ((BitVec.ofInt 8 (Int.fdiv (((BitVec.ofFin b : BitVec 8).toNat : Nat) : Int) (2 ^ (min ((i : Nat) : Int).toNat 8))) &&& BitVec.ofInt 8 1).toNat : Int) == 1) = (BitVec.ofFin b : BitVec 8).getLsbD i := by decide +kernel
  exact this ⟨i, hi⟩ b.toFin

/-- a scope: of each kind the bits read, and written; sockets; tallies; may it be sure, may it wait. -/
structure Sco where
  r : Nat → BitVec 8
  w : Nat → BitVec 8
  s : Nat → Bool
  t : Nat → Bool
  su : Bool
  wa : Bool
def Sco.cells (S : Sco) : List HV := [U8 (S.r 0), U8 (S.r 1), U8 (S.r 2), U8 (S.w 0), U8 (S.w 1), U8 (S.w 2), .bool (S.s 0), .bool (S.s 1), .bool (S.s 2), .bool (S.t 0), .bool (S.t 1), .bool (S.t 2), .bool (S.t 3), .bool S.su, .bool S.wa]
def Sco.zero : Sco := ⟨fun _ => 0, fun _ => 0, fun _ => false, fun _ => false, false, false⟩
def addB (f : Nat → BitVec 8) (k i : Nat) : Nat → BitVec 8 := fun j => if j = k then f k ||| bitOf i else f j
def setT (f : Nat → Bool) (k : Nat) : Nat → Bool := fun j => if j = k then true else f j
def Sco.read (S : Sco) (k i : Nat) : Sco := { S with r := addB S.r k i }
def Sco.write (S : Sco) (k i : Nat) : Sco := { S with w := addB S.w k i }
def Sco.both (S : Sco) (k i : Nat) : Sco := (S.read k i).write k i
def takeR (c : Ins) (S : Sco) : Sco :=
  if c.op = 6 then S.read 0 c.b.toNat else if c.op = 7 then S.write 0 c.a.toNat else if c.op = 8 then S.read 1 c.b.toNat
  else if c.op = 9 ∨ c.op = 13 ∨ c.op = 10 ∨ c.op = 11 then S.both 1 c.a.toNat
  else if c.op = 12 then (S.both 1 c.a.toNat).both 1 c.b.toNat
  else if c.op = 14 then { S.both 2 c.b.toNat with wa := true }
  else if c.op = 19 then { S with wa := true }
  else if c.op = 15 ∨ c.op = 16 then { S with s := setT S.s c.a.toNat }
  else if c.op = 18 then { S with t := setT S.t c.a.toNat }
  else if c.op = 21 then { S with su := true } else S

section
variable {α : Type} {Q : α → Heap → Prop} {H : Heap}
theorem wp_gxg {cs : List HV} {e : Nat} {v : HV} {f : HV → M α} (h : cs[e]? = some v) (hf : wp (f v) Q H) : wp (gx cs e f) Q H := by
  unfold gx; rw [h]; exact hf
theorem wp_ldNo {b o m : Nat} {cs : List HV} {ro : Bool} {f : List HV → M α} (hb : H.get b = .cells cs ro) (hm : o + m ≤ cs.length) (h : wp (f ((cs.drop o).take m)) Q H) : wp (ldN b o m f) Q H := by
  refine wp_of (m' := f ((cs.drop o).take m)) (fun n => ?_) h
  unfold ldN
  simp only [hb]
  unfold gxN
  rw [show decide (o + m ≤ cs.length) = true from by simpa using hm]
  rfl
theorem wp_stNo {b o : Nat} {cs vs : List HV} {m : M α} (hb : H.get b = .cells cs false) (hm : o + vs.length ≤ cs.length) (h : wp m Q (H.set b (.cells (putN cs o vs) false))) : wp (stN b o vs m) Q H := by
  refine wp_of (m' := m) (H' := H.set b (.cells (putN cs o vs) false)) (fun n => ?_) h
  unfold stN
  simp only [hb]
  rw [show decide (o + vs.length ≤ cs.length) = true from by simpa using hm]
  rfl
end
theorem lt3 {k : Nat} (h : k < 3) : k = 0 ∨ k = 1 ∨ k = 2 := by omega
theorem scope_with_wp {D : HV → List HV → M HV} {H : Heap} {Q : HV → Heap → Prop} {f : Nat → BitVec 8} {k i : Nat} (hk : k < 3) (hi : i < 8) (h : Q (.agg [U8 (addB f k i 0), U8 (addB f k i 1), U8 (addB f k i 2)]) H) :
    wp (f_scope_Things_with D [.agg [U8 (f 0), U8 (f 1), U8 (f 2)], I k, I i]) Q H := by
  unfold f_scope_Things_with
  with_reducible repeat' (first | refine wp_finF ?_ | refine wp_uA ?_ | refine wp_uI ?_ | refine wp_uB ?_ | refine wp_uL ?_ | refine wp_uS ?_ | refine wp_uP ?_ | refine wp_uc ?_ | refine wp_nl ?_ | refine wp_asB ?_ | refine wp_asI ?_ | refine wp_asSl ?_ | refine wp_asT ?_ | refine wp_asA ?_ | refine wp_asS ?_ | refine wp_asP ?_ | refine wp_nN ?_ | refine wp_rN ?_ | refine wp_xN ?_ | refine wp_nB ?_ | refine wp_rB ?_ | refine wp_xB rfl ?_ | refine wp_xB' rfl ?_ | refine wp_bB ?_ | refine wp_rX ?_ | refine wp_xX ?_ | refine wp_rE ?_ | refine wp_xE ?_ | refine wp_rR ?_ | refine wp_xR ?_ | refine wp_r0 ?_ | refine wp_x0 ?_ | refine wp_rF ?_ | refine wp_rF0 ?_ | refine wp_rF2 ?_ | refine wp_rF3 ?_ | refine wp_rF4 ?_ | refine wp_condT ?_ | refine wp_condF ?_ | refine wp_condNT ?_ | refine wp_condNF ?_)
  rcases lt3 hk with rfl | rfl | rfl
  all_goals
    refine wp_gdD (by omega) (wp_gdD (by omega) (wp_gxg (v := U8 _) rfl (wp_asI ?_)))
    refine wp_gdD (by omega) (wp_gdD (by omega) (wp_gdD (by omega) (wp_gd rfl ?_)))
    rw [u8_bit hi, u8_of, u8_wrap]
    refine wp_gd rfl ?_
    show wp (uI .u8 [_, _, _] _) _ _
    with_reducible repeat' (first | refine wp_finF ?_ | refine wp_uA ?_ | refine wp_uI ?_ | refine wp_uB ?_ | refine wp_uL ?_ | refine wp_uS ?_ | refine wp_uP ?_ | refine wp_uc ?_ | refine wp_nl ?_ | refine wp_asB ?_ | refine wp_asI ?_ | refine wp_asSl ?_ | refine wp_asT ?_ | refine wp_asA ?_ | refine wp_asS ?_ | refine wp_asP ?_ | refine wp_nN ?_ | refine wp_rN ?_ | refine wp_xN ?_ | refine wp_nB ?_ | refine wp_rB ?_ | refine wp_xB rfl ?_ | refine wp_xB' rfl ?_ | refine wp_bB ?_ | refine wp_rX ?_ | refine wp_xX ?_ | refine wp_rE ?_ | refine wp_xE ?_ | refine wp_rR ?_ | refine wp_xR ?_ | refine wp_r0 ?_ | refine wp_x0 ?_ | refine wp_rF ?_ | refine wp_rF0 ?_ | refine wp_rF2 ?_ | refine wp_rF3 ?_ | refine wp_rF4 ?_ | refine wp_condT ?_ | refine wp_condF ?_ | refine wp_condNT ?_ | refine wp_condNF ?_)
    exact h
theorem scope_read_wp {D : HV → List HV → M HV} {H : Heap} {Q : HV → Heap → Prop} {S : Sco} {b k i : Nat} (hb : H.get b = .cells S.cells false) (hk : k < 3) (hi : i < 8) (h : ∀ H', But (fun x => x = b) H H' → H'.get b = .cells (S.read k i).cells false → Q (.tup []) H') :
    wp (f_scope_Scope_read D [.ptr (some (b, 0)), I k, I i]) Q H := by
  unfold f_scope_Scope_read
  with_reducible repeat' (first | refine wp_finF ?_ | refine wp_uA ?_ | refine wp_uI ?_ | refine wp_uB ?_ | refine wp_uL ?_ | refine wp_uS ?_ | refine wp_uP ?_ | refine wp_uc ?_ | refine wp_nl ?_ | refine wp_asB ?_ | refine wp_asI ?_ | refine wp_asSl ?_ | refine wp_asT ?_ | refine wp_asA ?_ | refine wp_asS ?_ | refine wp_asP ?_ | refine wp_nN ?_ | refine wp_rN ?_ | refine wp_xN ?_ | refine wp_nB ?_ | refine wp_rB ?_ | refine wp_xB rfl ?_ | refine wp_xB' rfl ?_ | refine wp_bB ?_ | refine wp_rX ?_ | refine wp_xX ?_ | refine wp_rE ?_ | refine wp_xE ?_ | refine wp_rR ?_ | refine wp_xR ?_ | refine wp_r0 ?_ | refine wp_x0 ?_ | refine wp_rF ?_ | refine wp_rF0 ?_ | refine wp_rF2 ?_ | refine wp_rF3 ?_ | refine wp_rF4 ?_ | refine wp_condT ?_ | refine wp_condF ?_ | refine wp_condNT ?_ | refine wp_condNF ?_)
  show wp (mP (some (b, 0)) _) _ _
  rw [mP_eq']
  refine wp_ldNo hb (by simp [Sco.cells]) ?_
  show wp (uI .u8 [U8 (S.r 0), U8 (S.r 1), U8 (S.r 2)] _) _ _
  with_reducible repeat' (first | refine wp_finF ?_ | refine wp_uA ?_ | refine wp_uI ?_ | refine wp_uB ?_ | refine wp_uL ?_ | refine wp_uS ?_ | refine wp_uP ?_ | refine wp_uc ?_ | refine wp_nl ?_ | refine wp_asB ?_ | refine wp_asI ?_ | refine wp_asSl ?_ | refine wp_asT ?_ | refine wp_asA ?_ | refine wp_asS ?_ | refine wp_asP ?_ | refine wp_nN ?_ | refine wp_rN ?_ | refine wp_xN ?_ | refine wp_nB ?_ | refine wp_rB ?_ | refine wp_xB rfl ?_ | refine wp_xB' rfl ?_ | refine wp_bB ?_ | refine wp_rX ?_ | refine wp_xX ?_ | refine wp_rE ?_ | refine wp_xE ?_ | refine wp_rR ?_ | refine wp_xR ?_ | refine wp_r0 ?_ | refine wp_x0 ?_ | refine wp_rF ?_ | refine wp_rF0 ?_ | refine wp_rF2 ?_ | refine wp_rF3 ?_ | refine wp_rF4 ?_ | refine wp_condT ?_ | refine wp_condF ?_ | refine wp_condNT ?_ | refine wp_condNF ?_)
  refine wp_bnd (scope_with_wp hk hi ?_)
  with_reducible repeat' (first | refine wp_finF ?_ | refine wp_uA ?_ | refine wp_uI ?_ | refine wp_uB ?_ | refine wp_uL ?_ | refine wp_uS ?_ | refine wp_uP ?_ | refine wp_uc ?_ | refine wp_nl ?_ | refine wp_asB ?_ | refine wp_asI ?_ | refine wp_asSl ?_ | refine wp_asT ?_ | refine wp_asA ?_ | refine wp_asS ?_ | refine wp_asP ?_ | refine wp_nN ?_ | refine wp_rN ?_ | refine wp_xN ?_ | refine wp_nB ?_ | refine wp_rB ?_ | refine wp_xB rfl ?_ | refine wp_xB' rfl ?_ | refine wp_bB ?_ | refine wp_rX ?_ | refine wp_xX ?_ | refine wp_rE ?_ | refine wp_xE ?_ | refine wp_rR ?_ | refine wp_xR ?_ | refine wp_r0 ?_ | refine wp_x0 ?_ | refine wp_rF ?_ | refine wp_rF0 ?_ | refine wp_rF2 ?_ | refine wp_rF3 ?_ | refine wp_rF4 ?_ | refine wp_condT ?_ | refine wp_condF ?_ | refine wp_condNT ?_ | refine wp_condNF ?_)
  show wp (mP (some (b, 0)) _) _ _
  rw [mP_eq']
  refine wp_stNo hb (by simp [Sco.cells]) (wp_rF0 ?_)
  refine h _ ((But.refl (fun x => x = b) H).set (b := b) rfl _) ?_
  simp [Heap.set, Sco.cells, Sco.read, putN]
theorem scope_both_wp {D : HV → List HV → M HV} {H : Heap} {Q : HV → Heap → Prop} {S : Sco} {b k i : Nat} (hb : H.get b = .cells S.cells false) (hk : k < 3) (hi : i < 8) (h : ∀ H', But (fun x => x = b) H H' → H'.get b = .cells (S.both k i).cells false → Q (.tup []) H') :
    wp (f_scope_Scope_both D [.ptr (some (b, 0)), I k, I i]) Q H := by
  unfold f_scope_Scope_both
  with_reducible repeat' (first | refine wp_finF ?_ | refine wp_uA ?_ | refine wp_uI ?_ | refine wp_uB ?_ | refine wp_uL ?_ | refine wp_uS ?_ | refine wp_uP ?_ | refine wp_uc ?_ | refine wp_nl ?_ | refine wp_asB ?_ | refine wp_asI ?_ | refine wp_asSl ?_ | refine wp_asT ?_ | refine wp_asA ?_ | refine wp_asS ?_ | refine wp_asP ?_ | refine wp_nN ?_ | refine wp_rN ?_ | refine wp_xN ?_ | refine wp_nB ?_ | refine wp_rB ?_ | refine wp_xB rfl ?_ | refine wp_xB' rfl ?_ | refine wp_bB ?_ | refine wp_rX ?_ | refine wp_xX ?_ | refine wp_rE ?_ | refine wp_xE ?_ | refine wp_rR ?_ | refine wp_xR ?_ | refine wp_r0 ?_ | refine wp_x0 ?_ | refine wp_rF ?_ | refine wp_rF0 ?_ | refine wp_rF2 ?_ | refine wp_rF3 ?_ | refine wp_rF4 ?_ | refine wp_condT ?_ | refine wp_condF ?_ | refine wp_condNT ?_ | refine wp_condNF ?_)
  refine wp_bnd (scope_read_wp hb hk hi fun H1 hb1 hg1 => wp_asT (wp_nl ?_))
  show wp (mP (some (b, 0)) _) _ _
  rw [mP_eq']
  refine wp_ldNo hg1 (by simp [Sco.cells]) ?_
  show wp (uI .u8 [U8 ((S.read k i).w 0), U8 ((S.read k i).w 1), U8 ((S.read k i).w 2)] _) _ _
  with_reducible repeat' (first | refine wp_finF ?_ | refine wp_uA ?_ | refine wp_uI ?_ | refine wp_uB ?_ | refine wp_uL ?_ | refine wp_uS ?_ | refine wp_uP ?_ | refine wp_uc ?_ | refine wp_nl ?_ | refine wp_asB ?_ | refine wp_asI ?_ | refine wp_asSl ?_ | refine wp_asT ?_ | refine wp_asA ?_ | refine wp_asS ?_ | refine wp_asP ?_ | refine wp_nN ?_ | refine wp_rN ?_ | refine wp_xN ?_ | refine wp_nB ?_ | refine wp_rB ?_ | refine wp_xB rfl ?_ | refine wp_xB' rfl ?_ | refine wp_bB ?_ | refine wp_rX ?_ | refine wp_xX ?_ | refine wp_rE ?_ | refine wp_xE ?_ | refine wp_rR ?_ | refine wp_xR ?_ | refine wp_r0 ?_ | refine wp_x0 ?_ | refine wp_rF ?_ | refine wp_rF0 ?_ | refine wp_rF2 ?_ | refine wp_rF3 ?_ | refine wp_rF4 ?_ | refine wp_condT ?_ | refine wp_condF ?_ | refine wp_condNT ?_ | refine wp_condNF ?_)
  refine wp_bnd (scope_with_wp hk hi ?_)
  with_reducible repeat' (first | refine wp_finF ?_ | refine wp_uA ?_ | refine wp_uI ?_ | refine wp_uB ?_ | refine wp_uL ?_ | refine wp_uS ?_ | refine wp_uP ?_ | refine wp_uc ?_ | refine wp_nl ?_ | refine wp_asB ?_ | refine wp_asI ?_ | refine wp_asSl ?_ | refine wp_asT ?_ | refine wp_asA ?_ | refine wp_asS ?_ | refine wp_asP ?_ | refine wp_nN ?_ | refine wp_rN ?_ | refine wp_xN ?_ | refine wp_nB ?_ | refine wp_rB ?_ | refine wp_xB rfl ?_ | refine wp_xB' rfl ?_ | refine wp_bB ?_ | refine wp_rX ?_ | refine wp_xX ?_ | refine wp_rE ?_ | refine wp_xE ?_ | refine wp_rR ?_ | refine wp_xR ?_ | refine wp_r0 ?_ | refine wp_x0 ?_ | refine wp_rF ?_ | refine wp_rF0 ?_ | refine wp_rF2 ?_ | refine wp_rF3 ?_ | refine wp_rF4 ?_ | refine wp_condT ?_ | refine wp_condF ?_ | refine wp_condNT ?_ | refine wp_condNF ?_)
  show wp (mP (some (b, 0)) _) _ _
  rw [mP_eq']
  refine wp_stNo hg1 (by simp [Sco.cells]) (wp_rF0 ?_)
  refine h _ (hb1.set (b := b) rfl _) ?_
  simp [Heap.set, Sco.cells, Sco.read, Sco.write, Sco.both, putN]

/-- the numbers that an instruction names are of things that there are. -/
structure Rng (c : Ins) : Prop where
  h6 : c.op = 6 → 0 ≤ c.b ∧ c.b < 8
  h7 : c.op = 7 → 0 ≤ c.a ∧ c.a < 8
  h8 : c.op = 8 → 0 ≤ c.b ∧ c.b < 8
  h9 : c.op = 9 ∨ c.op = 10 ∨ c.op = 11 ∨ c.op = 13 → 0 ≤ c.a ∧ c.a < 8
  h12 : c.op = 12 → 0 ≤ c.a ∧ c.a < 8 ∧ 0 ≤ c.b ∧ c.b < 8
  h14 : c.op = 14 → 0 ≤ c.b ∧ c.b < 8
  h15 : c.op = 15 ∨ c.op = 16 → 0 ≤ c.a ∧ c.a < 3
  h18 : c.op = 18 → 0 ≤ c.a ∧ c.a < 4
theorem Fits.rng {c : Ins} (h : Fits c) : Rng c := by
  obtain ⟨⟨l, h1, h2⟩, h3⟩ := h
  have key : ∀ {o : Int} {a0 a1 b0 b1 c0 c1 : Int}, c.op = o → lims o = some [a0, a1, b0, b1, c0, c1] → a0 ≤ c.a ∧ c.a ≤ a1 ∧ b0 ≤ c.b ∧ c.b ≤ b1 := by
    intro o a0 a1 b0 b1 c0 c1 ho hl
    rw [ho, hl] at h1
    cases h1
    simp only [inside] at h2
    exact ⟨h2.1, h2.2.1, h2.2.2.1, h2.2.2.2.1⟩
  refine ⟨fun e => ?_, fun e => ?_, fun e => ?_, fun e => ?_, fun e => ?_, fun e => ?_, fun e => ?_, fun e => ?_⟩
  · have := key e rfl; omega
  · have := key e rfl; omega
  · have := key e rfl; omega
  · rcases e with e | e | e | e
    all_goals (have := key e rfl; omega)
  · have := key e rfl; omega
  · have := key e rfl; omega
  · rcases e with e | e
    all_goals (have := key e rfl; omega)
  · have := key e rfl; omega

theorem scope_take_wp {D : HV → List HV → M HV} {H : Heap} {Q : HV → Heap → Prop} {S : Sco} {b : Nat} {c : Ins} (hb : H.get b = .cells S.cells false) (hr : Rng c) (h : ∀ H', But (fun x => x = b) H H' → H'.get b = .cells (takeR c S).cells false → Q (.tup []) H') :
    wp (f_scope_Scope_take D [.ptr (some (b, 0)), .agg c.cs]) Q H := by
  obtain ⟨o, a, b', c'⟩ := c
  obtain ⟨h6, h7, h8, h9, h12, h14, h15, h18⟩ := hr
  simp only at h6 h7 h8 h9 h12 h14 h15 h18
  unfold f_scope_Scope_take
  show wp (fin (uP [.ptr (some (b, 0)), .agg [I o, I a, I b', I c']] _)) _ _
  with_reducible repeat' (first | refine wp_finF ?_ | refine wp_uA ?_ | refine wp_uI ?_ | refine wp_uB ?_ | refine wp_uL ?_ | refine wp_uS ?_ | refine wp_uP ?_ | refine wp_uc ?_ | refine wp_nl ?_ | refine wp_asB ?_ | refine wp_asI ?_ | refine wp_asSl ?_ | refine wp_asT ?_ | refine wp_asA ?_ | refine wp_asS ?_ | refine wp_asP ?_ | refine wp_nN ?_ | refine wp_rN ?_ | refine wp_xN ?_ | refine wp_nB ?_ | refine wp_rB ?_ | refine wp_xB rfl ?_ | refine wp_xB' rfl ?_ | refine wp_bB ?_ | refine wp_rX ?_ | refine wp_xX ?_ | refine wp_rE ?_ | refine wp_xE ?_ | refine wp_rR ?_ | refine wp_xR ?_ | refine wp_r0 ?_ | refine wp_x0 ?_ | refine wp_rF ?_ | refine wp_rF0 ?_ | refine wp_rF2 ?_ | refine wp_rF3 ?_ | refine wp_rF4 ?_ | refine wp_condT ?_ | refine wp_condF ?_ | refine wp_condNT ?_ | refine wp_condNF ?_)
  have nat : ∀ {x : Int}, 0 ≤ x → ∃ n : Nat, x = n := fun {x} hx => ⟨x.toNat, by omega⟩
  refine wp_condE (fun e => ?_) (fun e6 => ?_)
  · obtain ⟨q1, q2⟩ := h6 e
    obtain ⟨n, rfl⟩ := nat q1
    refine wp_bnd (scope_read_wp (k := 0) hb (by omega) (by omega) fun H1 hb1 hg1 => wp_asT (wp_nl (wp_rF0 (h H1 hb1 ?_))))
    rw [hg1]; simp [takeR, e]
  refine wp_condE (fun e => ?_) (fun e7 => ?_)
  · obtain ⟨q1, q2⟩ := h7 e
    obtain ⟨n, rfl⟩ := nat q1
    show wp (mP (some (b, 0)) _) _ _
    rw [mP_eq']
    refine wp_ldNo hb (by simp [Sco.cells]) ?_
    show wp (uI .u8 [U8 (S.w 0), U8 (S.w 1), U8 (S.w 2)] _) _ _
    with_reducible repeat' (first | refine wp_finF ?_ | refine wp_uA ?_ | refine wp_uI ?_ | refine wp_uB ?_ | refine wp_uL ?_ | refine wp_uS ?_ | refine wp_uP ?_ | refine wp_uc ?_ | refine wp_nl ?_ | refine wp_asB ?_ | refine wp_asI ?_ | refine wp_asSl ?_ | refine wp_asT ?_ | refine wp_asA ?_ | refine wp_asS ?_ | refine wp_asP ?_ | refine wp_nN ?_ | refine wp_rN ?_ | refine wp_xN ?_ | refine wp_nB ?_ | refine wp_rB ?_ | refine wp_xB rfl ?_ | refine wp_xB' rfl ?_ | refine wp_bB ?_ | refine wp_rX ?_ | refine wp_xX ?_ | refine wp_rE ?_ | refine wp_xE ?_ | refine wp_rR ?_ | refine wp_xR ?_ | refine wp_r0 ?_ | refine wp_x0 ?_ | refine wp_rF ?_ | refine wp_rF0 ?_ | refine wp_rF2 ?_ | refine wp_rF3 ?_ | refine wp_rF4 ?_ | refine wp_condT ?_ | refine wp_condF ?_ | refine wp_condNT ?_ | refine wp_condNF ?_)
    refine wp_bnd (scope_with_wp (k := 0) (by omega) (i := n) (by omega) ?_)
    with_reducible repeat' (first | refine wp_finF ?_ | refine wp_uA ?_ | refine wp_uI ?_ | refine wp_uB ?_ | refine wp_uL ?_ | refine wp_uS ?_ | refine wp_uP ?_ | refine wp_uc ?_ | refine wp_nl ?_ | refine wp_asB ?_ | refine wp_asI ?_ | refine wp_asSl ?_ | refine wp_asT ?_ | refine wp_asA ?_ | refine wp_asS ?_ | refine wp_asP ?_ | refine wp_nN ?_ | refine wp_rN ?_ | refine wp_xN ?_ | refine wp_nB ?_ | refine wp_rB ?_ | refine wp_xB rfl ?_ | refine wp_xB' rfl ?_ | refine wp_bB ?_ | refine wp_rX ?_ | refine wp_xX ?_ | refine wp_rE ?_ | refine wp_xE ?_ | refine wp_rR ?_ | refine wp_xR ?_ | refine wp_r0 ?_ | refine wp_x0 ?_ | refine wp_rF ?_ | refine wp_rF0 ?_ | refine wp_rF2 ?_ | refine wp_rF3 ?_ | refine wp_rF4 ?_ | refine wp_condT ?_ | refine wp_condF ?_ | refine wp_condNT ?_ | refine wp_condNF ?_)
    show wp (mP (some (b, 0)) _) _ _
    rw [mP_eq']
    refine wp_stNo hb (by simp [Sco.cells]) (wp_rF0 ?_)
    refine h _ ((But.refl (fun x => x = b) H).set (b := b) rfl _) ?_
    simp [Heap.set, Sco.cells, Sco.write, putN, takeR, e]
  refine wp_condE (fun e => ?_) (fun e8 => ?_)
  · obtain ⟨q1, q2⟩ := h8 e
    obtain ⟨n, rfl⟩ := nat q1
    refine wp_bnd (scope_read_wp (k := 1) hb (by omega) (by omega) fun H1 hb1 hg1 => wp_asT (wp_nl (wp_rF0 (h H1 hb1 ?_))))
    rw [hg1]; simp [takeR, e]
  refine wp_jnP (o = 9 ∨ o = 13 ∨ o = 10 ∨ o = 11) ?_ (fun e => ?_) (fun e9 => ?_)
  · refine wp_condE (fun e => wp_bB ?_) (fun _ => wp_condE (fun e => wp_bB ?_) (fun _ => wp_condE (fun e => wp_bB ?_) (fun _ => wp_bB ?_)))
    all_goals simp_all
  · obtain ⟨q1, q2⟩ := h9 (by rcases e with e | e | e | e <;> simp [e])
    obtain ⟨n, rfl⟩ := nat q1
    with_reducible repeat' (first | refine wp_finF ?_ | refine wp_uA ?_ | refine wp_uI ?_ | refine wp_uB ?_ | refine wp_uL ?_ | refine wp_uS ?_ | refine wp_uP ?_ | refine wp_uc ?_ | refine wp_nl ?_ | refine wp_asB ?_ | refine wp_asI ?_ | refine wp_asSl ?_ | refine wp_asT ?_ | refine wp_asA ?_ | refine wp_asS ?_ | refine wp_asP ?_ | refine wp_nN ?_ | refine wp_rN ?_ | refine wp_xN ?_ | refine wp_nB ?_ | refine wp_rB ?_ | refine wp_xB rfl ?_ | refine wp_xB' rfl ?_ | refine wp_bB ?_ | refine wp_rX ?_ | refine wp_xX ?_ | refine wp_rE ?_ | refine wp_xE ?_ | refine wp_rR ?_ | refine wp_xR ?_ | refine wp_r0 ?_ | refine wp_x0 ?_ | refine wp_rF ?_ | refine wp_rF0 ?_ | refine wp_rF2 ?_ | refine wp_rF3 ?_ | refine wp_rF4 ?_ | refine wp_condT ?_ | refine wp_condF ?_ | refine wp_condNT ?_ | refine wp_condNF ?_)
    refine wp_bnd (scope_both_wp (k := 1) hb (by omega) (by omega) fun H1 hb1 hg1 => wp_asT (wp_nl (wp_rF0 (h H1 hb1 ?_))))
    rw [hg1]; simp [takeR, e6, e7, e8, e]
  with_reducible repeat' (first | refine wp_finF ?_ | refine wp_uA ?_ | refine wp_uI ?_ | refine wp_uB ?_ | refine wp_uL ?_ | refine wp_uS ?_ | refine wp_uP ?_ | refine wp_uc ?_ | refine wp_nl ?_ | refine wp_asB ?_ | refine wp_asI ?_ | refine wp_asSl ?_ | refine wp_asT ?_ | refine wp_asA ?_ | refine wp_asS ?_ | refine wp_asP ?_ | refine wp_nN ?_ | refine wp_rN ?_ | refine wp_xN ?_ | refine wp_nB ?_ | refine wp_rB ?_ | refine wp_xB rfl ?_ | refine wp_xB' rfl ?_ | refine wp_bB ?_ | refine wp_rX ?_ | refine wp_xX ?_ | refine wp_rE ?_ | refine wp_xE ?_ | refine wp_rR ?_ | refine wp_xR ?_ | refine wp_r0 ?_ | refine wp_x0 ?_ | refine wp_rF ?_ | refine wp_rF0 ?_ | refine wp_rF2 ?_ | refine wp_rF3 ?_ | refine wp_rF4 ?_ | refine wp_condT ?_ | refine wp_condF ?_ | refine wp_condNT ?_ | refine wp_condNF ?_)
  refine wp_condE (fun e => ?_) (fun e12 => ?_)
  · obtain ⟨q1, q2, q3, q4⟩ := h12 e
    obtain ⟨n, rfl⟩ := nat q1
    obtain ⟨m, rfl⟩ := nat q3
    refine wp_bnd (scope_both_wp (k := 1) hb (by omega) (by omega) fun H1 hb1 hg1 => wp_asT (wp_nl ?_))
    refine wp_bnd (scope_both_wp (k := 1) hg1 (by omega) (by omega) fun H2 hb2 hg2 => wp_asT (wp_nl (wp_rF0 (h H2 (hb1.trans hb2) ?_))))
    rw [hg2]; simp [takeR, e]
  refine wp_condE (fun e => ?_) (fun e14 => ?_)
  · obtain ⟨q1, q2⟩ := h14 e
    obtain ⟨n, rfl⟩ := nat q1
    refine wp_bnd (scope_both_wp (k := 2) hb (by omega) (by omega) fun H1 hb1 hg1 => wp_asT (wp_nl ?_))
    show wp (mP (some (b, 0)) _) _ _
    rw [mP_eq']
    refine wp_stC hg1 (by simp [Sco.cells]) rfl (wp_rF0 (h _ (hb1.set (b := b) rfl _) ?_))
    simp [Heap.set, Sco.cells, takeR, e]
  refine wp_condE (fun e => ?_) (fun e19 => ?_)
  · show wp (mP (some (b, 0)) _) _ _
    rw [mP_eq']
    refine wp_stC hb (by simp [Sco.cells]) rfl (wp_rF0 (h _ ((But.refl (fun x => x = b) H).set (b := b) rfl _) ?_))
    simp [Heap.set, Sco.cells, takeR, e]
  refine wp_jnP (o = 15 ∨ o = 16) ?_ (fun e => ?_) (fun e15 => ?_)
  · refine wp_condE (fun e => wp_bB ?_) (fun _ => wp_bB ?_)
    all_goals simp_all
  · obtain ⟨q1, q2⟩ := h15 e
    obtain ⟨n, rfl⟩ := nat q1
    with_reducible repeat' (first | refine wp_finF ?_ | refine wp_uA ?_ | refine wp_uI ?_ | refine wp_uB ?_ | refine wp_uL ?_ | refine wp_uS ?_ | refine wp_uP ?_ | refine wp_uc ?_ | refine wp_nl ?_ | refine wp_asB ?_ | refine wp_asI ?_ | refine wp_asSl ?_ | refine wp_asT ?_ | refine wp_asA ?_ | refine wp_asS ?_ | refine wp_asP ?_ | refine wp_nN ?_ | refine wp_rN ?_ | refine wp_xN ?_ | refine wp_nB ?_ | refine wp_rB ?_ | refine wp_xB rfl ?_ | refine wp_xB' rfl ?_ | refine wp_bB ?_ | refine wp_rX ?_ | refine wp_xX ?_ | refine wp_rE ?_ | refine wp_xE ?_ | refine wp_rR ?_ | refine wp_xR ?_ | refine wp_r0 ?_ | refine wp_x0 ?_ | refine wp_rF ?_ | refine wp_rF0 ?_ | refine wp_rF2 ?_ | refine wp_rF3 ?_ | refine wp_rF4 ?_ | refine wp_condT ?_ | refine wp_condF ?_ | refine wp_condNT ?_ | refine wp_condNF ?_)
    show wp (mP (some (b, 0)) _) _ _
    rw [mP_eq']
    refine wp_gdD (by omega) (wp_gdD (by omega) ?_)
    have h9' : takeR ⟨o, n, b', c'⟩ S = { S with s := setT S.s n } := by rcases e with e | e <;> simp [takeR, e]
    refine wp_stC hb (by simp [Sco.cells]; omega) rfl (wp_rF0 (h _ ((But.refl (fun x => x = b) H).set (b := b) rfl _) ?_))
    rw [h9']
    rcases lt3 (k := n) (by omega) with rfl | rfl | rfl <;> simp [Heap.set, Sco.cells, setT]
  with_reducible repeat' (first | refine wp_finF ?_ | refine wp_uA ?_ | refine wp_uI ?_ | refine wp_uB ?_ | refine wp_uL ?_ | refine wp_uS ?_ | refine wp_uP ?_ | refine wp_uc ?_ | refine wp_nl ?_ | refine wp_asB ?_ | refine wp_asI ?_ | refine wp_asSl ?_ | refine wp_asT ?_ | refine wp_asA ?_ | refine wp_asS ?_ | refine wp_asP ?_ | refine wp_nN ?_ | refine wp_rN ?_ | refine wp_xN ?_ | refine wp_nB ?_ | refine wp_rB ?_ | refine wp_xB rfl ?_ | refine wp_xB' rfl ?_ | refine wp_bB ?_ | refine wp_rX ?_ | refine wp_xX ?_ | refine wp_rE ?_ | refine wp_xE ?_ | refine wp_rR ?_ | refine wp_xR ?_ | refine wp_r0 ?_ | refine wp_x0 ?_ | refine wp_rF ?_ | refine wp_rF0 ?_ | refine wp_rF2 ?_ | refine wp_rF3 ?_ | refine wp_rF4 ?_ | refine wp_condT ?_ | refine wp_condF ?_ | refine wp_condNT ?_ | refine wp_condNF ?_)
  refine wp_condE (fun e => ?_) (fun e18 => ?_)
  · obtain ⟨q1, q2⟩ := h18 e
    obtain ⟨n, rfl⟩ := nat q1
    show wp (mP (some (b, 0)) _) _ _
    rw [mP_eq']
    refine wp_gdD (by omega) (wp_gdD (by omega) ?_)
    refine wp_stC hb (by simp [Sco.cells]; omega) rfl (wp_rF0 (h _ ((But.refl (fun x => x = b) H).set (b := b) rfl _) ?_))
    have : n = 0 ∨ n = 1 ∨ n = 2 ∨ n = 3 := by omega
    rcases this with rfl | rfl | rfl | rfl <;> simp [Heap.set, Sco.cells, setT, takeR, e]
  refine wp_condE (fun e => ?_) (fun e21 => ?_)
  · show wp (mP (some (b, 0)) _) _ _
    rw [mP_eq']
    refine wp_stC hb (by simp [Sco.cells]) rfl (wp_rF0 (h _ ((But.refl (fun x => x = b) H).set (b := b) rfl _) ?_))
    simp [Heap.set, Sco.cells, takeR, e]
  · refine wp_rF0 (h _ (But.refl _ H) ?_)
    rw [hb]; simp [takeR, e6, e7, e8, e9, e12, e14, e19, e15, e18, e21]
end Go.Proofs.Ytijppadieomnjaa.HT
namespace Go.Proofs.Ytijppadieomnjaa.HT
open Go

/-- does an instruction read a thing? -/
def rdP (c : Ins) (k i : Nat) : Prop :=
  (c.op = 6 ∧ k = 0 ∧ (i : Int) = c.b) ∨ (c.op = 8 ∧ k = 1 ∧ (i : Int) = c.b) ∨ ((c.op = 9 ∨ c.op = 10 ∨ c.op = 11 ∨ c.op = 13) ∧ k = 1 ∧ (i : Int) = c.a) ∨
  (c.op = 12 ∧ k = 1 ∧ ((i : Int) = c.a ∨ (i : Int) = c.b)) ∨ (c.op = 14 ∧ k = 2 ∧ (i : Int) = c.b)
def wrP (c : Ins) (k i : Nat) : Prop := (c.op = 7 ∧ k = 0 ∧ (i : Int) = c.a) ∨ (c.op ≠ 6 ∧ c.op ≠ 8 ∧ rdP c k i)
def seP (c : Ins) (i : Nat) : Prop := (c.op = 15 ∨ c.op = 16) ∧ c.a = i
def taP (c : Ins) (i : Nat) : Prop := c.op = 18 ∧ c.a = i
/-- one of the instructions below j to which a way leads from a place. -/
def Ex (p : List Ins) (a j : Nat) (P : Ins → Prop) : Prop := ∃ n, ∃ hn : n < p.length, n < j ∧ Rch p a n ∧ P p[n]
theorem ex_zero {p : List Ins} {a : Nat} {P : Ins → Prop} : ¬ Ex p a 0 P := fun ⟨_, _, h, _⟩ => by omega
theorem ex_skip {p : List Ins} {a j : Nat} {P : Ins → Prop} (h : ¬ Rch p a j) : Ex p a (j + 1) P ↔ Ex p a j P := by
  constructor
  · rintro ⟨n, hn, h1, h2, h3⟩
    refine ⟨n, hn, ?_, h2, h3⟩
    by_cases e : n = j
    · subst e; exact absurd h2 h
    · omega
  · rintro ⟨n, hn, h1, h2, h3⟩
    exact ⟨n, hn, by omega, h2, h3⟩
theorem ex_step {p : List Ins} {a j : Nat} {P : Ins → Prop} (hj : j < p.length) (h : Rch p a j) : Ex p a (j + 1) P ↔ Ex p a j P ∨ P p[j] := by
  constructor
  · rintro ⟨n, hn, h1, h2, h3⟩
    by_cases e : n = j
    · subst e; exact .inr h3
    · exact .inl ⟨n, hn, by omega, h2, h3⟩
  · rintro (⟨n, hn, h1, h2, h3⟩ | h3)
    · exact ⟨n, hn, by omega, h2, h3⟩
    · exact ⟨j, hj, by omega, h, h3⟩
/-- what a scope tells of all below j. -/
structure ScoI (p : List Ins) (a j : Nat) (S : Sco) : Prop where
  r : ∀ k, k < 3 → ∀ i, i < 8 → ((S.r k).getLsbD i = true ↔ Ex p a j (rdP · k i))
  w : ∀ k, k < 3 → ∀ i, i < 8 → ((S.w k).getLsbD i = true ↔ Ex p a j (wrP · k i))
  s : ∀ i, i < 3 → (S.s i = true ↔ Ex p a j (seP · i))
  t : ∀ i, i < 4 → (S.t i = true ↔ Ex p a j (taP · i))
  su : S.su = true ↔ Ex p a j (fun c => c.op = 21)
  wa : S.wa = true ↔ Ex p a j (fun c => c.op = 14 ∨ c.op = 19)
theorem scoI_zero {p : List Ins} {a : Nat} : ScoI p a 0 Sco.zero := by
  refine ⟨fun k _ i _ => ?_, fun k _ i _ => ?_, fun i _ => ?_, fun i _ => ?_, ?_, ?_⟩
  all_goals
    constructor
    · intro h; simp [Sco.zero] at h
    · intro h; exact absurd h ex_zero
theorem ScoI.skip {p : List Ins} {a j : Nat} {S : Sco} (h : ScoI p a j S) (hn : ¬ Rch p a j) : ScoI p a (j + 1) S :=
  ⟨fun k hk i hi => by rw [h.r k hk i hi, ex_skip hn], fun k hk i hi => by rw [h.w k hk i hi, ex_skip hn], fun i hi => by rw [h.s i hi, ex_skip hn], fun i hi => by rw [h.t i hi, ex_skip hn], by rw [h.su, ex_skip hn], by rw [h.wa, ex_skip hn]⟩
theorem addB_bit {f : Nat → BitVec 8} {k i : Nat} (hi : i < 8) {k' i' : Nat} (hi' : i' < 8) : (addB f k i k').getLsbD i' = true ↔ (f k').getLsbD i' = true ∨ (k' = k ∧ i' = i) := by
  unfold addB
  by_cases e : k' = k
  · subst e
    rw [if_pos rfl, BitVec.getLsbD_or, bit_self hi i' hi']
    simp
  · rw [if_neg e]; simp [e]
/-- what one instruction adds. -/
theorem takeR_r {c : Ins} (hr : Rng c) (S : Sco) {k i : Nat} (hi : i < 8) : ((takeR c S).r k).getLsbD i = true ↔ (S.r k).getLsbD i = true ∨ rdP c k i := by
  have nat : ∀ {x : Int}, 0 ≤ x ∧ x < 8 → x.toNat < 8 ∧ ∀ j : Nat, (j = x.toNat ↔ (j : Int) = x) := fun {x} hx => ⟨by omega, fun j => by omega⟩
  unfold takeR rdP
  by_cases e : c.op = 6
  · obtain ⟨n1, n2⟩ := nat (hr.h6 e)
    rw [if_pos e]; simp only [Sco.read]; rw [addB_bit n1 hi, n2]; simp [e]
  rw [if_neg e]
  by_cases e7 : c.op = 7
  · rw [if_pos e7]; simp [Sco.write, e7]
  rw [if_neg e7]
  by_cases e8 : c.op = 8
  · obtain ⟨n1, n2⟩ := nat (hr.h8 e8)
    rw [if_pos e8]; simp only [Sco.read]; rw [addB_bit n1 hi, n2]; simp [e8]
  rw [if_neg e8]
  by_cases e9 : c.op = 9 ∨ c.op = 13 ∨ c.op = 10 ∨ c.op = 11
  · obtain ⟨n1, n2⟩ := nat (hr.h9 (by rcases e9 with h | h | h | h <;> simp [h]))
    rw [if_pos e9]; simp only [Sco.read, Sco.both, Sco.write]; rw [addB_bit n1 hi, n2]
    rcases e9 with h | h | h | h <;> simp [h]
  rw [if_neg e9]
  by_cases e12 : c.op = 12
  · obtain ⟨q1, q2, q3, q4⟩ := hr.h12 e12
    obtain ⟨n1, n2⟩ := nat ⟨q1, q2⟩
    obtain ⟨m1, m2⟩ := nat ⟨q3, q4⟩
    rw [if_pos e12]; simp only [Sco.read, Sco.both, Sco.write]; rw [addB_bit m1 hi, addB_bit n1 hi, n2, m2]
    simp only [e12]
    constructor
    · rintro ((h | ⟨h, h'⟩) | ⟨h, h'⟩)
      · exact .inl h
      · exact .inr (by simp [h, h'])
      · exact .inr (by simp [h, h'])
    · rintro (h | h)
      · exact .inl (.inl h)
      · simp at h
        rcases h with ⟨h, h' | h'⟩
        · exact .inl (.inr ⟨h, h'⟩)
        · exact .inr ⟨h, h'⟩
  rw [if_neg e12]
  by_cases e14 : c.op = 14
  · obtain ⟨n1, n2⟩ := nat (hr.h14 e14)
    rw [if_pos e14]; simp only [Sco.read, Sco.both, Sco.write]; rw [addB_bit n1 hi, n2]; simp [e14]
  rw [if_neg e14]
  have hn : ¬ ((c.op = 6 ∧ k = 0 ∧ (i : Int) = c.b) ∨ (c.op = 8 ∧ k = 1 ∧ (i : Int) = c.b) ∨ ((c.op = 9 ∨ c.op = 10 ∨ c.op = 11 ∨ c.op = 13) ∧ k = 1 ∧ (i : Int) = c.a) ∨ (c.op = 12 ∧ k = 1 ∧ ((i : Int) = c.a ∨ (i : Int) = c.b)) ∨ (c.op = 14 ∧ k = 2 ∧ (i : Int) = c.b)) := by
    rintro (⟨h, _⟩ | ⟨h, _⟩ | ⟨h, _⟩ | ⟨h, _⟩ | ⟨h, _⟩)
    · exact e h
    · exact e8 h
    · exact e9 (by rcases h with h | h | h | h <;> simp [h])
    · exact e12 h
    · exact e14 h
  simp only [hn, or_false]
  split
  · rfl
  · split
    · rfl
    · split
      · rfl
      · split <;> rfl
theorem takeR_w {c : Ins} (hr : Rng c) (S : Sco) {k i : Nat} (hi : i < 8) : ((takeR c S).w k).getLsbD i = true ↔ (S.w k).getLsbD i = true ∨ wrP c k i := by
  have nat : ∀ {x : Int}, 0 ≤ x ∧ x < 8 → x.toNat < 8 ∧ ∀ j : Nat, (j = x.toNat ↔ (j : Int) = x) := fun {x} hx => ⟨by omega, fun j => by omega⟩
  unfold takeR wrP rdP
  by_cases e : c.op = 6
  · rw [if_pos e]; simp [Sco.read, e]
  rw [if_neg e]
  by_cases e7 : c.op = 7
  · obtain ⟨n1, n2⟩ := nat (hr.h7 e7)
    rw [if_pos e7]; simp only [Sco.write]; rw [addB_bit n1 hi, n2]; simp [e7]
  rw [if_neg e7]
  by_cases e8 : c.op = 8
  · rw [if_pos e8]; simp [Sco.read, e8]
  rw [if_neg e8]
  by_cases e9 : c.op = 9 ∨ c.op = 13 ∨ c.op = 10 ∨ c.op = 11
  · obtain ⟨n1, n2⟩ := nat (hr.h9 (by rcases e9 with h | h | h | h <;> simp [h]))
    rw [if_pos e9]; simp only [Sco.read, Sco.both, Sco.write]; rw [addB_bit n1 hi, n2]
    rcases e9 with h | h | h | h <;> simp [h]
  rw [if_neg e9]
  by_cases e12 : c.op = 12
  · obtain ⟨q1, q2, q3, q4⟩ := hr.h12 e12
    obtain ⟨n1, n2⟩ := nat ⟨q1, q2⟩
    obtain ⟨m1, m2⟩ := nat ⟨q3, q4⟩
    rw [if_pos e12]; simp only [Sco.read, Sco.both, Sco.write]; rw [addB_bit m1 hi, addB_bit n1 hi, n2, m2]
    simp only [e12]
    constructor
    · rintro ((h | ⟨h, h'⟩) | ⟨h, h'⟩)
      · exact .inl h
      · exact .inr (by simp [h, h'])
      · exact .inr (by simp [h, h'])
    · rintro (h | h)
      · exact .inl (.inl h)
      · simp at h
        rcases h with ⟨h, h' | h'⟩
        · exact .inl (.inr ⟨h, h'⟩)
        · exact .inr ⟨h, h'⟩
  rw [if_neg e12]
  by_cases e14 : c.op = 14
  · obtain ⟨n1, n2⟩ := nat (hr.h14 e14)
    rw [if_pos e14]; simp only [Sco.read, Sco.both, Sco.write]; rw [addB_bit n1 hi, n2]; simp [e14]
  rw [if_neg e14]
  have hn : ¬ ((c.op = 7 ∧ k = 0 ∧ (i : Int) = c.a) ∨ (c.op ≠ 6 ∧ c.op ≠ 8 ∧ ((c.op = 6 ∧ k = 0 ∧ (i : Int) = c.b) ∨ (c.op = 8 ∧ k = 1 ∧ (i : Int) = c.b) ∨ ((c.op = 9 ∨ c.op = 10 ∨ c.op = 11 ∨ c.op = 13) ∧ k = 1 ∧ (i : Int) = c.a) ∨ (c.op = 12 ∧ k = 1 ∧ ((i : Int) = c.a ∨ (i : Int) = c.b)) ∨ (c.op = 14 ∧ k = 2 ∧ (i : Int) = c.b)))) := by
    rintro (⟨h, _⟩ | ⟨_, _, ⟨h, _⟩ | ⟨h, _⟩ | ⟨h, _⟩ | ⟨h, _⟩ | ⟨h, _⟩⟩)
    · exact e7 h
    · exact e h
    · exact e8 h
    · exact e9 (by rcases h with h | h | h | h <;> simp [h])
    · exact e12 h
    · exact e14 h
  simp only [hn, or_false]
  split
  · rfl
  · split
    · rfl
    · split
      · rfl
      · split <;> rfl
theorem takeR_rest {c : Ins} (hr : Rng c) (S : Sco) : (∀ i, i < 3 → ((takeR c S).s i = true ↔ S.s i = true ∨ seP c i)) ∧ (∀ i, i < 4 → ((takeR c S).t i = true ↔ S.t i = true ∨ taP c i)) ∧
    ((takeR c S).su = true ↔ S.su = true ∨ c.op = 21) ∧ ((takeR c S).wa = true ↔ S.wa = true ∨ c.op = 14 ∨ c.op = 19) := by
  unfold takeR seP taP
  by_cases e : c.op = 6
  · rw [if_pos e]; simp [Sco.read, e]
  rw [if_neg e]
  by_cases e7 : c.op = 7
  · rw [if_pos e7]; simp [Sco.write, e7]
  rw [if_neg e7]
  by_cases e8 : c.op = 8
  · rw [if_pos e8]; simp [Sco.read, e8]
  rw [if_neg e8]
  by_cases e9 : c.op = 9 ∨ c.op = 13 ∨ c.op = 10 ∨ c.op = 11
  · rw [if_pos e9]
    rcases e9 with h | h | h | h <;> simp [Sco.read, Sco.both, Sco.write, h]
  rw [if_neg e9]
  by_cases e12 : c.op = 12
  · rw [if_pos e12]; simp [Sco.read, Sco.both, Sco.write, e12]
  rw [if_neg e12]
  by_cases e14 : c.op = 14
  · rw [if_pos e14]; simp [Sco.read, Sco.both, Sco.write, e14]
  rw [if_neg e14]
  by_cases e19 : c.op = 19
  · rw [if_pos e19]; simp [e19]
  rw [if_neg e19]
  by_cases e15 : c.op = 15 ∨ c.op = 16
  · obtain ⟨q1, q2⟩ := hr.h15 e15
    rw [if_pos e15]
    have h18 : c.op ≠ 18 := by rcases e15 with h | h <;> omega
    have h21 : c.op ≠ 21 := by rcases e15 with h | h <;> omega
    have h14 : c.op ≠ 14 := by rcases e15 with h | h <;> omega
    have h19 : c.op ≠ 19 := by rcases e15 with h | h <;> omega
    refine ⟨fun i hi => ?_, by simp [h18], by simp [h21], by simp [h14, h19]⟩
    simp only [setT]
    by_cases ei : i = c.a.toNat
    · rw [if_pos ei]; simp [e15]; right; omega
    · rw [if_neg ei]
      constructor
      · exact .inl
      · rintro (h | ⟨_, h⟩)
        · exact h
        · omega
  rw [if_neg e15]
  by_cases e18 : c.op = 18
  · obtain ⟨q1, q2⟩ := hr.h18 e18
    rw [if_pos e18]
    refine ⟨by simp [e18], fun i hi => ?_, by simp [e18], by simp [e18]⟩
    simp only [setT]
    by_cases ei : i = c.a.toNat
    · rw [if_pos ei]; simp [e18]; right; omega
    · rw [if_neg ei]
      constructor
      · exact .inl
      · rintro (h | ⟨_, h⟩)
        · exact h
        · omega
  rw [if_neg e18]
  by_cases e21 : c.op = 21
  · rw [if_pos e21]; simp [e21]
  · rw [if_neg e21]; simp [e15, e18, e21, e14, e19]
theorem ScoI.take {p : List Ins} {a j : Nat} {S : Sco} (h : ScoI p a j S) (hj : j < p.length) (hr : Rng p[j]) (hR : Rch p a j) : ScoI p a (j + 1) (takeR p[j] S) := by
  obtain ⟨t1, t2, t3, t4⟩ := takeR_rest hr S
  refine ⟨fun k hk i hi => ?_, fun k hk i hi => ?_, fun i hi => ?_, fun i hi => ?_, ?_, ?_⟩
  · rw [takeR_r hr S hi, h.r k hk i hi, ex_step hj hR]
  · rw [takeR_w hr S hi, h.w k hk i hi, ex_step hj hR]
  · rw [t1 i hi, h.s i hi, ex_step hj hR]
  · rw [t2 i hi, h.t i hi, ex_step hj hR]
  · rw [t3, h.su, ex_step hj hR]
  · rw [t4, h.wa, ex_step hj hR]
end Go.Proofs.Ytijppadieomnjaa.HT
namespace Go.Proofs.Ytijppadieomnjaa.HT
open Go

theorem bound_Reach_wpN {D : HV → List HV → M HV} {H : Heap} {Q : HV → Heap → Prop} {s : Sl} {p : List Ins} (hs : RProg H s p) (hf : ∀ x ∈ p, IFit x) (hc : ¬ CanB p)
    (h : ∀ H', Keeps H H' → Q (.sl ⟨none, 0, 0, none⟩) H') : wp (f_bound_Reach D [.sl s]) Q H := by
  unfold f_bound_Reach
  with_reducible repeat' (first | refine wp_finF ?_ | refine wp_uA ?_ | refine wp_uI ?_ | refine wp_uB ?_ | refine wp_uL ?_ | refine wp_uS ?_ | refine wp_uP ?_ | refine wp_uc ?_ | refine wp_nl ?_ | refine wp_asB ?_ | refine wp_asI ?_ | refine wp_asSl ?_ | refine wp_asT ?_ | refine wp_asA ?_ | refine wp_asS ?_ | refine wp_asP ?_ | refine wp_nN ?_ | refine wp_rN ?_ | refine wp_xN ?_ | refine wp_nB ?_ | refine wp_rB ?_ | refine wp_xB rfl ?_ | refine wp_xB' rfl ?_ | refine wp_bB ?_ | refine wp_rX ?_ | refine wp_xX ?_ | refine wp_rE ?_ | refine wp_xE ?_ | refine wp_rR ?_ | refine wp_xR ?_ | refine wp_r0 ?_ | refine wp_x0 ?_ | refine wp_rF ?_ | refine wp_rF0 ?_ | refine wp_rF2 ?_ | refine wp_rF3 ?_ | refine wp_rF4 ?_ | refine wp_condT ?_ | refine wp_condF ?_ | refine wp_condNT ?_ | refine wp_condNF ?_)
  refine wp_bnd (bound_can_wp hs hf fun z H1 hk hz => wp_asB ?_)
  have : z = false := by
    cases z
    · rfl
    · exact absurd (hz.1 rfl) hc
  subst this
  exact wp_condNF (wp_rF (h _ hk))
theorem scope_end_wp {D : HV → List HV → M HV} {H : Heap} {Q : HV → Heap → Prop} {s : Sl} {p : List Ins} (hs : RProg H s p) (hn : p.length ≤ 1000) {a e : Nat} (he : EndAt p a e) (h : Q (I (e : Int)) H) : wp (f_scope_end D [.sl s, I a]) Q H := by
  unfold f_scope_end
  have h1 := he.lt
  have h2 := he.le
  with_reducible repeat' (first | refine wp_finF ?_ | refine wp_uA ?_ | refine wp_uI ?_ | refine wp_uB ?_ | refine wp_uL ?_ | refine wp_uS ?_ | refine wp_uP ?_ | refine wp_uc ?_ | refine wp_nl ?_ | refine wp_asB ?_ | refine wp_asI ?_ | refine wp_asSl ?_ | refine wp_asT ?_ | refine wp_asA ?_ | refine wp_asS ?_ | refine wp_asP ?_ | refine wp_nN ?_ | refine wp_rN ?_ | refine wp_xN ?_ | refine wp_nB ?_ | refine wp_rB ?_ | refine wp_xB rfl ?_ | refine wp_xB' rfl ?_ | refine wp_bB ?_ | refine wp_rX ?_ | refine wp_xX ?_ | refine wp_rE ?_ | refine wp_xE ?_ | refine wp_rR ?_ | refine wp_xR ?_ | refine wp_r0 ?_ | refine wp_x0 ?_ | refine wp_rF ?_ | refine wp_rF0 ?_ | refine wp_rF2 ?_ | refine wp_rF3 ?_ | refine wp_rF4 ?_ | refine wp_condT ?_ | refine wp_condF ?_ | refine wp_condNT ?_ | refine wp_condNF ?_)
  refine wp_blk ?_
  refine wp_loop (fun k vs H' => H' = H ∧ ∃ i : Nat, k + i = e ∧ a ≤ i ∧ vs = [I (i : Int)]) (e - a) ⟨rfl, a, by omega, Nat.le_refl _, rfl⟩ ?_
  rintro k vs H1 ⟨rfl, i, hk, hi, rfl⟩
  have hi' : i < p.length := by omega
  refine wp_uI (wp_nl (wp_atF hs hi' (k := 0) (v := I (p[i]).op) rfl fun _ _ => wp_asI ?_))
  refine wp_condNE (fun c => wp_ret ?_) (fun c => wp_ret ?_)
  · have hne : i ≠ e := fun h => by subst h; exact c (he.fin h2)
    refine ⟨k - 1, by omega, rfl, i + 1, by omega, by omega, ?_⟩
    rw [wr_small (by omega) (by omega)]; rfl
  · have : i = e := by
      apply Classical.byContradiction
      intro hne
      by_cases ha : a = i
      · subst ha; have := he.b hi'; omega
      · exact he.no i hi' (by omega) (by omega) c
    subst this
    show wp _ _ _
    exact wp_uI (wp_nl (wp_rF h))

/-- a block begins at a place of a program that can be. -/
def Beg (p : List Ins) (a : Int) : Prop := CanB p ∧ ∃ k : Nat, a = k ∧ ∃ hk : k < p.length, (p[k]).op = 4
/-- what scope.Of keeps in memory. -/
structure OfK (H : Heap) (n m : Nat) (s : Sl) (S : Sco) (e : Nat) : Prop where
  c2 : Cel H n (.sl s)
  c6 : H.get (n + 1) = .cells S.cells false
  l6 : n + 1 < H.n
  c7 : Cel H m (I (e : Int))
theorem OfK.keeps {H H' : Heap} {n m : Nat} {s : Sl} {S : Sco} {e : Nat} (h : OfK H n m s S e) (k : Keeps H H') : OfK H' n m s S e :=
  ⟨h.c2.keeps k, by rw [k.get _ h.l6]; exact h.c6, Nat.lt_of_lt_of_le h.l6 k.n, h.c7.keeps k⟩
theorem OfK.ne {H : Heap} {n m : Nat} {s : Sl} {S : Sco} {e : Nat} (h : OfK H n m s S e) {b : Nat} (h1 : n + 1 < b) (h2 : m < b) (o : HObj) : OfK (H.set b o) n m s S e :=
  ⟨h.c2.ne (by omega), by simp only [Heap.set]; rw [if_neg (by omega)]; exact h.c6, h.l6, h.c7.ne (by omega)⟩
theorem OfK.take {H H' : Heap} {n m : Nat} {s : Sl} {S S' : Sco} {e : Nat} (h : OfK H n m s S e) (hm : n + 1 < m) (hb : But (fun x => x = n + 1) H H') (hg : H'.get (n + 1) = .cells S'.cells false) : OfK H' n m s S' e :=
  ⟨h.c2.but hb (by omega), hg, Nat.lt_of_lt_of_le h.l6 hb.n, h.c7.but hb (by omega)⟩

theorem Of_round {D : DD} {Q : HV → Heap → Prop} {H : Heap} {l n m : Nat} {s : Sl} {p : List Ins} {S : Sco} {e j : Nat} {ws : List (Nat × HV)}
    (hws : ws = [(2, .ptr (some (n, 0))), (6, .ptr (some (n + 1, 0))), (7, .ptr (some (m, 0)))]) (hl : n + 1 < m ∧ m < l) (hL : Lop H l 82468377 ws .ready none) (ht : OfK H n m s S e) (hs : RProg H s p) (hsM : ∀ b o, s.p = some (b, o) → ¬ (b = l ∨ b = n + 1)) (hc : CanB p) (he : e < p.length)
    (h1 : e ≤ j → ∀ H', But (fun b => b = l ∨ b = n + 1) H H' → OfK H' n m s S e → Lop H' l 82468377 ws .done (some (.exit 0)) → Q (.bool false) H')
    (h2 : ∀ hj : j < e, ∀ H', But (fun b => b = l ∨ b = n + 1) H H' → OfK H' n m s (takeR (p[j]) S) e → Lop H' l 82468377 ws .ready none → Q (.bool true) H') :
    wp (r0_scope_Of D l ws [I j]) (PRnd l Q) H := by
  unfold r0_scope_Of
  subst hws
  refine wp_gdS rfl ?_
  refine wp_uP (wp_uP (wp_uP (wp_nl (wp_uI (wp_nl (wp_busyL hL.get ?_))))))
  generalize hws : [(2, HV.ptr (some (n, 0))), (6, .ptr (some (n + 1, 0))), (7, .ptr (some (m, 0)))] = ws at *
  have hB0 := (But.refl (fun b => b = l ∨ b = n + 1) H).set (b := l) (.inl rfl) (.loop 82468377 ws .busy none)
  have hL1 : Lop (H.set l (.loop 82468377 ws .busy none)) l 82468377 ws .busy none := Lop.self hL.lt
  have ht1 := ht.ne (b := l) (by omega) (by omega) (.loop 82468377 ws .busy none)
  have hs1 := hs.but hB0 hsM
  generalize H.set l (.loop 82468377 ws .busy none) = H1 at hB0 hL1 ht1 hs1
  show wp (mP (some (m, 0)) _) _ _
  rw [mP_eq']
  refine wp_ldcel ht1.c7 (wp_asI (wp_condD (fun c => ?_) (fun c => ?_)))
  · refine wp_xY hL1.get ?_
    exact h1 (by omega) _ (hB0.set (b := l) (.inl rfl) _) (ht1.ne (by omega) (by omega) _) (Lop.self hL1.lt)
  · have hj : j < e := by omega
    have hjp : j < p.length := by omega
    show wp (mP (some (n, 0)) _) _ _
    rw [mP_eq']
    refine wp_ldcel ht1.c2 (wp_asSl ?_)
    refine wp_at hs1 hjp fun _ _ => ?_
    show wp (uI .i64 [I (p[j]).op, I (p[j]).a, I (p[j]).b, I (p[j]).c] _) _ _
    refine wp_uI (wp_uI (wp_uI (wp_uI (wp_nl ?_))))
    refine wp_bnd (scope_take_wp (c := p[j]) ht1.c6 (hc.one j hjp).fits.rng fun H2 hb2 hg2 => wp_asT (wp_nl ?_))
    have hB2 : But (fun b => b = l ∨ b = n + 1) H H2 := hB0.trans ⟨hb2.n, fun b hb hm => hb2.get b hb fun h => hm (.inr h)⟩
    have ht2 := ht1.take (by omega) hb2 hg2
    have hL2 := hL1.but hb2 (by omega)
    refine wp_nY hL2.get ?_
    exact h2 hj _ (hB2.set (b := l) (.inl rfl) _) (ht2.ne (by omega) (by omega) _) (Lop.self hL2.lt)

theorem cells_len (S : Sco) : S.cells.length = 15 := rfl
theorem scope_Of_wp {cl : List (Nat × Clo)} {rn : List (Nat × Rnd)} {D0 : DD} (h1 : lkA cl n_bound_From_1 = some f_bound_From_1) (h2 : lkA rn 82468377 = some r0_scope_Of) {H : Heap} {Q : HV → Heap → Prop} {s : Sl} {p : List Ins} (hs : RProg H s p) (hf : ∀ x ∈ p, IFit x) {a : Int}
    (hy : ∀ k : Nat, a = k → CanB p → ∀ e, EndAt p k e → ∀ S H', Keeps H H' → ScoI p k e S → Q (.tup [.agg S.cells, .bool true]) H')
    (hn : ¬ Beg p a → ∀ H', Keeps H H' → Q (.tup [.agg Sco.zero.cells, .bool false]) H') :
    wp (f_scope_Of (stepD cl rn (stepD cl rn D0)) [.sl s, I a]) Q H := by
  unfold f_scope_Of
  have hlen := hs.lenI
  have hsp : ∀ b o, s.p = some (b, o) → b < H.n := by
    intro b o e
    have hs' : SlR H s 4 (p.map Ins.cs) := hs
    rcases hs'.mem with ⟨q1, _⟩ | ⟨b2, o2, _, _, q1, q2, _⟩
    · rw [q1] at e; cases e
    · rw [q1] at e; cases e; exact q2
  with_reducible repeat' (first | refine wp_finF ?_ | refine wp_uA ?_ | refine wp_uI ?_ | refine wp_uB ?_ | refine wp_uL ?_ | refine wp_uS ?_ | refine wp_uP ?_ | refine wp_uc ?_ | refine wp_nl ?_ | refine wp_asB ?_ | refine wp_asI ?_ | refine wp_asSl ?_ | refine wp_asT ?_ | refine wp_asA ?_ | refine wp_asS ?_ | refine wp_asP ?_ | refine wp_nN ?_ | refine wp_rN ?_ | refine wp_xN ?_ | refine wp_nB ?_ | refine wp_rB ?_ | refine wp_xB rfl ?_ | refine wp_xB' rfl ?_ | refine wp_bB ?_ | refine wp_rX ?_ | refine wp_xX ?_ | refine wp_rE ?_ | refine wp_xE ?_ | refine wp_rR ?_ | refine wp_xR ?_ | refine wp_r0 ?_ | refine wp_x0 ?_ | refine wp_rF ?_ | refine wp_rF0 ?_ | refine wp_rF2 ?_ | refine wp_rF3 ?_ | refine wp_rF4 ?_ | refine wp_condT ?_ | refine wp_condF ?_ | refine wp_condNT ?_ | refine wp_condNF ?_)
  refine wp_nw (wp_nw ?_)
  have c2 : Cel ((H.push (.cells [.sl s] false)).push (.cells Sco.zero.cells false)) H.n (.sl s) := Cel.new.keeps (Keeps.push _ _)
  have c6 : ((H.push (.cells [.sl s] false)).push (.cells Sco.zero.cells false)).get (H.n + 1) = .cells Sco.zero.cells false := by simp [Heap.push]
  have l6 : H.n + 1 < ((H.push (.cells [.sl s] false)).push (.cells Sco.zero.cells false)).n := by simp [Heap.push]
  have hk0 : Keeps H ((H.push (.cells [.sl s] false)).push (.cells Sco.zero.cells false)) := (Keeps.push _ _).trans (Keeps.push _ _)
  rw [show (H.push (.cells [.sl s] false)).n = H.n + 1 from rfl]
  change wp _ _ ((H.push (.cells [.sl s] false)).push (.cells Sco.zero.cells false))
  generalize (H.push (.cells [.sl s] false)).push (.cells Sco.zero.cells false) = H1 at c2 c6 l6 hk0
  have hs1 := hs.keeps hk0
  refine wp_jn (wp.mono (Q := fun lf H' => ∃ b : Bool, lf = .norm [.bool b] ∧ (b = true ↔ ¬ Beg p a) ∧ Keeps H1 H') ?_ ?_)
  · refine wp_condD (fun c => wp_ret ⟨true, rfl, ⟨fun _ ⟨_, k, hk, _⟩ => by omega, fun _ => rfl⟩, Keeps.refl _⟩) (fun c0 => ?_)
    refine wp_ldcel c2 (wp_asSl (wp_condD (fun c => wp_ret ⟨true, rfl, ⟨fun _ ⟨_, k, hk, hk', _⟩ => by omega, fun _ => rfl⟩, Keeps.refl _⟩) (fun c1 => ?_)))
    obtain ⟨k, rfl⟩ : ∃ k : Nat, a = k := ⟨a.toNat, by omega⟩
    have hk : k < p.length := by omega
    refine wp_ldcel c2 (wp_asSl (wp_atF hs1 hk (k := 0) (v := I (p[k]).op) rfl fun _ _ => wp_asI ?_))
    refine wp_condNE (fun c4 => wp_ret ⟨true, rfl, ⟨fun _ ⟨_, k', hk', h3, h4⟩ => ?_, fun _ => rfl⟩, Keeps.refl _⟩) (fun c4 => ?_)
    · have : k' = k := by omega
      subst this; exact c4 h4
    · refine wp_ldcel c2 (wp_asSl ?_)
      by_cases hc : CanB p
      · refine wp_bnd (bound_Reach_wp hs1 hf hc fun t H2 hk2 _ hr => wp_asSl (wp_ret ⟨_, rfl, ?_, hk2⟩))
        have hl := hr.lenI
        rw [reachL_len] at hl
        rw [hl]
        constructor
        · intro h; simp at h; subst h; simp at hk
        · intro h; exact absurd ⟨hc, k, rfl, hk, c4⟩ h
      · refine wp_bnd (bound_Reach_wpN hs1 hf hc fun H2 hk2 => wp_asSl (wp_ret ⟨_, rfl, ?_, hk2⟩))
        exact ⟨fun _ h => hc h.1, fun _ => rfl⟩
  rintro _ H2 ⟨b, rfl, hb, hk2⟩
  show wp _ _ _
  have c6' : H2.get (H.n + 1) = .cells Sco.zero.cells false := by rw [hk2.get _ l6]; exact c6
  refine wp_uB (wp_nl (wp_cond (fun hbt => ?_) (fun hbf => ?_)))
  · refine wp_ldNg c6' rfl (wp_gd rfl (wp_gd rfl ?_))
    exact wp_rF2 (hn (hb.1 hbt) _ (hk0.trans hk2))
  · have hbeg : Beg p a := Classical.byContradiction fun hh => by rw [hb.2 hh] at hbf; cases hbf
    obtain ⟨hc, k, rfl, hk, h4⟩ := hbeg
    obtain ⟨e, he⟩ := exists_end hc.shaped hk h4
    have h48 := hc.len
    have hel := he.le
    have c2' := c2.keeps hk2
    have hs2 := hs1.keeps hk2
    refine wp_ldcel c2' (wp_asSl (wp_bnd (scope_end_wp hs2 (by omega) he (wp_asI (wp_nw ?_)))))
    have hk3 := Keeps.push H2 (.cells [I 0] false)
    have c7 : Cel (H2.push (.cells [I 0] false)) H2.n (I 0) := Cel.new
    have hn2 : H.n + 1 < H2.n := Nat.lt_of_lt_of_le l6 hk2.n
    have c6s : (H2.push (.cells [I 0] false)).get (H.n + 1) = .cells Sco.zero.cells false := by rw [hk3.get _ hn2]; exact c6'
    have c2s := c2'.keeps hk3
    have hkA := (hk0.trans hk2).trans hk3
    generalize H2.push (.cells [I 0] false) = H3 at hk3 c7 c6s c2s hkA
    generalize H2.n = m at c7 hn2
    refine wp_stcel c7 rfl ?_
    have hkB : Keeps H (H3.set m (.cells [I (e : Int)] false)) := hkA.set (by omega) _
    have ht : OfK (H3.set m (.cells [I (e : Int)] false)) H.n m s Sco.zero e :=
      ⟨c2s.ne (by omega), by simp only [Heap.set]; rw [if_neg (by omega)]; exact c6s, Nat.lt_trans hn2 c7.lt, Cel.self c7.lt⟩
    generalize H3.set m (.cells [I (e : Int)] false) = H4 at hkB ht
    refine wp_ldcel ht.c2 (wp_asSl (wp_bnd (bound_From_wp (wp_blk ?_))))
    have hk5 := (Keeps.push H4 (.cells [.sl s] false)).trans (Keeps.push (H4.push (.cells [.sl s] false)) (.cells [I (k : Int)] false))
    have ga : Cel ((H4.push (.cells [.sl s] false)).push (.cells [I (k : Int)] false)) H4.n (.sl s) := Cel.new.keeps (Keeps.push _ _)
    have gb : Cel ((H4.push (.cells [.sl s] false)).push (.cells [I (k : Int)] false)) (H4.n + 1) (I (k : Int)) := Cel.new
    replace ht := ht.keeps hk5
    replace hkB := hkB.trans hk5
    generalize (H4.push (.cells [.sl s] false)).push (.cells [I (k : Int)] false) = H5 at hk5 ga gb ht hkB
    generalize H4.n = q at ga gb
    refine wp_ny (wp_nwL ?_)
    generalize hws : [((2 : Nat), HV.ptr (some (H.n, 0))), (6, .ptr (some (H.n + 1, 0))), (7, .ptr (some (m, 0)))] = ws
    have hkL := Keeps.push H5 (.loop 82468377 ws .ready none)
    have hL : Lop (H5.push (.loop 82468377 ws .ready none)) H5.n 82468377 ws .ready none := Lop.new
    have hll : m < H5.n := ht.c7.lt
    replace ht := ht.keeps hkL
    replace ga := ga.keeps hkL
    replace gb := gb.keeps hkL
    have hkC := hkB.trans hkL
    generalize H5.n = l at hL hll
    generalize H5.push (.loop 82468377 ws .ready none) = H6 at hL ht ga gb hkC
    have hs6 := hs.keeps hkC
    have hMs : ∀ b o, s.p = some (b, o) → ¬ (b = l ∨ b = H.n + 1) := fun b o e hh => by have := hsp b o e; omega
    have back : ∀ H8, But (fun b => b = l ∨ b = H.n + 1) H6 H8 → Keeps H H8 := fun H8 hb8 =>
      ⟨Nat.le_trans hkC.n hb8.n, fun b hb => by rw [hb8.get b (Nat.lt_of_lt_of_le hb hkC.n) (by omega)]; exact hkC.get b hb⟩
    have tail : ∀ S H8, Keeps H H8 → OfK H8 H.n m s S e → ScoI p k e S → wp (nl [] (ldN (H.n + 1) 0 15 fun x47l => gd (Nat.beq x47l.length 15) (gd (Nat.ble (0 + x47l.length) Sco.zero.cells.length) (gxN (putN Sco.zero.cells 0 x47l) 0 15 fun z0l_1 => ret (Leaf.ret [.agg z0l_1, .bool true]))))) (PFin Q) H8 := by
      intro S H8 hk8 ht8 hS
      refine wp_nl (wp_ldNg ht8.c6 rfl (wp_gd rfl (wp_gd rfl ?_)))
      rw [putN_full (by rw [cells_len, cells_len])]
      refine wp_gxAll rfl (wp_rF2 ?_)
      exact hy k rfl hc e he S H8 hk8 hS
    refine wp_bnd (wp_clo h1 ?_)
    refine wp.mono (bound_From_1_wp (Mo := fun b => b = l ∨ b = H.n + 1)
      (J := fun j H' => Lop H' l 82468377 ws .ready none ∧ ∃ S, OfK H' H.n m s S e ∧ ScoI p k (min j e) S)
      (X := fun H' => Lop H' l 82468377 ws .done (some (.exit 0)) ∧ ∃ S, OfK H' H.n m s S e ∧ ScoI p k e S) ga.get gb.get ga.lt gb.lt hs6 hf hc (by omega) ?_ ?_ ?_ ?_) ?_
    · intro b hb
      have q1 := hL.lt; have q2 := ht.l6
      rcases hb with rfl | rfl <;> omega
    · intro H' hk'
      exact ⟨hL.keeps hk', _, ht.keeps hk', by rw [Nat.zero_min]; exact scoI_zero⟩
    · rintro j H' hj hbj ⟨q1, S, q2, q3⟩
      refine ⟨q1, S, q2, ?_⟩
      by_cases hje : j < e
      · rw [show min (j + 1) e = j + 1 by omega]
        rw [show min j e = j by omega] at q3
        refine q3.skip fun hr => ?_
        rw [(seenL_get hj).2 hr] at hbj; cases hbj
      · rw [show min (j + 1) e = min j e by omega]; exact q3
    · rintro j H' hj hbj hbut ⟨q1, S, q2, q3⟩
      refine wp_rnd q1.get h2 (Of_round hws.symm ⟨by omega, hll⟩ q1 q2 (hs6.but hbut hMs) hMs hc hel (fun hge H8 hb8 ht8 hl8 => ?_) (fun hj' H8 hb8 ht8 hl8 => ?_))
      · refine ⟨hb8, .inr ⟨rfl, hl8, S, ht8, ?_⟩⟩
        rw [show min j e = e by omega] at q3; exact q3
      · refine ⟨hb8, .inl ⟨rfl, hl8, _, ht8, ?_⟩⟩
        rw [show min (j + 1) e = j + 1 by omega]
        rw [show min j e = j by omega] at q3
        have hjp : j < p.length := by omega
        exact q3.take hjp (hc.one j hjp).fits.rng ((seenL_get hj).1 hbj)
    · rintro _ H8 ⟨hb8, ⟨q1, S, q2, q3⟩ | ⟨q1, S, q2, q3⟩⟩
      · rw [show min (p.length + 1) e = e by omega] at q3
        refine wp_endL0 q1.get (by intro hh; cases hh) (wp_ret ?_)
        exact tail S _ ((back H8 hb8).set (by omega) _) (q2.ne (by omega) hll _) q3
      · refine wp_endLx q1.get (by intro hh; cases hh) (wp_onX (wp_ret ?_))
        exact tail S _ ((back H8 hb8).set (by omega) _) (q2.ne (by omega) hll _) q3
end Go.Proofs.Ytijppadieomnjaa.HT
