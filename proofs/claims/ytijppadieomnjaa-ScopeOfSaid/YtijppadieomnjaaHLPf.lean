/- What the document's Of (scope) computes. Conditions: none (lemmas). -/
import Derived.Test.YtijppadieomnjaaHLPc
namespace Go.Proofs.Ytijppadieomnjaa.HL
open Go

theorem ref28_Reads_wp {D : HV → List HV → M HV} {H : Heap} {Q : HV → Heap → Prop} {c : Ins} {k i : Nat} (h : ∀ z : Bool, (z = true ↔ rdP c k i) → Q (.bool z) H) : wp (f_ref28_Reads D [.agg c.cs, I k, I i]) Q H := by
  obtain ⟨o, a, b, c⟩ := c
  unfold f_ref28_Reads
  show wp (fin (uA [.agg [I o, I a, I b, I c], I k, I i] _)) _ _
  unfold rdP at h
  simp only at h
  with_reducible repeat' (first | refine wp_finF ?_ | refine wp_uA ?_ | refine wp_uI ?_ | refine wp_uB ?_ | refine wp_uL ?_ | refine wp_uS ?_ | refine wp_uP ?_ | refine wp_uc ?_ | refine wp_nl ?_ | refine wp_asB ?_ | refine wp_asI ?_ | refine wp_asSl ?_ | refine wp_asT ?_ | refine wp_asA ?_ | refine wp_asS ?_ | refine wp_asP ?_ | refine wp_jn ?_ | refine wp_nN ?_ | refine wp_rN ?_ | refine wp_xN ?_ | refine wp_nB ?_ | refine wp_rB ?_ | refine wp_xB rfl ?_ | refine wp_xB' rfl ?_ | refine wp_bB ?_ | refine wp_rX ?_ | refine wp_xX ?_ | refine wp_rE ?_ | refine wp_xE ?_ | refine wp_rR ?_ | refine wp_xR ?_ | refine wp_r0 ?_ | refine wp_x0 ?_ | refine wp_rF ?_ | refine wp_rF0 ?_ | refine wp_rF2 ?_ | refine wp_rF3 ?_ | refine wp_rF4 ?_ | refine wp_condT ?_ | refine wp_condF ?_ | refine wp_condNT ?_ | refine wp_condNF ?_ | refine wp_condD (fun _ => ?_) (fun _ => ?_) | refine wp_condE (fun _ => ?_) (fun _ => ?_) | refine wp_condNE (fun _ => ?_) (fun _ => ?_) | refine wp_condN (fun _ => ?_) (fun _ => ?_) | refine wp_cond (fun _ => ?_) (fun _ => ?_))
  all_goals (refine h _ ?_; clear h; grind)
theorem ref28_Writes_wp {D : HV → List HV → M HV} {H : Heap} {Q : HV → Heap → Prop} {c : Ins} {k i : Nat} (h : ∀ z : Bool, (z = true ↔ wrP c k i) → Q (.bool z) H) : wp (f_ref28_Writes D [.agg c.cs, I k, I i]) Q H := by
  obtain ⟨o, a, b, c⟩ := c
  unfold f_ref28_Writes
  show wp (fin (uA [.agg [I o, I a, I b, I c], I k, I i] _)) _ _
  have h' : ∀ z : Bool, (z = true ↔ (o = 7 ∧ k = 0 ∧ (i : Int) = a) ∨ (o ≠ 6 ∧ o ≠ 8 ∧ rdP ⟨o, a, b, c⟩ k i)) → Q (.bool z) H := h
  clear h
  have h7 : o = 7 → ¬ rdP ⟨o, a, b, c⟩ k i := by intro e; unfold rdP; simp [e]
  with_reducible repeat' (first | refine wp_finF ?_ | refine wp_uA ?_ | refine wp_uI ?_ | refine wp_uB ?_ | refine wp_uL ?_ | refine wp_uS ?_ | refine wp_uP ?_ | refine wp_uc ?_ | refine wp_nl ?_ | refine wp_asB ?_ | refine wp_asI ?_ | refine wp_asSl ?_ | refine wp_asT ?_ | refine wp_asA ?_ | refine wp_asS ?_ | refine wp_asP ?_ | refine wp_jn ?_ | refine wp_nN ?_ | refine wp_rN ?_ | refine wp_xN ?_ | refine wp_nB ?_ | refine wp_rB ?_ | refine wp_xB rfl ?_ | refine wp_xB' rfl ?_ | refine wp_bB ?_ | refine wp_rX ?_ | refine wp_xX ?_ | refine wp_rE ?_ | refine wp_xE ?_ | refine wp_rR ?_ | refine wp_xR ?_ | refine wp_r0 ?_ | refine wp_x0 ?_ | refine wp_rF ?_ | refine wp_rF0 ?_ | refine wp_rF2 ?_ | refine wp_rF3 ?_ | refine wp_rF4 ?_ | refine wp_condT ?_ | refine wp_condF ?_ | refine wp_condNT ?_ | refine wp_condNF ?_ | refine wp_condD (fun _ => ?_) (fun _ => ?_) | refine wp_condE (fun _ => ?_) (fun _ => ?_) | refine wp_condNE (fun _ => ?_) (fun _ => ?_) | refine wp_condN (fun _ => ?_) (fun _ => ?_) | refine wp_cond (fun _ => ?_) (fun _ => ?_) | refine wp_bnd (ref28_Reads_wp (c := ⟨o, a, b, c⟩) fun z hz => ?_))
  all_goals (refine h' _ ?_; clear h'; grind)

/-- what a place of a scope says of one instruction. -/
def posP (c : Ins) (x : Nat) : Prop := (x < 24 ∧ rdP c (x / 8) (x % 8)) ∨ (24 ≤ x ∧ x < 48 ∧ wrP c ((x - 24) / 8) ((x - 24) % 8)) ∨ (48 ≤ x ∧ x < 51 ∧ seP c (x - 48)) ∨ (51 ≤ x ∧ x < 55 ∧ taP c (x - 51)) ∨
  (x = 55 ∧ c.op = 21) ∨ (x = 56 ∧ (c.op = 14 ∨ c.op = 19))
def ExB (p : List Ins) (a j : Nat) (P : Ins → Prop) : Prop := ∃ n, ∃ hn : n < p.length, n < j ∧ Rch p a n ∧ Blk p n = (a : Int) ∧ P p[n]
theorem exB_zero {p : List Ins} {a : Nat} {P : Ins → Prop} : ¬ ExB p a 0 P := fun ⟨_, _, h, _⟩ => by omega
theorem exB_skip {p : List Ins} {a j : Nat} {P : Ins → Prop} (h : ¬ (Rch p a j ∧ Blk p j = (a : Int))) : ExB p a (j + 1) P ↔ ExB p a j P := by
  constructor
  · rintro ⟨n, hn, h1, h2, h3, h4⟩
    refine ⟨n, hn, ?_, h2, h3, h4⟩
    by_cases e : n = j
    · subst e; exact absurd ⟨h2, h3⟩ h
    · omega
  · rintro ⟨n, hn, h1, h2, h3⟩
    exact ⟨n, hn, by omega, h2, h3⟩
theorem exB_step {p : List Ins} {a j : Nat} {P : Ins → Prop} (hj : j < p.length) (h : Rch p a j) (hb : Blk p j = (a : Int)) : ExB p a (j + 1) P ↔ ExB p a j P ∨ P p[j] := by
  constructor
  · rintro ⟨n, hn, h1, h2, h3, h4⟩
    by_cases e : n = j
    · subst e; exact .inr h4
    · exact .inl ⟨n, hn, by omega, h2, h3, h4⟩
  · rintro (⟨n, hn, h1, h2, h3⟩ | h3)
    · exact ⟨n, hn, by omega, h2, h3⟩
    · exact ⟨j, hj, by omega, h, hb, h3⟩
/-- the document's scope of all below j. -/
structure RefI (p : List Ins) (a j : Nat) (L : List Bool) : Prop where
  len : L.length = 57
  at_ : ∀ x, L.getD x false = true ↔ ExB p a j (posP · x)
/-- places that were set. -/
structure PW (L T : List Bool) (A : Nat → Prop) : Prop where
  len : T.length = 57
  at_ : ∀ x, T.getD x false = true ↔ L.getD x false = true ∨ A x
theorem PW.set {L T : List Bool} {A : Nat → Prop} (h : PW L T A) {e : Nat} (he : e < 57) {v : Bool} {nb : Prop} (hv : v = true ↔ T.getD e false = true ∨ nb) : PW L (T.set e v) (fun x => A x ∨ (x = e ∧ nb)) := by
  refine ⟨by simpa using h.len, fun x => ?_⟩
  by_cases hx : x = e
  · subst hx
    rw [getD_set_self (by rw [h.len]; exact he), hv, h.at_]
    constructor
    · rintro ((h | h) | h)
      · exact .inl h
      · exact .inr (.inl h)
      · exact .inr (.inr ⟨rfl, h⟩)
    · rintro (h | h | ⟨_, h⟩)
      · exact .inl (.inl h)
      · exact .inl (.inr h)
      · exact .inr h
  · rw [getD_set_ne hx, h.at_]; simp [hx]
theorem PW.iff {L T : List Bool} {A B : Nat → Prop} (h : PW L T A) (hab : ∀ x, A x ↔ B x) : PW L T B := ⟨h.len, fun x => by rw [h.at_, hab]⟩
def A24 (c : Ins) (u : Nat) (x : Nat) : Prop := (x < u ∧ rdP c (x / 8) (x % 8)) ∨ (24 ≤ x ∧ x < 24 + u ∧ wrP c ((x - 24) / 8) ((x - 24) % 8))
theorem a24_step {c : Ins} {k i : Nat} (hk : k < 3) (hi : i < 8) (x : Nat) : ((A24 c (k * 8 + i) x ∨ (x = k * 8 + i ∧ rdP c k i)) ∨ (x = 24 + (k * 8 + i) ∧ wrP c k i)) ↔ A24 c (k * 8 + (i + 1)) x := by
  unfold A24
  have e1 : (k * 8 + i) / 8 = k := by omega
  have e2 : (k * 8 + i) % 8 = i := by omega
  have e3 : (24 + (k * 8 + i) - 24) = k * 8 + i := by omega
  constructor
  · rintro (((⟨h, h'⟩ | ⟨h1, h2, h3⟩) | ⟨rfl, h⟩) | ⟨rfl, h⟩)
    · exact .inl ⟨by omega, h'⟩
    · exact .inr ⟨h1, by omega, h3⟩
    · exact .inl ⟨by omega, by rw [e1, e2]; exact h⟩
    · exact .inr ⟨by omega, by omega, by rw [e3, e1, e2]; exact h⟩
  · rintro (⟨h, h'⟩ | ⟨h1, h2, h3⟩)
    · by_cases e : x = k * 8 + i
      · subst e; rw [e1, e2] at h'; exact .inl (.inr ⟨rfl, h'⟩)
      · exact .inl (.inl (.inl ⟨by omega, h'⟩))
    · by_cases e : x = 24 + (k * 8 + i)
      · subst e; rw [e3, e1, e2] at h3; exact .inr ⟨rfl, h3⟩
      · exact .inl (.inl (.inr ⟨h1, by omega, h3⟩))
def B4 (c : Ins) (v : Nat) (x : Nat) : Prop := A24 c 24 x ∨ (48 ≤ x ∧ x < 51 ∧ x < 48 + v ∧ seP c (x - 48)) ∨ (51 ≤ x ∧ x < 51 + v ∧ taP c (x - 51))
theorem wp_setA {Q : Leaf → Heap → Prop} {H : Heap} {T : List Bool} {e i : Nat} (he : e = i) (hi : i < T.length) {v : Bool} {f : List HV → Leaf} (h : wp (ret (f ((T.set i v).map HV.bool))) Q H) :
    wp (gd (decide (e < (T.map HV.bool).length)) (ret (f (List.set (T.map HV.bool) e (.bool v))))) Q H := by
  refine wp_gdD (by rw [List.length_map]; omega) ?_
  rw [set_map T he]; exact h

theorem ref28_Of_wp {D : HV → List HV → M HV} {H : Heap} {Q : HV → Heap → Prop} {s : Sl} {p : List Ins} (hs : RProg H s p) {a : Int}
    (hy : ∀ k : Nat, a = k → Beg p a → ∀ L, RefI p k p.length L → Q (.tup [.agg (L.map HV.bool), .bool true]) H)
    (hn : ¬ Beg p a → Q (.tup [.agg (List.replicate 57 (HV.bool false)), .bool false]) H) : wp (f_ref28_Of D [.sl s, I a]) Q H := by
  unfold f_ref28_Of
  have hlen := hs.lenI
  with_reducible repeat' (first | refine wp_finF ?_ | refine wp_uA ?_ | refine wp_uI ?_ | refine wp_uB ?_ | refine wp_uL ?_ | refine wp_uS ?_ | refine wp_uP ?_ | refine wp_uc ?_ | refine wp_nl ?_ | refine wp_asB ?_ | refine wp_asI ?_ | refine wp_asSl ?_ | refine wp_asT ?_ | refine wp_asA ?_ | refine wp_asS ?_ | refine wp_asP ?_ | refine wp_nN ?_ | refine wp_rN ?_ | refine wp_xN ?_ | refine wp_nB ?_ | refine wp_rB ?_ | refine wp_xB rfl ?_ | refine wp_xB' rfl ?_ | refine wp_bB ?_ | refine wp_rX ?_ | refine wp_xX ?_ | refine wp_rE ?_ | refine wp_xE ?_ | refine wp_rR ?_ | refine wp_xR ?_ | refine wp_r0 ?_ | refine wp_x0 ?_ | refine wp_rF ?_ | refine wp_rF0 ?_ | refine wp_rF2 ?_ | refine wp_rF3 ?_ | refine wp_rF4 ?_ | refine wp_condT ?_ | refine wp_condF ?_ | refine wp_condNT ?_ | refine wp_condNF ?_)
  refine wp_jnP (¬ Beg p a) ?_ (fun hb => ?_) (fun hb => ?_)
  · refine wp_bnd (ref27_Can_wp hs fun z hz => wp_asB ?_)
    refine wp_condN (fun c => wp_bB ⟨fun _ hh => ?_, fun _ => rfl⟩) (fun c => ?_)
    · rw [hz.2 hh.1] at c; cases c
    · have hc := hz.1 c
      refine wp_condD (fun c => wp_bB ⟨fun _ ⟨_, k, hk, _⟩ => by omega, fun _ => rfl⟩) (fun c0 => ?_)
      refine wp_condD (fun c => wp_bB ⟨fun _ ⟨_, k, hk, hk', _⟩ => by omega, fun _ => rfl⟩) (fun c1 => ?_)
      obtain ⟨k, rfl⟩ : ∃ k : Nat, a = k := ⟨a.toNat, by omega⟩
      have hk : k < p.length := by omega
      refine wp_atF hs hk (k := 0) (v := I (p[k]).op) rfl fun _ _ => wp_asI (wp_bB ?_)
      rw [bne_iff_ne]
      constructor
      · rintro h ⟨_, k', hk', h3, h4⟩
        have : k' = k := by omega
        subst this; exact h h4
      · intro h h4; exact h ⟨hc, k, rfl, hk, h4⟩
  · with_reducible repeat' (first | refine wp_finF ?_ | refine wp_uA ?_ | refine wp_uI ?_ | refine wp_uB ?_ | refine wp_uL ?_ | refine wp_uS ?_ | refine wp_uP ?_ | refine wp_uc ?_ | refine wp_nl ?_ | refine wp_asB ?_ | refine wp_asI ?_ | refine wp_asSl ?_ | refine wp_asT ?_ | refine wp_asA ?_ | refine wp_asS ?_ | refine wp_asP ?_ | refine wp_nN ?_ | refine wp_rN ?_ | refine wp_xN ?_ | refine wp_nB ?_ | refine wp_rB ?_ | refine wp_xB rfl ?_ | refine wp_xB' rfl ?_ | refine wp_bB ?_ | refine wp_rX ?_ | refine wp_xX ?_ | refine wp_rE ?_ | refine wp_xE ?_ | refine wp_rR ?_ | refine wp_xR ?_ | refine wp_r0 ?_ | refine wp_x0 ?_ | refine wp_rF ?_ | refine wp_rF0 ?_ | refine wp_rF2 ?_ | refine wp_rF3 ?_ | refine wp_rF4 ?_ | refine wp_condT ?_ | refine wp_condF ?_ | refine wp_condNT ?_ | refine wp_condNF ?_)
    exact hn hb
  · obtain ⟨hc, k, rfl, hk, h4⟩ := Classical.not_not.1 hb
    have h48 := hc.len
    have hbeg : Beg p (k : Int) := ⟨hc, k, rfl, hk, h4⟩
    with_reducible repeat' (first | refine wp_finF ?_ | refine wp_uA ?_ | refine wp_uI ?_ | refine wp_uB ?_ | refine wp_uL ?_ | refine wp_uS ?_ | refine wp_uP ?_ | refine wp_uc ?_ | refine wp_nl ?_ | refine wp_asB ?_ | refine wp_asI ?_ | refine wp_asSl ?_ | refine wp_asT ?_ | refine wp_asA ?_ | refine wp_asS ?_ | refine wp_asP ?_ | refine wp_nN ?_ | refine wp_rN ?_ | refine wp_xN ?_ | refine wp_nB ?_ | refine wp_rB ?_ | refine wp_xB rfl ?_ | refine wp_xB' rfl ?_ | refine wp_bB ?_ | refine wp_rX ?_ | refine wp_xX ?_ | refine wp_rE ?_ | refine wp_xE ?_ | refine wp_rR ?_ | refine wp_xR ?_ | refine wp_r0 ?_ | refine wp_x0 ?_ | refine wp_rF ?_ | refine wp_rF0 ?_ | refine wp_rF2 ?_ | refine wp_rF3 ?_ | refine wp_rF4 ?_ | refine wp_condT ?_ | refine wp_condF ?_ | refine wp_condNT ?_ | refine wp_condNF ?_)
    refine wp_bnd (ref27_Seen_wp hs hc (a := k) (by omega) fun V hV hR => wp_asA ?_)
    have hVm : (V.map HV.bool).length = 49 := by simpa using hV
    refine wp_gd (by rw [hVm]; rfl) (wp_gd (by rw [hVm]; simp) ?_)
    rw [putN_full (by rw [hVm]; simp), hlen]
    have e0 : List.replicate 57 (HV.bool false) = (List.replicate 57 false).map HV.bool := by rw [List.map_replicate]
    rw [e0]
    refine wp_blk ?_
    refine wp_loop (fun m vs H' => H' = H ∧ ∃ (j : Nat) (L : List Bool), m + j = p.length ∧ vs = [I (j : Int), .agg (L.map HV.bool)] ∧ RefI p k j L) p.length
      ⟨rfl, 0, _, by omega, rfl, ⟨by simp, fun x => ?_⟩⟩ ?_
    · rw [List.getD_eq_getElem?_getD, List.getElem?_replicate]
      constructor
      · intro h; split at h <;> cases h
      · intro h; exact absurd h exB_zero
    rintro m vs H ⟨rfl, j, L, hmj, rfl, hL⟩
    refine wp_uI (wp_uA (wp_nl (wp_condD (fun hj => ?_) (fun hj => ?_))))
    · have hj' : j < p.length := by omega
      have hwj : wr ((j : Int) + 1) = ((j + 1 : Nat) : Int) := by rw [wr_small (by omega) (by omega)]; rfl
      have hjV : j < V.length := by omega
      refine wp_blk ?_
      refine wp_at hs hj' fun _ _ => ?_
      show wp (uI .i64 [I (p[j]).op, I (p[j]).a, I (p[j]).b, I (p[j]).c] _) _ _
      refine wp_uI (wp_uI (wp_uI (wp_uI (wp_nl ?_))))
      refine wp_jnP (¬ (Rch p k j ∧ Blk p j = (k : Int))) ?_ (fun hh => ?_) (fun hh => ?_)
      · refine wp_gdD (by omega) (wp_gdD (by omega) (wp_gxB (i := j) (by omega) hjV (wp_asB ?_)))
        have hRj := hR j
        rw [getD_of hjV] at hRj
        refine wp_condN (fun c => wp_bB ⟨fun _ hh => ?_, fun _ => rfl⟩) (fun c => ?_)
        · rw [hRj.2 hh.1] at c; cases c
        · refine wp_bnd (ref07_Block_wp hs (by omega) hj' (wp_asI (wp_bB ?_)))
          rw [bne_iff_ne]
          exact ⟨fun h ⟨_, h'⟩ => h h', fun h h' => h ⟨hRj.1 c, h'⟩⟩
      · with_reducible repeat' (first | refine wp_finF ?_ | refine wp_uA ?_ | refine wp_uI ?_ | refine wp_uB ?_ | refine wp_uL ?_ | refine wp_uS ?_ | refine wp_uP ?_ | refine wp_uc ?_ | refine wp_nl ?_ | refine wp_asB ?_ | refine wp_asI ?_ | refine wp_asSl ?_ | refine wp_asT ?_ | refine wp_asA ?_ | refine wp_asS ?_ | refine wp_asP ?_ | refine wp_nN ?_ | refine wp_rN ?_ | refine wp_xN ?_ | refine wp_nB ?_ | refine wp_rB ?_ | refine wp_xB rfl ?_ | refine wp_xB' rfl ?_ | refine wp_bB ?_ | refine wp_rX ?_ | refine wp_xX ?_ | refine wp_rE ?_ | refine wp_xE ?_ | refine wp_rR ?_ | refine wp_xR ?_ | refine wp_r0 ?_ | refine wp_x0 ?_ | refine wp_rF ?_ | refine wp_rF0 ?_ | refine wp_rF2 ?_ | refine wp_rF3 ?_ | refine wp_rF4 ?_ | refine wp_condT ?_ | refine wp_condF ?_ | refine wp_condNT ?_ | refine wp_condNF ?_)
        refine wp_ret ⟨m - 1, by omega, rfl, j + 1, L, by omega, by rw [hwj], hL.len, fun x => ?_⟩
        rw [hL.at_, exB_skip hh]
      · obtain ⟨hrj, hbj⟩ := Classical.not_not.1 hh
        with_reducible repeat' (first | refine wp_finF ?_ | refine wp_uA ?_ | refine wp_uI ?_ | refine wp_uB ?_ | refine wp_uL ?_ | refine wp_uS ?_ | refine wp_uP ?_ | refine wp_uc ?_ | refine wp_nl ?_ | refine wp_asB ?_ | refine wp_asI ?_ | refine wp_asSl ?_ | refine wp_asT ?_ | refine wp_asA ?_ | refine wp_asS ?_ | refine wp_asP ?_ | refine wp_nN ?_ | refine wp_rN ?_ | refine wp_xN ?_ | refine wp_nB ?_ | refine wp_rB ?_ | refine wp_xB rfl ?_ | refine wp_xB' rfl ?_ | refine wp_bB ?_ | refine wp_rX ?_ | refine wp_xX ?_ | refine wp_rE ?_ | refine wp_xE ?_ | refine wp_rR ?_ | refine wp_xR ?_ | refine wp_r0 ?_ | refine wp_x0 ?_ | refine wp_rF ?_ | refine wp_rF0 ?_ | refine wp_rF2 ?_ | refine wp_rF3 ?_ | refine wp_rF4 ?_ | refine wp_condT ?_ | refine wp_condF ?_ | refine wp_condNT ?_ | refine wp_condNF ?_)
        have hn3 : (p[j]).cs = [I (p[j]).op, I (p[j]).a, I (p[j]).b, I (p[j]).c] := rfl
        -- reads and writes
        refine wp_blk ?_
        refine wp_loop (fun m1 vs H' => H' = H ∧ ∃ (q : Nat) (T : List Bool), m1 + q = 3 ∧ vs = [I (q : Int), .agg (T.map HV.bool)] ∧ PW L T (A24 p[j] (q * 8))) 3
          ⟨rfl, 0, L, by omega, rfl, hL.len, fun x => by unfold A24; simp; omega⟩ ?_
        rintro m1 vs H ⟨rfl, q, T, hmq, rfl, hT⟩
        refine wp_uI (wp_uA (wp_nl (wp_condD (fun hq => ?_) (fun hq => ?_))))
        · have hq' : q < 3 := by omega
          have hwq : wr ((q : Int) + 1) = ((q + 1 : Nat) : Int) := by rw [wr_small (by omega) (by omega)]; rfl
          refine wp_blk ?_
          refine wp_loop (fun m2 vs H' => H' = H ∧ ∃ (i : Nat) (T : List Bool), m2 + i = 8 ∧ vs = [I (i : Int), .agg (T.map HV.bool)] ∧ PW L T (A24 p[j] (q * 8 + i))) 8
            ⟨rfl, 0, T, by omega, rfl, hT⟩ ?_
          rintro m2 vs H ⟨rfl, i, T, hmi, rfl, hT⟩
          refine wp_uI (wp_uA (wp_nl (wp_condD (fun hi => ?_) (fun hi => ?_))))
          · have hi' : i < 8 := by omega
            have hwi : wr ((i : Int) + 1) = ((i + 1 : Nat) : Int) := by rw [wr_small (by omega) (by omega)]; rfl
            refine wp_blk ?_
            refine wp_jn (wp.mono (Q := fun lf H' => H' = H ∧ ∃ T', lf = .norm [.agg (T'.map HV.bool)] ∧ PW L T' (fun x => A24 p[j] (q * 8 + i) x ∨ (x = q * 8 + i ∧ rdP p[j] q i))) ?_ ?_)
            · refine wp_gdD (by omega) (wp_gdD (by omega) (wp_gdD (by omega) (wp_gdD (by omega) (wp_gxB (i := q * 8 + i) (by omega) (by rw [hT.len]; omega) (wp_asB ?_)))))
              refine wp_cond (fun c => ?_) (fun c => ?_)
              · refine wp_gdD (by omega) (wp_gdD (by omega) (wp_gdD (by omega) (wp_gdD (by omega) ?_)))
                refine wp_setA (f := fun l => .norm [.agg l]) (i := q * 8 + i) (by omega) (by rw [hT.len]; omega) (wp_ret ⟨rfl, _, rfl, hT.set (by omega) ?_⟩)
                rw [getD_of (by rw [hT.len]; omega), c]; simp
              · refine wp_bnd (ref28_Reads_wp (c := p[j]) fun z hz => wp_asB ?_)
                refine wp_gdD (by omega) (wp_gdD (by omega) (wp_gdD (by omega) (wp_gdD (by omega) ?_)))
                refine wp_setA (f := fun l => .norm [.agg l]) (i := q * 8 + i) (by omega) (by rw [hT.len]; omega) (wp_ret ⟨rfl, _, rfl, hT.set (by omega) ?_⟩)
                rw [getD_of (by rw [hT.len]; omega), c, hz]; simp
            · rintro _ H ⟨rfl, T2, rfl, hT2⟩
              show wp _ _ _
              have fin : ∀ v : Bool, (v = true ↔ T2.getD (24 + (q * 8 + i)) false = true ∨ wrP p[j] q i) → PW L (T2.set (24 + (q * 8 + i)) v) (A24 p[j] (q * 8 + (i + 1))) := fun v hv =>
                (hT2.set (by omega) hv).iff fun x => a24_step hq' hi' x
              refine wp_uA (wp_nl ?_)
              refine wp_gdD (by omega) (wp_gdD (by omega) (wp_gdD (by omega) (wp_gdD (by omega) (wp_gxB (i := 24 + (q * 8 + i)) (by omega) (by rw [hT2.len]; omega) (wp_asB ?_)))))
              refine wp_cond (fun c => ?_) (fun c => ?_)
              · refine wp_gdD (by omega) (wp_gdD (by omega) (wp_gdD (by omega) (wp_gdD (by omega) ?_)))
                refine wp_setA (f := fun l => .norm [.agg l]) (i := 24 + (q * 8 + i)) (by omega) (by rw [hT2.len]; omega) (wp_ret ?_)
                show wp _ _ _
                refine wp_uA (wp_nl (wp_ret ⟨m2 - 1, by omega, rfl, i + 1, _, by omega, by rw [hwi], fin _ ?_⟩))
                rw [getD_of (by rw [hT2.len]; omega), c]; simp
              · refine wp_bnd (ref28_Writes_wp (c := p[j]) fun z hz => wp_asB ?_)
                refine wp_gdD (by omega) (wp_gdD (by omega) (wp_gdD (by omega) (wp_gdD (by omega) ?_)))
                refine wp_setA (f := fun l => .norm [.agg l]) (i := 24 + (q * 8 + i)) (by omega) (by rw [hT2.len]; omega) (wp_ret ?_)
                show wp _ _ _
                refine wp_uA (wp_nl (wp_ret ⟨m2 - 1, by omega, rfl, i + 1, _, by omega, by rw [hwi], fin _ ?_⟩))
                rw [getD_of (by rw [hT2.len]; omega), c, hz]; simp
          · have : i = 8 := by omega
            subst this
            refine wp_ret ?_
            show wp _ _ _
            refine wp_uA (wp_nl (wp_ret ⟨m1 - 1, by omega, rfl, q + 1, T, by omega, by rw [hwq], ?_⟩))
            rw [show (q + 1) * 8 = q * 8 + 8 by omega]; exact hT
        · have : q = 3 := by omega
          subst this
          refine wp_ret ?_
          show wp _ _ _
          refine wp_uA (wp_nl ?_)
          -- sockets and tallies
          refine wp_blk ?_
          refine wp_loop (fun m2 vs H' => H' = H ∧ ∃ (i : Nat) (T : List Bool), m2 + i = 4 ∧ vs = [I (i : Int), .agg (T.map HV.bool)] ∧ PW L T (B4 p[j] i)) 4
            ⟨rfl, 0, T, by omega, rfl, hT.iff fun x => by unfold B4; constructor
                                                          · exact .inl
                                                          · rintro (h | h | h)
                                                            · exact h
                                                            · omega
                                                            · omega⟩ ?_
          rintro m2 vs H ⟨rfl, i, T, hmi, rfl, hT⟩
          refine wp_uI (wp_uA (wp_nl (wp_condD (fun hi => ?_) (fun hi => ?_))))
          · have hi' : i < 4 := by omega
            have hwi : wr ((i : Int) + 1) = ((i + 1 : Nat) : Int) := by rw [wr_small (by omega) (by omega)]; rfl
            refine wp_blk ?_
            refine wp_jnP (i < 3 ∧ seP p[j] i) ?_ (fun hse => ?_) (fun hse => ?_)
            · unfold seP
              refine wp_condD (fun c3 => wp_condE (fun c => wp_bB ?_) (fun c => wp_condE (fun c' => wp_bB ?_) (fun c' => wp_bB ?_))) (fun c3 => wp_bB ?_)
              · simp [c]; omega
              · simp [c']; omega
              · simp [c, c']
              · simp; intro h; omega
            all_goals
              refine wp_uB (wp_nl (wp_jn (wp.mono (Q := fun lf H' => H' = H ∧ ∃ T', lf = .norm [.agg (T'.map HV.bool)] ∧ PW L T' (fun x => B4 p[j] i x ∨ (x = 48 + i ∧ (i < 3 ∧ seP p[j] i)))) ?_ ?_)))
            · refine wp_condT ?_
              refine wp_gdD (by omega) (wp_gdD (by omega) ?_)
              refine wp_setA (f := fun l => .norm [.agg l]) (i := 48 + i) (by omega) (by rw [hT.len]; omega) (wp_ret ⟨rfl, _, rfl, hT.set (by omega) ?_⟩)
              exact ⟨fun _ => .inr hse, fun _ => rfl⟩
            rotate_left
            · refine wp_condF (wp_ret ⟨rfl, T, rfl, hT.iff fun x => ?_⟩)
              simp [hse]
            all_goals
              rintro _ H ⟨rfl, T2, rfl, hT2⟩
              show wp _ _ _
              have fin : ∀ T3, PW L T3 (fun x => (B4 p[j] i x ∨ (x = 48 + i ∧ (i < 3 ∧ seP p[j] i))) ∨ (x = 51 + i ∧ taP p[j] i)) → PW L T3 (B4 p[j] (i + 1)) := fun T3 h3 => h3.iff fun x => by
                unfold B4
                constructor
                · rintro (((h | ⟨q1, q2, q3, q4⟩ | ⟨q1, q2, q3⟩) | ⟨rfl, q1, q2⟩) | ⟨rfl, q1⟩)
                  · exact .inl h
                  · exact .inr (.inl ⟨q1, q2, by omega, q4⟩)
                  · exact .inr (.inr ⟨q1, by omega, q3⟩)
                  · exact .inr (.inl ⟨by omega, by omega, by omega, by rw [show 48 + i - 48 = i by omega]; exact q2⟩)
                  · exact .inr (.inr ⟨by omega, by omega, by rw [show 51 + i - 51 = i by omega]; exact q1⟩)
                · rintro (h | ⟨q1, q2, q3, q4⟩ | ⟨q1, q2, q3⟩)
                  · exact .inl (.inl (.inl h))
                  · by_cases e : x = 48 + i
                    · subst e; rw [show 48 + i - 48 = i by omega] at q4; exact .inl (.inr ⟨rfl, by omega, q4⟩)
                    · exact .inl (.inl (.inr (.inl ⟨q1, q2, by omega, q4⟩)))
                  · by_cases e : x = 51 + i
                    · subst e; rw [show 51 + i - 51 = i by omega] at q3; exact .inr ⟨rfl, q3⟩
                    · exact .inl (.inl (.inr (.inr ⟨q1, by omega, q3⟩)))
              refine wp_uA (wp_nl (wp_jnP (taP p[j] i) ?_ (fun hta => ?_) (fun hta => ?_)))
              · unfold taP
                refine wp_condE (fun c => wp_bB ?_) (fun c => wp_bB ?_)
                · simp [c]
                · simp [c]
              · refine wp_uB (wp_nl (wp_condT ?_))
                refine wp_gdD (by omega) (wp_gdD (by omega) ?_)
                refine wp_setA (f := fun l => .norm [.agg l]) (i := 51 + i) (by omega) (by rw [hT2.len]; omega) (wp_ret ?_)
                show wp _ _ _
                refine wp_uA (wp_nl (wp_ret ⟨m2 - 1, by omega, rfl, i + 1, _, by omega, by rw [hwi], fin _ (hT2.set (by omega) ?_)⟩))
                simp only [hta, or_true]
              · refine wp_uB (wp_nl (wp_condF (wp_ret ?_)))
                show wp _ _ _
                refine wp_uA (wp_nl (wp_ret ⟨m2 - 1, by omega, rfl, i + 1, T2, by omega, by rw [hwi], fin _ (hT2.iff fun x => ?_)⟩))
                simp [hta]
          · have : i = 4 := by omega
            subst this
            refine wp_ret ?_
            show wp _ _ _
            refine wp_uA (wp_nl (wp_jn (wp.mono (Q := fun lf H' => H' = H ∧ ∃ T', lf = .norm [.agg (T'.map HV.bool)] ∧ PW L T' (fun x => B4 p[j] 4 x ∨ (x = 55 ∧ (p[j]).op = 21))) ?_ ?_)))
            · refine wp_gxB (i := 55) rfl (by rw [hT.len]; omega) (wp_asB (wp_cond (fun c => ?_) (fun c => ?_)))
              · refine wp_setA (f := fun l => .norm [.agg l]) (i := 55) rfl (by rw [hT.len]; omega) (wp_ret ⟨rfl, _, rfl, hT.set (by omega) ?_⟩)
                rw [getD_of (by rw [hT.len]; omega), c]; simp
              · refine wp_setA (f := fun l => .norm [.agg l]) (i := 55) rfl (by rw [hT.len]; omega) (wp_ret ⟨rfl, _, rfl, hT.set (by omega) ?_⟩)
                rw [getD_of (by rw [hT.len]; omega), c]; simp
            · rintro _ H ⟨rfl, T2, rfl, hT2⟩
              show wp _ _ _
              have fin : ∀ v : Bool, (v = true ↔ T2.getD 56 false = true ∨ ((p[j]).op = 14 ∨ (p[j]).op = 19)) → RefI p k (j + 1) (T2.set 56 v) := fun v hv => by
                have h3 := hT2.set (e := 56) (by omega) hv
                refine ⟨h3.len, fun x => ?_⟩
                rw [h3.at_, exB_step hj' hrj hbj, hL.at_]
                have : ((B4 p[j] 4 x ∨ x = 55 ∧ (p[j]).op = 21) ∨ x = 56 ∧ ((p[j]).op = 14 ∨ (p[j]).op = 19)) ↔ posP p[j] x := by
                  unfold B4 A24 posP
                  constructor
                  · rintro ((((⟨q1, q2⟩ | ⟨q1, q2, q3⟩) | ⟨q1, q2, q3, q4⟩ | ⟨q1, q2, q3⟩) | q) | q)
                    · exact .inl ⟨q1, q2⟩
                    · exact .inr (.inl ⟨q1, by omega, q3⟩)
                    · exact .inr (.inr (.inl ⟨q1, q2, q4⟩))
                    · exact .inr (.inr (.inr (.inl ⟨q1, by omega, q3⟩)))
                    · exact .inr (.inr (.inr (.inr (.inl q))))
                    · exact .inr (.inr (.inr (.inr (.inr q))))
                  · rintro (⟨q1, q2⟩ | ⟨q1, q2, q3⟩ | ⟨q1, q2, q4⟩ | ⟨q1, q2, q3⟩ | q | q)
                    · exact .inl (.inl (.inl (.inl ⟨q1, q2⟩)))
                    · exact .inl (.inl (.inl (.inr ⟨q1, by omega, q3⟩)))
                    · exact .inl (.inl (.inr (.inl ⟨q1, q2, by omega, q4⟩)))
                    · exact .inl (.inl (.inr (.inr ⟨q1, by omega, q3⟩)))
                    · exact .inl (.inr q)
                    · exact .inr q
                rw [this]
              have out : ∀ v : Bool, (v = true ↔ T2.getD 56 false = true ∨ ((p[j]).op = 14 ∨ (p[j]).op = 19)) → wp (gd (decide (56 < (T2.map HV.bool).length)) (ret (Leaf.norm [.agg (List.set (T2.map HV.bool) 56 (.bool v))]))) (PBlk 1 (PLoop (fun m vs H' => H' = H ∧ ∃ (j : Nat) (L : List Bool), m + j = p.length ∧ vs = [I (j : Int), .agg (L.map HV.bool)] ∧ RefI p k j L) m (PBlk 0 (PFin Q) fun vs_1 => uA vs_1 fun y6_13 r_32 => nl r_32 (gxN y6_13 0 57 fun x157l => gd (Nat.beq x157l.length 57) (gd (Nat.ble (0 + x157l.length) ((List.replicate 57 false).map HV.bool).length) (gxN (putN ((List.replicate 57 false).map HV.bool) 0 x157l) 0 57 fun z0l => ret (.ret [.agg z0l, .bool true])))))) fun vs_3 => uA vs_3 fun y6_12 r_31 => nl r_31 (ret (.norm [I (wr ((j : Int) + 1)), .agg y6_12]))) H := by
                intro v hv
                refine wp_setA (f := fun l => .norm [.agg l]) (i := 56) rfl (by rw [hT2.len]; omega) (wp_ret ?_)
                show wp _ _ _
                exact wp_uA (wp_nl (wp_ret ⟨m - 1, by omega, rfl, j + 1, _, by omega, by rw [hwj], fin v hv⟩))
              refine wp_uA (wp_nl (wp_gxB (i := 56) rfl (by rw [hT2.len]; omega) (wp_asB (wp_cond (fun c => ?_) (fun c => ?_)))))
              · exact out true (by rw [getD_of (by rw [hT2.len]; omega), c]; simp)
              · refine wp_condE (fun e => out true (by simp [e])) (fun e => out _ ?_)
                rw [getD_of (by rw [hT2.len]; omega), c]; simp [e]
    · have : j = p.length := by omega
      subst this
      refine wp_ret ?_
      show wp _ _ _
      have hLm : (L.map HV.bool).length = 57 := by simpa using hL.len
      refine wp_uA (wp_nl (wp_gxAll hLm (wp_gd (by rw [hLm]; rfl) (wp_gd (by rw [hLm]; simp) ?_))))
      rw [putN_full (by rw [hLm]; simp)]
      exact wp_gxAll hLm (wp_rF2 (hy k rfl hbeg L hL))
end Go.Proofs.Ytijppadieomnjaa.HL
namespace Go.Proofs.Ytijppadieomnjaa.HL
open Go

theorem wp_gxNo {α : Type} {Q : α → Heap → Prop} {H : Heap} {cs : List HV} {o m : Nat} {f : List HV → M α} (hm : o + m ≤ cs.length) (h : wp (f ((cs.drop o).take m)) Q H) : wp (gxN cs o m f) Q H := by
  unfold gxN
  exact wp_gd (by simpa using hm) h
theorem drop_take_succ {α : Type} {l : List α} {o m : Nat} (h : o < l.length) : (l.drop o).take (m + 1) = l[o] :: (l.drop (o + 1)).take m := by rw [List.drop_eq_getElem_cons h, List.take_succ_cons]
theorem map_at {L : List Bool} {i : Nat} (h : i < (L.map HV.bool).length) : (L.map HV.bool)[i] = HV.bool (L.getD i false) := by
  rw [List.length_map] at h
  rw [List.getElem_map, getD_of h]

theorem law28_are_wp {D : HV → List HV → M HV} {H : Heap} {Q : HV → Heap → Prop} {f : Nat → BitVec 8} {cs : List HV} (hcs : ∀ k, k < 3 → ∀ i, i < 8 → cs[k * 8 + i]? = some (.bool ((f k).getLsbD i))) (h : Q (.bool true) H) :
    wp (f_law28_are D [.agg [U8 (f 0), U8 (f 1), U8 (f 2)], .agg cs]) Q H := by
  unfold f_law28_are
  with_reducible repeat' (first | refine wp_finF ?_ | refine wp_uA ?_ | refine wp_uI ?_ | refine wp_uB ?_ | refine wp_uL ?_ | refine wp_uS ?_ | refine wp_uP ?_ | refine wp_uc ?_ | refine wp_nl ?_ | refine wp_asB ?_ | refine wp_asI ?_ | refine wp_asSl ?_ | refine wp_asT ?_ | refine wp_asA ?_ | refine wp_asS ?_ | refine wp_asP ?_ | refine wp_nN ?_ | refine wp_rN ?_ | refine wp_xN ?_ | refine wp_nB ?_ | refine wp_rB ?_ | refine wp_xB rfl ?_ | refine wp_xB' rfl ?_ | refine wp_bB ?_ | refine wp_rX ?_ | refine wp_xX ?_ | refine wp_rE ?_ | refine wp_xE ?_ | refine wp_rR ?_ | refine wp_xR ?_ | refine wp_r0 ?_ | refine wp_x0 ?_ | refine wp_rF ?_ | refine wp_rF0 ?_ | refine wp_rF2 ?_ | refine wp_rF3 ?_ | refine wp_rF4 ?_ | refine wp_condT ?_ | refine wp_condF ?_ | refine wp_condNT ?_ | refine wp_condNF ?_)
  refine wp_loop0 3 (by omega) rfl (fun _ => rfl) rfl (fun _ => True) trivial ?_ ?_
  · intro k hk _
    refine wp_loop0 8 (by omega) rfl (fun _ => rfl) rfl (fun _ => True) trivial ?_ ?_
    · intro i hi _
      have hw : IntKind.wrap .u64 (i : Int) = (i : Int) := by
        show (i : Int) % 18446744073709551616 = _
        omega
      rw [hw]
      have hc := hcs k hk i hi
      have hk0 : (k : Int) < 3 := by omega
      refine wp_gdD (by omega) (wp_gdD (by omega) ?_)
      refine wp_gxg (v := U8 (f k)) ?_ (wp_asI ?_)
      · rcases lt3 hk with rfl | rfl | rfl <;> rfl
      · rw [bit_test _ hi]
        refine wp_gdD (by omega) (wp_gdD (by omega) (wp_gdD (by omega) (wp_gdD (by omega) (wp_gdD (by omega) ?_))))
        refine wp_gxg (v := .bool ((f k).getLsbD i)) (by rw [← hc]; congr 1; omega) (wp_asB ?_)
        refine wp_cond (fun c => ?_) (fun _ => wp_n0 trivial)
        simp at c
    · intro _
      exact wp_nl (wp_n0 trivial)
  · intro _
    exact wp_nl (wp_rF h)
structure Same (S : Sco) (L : List Bool) : Prop where
  len : L.length = 57
  r : ∀ k, k < 3 → ∀ i, i < 8 → (S.r k).getLsbD i = L.getD (k * 8 + i) false
  w : ∀ k, k < 3 → ∀ i, i < 8 → (S.w k).getLsbD i = L.getD (24 + (k * 8 + i)) false
  s : ∀ i, i < 3 → S.s i = L.getD (48 + i) false
  t : ∀ i, i < 4 → S.t i = L.getD (51 + i) false
  su : S.su = L.getD 55 false
  wa : S.wa = L.getD 56 false
theorem law28_same_wp {D : HV → List HV → M HV} {H : Heap} {Q : HV → Heap → Prop} {S : Sco} {L : List Bool} (hS : Same S L) (h : Q (.bool true) H) : wp (f_law28_same D [.agg S.cells, .agg (L.map HV.bool)]) Q H := by
  unfold f_law28_same
  have hLm : (L.map HV.bool).length = 57 := by simpa using hS.len
  have get : ∀ {o k i : Nat}, k * 8 + i < 24 → o + 24 ≤ 57 → (((L.map HV.bool).drop o).take 24)[k * 8 + i]? = some (.bool (L.getD (o + (k * 8 + i)) false)) := by
    intro o k i h1 h2
    rw [List.getElem?_take, if_pos h1, List.getElem?_drop, List.getElem?_eq_getElem (by omega), map_at]
  with_reducible repeat' (first | refine wp_finF ?_ | refine wp_uA ?_ | refine wp_uI ?_ | refine wp_uB ?_ | refine wp_uL ?_ | refine wp_uS ?_ | refine wp_uP ?_ | refine wp_uc ?_ | refine wp_nl ?_ | refine wp_asB ?_ | refine wp_asI ?_ | refine wp_asSl ?_ | refine wp_asT ?_ | refine wp_asA ?_ | refine wp_asS ?_ | refine wp_asP ?_ | refine wp_nN ?_ | refine wp_rN ?_ | refine wp_xN ?_ | refine wp_nB ?_ | refine wp_rB ?_ | refine wp_xB rfl ?_ | refine wp_xB' rfl ?_ | refine wp_bB ?_ | refine wp_rX ?_ | refine wp_xX ?_ | refine wp_rE ?_ | refine wp_xE ?_ | refine wp_rR ?_ | refine wp_xR ?_ | refine wp_r0 ?_ | refine wp_x0 ?_ | refine wp_rF ?_ | refine wp_rF0 ?_ | refine wp_rF2 ?_ | refine wp_rF3 ?_ | refine wp_rF4 ?_ | refine wp_condT ?_ | refine wp_condF ?_ | refine wp_condNT ?_ | refine wp_condNF ?_)
  refine wp_jn ?_
  refine wp_gxNo (by rw [cells_len]; omega) ?_
  show wp (uI .u8 [U8 (S.r 0), U8 (S.r 1), U8 (S.r 2)] _) _ _
  with_reducible repeat' (first | refine wp_finF ?_ | refine wp_uA ?_ | refine wp_uI ?_ | refine wp_uB ?_ | refine wp_uL ?_ | refine wp_uS ?_ | refine wp_uP ?_ | refine wp_uc ?_ | refine wp_nl ?_ | refine wp_asB ?_ | refine wp_asI ?_ | refine wp_asSl ?_ | refine wp_asT ?_ | refine wp_asA ?_ | refine wp_asS ?_ | refine wp_asP ?_ | refine wp_nN ?_ | refine wp_rN ?_ | refine wp_xN ?_ | refine wp_nB ?_ | refine wp_rB ?_ | refine wp_xB rfl ?_ | refine wp_xB' rfl ?_ | refine wp_bB ?_ | refine wp_rX ?_ | refine wp_xX ?_ | refine wp_rE ?_ | refine wp_xE ?_ | refine wp_rR ?_ | refine wp_xR ?_ | refine wp_r0 ?_ | refine wp_x0 ?_ | refine wp_rF ?_ | refine wp_rF0 ?_ | refine wp_rF2 ?_ | refine wp_rF3 ?_ | refine wp_rF4 ?_ | refine wp_condT ?_ | refine wp_condF ?_ | refine wp_condNT ?_ | refine wp_condNF ?_)
  refine wp_gxNo (by omega) ?_
  refine wp_bnd (law28_are_wp (f := S.r) (fun k hk i hi => by rw [get (by omega) (by omega), hS.r k hk i hi, Nat.zero_add]) (wp_asB (wp_condT ?_)))
  refine wp_gxNo (by rw [cells_len]; omega) ?_
  show wp (uI .u8 [U8 (S.w 0), U8 (S.w 1), U8 (S.w 2)] _) _ _
  with_reducible repeat' (first | refine wp_finF ?_ | refine wp_uA ?_ | refine wp_uI ?_ | refine wp_uB ?_ | refine wp_uL ?_ | refine wp_uS ?_ | refine wp_uP ?_ | refine wp_uc ?_ | refine wp_nl ?_ | refine wp_asB ?_ | refine wp_asI ?_ | refine wp_asSl ?_ | refine wp_asT ?_ | refine wp_asA ?_ | refine wp_asS ?_ | refine wp_asP ?_ | refine wp_nN ?_ | refine wp_rN ?_ | refine wp_xN ?_ | refine wp_nB ?_ | refine wp_rB ?_ | refine wp_xB rfl ?_ | refine wp_xB' rfl ?_ | refine wp_bB ?_ | refine wp_rX ?_ | refine wp_xX ?_ | refine wp_rE ?_ | refine wp_xE ?_ | refine wp_rR ?_ | refine wp_xR ?_ | refine wp_r0 ?_ | refine wp_x0 ?_ | refine wp_rF ?_ | refine wp_rF0 ?_ | refine wp_rF2 ?_ | refine wp_rF3 ?_ | refine wp_rF4 ?_ | refine wp_condT ?_ | refine wp_condF ?_ | refine wp_condNT ?_ | refine wp_condNF ?_)
  refine wp_gxNo (by omega) ?_
  refine wp_bnd (law28_are_wp (f := S.w) (fun k hk i hi => by rw [get (by omega) (by omega), hS.w k hk i hi]) (wp_asB (wp_condT ?_)))
  refine wp_gxNo (by rw [cells_len]; omega) ?_
  show wp (uB [.bool (S.s 0), .bool (S.s 1), .bool (S.s 2)] _) _ _
  with_reducible repeat' (first | refine wp_finF ?_ | refine wp_uA ?_ | refine wp_uI ?_ | refine wp_uB ?_ | refine wp_uL ?_ | refine wp_uS ?_ | refine wp_uP ?_ | refine wp_uc ?_ | refine wp_nl ?_ | refine wp_asB ?_ | refine wp_asI ?_ | refine wp_asSl ?_ | refine wp_asT ?_ | refine wp_asA ?_ | refine wp_asS ?_ | refine wp_asP ?_ | refine wp_nN ?_ | refine wp_rN ?_ | refine wp_xN ?_ | refine wp_nB ?_ | refine wp_rB ?_ | refine wp_xB rfl ?_ | refine wp_xB' rfl ?_ | refine wp_bB ?_ | refine wp_rX ?_ | refine wp_xX ?_ | refine wp_rE ?_ | refine wp_xE ?_ | refine wp_rR ?_ | refine wp_xR ?_ | refine wp_r0 ?_ | refine wp_x0 ?_ | refine wp_rF ?_ | refine wp_rF0 ?_ | refine wp_rF2 ?_ | refine wp_rF3 ?_ | refine wp_rF4 ?_ | refine wp_condT ?_ | refine wp_condF ?_ | refine wp_condNT ?_ | refine wp_condNF ?_)
  refine wp_gxNo (by omega) ?_
  rw [drop_take_succ (by omega), drop_take_succ (by omega), drop_take_succ (by omega), List.take_zero, map_at, map_at, map_at, ← hS.s 0 (by omega), ← hS.s 1 (by omega), ← hS.s 2 (by omega)]
  with_reducible repeat' (first | refine wp_finF ?_ | refine wp_uA ?_ | refine wp_uI ?_ | refine wp_uB ?_ | refine wp_uL ?_ | refine wp_uS ?_ | refine wp_uP ?_ | refine wp_uc ?_ | refine wp_nl ?_ | refine wp_asB ?_ | refine wp_asI ?_ | refine wp_asSl ?_ | refine wp_asT ?_ | refine wp_asA ?_ | refine wp_asS ?_ | refine wp_asP ?_ | refine wp_nN ?_ | refine wp_rN ?_ | refine wp_xN ?_ | refine wp_nB ?_ | refine wp_rB ?_ | refine wp_xB rfl ?_ | refine wp_xB' rfl ?_ | refine wp_bB ?_ | refine wp_rX ?_ | refine wp_xX ?_ | refine wp_rE ?_ | refine wp_xE ?_ | refine wp_rR ?_ | refine wp_xR ?_ | refine wp_r0 ?_ | refine wp_x0 ?_ | refine wp_rF ?_ | refine wp_rF0 ?_ | refine wp_rF2 ?_ | refine wp_rF3 ?_ | refine wp_rF4 ?_ | refine wp_condT ?_ | refine wp_condF ?_ | refine wp_condNT ?_ | refine wp_condNF ?_)
  refine wp_eqM (b := true) (by simp [eqSh]) (wp_condT ?_)
  refine wp_gxNo (by rw [cells_len]; omega) ?_
  show wp (uB [.bool (S.t 0), .bool (S.t 1), .bool (S.t 2), .bool (S.t 3)] _) _ _
  with_reducible repeat' (first | refine wp_finF ?_ | refine wp_uA ?_ | refine wp_uI ?_ | refine wp_uB ?_ | refine wp_uL ?_ | refine wp_uS ?_ | refine wp_uP ?_ | refine wp_uc ?_ | refine wp_nl ?_ | refine wp_asB ?_ | refine wp_asI ?_ | refine wp_asSl ?_ | refine wp_asT ?_ | refine wp_asA ?_ | refine wp_asS ?_ | refine wp_asP ?_ | refine wp_nN ?_ | refine wp_rN ?_ | refine wp_xN ?_ | refine wp_nB ?_ | refine wp_rB ?_ | refine wp_xB rfl ?_ | refine wp_xB' rfl ?_ | refine wp_bB ?_ | refine wp_rX ?_ | refine wp_xX ?_ | refine wp_rE ?_ | refine wp_xE ?_ | refine wp_rR ?_ | refine wp_xR ?_ | refine wp_r0 ?_ | refine wp_x0 ?_ | refine wp_rF ?_ | refine wp_rF0 ?_ | refine wp_rF2 ?_ | refine wp_rF3 ?_ | refine wp_rF4 ?_ | refine wp_condT ?_ | refine wp_condF ?_ | refine wp_condNT ?_ | refine wp_condNF ?_)
  refine wp_gxNo (by omega) ?_
  rw [drop_take_succ (by omega), drop_take_succ (by omega), drop_take_succ (by omega), drop_take_succ (by omega), List.take_zero, map_at, map_at, map_at, map_at, ← hS.t 0 (by omega), ← hS.t 1 (by omega), ← hS.t 2 (by omega), ← hS.t 3 (by omega)]
  with_reducible repeat' (first | refine wp_finF ?_ | refine wp_uA ?_ | refine wp_uI ?_ | refine wp_uB ?_ | refine wp_uL ?_ | refine wp_uS ?_ | refine wp_uP ?_ | refine wp_uc ?_ | refine wp_nl ?_ | refine wp_asB ?_ | refine wp_asI ?_ | refine wp_asSl ?_ | refine wp_asT ?_ | refine wp_asA ?_ | refine wp_asS ?_ | refine wp_asP ?_ | refine wp_nN ?_ | refine wp_rN ?_ | refine wp_xN ?_ | refine wp_nB ?_ | refine wp_rB ?_ | refine wp_xB rfl ?_ | refine wp_xB' rfl ?_ | refine wp_bB ?_ | refine wp_rX ?_ | refine wp_xX ?_ | refine wp_rE ?_ | refine wp_xE ?_ | refine wp_rR ?_ | refine wp_xR ?_ | refine wp_r0 ?_ | refine wp_x0 ?_ | refine wp_rF ?_ | refine wp_rF0 ?_ | refine wp_rF2 ?_ | refine wp_rF3 ?_ | refine wp_rF4 ?_ | refine wp_condT ?_ | refine wp_condF ?_ | refine wp_condNT ?_ | refine wp_condNF ?_)
  refine wp_eqM (b := true) (by simp [eqSh]) (wp_condT ?_)
  refine wp_gxg (v := .bool S.su) rfl (wp_asB ?_)
  refine wp_gxg (v := .bool S.su) (by rw [List.getElem?_eq_getElem (by omega), map_at, ← hS.su]) (wp_asB ?_)
  refine wp_cond (fun _ => ?_) (fun c => by simp at c)
  refine wp_gxg (v := .bool S.wa) rfl (wp_asB ?_)
  refine wp_gxg (v := .bool S.wa) (by rw [List.getElem?_eq_getElem (by omega), map_at, ← hS.wa]) (wp_asB (wp_ret ?_))
  show wp _ _ _
  refine wp_uB (wp_nl (wp_rF ?_))
  simpa using h

theorem ex_exB {p : List Ins} (hc : CanB p) {k e : Nat} (he : EndAt p k e) {P : Ins → Prop} (hP : ∀ c, P c → c.op ≠ 4 ∧ c.op ≠ 5) : Ex p k e P ↔ ExB p k p.length P := by
  have h1 := he.le
  have h2 := he.lt
  constructor
  · rintro ⟨n, hn, q1, q2, q3⟩
    have hge : k ≤ n := by
      clear q1 q3
      induction q2 with
      | refl => exact Nat.le_refl _
      | step hi hr hm ih => have := nextL_range hc hi hm; have := ih hi; omega
    have hkn : k ≠ n := fun hh => by subst hh; exact (hP _ q3).1 (he.b hn)
    refine ⟨n, hn, hn, q2, ?_, q3⟩
    rw [Blk_eq hn, if_neg (hP _ q3).1, opn_in hc.shaped he.b h1 he.no n (by omega) (by omega)]
  · rintro ⟨n, hn, _, q2, q3, q4⟩
    rw [Blk_eq hn, if_neg (hP _ q4).1] at q3
    have hlt := opn_lt p n
    have hle : n ≤ e := Classical.byContradiction fun hh => opn_past he n (by omega) (by omega) q3
    have hne : n ≠ e := fun hh => by subst hh; exact (hP _ q4).2 (he.fin hn)
    exact ⟨n, hn, by omega, q2, q4⟩
theorem rdP_op {c : Ins} {k i : Nat} (h : rdP c k i) : c.op ≠ 4 ∧ c.op ≠ 5 := by unfold rdP at h; omega
theorem wrP_op {c : Ins} {k i : Nat} (h : wrP c k i) : c.op ≠ 4 ∧ c.op ≠ 5 := by
  rcases h with h | ⟨_, _, h⟩
  · omega
  · exact rdP_op h
theorem exB_congr {p : List Ins} {a j : Nat} {P P' : Ins → Prop} (h : ∀ c, P c ↔ P' c) : ExB p a j P ↔ ExB p a j P' := by
  have : P = P' := funext fun c => propext (h c)
  rw [this]
theorem same_of {p : List Ins} (hc : CanB p) {k e : Nat} (he : EndAt p k e) {S : Sco} {L : List Bool} (hS : ScoI p k e S) (hL : RefI p k p.length L) : Same S L := by
  have key : ∀ {b : Bool} {x : Nat} {P : Ins → Prop}, (b = true ↔ Ex p k e P) → (∀ c, P c → c.op ≠ 4 ∧ c.op ≠ 5) → (∀ c, P c ↔ posP c x) → b = L.getD x false := by
    intro b x P h1 h2 h3
    rw [Bool.eq_iff_iff, h1, hL.at_, ex_exB hc he h2, exB_congr h3]
  refine ⟨hL.len, fun k hk i hi => ?_, fun k hk i hi => ?_, fun i hi => ?_, fun i hi => ?_, ?_, ?_⟩
  · refine key (hS.r k hk i hi) (fun c h => rdP_op h) fun c => ?_
    unfold posP
    rw [show (k * 8 + i) / 8 = k by omega, show (k * 8 + i) % 8 = i by omega]
    constructor
    · intro h; exact .inl ⟨by omega, h⟩
    · rintro (⟨_, h⟩ | ⟨h, _⟩ | ⟨h, _⟩ | ⟨h, _⟩ | ⟨h, _⟩ | ⟨h, _⟩)
      · exact h
      all_goals omega
  · refine key (hS.w k hk i hi) (fun c h => wrP_op h) fun c => ?_
    unfold posP
    rw [show (24 + (k * 8 + i) - 24) / 8 = k by omega, show (24 + (k * 8 + i) - 24) % 8 = i by omega]
    constructor
    · intro h; exact .inr (.inl ⟨by omega, by omega, h⟩)
    · rintro (⟨h, _⟩ | ⟨_, _, h⟩ | ⟨h, _⟩ | ⟨h, _⟩ | ⟨h, _⟩ | ⟨h, _⟩)
      · omega
      · exact h
      all_goals omega
  · refine key (hS.s i hi) (fun c h => by unfold seP at h; omega) fun c => ?_
    unfold posP
    rw [show 48 + i - 48 = i by omega]
    constructor
    · intro h; exact .inr (.inr (.inl ⟨by omega, by omega, h⟩))
    · rintro (⟨h, _⟩ | ⟨_, h, _⟩ | ⟨_, _, h⟩ | ⟨h, _⟩ | ⟨h, _⟩ | ⟨h, _⟩)
      · omega
      · omega
      · exact h
      all_goals omega
  · refine key (hS.t i hi) (fun c h => by unfold taP at h; omega) fun c => ?_
    unfold posP
    rw [show 51 + i - 51 = i by omega]
    constructor
    · intro h; exact .inr (.inr (.inr (.inl ⟨by omega, by omega, h⟩)))
    · rintro (⟨h, _⟩ | ⟨_, h, _⟩ | ⟨_, h, _⟩ | ⟨_, _, h⟩ | ⟨h, _⟩ | ⟨h, _⟩)
      · omega
      · omega
      · omega
      · exact h
      all_goals omega
  · refine key hS.su (fun c h => by omega) fun c => ?_
    unfold posP
    constructor
    · intro h; exact .inr (.inr (.inr (.inr (.inl ⟨rfl, h⟩))))
    · rintro (⟨h, _⟩ | ⟨_, h, _⟩ | ⟨_, h, _⟩ | ⟨_, h, _⟩ | ⟨_, h⟩ | ⟨h, _⟩)
      · omega
      · omega
      · omega
      · omega
      · exact h
      · omega
  · refine key hS.wa (fun c h => by omega) fun c => ?_
    unfold posP
    constructor
    · intro h; exact .inr (.inr (.inr (.inr (.inr ⟨rfl, h⟩))))
    · rintro (⟨h, _⟩ | ⟨_, h, _⟩ | ⟨_, h, _⟩ | ⟨_, h, _⟩ | ⟨h, _⟩ | ⟨_, h⟩)
      · omega
      · omega
      · omega
      · omega
      · omega
      · exact h

theorem scope_good_wp {D : HV → List HV → M HV} {H : Heap} {Q : HV → Heap → Prop} {k i : Int} (h : ∀ z : Bool, (z = true ↔ 0 ≤ k ∧ k ≤ 2 ∧ 0 ≤ i ∧ i < 8) → Q (.bool z) H) : wp (f_scope_good D [I k, I i]) Q H := by
  unfold f_scope_good
  with_reducible repeat' (first | refine wp_finF ?_ | refine wp_uA ?_ | refine wp_uI ?_ | refine wp_uB ?_ | refine wp_uL ?_ | refine wp_uS ?_ | refine wp_uP ?_ | refine wp_uc ?_ | refine wp_nl ?_ | refine wp_asB ?_ | refine wp_asI ?_ | refine wp_asSl ?_ | refine wp_asT ?_ | refine wp_asA ?_ | refine wp_asS ?_ | refine wp_asP ?_ | refine wp_jn ?_ | refine wp_nN ?_ | refine wp_rN ?_ | refine wp_xN ?_ | refine wp_nB ?_ | refine wp_rB ?_ | refine wp_xB rfl ?_ | refine wp_xB' rfl ?_ | refine wp_bB ?_ | refine wp_rX ?_ | refine wp_xX ?_ | refine wp_rE ?_ | refine wp_xE ?_ | refine wp_rR ?_ | refine wp_xR ?_ | refine wp_r0 ?_ | refine wp_x0 ?_ | refine wp_rF ?_ | refine wp_rF0 ?_ | refine wp_rF2 ?_ | refine wp_rF3 ?_ | refine wp_rF4 ?_ | refine wp_condT ?_ | refine wp_condF ?_ | refine wp_condNT ?_ | refine wp_condNF ?_ | refine wp_condD (fun _ => ?_) (fun _ => ?_) | refine wp_condE (fun _ => ?_) (fun _ => ?_) | refine wp_condNE (fun _ => ?_) (fun _ => ?_) | refine wp_condN (fun _ => ?_) (fun _ => ?_) | refine wp_cond (fun _ => ?_) (fun _ => ?_))
  all_goals (refine h _ ?_; clear h; grind)
theorem scope_Has_wp {D : HV → List HV → M HV} {H : Heap} {Q : HV → Heap → Prop} {f : Nat → BitVec 8} {k i : Int} (h1 : ∀ a b : Nat, k = a → i = b → a < 3 → b < 8 → Q (.bool ((f a).getLsbD b)) H) (h2 : ¬ (0 ≤ k ∧ k ≤ 2 ∧ 0 ≤ i ∧ i < 8) → Q (.bool false) H) :
    wp (f_scope_Things_Has D [.agg [U8 (f 0), U8 (f 1), U8 (f 2)], I k, I i]) Q H := by
  unfold f_scope_Things_Has
  with_reducible repeat' (first | refine wp_finF ?_ | refine wp_uA ?_ | refine wp_uI ?_ | refine wp_uB ?_ | refine wp_uL ?_ | refine wp_uS ?_ | refine wp_uP ?_ | refine wp_uc ?_ | refine wp_nl ?_ | refine wp_asB ?_ | refine wp_asI ?_ | refine wp_asSl ?_ | refine wp_asT ?_ | refine wp_asA ?_ | refine wp_asS ?_ | refine wp_asP ?_ | refine wp_nN ?_ | refine wp_rN ?_ | refine wp_xN ?_ | refine wp_nB ?_ | refine wp_rB ?_ | refine wp_xB rfl ?_ | refine wp_xB' rfl ?_ | refine wp_bB ?_ | refine wp_rX ?_ | refine wp_xX ?_ | refine wp_rE ?_ | refine wp_xE ?_ | refine wp_rR ?_ | refine wp_xR ?_ | refine wp_r0 ?_ | refine wp_x0 ?_ | refine wp_rF ?_ | refine wp_rF0 ?_ | refine wp_rF2 ?_ | refine wp_rF3 ?_ | refine wp_rF4 ?_ | refine wp_condT ?_ | refine wp_condF ?_ | refine wp_condNT ?_ | refine wp_condNF ?_)
  refine wp_jn (wp_bnd (scope_good_wp fun z hz => wp_asB (wp_cond (fun c => ?_) (fun c => wp_ret ?_))))
  · obtain ⟨q1, q2, q3, q4⟩ := hz.1 c
    obtain ⟨a, rfl⟩ : ∃ a : Nat, k = a := ⟨k.toNat, by omega⟩
    obtain ⟨b, rfl⟩ : ∃ b : Nat, i = b := ⟨i.toNat, by omega⟩
    refine wp_gdD (by omega) (wp_gdD (by omega) ?_)
    refine wp_gxg (v := U8 (f a)) ?_ (wp_asI (wp_gdD (by omega) (wp_ret ?_)))
    · rcases lt3 (k := a) (by omega) with rfl | rfl | rfl <;> rfl
    · show wp _ _ _
      rw [bit_test _ (by omega)]
      exact wp_uB (wp_nl (wp_rF (h1 a b rfl rfl (by omega) (by omega))))
  · show wp _ _ _
    exact wp_uB (wp_nl (wp_rF (h2 fun hh => by rw [hz.2 hh] at c; cases c)))

def pS : List Ins := [⟨4, 0, 0, 0⟩, ⟨6, 0, 2, 0⟩, ⟨7, 1, 0, 0⟩, ⟨5, 0, 0, 0⟩]
theorem pS_fit : ∀ x ∈ pS, IFit x := by
  intro x hx; simp [pS] at hx
  rcases hx with rfl | rfl | rfl | rfl <;> exact ⟨by simp [loI, hiI], by simp [loI, hiI], by simp [loI, hiI], by simp [loI, hiI]⟩
theorem pS_can : CanB pS := canB_of pS_fit (by decide)
theorem pS_r1 : Rch pS 0 1 := .step (i := 0) (by decide) .refl (by decide)
theorem pS_r2 : Rch pS 0 2 := .step (i := 1) (by decide) pS_r1 (by decide)
theorem pS_ex {P : Ins → Prop} : Ex pS 0 3 P ↔ (P ⟨4, 0, 0, 0⟩ ∨ P ⟨6, 0, 2, 0⟩) ∨ P ⟨7, 1, 0, 0⟩ := by
  rw [ex_step (by decide) pS_r2, ex_step (by decide) pS_r1, ex_step (by decide) .refl]
  simp only [ex_zero, false_or]
  exact Iff.rfl
theorem pS_cells {S : Sco} (h : ScoI pS 0 3 S) : S.r 0 = 4#8 ∧ S.cells = [.int .u8 4, .int .u8 0, .int .u8 0, .int .u8 2, .int .u8 0, .int .u8 0, .bool false, .bool false, .bool false, .bool false, .bool false, .bool false, .bool false, .bool false, .bool false] := by
  have bits : ∀ {b v : BitVec 8}, (∀ i, i < 8 → (b.getLsbD i = true ↔ v.getLsbD i = true)) → b = v := fun {b v} hb =>
    BitVec.eq_of_getLsbD_eq fun i hi => by rw [Bool.eq_iff_iff]; exact hb i hi
  have no : ∀ {b : Bool}, ¬ b = true → b = false := fun {b} hb => by cases b; rfl; exact absurd rfl hb
  have cases8 : ∀ i, i < 8 → i = 0 ∨ i = 1 ∨ i = 2 ∨ i = 3 ∨ i = 4 ∨ i = 5 ∨ i = 6 ∨ i = 7 := by omega
  have r0 : S.r 0 = 4#8 := bits fun i hi => by
    rw [h.r 0 (by omega) i hi, pS_ex]
    rcases cases8 i hi with rfl | rfl | rfl | rfl | rfl | rfl | rfl | rfl <;> simp [rdP]
  have r1 : S.r 1 = 0#8 := bits fun i hi => by
    rw [h.r 1 (by omega) i hi, pS_ex]; simp [rdP]
  have r2 : S.r 2 = 0#8 := bits fun i hi => by
    rw [h.r 2 (by omega) i hi, pS_ex]; simp [rdP]
  have w0 : S.w 0 = 2#8 := bits fun i hi => by
    rw [h.w 0 (by omega) i hi, pS_ex]
    rcases cases8 i hi with rfl | rfl | rfl | rfl | rfl | rfl | rfl | rfl <;> simp [wrP, rdP]
  have w1 : S.w 1 = 0#8 := bits fun i hi => by
    rw [h.w 1 (by omega) i hi, pS_ex]; simp [wrP, rdP]
  have w2 : S.w 2 = 0#8 := bits fun i hi => by
    rw [h.w 2 (by omega) i hi, pS_ex]; simp [wrP, rdP]
  have s : ∀ i, i < 3 → S.s i = false := fun i hi => no fun hh => by
    have := (h.s i hi).1 hh; rw [pS_ex] at this; simp [seP] at this
  have t : ∀ i, i < 4 → S.t i = false := fun i hi => no fun hh => by
    have := (h.t i hi).1 hh; rw [pS_ex] at this; simp [taP] at this
  have su : S.su = false := no fun hh => by
    have := h.su.1 hh; rw [pS_ex] at this; simp at this
  have wa : S.wa = false := no fun hh => by
    have := h.wa.1 hh; rw [pS_ex] at this; simp at this
  refine ⟨r0, ?_⟩
  unfold Sco.cells
  rw [r0, r1, r2, w0, w1, w2, s 0 (by omega), s 1 (by omega), s 2 (by omega), t 0 (by omega), t 1 (by omega), t 2 (by omega), t 3 (by omega), su, wa]
  rfl
theorem law28_alive_wp {cl : List (Nat × Clo)} {rn : List (Nat × Rnd)} {D0 : DD} (h1 : lkA cl n_bound_From_1 = some f_bound_From_1) (h2 : lkA rn 82468377 = some r0_scope_Of) {H : Heap} {Q : HV → Heap → Prop} (h : ∀ H', Keeps H H' → Q (.bool true) H') :
    wp (f_law28_alive (stepD cl rn (stepD cl rn D0)) []) Q H := by
  unfold f_law28_alive
  with_reducible repeat' (first | refine wp_finF ?_ | refine wp_uA ?_ | refine wp_uI ?_ | refine wp_uB ?_ | refine wp_uL ?_ | refine wp_uS ?_ | refine wp_uP ?_ | refine wp_uc ?_ | refine wp_nl ?_ | refine wp_asB ?_ | refine wp_asI ?_ | refine wp_asSl ?_ | refine wp_asT ?_ | refine wp_asA ?_ | refine wp_asS ?_ | refine wp_asP ?_ | refine wp_nN ?_ | refine wp_rN ?_ | refine wp_xN ?_ | refine wp_nB ?_ | refine wp_rB ?_ | refine wp_xB rfl ?_ | refine wp_xB' rfl ?_ | refine wp_bB ?_ | refine wp_rX ?_ | refine wp_xX ?_ | refine wp_rE ?_ | refine wp_xE ?_ | refine wp_rR ?_ | refine wp_xR ?_ | refine wp_r0 ?_ | refine wp_x0 ?_ | refine wp_rF ?_ | refine wp_rF0 ?_ | refine wp_rF2 ?_ | refine wp_rF3 ?_ | refine wp_rF4 ?_ | refine wp_condT ?_ | refine wp_condF ?_ | refine wp_condNT ?_ | refine wp_condNF ?_)
  refine wp_nw ?_
  have hs : RProg (H.push (.cells [I 4, I 0, I 0, I 0, I 6, I 0, I 2, I 0, I 7, I 1, I 0, I 0, I 5, I 0, I 0, I 0] false)) ⟨some (H.n, 0), 4, 4, none⟩ pS := slr_push _ rfl rfl (by simp [pS]) (by simp [pS])
  have hk0 := Keeps.push H (.cells [I 4, I 0, I 0, I 0, I 6, I 0, I 2, I 0, I 7, I 1, I 0, I 0, I 5, I 0, I 0, I 0] false)
  generalize H.push (.cells [I 4, I 0, I 0, I 0, I 6, I 0, I 2, I 0, I 7, I 1, I 0, I 0, I 5, I 0, I 0, I 0] false) = H0 at hs hk0
  refine wp_bnd (scope_Of_wp h1 h2 hs pS_fit (a := 0) (fun k hk _ e he S H1 hk1 hS => ?_) (fun hn => absurd ⟨pS_can, 0, rfl, by decide, rfl⟩ hn))
  have : k = 0 := by omega
  subst this
  have : e = 3 := by
    have q1 := he.lt; have q2 := he.le; have q3 : e < 4 := q2
    have : e = 1 ∨ e = 2 ∨ e = 3 := by omega
    rcases this with rfl | rfl | rfl
    · have := he.fin q2; simp [pS] at this
    · have := he.fin q2; simp [pS] at this
    · rfl
  subst this
  obtain ⟨r0, hcl⟩ := pS_cells hS
  refine wp_asT (wp_uA (wp_uB (wp_nl (wp_gd rfl (wp_gd rfl ?_)))))
  refine wp_jn (wp_condT ?_)
  rw [putN_full (by rw [cells_len]; rfl)]
  refine wp_gxAll rfl (wp_eqM (b := true) (by rw [hcl]; rfl) (wp_condT ?_))
  refine wp_gxNo (by rw [cells_len]; omega) ?_
  show wp (uI .u8 [U8 (S.r 0), U8 (S.r 1), U8 (S.r 2)] _) _ _
  with_reducible repeat' (first | refine wp_finF ?_ | refine wp_uA ?_ | refine wp_uI ?_ | refine wp_uB ?_ | refine wp_uL ?_ | refine wp_uS ?_ | refine wp_uP ?_ | refine wp_uc ?_ | refine wp_nl ?_ | refine wp_asB ?_ | refine wp_asI ?_ | refine wp_asSl ?_ | refine wp_asT ?_ | refine wp_asA ?_ | refine wp_asS ?_ | refine wp_asP ?_ | refine wp_nN ?_ | refine wp_rN ?_ | refine wp_xN ?_ | refine wp_nB ?_ | refine wp_rB ?_ | refine wp_xB rfl ?_ | refine wp_xB' rfl ?_ | refine wp_bB ?_ | refine wp_rX ?_ | refine wp_xX ?_ | refine wp_rE ?_ | refine wp_xE ?_ | refine wp_rR ?_ | refine wp_xR ?_ | refine wp_r0 ?_ | refine wp_x0 ?_ | refine wp_rF ?_ | refine wp_rF0 ?_ | refine wp_rF2 ?_ | refine wp_rF3 ?_ | refine wp_rF4 ?_ | refine wp_condT ?_ | refine wp_condF ?_ | refine wp_condNT ?_ | refine wp_condNF ?_)
  refine wp_bnd (scope_Has_wp (f := S.r) (k := 0) (i := 2) (fun a b ha hb _ _ => ?_) (fun hn => absurd ⟨by omega, by omega, by omega, by omega⟩ hn))
  have : a = 0 := by omega
  subst this
  have : b = 2 := by omega
  subst this
  rw [r0]
  refine wp_asB (wp_ret ?_)
  show wp _ _ _
  exact wp_uB (wp_nl (wp_rF (h _ (hk0.trans hk1))))
theorem law28_ScopeOf_wp {cl : List (Nat × Clo)} {rn : List (Nat × Rnd)} {D0 : DD} (h1 : lkA cl n_bound_From_1 = some f_bound_From_1) (h2 : lkA rn 82468377 = some r0_scope_Of) {H : Heap} {s : Sl} {p : List Ins} (hs : RProg H s p) (hf : ∀ x ∈ p, IFit x) (a : Int) :
    wp (f_law28_ScopeOf (stepD cl rn (stepD cl rn D0)) [.sl s, I a]) Yes H := by
  unfold f_law28_ScopeOf
  with_reducible repeat' (first | refine wp_finF ?_ | refine wp_uA ?_ | refine wp_uI ?_ | refine wp_uB ?_ | refine wp_uL ?_ | refine wp_uS ?_ | refine wp_uP ?_ | refine wp_uc ?_ | refine wp_nl ?_ | refine wp_asB ?_ | refine wp_asI ?_ | refine wp_asSl ?_ | refine wp_asT ?_ | refine wp_asA ?_ | refine wp_asS ?_ | refine wp_asP ?_ | refine wp_nN ?_ | refine wp_rN ?_ | refine wp_xN ?_ | refine wp_nB ?_ | refine wp_rB ?_ | refine wp_xB rfl ?_ | refine wp_xB' rfl ?_ | refine wp_bB ?_ | refine wp_rX ?_ | refine wp_xX ?_ | refine wp_rE ?_ | refine wp_xE ?_ | refine wp_rR ?_ | refine wp_xR ?_ | refine wp_r0 ?_ | refine wp_x0 ?_ | refine wp_rF ?_ | refine wp_rF0 ?_ | refine wp_rF2 ?_ | refine wp_rF3 ?_ | refine wp_rF4 ?_ | refine wp_condT ?_ | refine wp_condF ?_ | refine wp_condNT ?_ | refine wp_condNF ?_)
  refine wp_bnd (law28_alive_wp h1 h2 fun H1 hk1 => wp_asB (wp_condNT ?_))
  have hs1 := hs.keeps hk1
  refine wp_bnd (scope_Of_wp h1 h2 hs1 hf (fun k hk hc e he S H2 hk2 hS => ?_) (fun hn H2 hk2 => ?_))
  · subst hk
    refine wp_asT (wp_uA (wp_uB (wp_nl (wp_gd rfl (wp_gd rfl ?_)))))
    have hkp : k < p.length := Nat.lt_trans he.lt he.le
    have hbeg : Beg p (k : Int) := ⟨hc, k, rfl, hkp, he.b hkp⟩
    refine wp_bnd (ref28_Of_wp (hs1.keeps hk2) (fun k' hk' _ L hL => ?_) (fun hn => absurd hbeg hn))
    have : k' = k := by omega
    subst this
    have hLm : (L.map HV.bool).length = 57 := by simpa using hL.len
    refine wp_asT (wp_uA (wp_uB (wp_nl (wp_gd (by rw [hLm]; rfl) (wp_gd (by rw [hLm]; simp) (wp_condNT ?_))))))
    refine wp_jn (wp_condT ?_)
    rw [putN_full (by rw [cells_len]; rfl), putN_full (by rw [hLm]; simp)]
    refine wp_gxAll rfl (wp_gxAll hLm ?_)
    refine wp_bnd (law28_same_wp (same_of hc he hS hL) (wp_asB (wp_ret ?_)))
    show wp _ _ _
    exact wp_uB (wp_nl (wp_rF rfl))
  · refine wp_asT (wp_uA (wp_uB (wp_nl (wp_gd rfl (wp_gd rfl ?_)))))
    refine wp_bnd (ref28_Of_wp (hs1.keeps hk2) (fun _ _ hb _ _ => absurd hb hn) (fun _ => ?_))
    refine wp_asT (wp_uA (wp_uB (wp_nl (wp_gd rfl (wp_gd rfl (wp_condNF ?_))))))
    refine wp_jn (wp_condNF ?_)
    rw [putN_full (by rw [cells_len]; rfl)]
    refine wp_gxAll rfl (wp_eqM (b := true) rfl (wp_ret ?_))
    show wp _ _ _
    exact wp_uB (wp_nl (wp_rF rfl))
end Go.Proofs.Ytijppadieomnjaa.HL
namespace Go.Proofs.Ytijppadieomnjaa.HL
open Go

theorem Beg.of {p : List Ins} {k e : Nat} (hc : CanB p) (he : EndAt p k e) : Beg p (k : Int) := ⟨hc, k, rfl, Nat.lt_trans he.lt he.le, he.b _⟩
/-- the iterator over blocks: each Begin, with its scope. -/
theorem scope_All_1_wp {cl : List (Nat × Clo)} {rn : List (Nat × Rnd)} {D0 : DD} (h1 : lkA cl n_bound_From_1 = some f_bound_From_1) (h2 : lkA rn 82468377 = some r0_scope_Of) {Hs : Heap} {l b : Nat} {s : Sl} {p : List Ins} {Mo : Nat → Prop} {J : Nat → Heap → Prop} {X : Heap → Prop}
    (hb : Hs.get b = .cells [.sl s] false) (hbn : b < Hs.n) (hbM : ¬ Mo b) (hs : RProg Hs s p) (hsM : ∀ b o, s.p = some (b, o) → ¬ Mo b) (hf : ∀ x ∈ p, IFit x)
    (hJk : ∀ j H H', Keeps H H' → J j H → J j H') (h0 : J 0 Hs) (hskip : ∀ j H, j < p.length → ¬ Beg p (j : Int) → J j H → J (j + 1) H)
    (hround : ∀ j H1 e S, j < p.length → CanB p → EndAt p j e → ScoI p j e S → But Mo Hs H1 → J j H1 →
      wp (stepD cl rn (stepD cl rn D0) (.yld l) [I j, .agg S.cells]) (fun r H2 => But Mo H1 H2 ∧ ((r = .bool true ∧ J (j + 1) H2) ∨ (r = .bool false ∧ X H2))) H1) :
    wp (f_scope_All_1 (stepD cl rn (stepD cl rn D0)) ([] ++ [.yld l] ++ [.ptr (some (b, 0))])) (fun _ H' => But Mo Hs H' ∧ (J p.length H' ∨ X H')) Hs := by
  show wp (f_scope_All_1 _ [.yld l, .ptr (some (b, 0))]) _ _
  unfold f_scope_All_1
  have hlt := hs.lt
  have hlen := hs.lenI
  refine wp_finF (wp_uc (wp_uP (wp_nl ?_)))
  show wp (mP (some (b, 0)) _) _ _
  rw [mP_eq']
  refine wp_ldCg hb rfl (wp_asSl ?_)
  rw [hlen]
  refine wp_blk ?_
  refine wp_loop (fun k vs H' => ∃ j : Nat, k + j = p.length ∧ vs = [I (j : Int)] ∧ But Mo Hs H' ∧ J j H') p.length ⟨0, by omega, rfl, But.refl _ _, h0⟩ ?_
  rintro k vs H1 ⟨j, hk, rfl, hb1, hJ⟩
  refine wp_uI (wp_nl (wp_condD (fun hj => ?_) (fun hj => ?_)))
  · have hj' : j < p.length := by omega
    have hw : wr ((j : Int) + 1) = ((j + 1 : Nat) : Int) := by rw [wr_small (by omega) (by omega)]; rfl
    rw [hw]
    show wp (mP (some (b, 0)) _) _ _
    rw [mP_eq']
    refine wp_ldCg (by rw [hb1.get b hbn hbM]; exact hb) rfl (wp_asSl ?_)
    refine wp_bnd (scope_Of_wp h1 h2 (hs.but hb1 hsM) hf (fun k' hk' hc e he S H2 hk2 hS => ?_) (fun hn H2 hk2 => ?_))
    · have : k' = j := by omega
      subst this
      refine wp_asT (wp_uA (wp_uB (wp_nl (wp_gd rfl (wp_gd rfl (wp_jn (wp_condT ?_)))))))
      rw [putN_full (by rw [cells_len]; rfl)]
      refine wp_gxAll rfl (wp_bnd ?_)
      refine (hround k' H2 e S hj' hc he hS (hb1.trans hk2.but) (hJk _ _ _ hk2 hJ)).mono ?_
      rintro r H3 ⟨hb3, ⟨rfl, hJ3⟩ | ⟨rfl, hX⟩⟩
      · refine wp_asB (wp_ret ?_)
        show wp _ _ _
        refine wp_uB (wp_nl (wp_condF (wp_ret ?_)))
        exact ⟨k - 1, by omega, k' + 1, by omega, rfl, (hb1.trans hk2.but).trans hb3, hJ3⟩
      · refine wp_asB (wp_ret ?_)
        show wp _ _ _
        refine wp_uB (wp_nl (wp_condT (wp_ret ?_)))
        exact ⟨(hb1.trans hk2.but).trans hb3, .inr hX⟩
    · refine wp_asT (wp_uA (wp_uB (wp_nl (wp_gd rfl (wp_gd rfl (wp_jn (wp_condF (wp_ret ?_))))))))
      show wp _ _ _
      refine wp_uB (wp_nl (wp_condF (wp_ret ?_)))
      exact ⟨k - 1, by omega, j + 1, by omega, rfl, hb1.trans hk2.but, hskip j _ hj' hn (hJk _ _ _ hk2 hJ)⟩
  · have : j = p.length := by omega
    subst this
    refine wp_ret ?_
    show wp _ _ _
    exact wp_nl (wp_rF0 ⟨hb1, .inl hJ⟩)
theorem scope_All_wp {D : DD} {H : Heap} {Q : HV → Heap → Prop} {s : Sl} (h : Q (.func n_scope_All_1 [] [.ptr (some (H.n, 0))]) (H.push (.cells [.sl s] false))) : wp (f_scope_All D [.sl s]) Q H := by
  unfold f_scope_All
  with_reducible repeat' (first | refine wp_finF ?_ | refine wp_uA ?_ | refine wp_uI ?_ | refine wp_uB ?_ | refine wp_uL ?_ | refine wp_uS ?_ | refine wp_uP ?_ | refine wp_uc ?_ | refine wp_nl ?_ | refine wp_asB ?_ | refine wp_asI ?_ | refine wp_asSl ?_ | refine wp_asT ?_ | refine wp_asA ?_ | refine wp_asS ?_ | refine wp_asP ?_ | refine wp_nN ?_ | refine wp_rN ?_ | refine wp_xN ?_ | refine wp_nB ?_ | refine wp_rB ?_ | refine wp_xB rfl ?_ | refine wp_xB' rfl ?_ | refine wp_bB ?_ | refine wp_rX ?_ | refine wp_xX ?_ | refine wp_rE ?_ | refine wp_xE ?_ | refine wp_rR ?_ | refine wp_xR ?_ | refine wp_r0 ?_ | refine wp_x0 ?_ | refine wp_rF ?_ | refine wp_rF0 ?_ | refine wp_rF2 ?_ | refine wp_rF3 ?_ | refine wp_rF4 ?_ | refine wp_condT ?_ | refine wp_condF ?_ | refine wp_condNT ?_ | refine wp_condNF ?_)
  refine wp_nw (wp_rF ?_)
  exact h
/-- how many blocks begin below a place. -/
noncomputable def begN (p : List Ins) : Nat → Nat
  | 0 => 0
  | j + 1 => begN p j + (open Classical in if Beg p (j : Int) then 1 else 0)
theorem begN_yes {p : List Ins} {j : Nat} (h : Beg p (j : Int)) : begN p (j + 1) = begN p j + 1 := by simp [begN, h]
theorem begN_no {p : List Ins} {j : Nat} (h : ¬ Beg p (j : Int)) : begN p (j + 1) = begN p j := by simp [begN, h]
theorem begN_le (p : List Ins) : ∀ j, begN p j ≤ j
  | 0 => Nat.le_refl _
  | j + 1 => by
    have := begN_le p j
    by_cases h : Beg p (j : Int)
    · rw [begN_yes h]; omega
    · rw [begN_no h]; omega
theorem begN_none {p : List Ins} (h : ¬ CanB p) : ∀ j, begN p j = 0
  | 0 => rfl
  | j + 1 => by rw [begN_no fun hh => h hh.1, begN_none h j]

theorem ScopeAll_round {D : DD} {Q : HV → Heap → Prop} {H : Heap} {l b3 b5 b6 b7 b8 : Nat} {s : Sl} {p : List Ins} {k c last : Int} {j e : Nat} {S : Sco} {ws : List (Nat × HV)}
    (hws : ws = [(2, .ptr (some (b3, 0))), (3, .ptr (some (b5, 0))), (4, .ptr (some (b6, 0))), (5, .ptr (some (b7, 0))), (6, .ptr (some (b8, 0)))]) (hord : b3 < b5 ∧ b5 < b6 ∧ b6 < b7 ∧ b7 < b8 ∧ b8 < l)
    (hL : Lop H l 34873769 ws .ready none) (ht : TI H b3 b5 b6 b7 b8 s k false c last) (hs : RProg H s p) (hsM : ∀ b o, s.p = some (b, o) → ¬ (b = l ∨ b = b6 ∨ b = b7 ∨ b = b8)) (hc : CanB p) (he : EndAt p j e) (hS : ScoI p j e S) (hlast : last < j) (hc0 : 0 ≤ c ∧ c ≤ 1000)
    (h : ∀ H', But (fun b => b = l ∨ b = b6 ∨ b = b7 ∨ b = b8) H H' → TI H' b3 b5 b6 b7 b8 s k false (c + 1) j → (c + 1 = k → Lop H' l 34873769 ws .done (some (.exit 2)) → Q (.bool false) H') ∧ (c + 1 ≠ k → Lop H' l 34873769 ws .ready none → Q (.bool true) H')) :
    wp (r0_law28_ScopeAll D l ws [I j, .agg S.cells]) (PRnd l Q) H := by
  unfold r0_law28_ScopeAll
  subst hws
  refine wp_gdS rfl ?_
  refine wp_uP (wp_uP (wp_uP (wp_uP (wp_uP (wp_nl (wp_uI (wp_uA (wp_nl (wp_gd rfl (wp_gd rfl (wp_busyL hL.get ?_)))))))))))
  generalize hws : [((2 : Nat), HV.ptr (some (b3, 0))), (3, .ptr (some (b5, 0))), (4, .ptr (some (b6, 0))), (5, .ptr (some (b7, 0))), (6, .ptr (some (b8, 0)))] = ws at *
  have hB0 := (But.refl (fun b => b = l ∨ b = b6 ∨ b = b7 ∨ b = b8) H).set (b := l) (.inl rfl) (.loop 34873769 ws .busy none)
  have hL1 : Lop (H.set l (.loop 34873769 ws .busy none)) l 34873769 ws .busy none := Lop.self hL.lt
  have ht1 := ht.set (l := l) (by omega) (.loop 34873769 ws .busy none)
  have hs1 := hs.but hB0 hsM
  generalize H.set l (.loop 34873769 ws .busy none) = H1 at hB0 hL1 ht1 hs1
  have hjp : j < p.length := Nat.lt_trans he.lt he.le
  have hbeg := Beg.of hc he
  show wp (mP (some (b3, 0)) _) _ _
  rw [mP_eq']
  refine wp_ldcel ht1.c3 (wp_asSl ?_)
  refine wp_bnd (ref28_Of_wp hs1 (fun k' hk' _ L hRL => ?_) (fun hn => absurd hbeg hn))
  have : k' = j := by omega
  subst this
  have hLm : (L.map HV.bool).length = 57 := by simpa using hRL.len
  refine wp_asT (wp_uA (wp_uB (wp_nl (wp_gd (by rw [hLm]; rfl) (wp_gd (by rw [hLm]; simp) ?_)))))
  refine wp_jnP False ?_ (fun hh => hh.elim) (fun _ => ?_)
  · refine wp_condNT ?_
    show wp (mP (some (b8, 0)) _) _ _
    rw [mP_eq']
    refine wp_ldcel ht1.c8 (wp_asI (wp_condD (fun c1 => by omega) (fun _ => ?_)))
    rw [putN_full (by rw [cells_len]; rfl), putN_full (by rw [hLm]; simp)]
    refine wp_gxAll rfl (wp_gxAll hLm ?_)
    refine wp_bnd (law28_same_wp (same_of hc he hS hRL) (wp_asB (wp_bB ?_)))
    simp
  · refine wp_uB (wp_nl (wp_condF ?_))
    show wp (mP (some (b8, 0)) _) _ _
    rw [mP_eq']
    refine wp_stcel ht1.c8 rfl ?_
    show wp (mP (some (b7, 0)) _) _ _
    rw [mP_eq']
    have hB2 := hB0.set (b := b8) (.inr (.inr (.inr rfl))) (.cells [I (k' : Int)] false)
    have hL2 := hL1.ne (b' := b8) (o := .cells [I (k' : Int)] false) (by omega)
    have ht2 : TI (H1.set b8 (.cells [I (k' : Int)] false)) b3 b5 b6 b7 b8 s k false c k' := ⟨ht1.c3.ne (by omega), ht1.c5.ne (by omega), ht1.c6.ne (by omega), ht1.c7.ne (by omega), Cel.self ht1.c8.lt⟩
    generalize H1.set b8 (.cells [I (k' : Int)] false) = H2 at hB2 hL2 ht2
    refine wp_ldcel ht2.c7 (wp_asI ?_)
    show wp (mP (some (b7, 0)) _) _ _
    rw [mP_eq', wr_small (by omega) (by omega)]
    refine wp_stcel ht2.c7 rfl ?_
    have hB3 := hB2.set (b := b7) (.inr (.inr (.inl rfl))) (.cells [I (c + 1)] false)
    have hL3 := hL2.ne (b' := b7) (o := .cells [I (c + 1)] false) (by omega)
    have ht3 : TI (H2.set b7 (.cells [I (c + 1)] false)) b3 b5 b6 b7 b8 s k false (c + 1) k' := ⟨ht2.c3.ne (by omega), ht2.c5.ne (by omega), ht2.c6.ne (by omega), Cel.self ht2.c7.lt, ht2.c8.ne (by omega)⟩
    generalize H2.set b7 (.cells [I (c + 1)] false) = H3 at hB3 hL3 ht3
    show wp (mP (some (b7, 0)) _) _ _
    rw [mP_eq']
    refine wp_ldcel ht3.c7 (wp_asI ?_)
    show wp (mP (some (b5, 0)) _) _ _
    rw [mP_eq']
    refine wp_ldcel ht3.c5 (wp_asI ?_)
    refine wp_condE (fun e => ?_) (fun e => ?_)
    · refine wp_xY hL3.get ?_
      exact (h _ (hB3.set (b := l) (.inl rfl) _) (ht3.set (l := l) (by omega) _)).1 e (Lop.self hL3.lt)
    · refine wp_nY hL3.get ?_
      exact (h _ (hB3.set (b := l) (.inl rfl) _) (ht3.set (l := l) (by omega) _)).2 e (Lop.self hL3.lt)

theorem law28_ScopeAll_wp {cl : List (Nat × Clo)} {rn : List (Nat × Rnd)} {D0 : DD} (h1 : lkA cl n_bound_From_1 = some f_bound_From_1) (h2 : lkA rn 82468377 = some r0_scope_Of) (h3 : lkA cl n_scope_All_1 = some f_scope_All_1) (h4 : lkA rn 34873769 = some r0_law28_ScopeAll)
    {H : Heap} {s : Sl} {p : List Ins} (hs : RProg H s p) (hf : ∀ x ∈ p, IFit x) (k : Int) :
    wp (f_law28_ScopeAll (stepD cl rn (stepD cl rn (stepD cl rn D0))) [.sl s, I k]) Yes H := by
  unfold f_law28_ScopeAll
  have hlen := hs.lenI
  have hltp := hs.lt
  have hsp : ∀ b o, s.p = some (b, o) → b < H.n := by
    intro b o e
    have hs' : SlR H s 4 (p.map Ins.cs) := hs
    rcases hs'.mem with ⟨q1, _⟩ | ⟨b2, o2, _, _, q1, q2, _⟩
    · rw [q1] at e; cases e
    · rw [q1] at e; cases e; exact q2
  with_reducible repeat' (first | refine wp_finF ?_ | refine wp_uA ?_ | refine wp_uI ?_ | refine wp_uB ?_ | refine wp_uL ?_ | refine wp_uS ?_ | refine wp_uP ?_ | refine wp_uc ?_ | refine wp_nl ?_ | refine wp_asB ?_ | refine wp_asI ?_ | refine wp_asSl ?_ | refine wp_asT ?_ | refine wp_asA ?_ | refine wp_asS ?_ | refine wp_asP ?_ | refine wp_nN ?_ | refine wp_rN ?_ | refine wp_xN ?_ | refine wp_nB ?_ | refine wp_rB ?_ | refine wp_xB rfl ?_ | refine wp_xB' rfl ?_ | refine wp_bB ?_ | refine wp_rX ?_ | refine wp_xX ?_ | refine wp_rE ?_ | refine wp_xE ?_ | refine wp_rR ?_ | refine wp_xR ?_ | refine wp_r0 ?_ | refine wp_x0 ?_ | refine wp_rF ?_ | refine wp_rF0 ?_ | refine wp_rF2 ?_ | refine wp_rF3 ?_ | refine wp_rF4 ?_ | refine wp_condT ?_ | refine wp_condF ?_ | refine wp_condNT ?_ | refine wp_condNF ?_)
  refine wp_nw (wp_nw (wp_nw ?_))
  have c3 : Cel (((H.push (.cells [.sl s] false)).push (.cells [I k] false)).push (.cells [.bool false] false)) H.n (.sl s) := (Cel.new.keeps (Keeps.push _ _)).keeps (Keeps.push _ _)
  have c5 : Cel (((H.push (.cells [.sl s] false)).push (.cells [I k] false)).push (.cells [.bool false] false)) (H.n + 1) (I k) := Cel.new.keeps (Keeps.push _ _)
  have c6 : Cel (((H.push (.cells [.sl s] false)).push (.cells [I k] false)).push (.cells [.bool false] false)) (H.n + 2) (.bool false) := Cel.new
  have hk0 : Keeps H (((H.push (.cells [.sl s] false)).push (.cells [I k] false)).push (.cells [.bool false] false)) := ((Keeps.push _ _).trans (Keeps.push _ _)).trans (Keeps.push _ _)
  rw [show ((H.push (.cells [.sl s] false)).push (.cells [I k] false)).n = H.n + 2 from rfl, show (H.push (.cells [.sl s] false)).n = H.n + 1 from rfl]
  generalize ((H.push (.cells [.sl s] false)).push (.cells [I k] false)).push (.cells [.bool false] false) = H1 at c3 c5 c6 hk0
  refine wp_bnd (law28_alive_wp h1 h2 fun H2 hk2 => wp_asB (wp_condNT ?_))
  replace c3 := c3.keeps hk2
  replace c5 := c5.keeps hk2
  replace c6 := c6.keeps hk2
  have hs2 := hs.keeps (hk0.trans hk2)
  refine wp_nw (wp_nw ?_)
  have hk3 := (Keeps.push H2 (.cells [I 0] false)).trans (Keeps.push (H2.push (.cells [I 0] false)) (.cells [I 0] false))
  have c7 : Cel ((H2.push (.cells [I 0] false)).push (.cells [I 0] false)) H2.n (I 0) := Cel.new.keeps (Keeps.push _ _)
  have c8 : Cel ((H2.push (.cells [I 0] false)).push (.cells [I 0] false)) (H2.n + 1) (I 0) := Cel.new
  have c6l := c6.lt
  replace c3 := c3.keeps hk3
  replace c5 := c5.keeps hk3
  replace c6 := c6.keeps hk3
  have hs3 := hs2.keeps hk3
  rw [show (H2.push (.cells [I 0] false)).n = H2.n + 1 from rfl]
  generalize (H2.push (.cells [I 0] false)).push (.cells [I 0] false) = H3 at c3 c5 c6 c7 c8 hs3
  generalize H2.n = b7 at c7 c8 c6l
  refine wp_stcel c7 rfl ?_
  have hw7 := (But.refl (fun b => b = b7) H3).set (b := b7) rfl (.cells [I 0] false)
  replace hs3 := hs3.but hw7 (fun b o e hh => by have := hsp b o e; omega)
  replace c3 := c3.ne (b' := b7) (o := .cells [I 0] false) (by omega)
  replace c5 := c5.ne (b' := b7) (o := .cells [I 0] false) (by omega)
  replace c6 := c6.ne (b' := b7) (o := .cells [I 0] false) (by omega)
  replace c8 := c8.ne (b' := b7) (o := .cells [I 0] false) (by omega)
  replace c7 : Cel (H3.set b7 (.cells [I 0] false)) b7 (I 0) := Cel.self c7.lt
  clear hw7
  generalize H3.set b7 (.cells [I 0] false) = H4 at c3 c5 c6 c7 c8 hs3
  refine wp_stcel c8 rfl ?_
  have hw8 := (But.refl (fun b => b = b7 + 1) H4).set (b := b7 + 1) rfl (.cells [I (-1)] false)
  replace hs3 := hs3.but hw8 (fun b o e hh => by have := hsp b o e; omega)
  have ht : TI (H4.set (b7 + 1) (.cells [I (-1)] false)) H.n (H.n + 1) (H.n + 2) b7 (b7 + 1) s k false 0 (-1) := ⟨c3.ne (by omega), c5.ne (by omega), c6.ne (by omega), c7.ne (by omega), Cel.self c8.lt⟩
  clear hw8 c3 c5 c6 c7 c8
  generalize H4.set (b7 + 1) (.cells [I (-1)] false) = H5 at ht hs3
  refine wp_ldcel ht.c3 (wp_asSl ?_)
  rw [hlen]
  -- how many there are
  refine wp_blk (wp.mono (Q := fun lf H' => H' = H5 ∧ lf = .exit 0 [I (begN p p.length : Int)]) ?_ ?_)
  · refine wp_loop (fun m vs H' => H' = H5 ∧ ∃ i : Nat, m + i = p.length ∧ vs = [I (begN p i : Int), I (i : Int)] ∧ (0 < i → CanB p)) p.length ⟨rfl, 0, by omega, rfl, fun h => by omega⟩ ?_
    rintro m vs H5 ⟨rfl, i, hmi, rfl, hci⟩
    refine wp_uI (wp_uI (wp_nl (wp_condD (fun hi => ?_) (fun hi => ?_))))
    · have hi' : i < p.length := by omega
      have hw : wr ((i : Int) + 1) = ((i + 1 : Nat) : Int) := by rw [wr_small (by omega) (by omega)]; rfl
      have hnl := begN_le p i
      have hwn : wr ((begN p i : Int) + 1) = ((begN p i + 1 : Nat) : Int) := by rw [wr_small (by omega) (by omega)]; rfl
      rw [hw, hwn]
      have tail : ∀ v : Nat, v = begN p (i + 1) → wp (
          ldC H.n 0 fun v_3 => asSl v_3 fun x31 =>
          bnd (f_ref27_Can (stepD cl rn (stepD cl rn (stepD cl rn D0))) [.sl x31]) fun r_9 =>
          asB r_9 fun x32 =>
          cond (!x32) (
          ret (Leaf.exit 0 [I (v : Int)])) (
          ret (.norm [I (v : Int), I ((i + 1 : Nat) : Int)]))) (PLoop (fun m vs H' => H' = H5 ∧ ∃ i : Nat, m + i = p.length ∧ vs = [I (begN p i : Int), I (i : Int)] ∧ (0 < i → CanB p)) m (fun lf H' => H' = H5 ∧ lf = .exit 0 [I (begN p p.length : Int)])) H5 := by
        rintro v rfl
        refine wp_ldcel ht.c3 (wp_asSl (wp_bnd (ref27_Can_wp hs3 fun z hz => wp_asB ?_)))
        refine wp_condN (fun c => wp_ret ⟨rfl, ?_⟩) (fun c => wp_ret ⟨m - 1, by omega, rfl, i + 1, by omega, rfl, fun _ => hz.1 c⟩)
        have hc : ¬ CanB p := fun hh => by rw [hz.2 hh] at c; cases c
        rw [begN_none hc, begN_none hc]
      refine wp_ldcel ht.c3 (wp_asSl ?_)
      refine wp_bnd (ref28_Of_wp hs3 (fun k' hk' hbeg L hRL => ?_) (fun hn => ?_))
      · have hLm : (L.map HV.bool).length = 57 := by simpa using hRL.len
        refine wp_asT (wp_uA (wp_uB (wp_nl (wp_gd (by rw [hLm]; rfl) (wp_gd (by rw [hLm]; simp) ?_)))))
        refine wp_jn (wp_condT (wp_ret ?_))
        show wp _ _ _
        exact wp_uI (wp_nl (tail _ (begN_yes hbeg).symm))
      · refine wp_asT (wp_uA (wp_uB (wp_nl (wp_gd rfl (wp_gd rfl ?_)))))
        refine wp_jn (wp_condF (wp_ret ?_))
        show wp _ _ _
        exact wp_uI (wp_nl (tail _ (begN_no hn).symm))
    · have : i = p.length := by omega
      subst this
      exact wp_ret ⟨rfl, rfl⟩
  rintro _ H5 ⟨rfl, rfl⟩
  show wp _ _ _
  refine wp_uI (wp_nl (wp_ldcel ht.c3 (wp_asSl (wp_bnd (scope_All_wp (wp_blk ?_))))))
  have dI : Cel (H5.push (.cells [.sl s] false)) H5.n (.sl s) := Cel.new
  replace ht := ht.keeps (Keeps.push H5 (.cells [.sl s] false))
  replace hs3 := hs3.keeps (Keeps.push H5 (.cells [.sl s] false))
  have hb1l : b7 + 1 < H5.n := by
    have := ht.c8.lt
    simp only [Heap.push] at this
    have h5 : ∀ (x : Nat), x < H5.n + 1 → x ≠ H5.n → x < H5.n := fun x => by omega
    refine h5 _ this fun hh => ?_
    have := ht.c8.get
    simp [Heap.push, hh] at this
  generalize hb1 : H5.n = b1 at dI hb1l
  generalize H5.push (.cells [.sl s] false) = H6 at ht dI hs3
  refine wp_ny (wp_nwL ?_)
  generalize hvs : [((2 : Nat), HV.ptr (some (H.n, 0))), (3, .ptr (some (H.n + 1, 0))), (4, .ptr (some (H.n + 2, 0))), (5, .ptr (some (b7, 0))), (6, .ptr (some (b7 + 1, 0)))] = ws
  have hkL := Keeps.push H6 (.loop 34873769 ws .ready none)
  have hL : Lop (H6.push (.loop 34873769 ws .ready none)) H6.n 34873769 ws .ready none := Lop.new
  have hll : b7 + 1 < H6.n := ht.c8.lt
  have hl1 : b1 < H6.n := dI.lt
  replace hs3 := hs3.keeps hkL
  replace ht := ht.keeps hkL
  replace dI := dI.keeps hkL
  generalize H6.n = l at hL hll hl1
  generalize H6.push (.loop 34873769 ws .ready none) = H7 at hL hs3 ht dI
  have hMs : ∀ b o, s.p = some (b, o) → ¬ (b = l ∨ b = H.n + 2 ∨ b = b7 ∨ b = b7 + 1) := fun b o e hh => by have := hsp b o e; omega
  refine wp.mono (Q := fun lf H' => (lf = .norm [] ∨ lf = .exit 2 []) ∧ ∃ cc last, TI H' H.n (H.n + 1) (H.n + 2) b7 (b7 + 1) s k false cc last ∧ (cc = k ∨ cc = (begN p p.length : Int))) ?_ ?_
  · refine wp_bnd (wp_clo h3 ?_)
    refine wp.mono (scope_All_1_wp h1 h2 (Mo := fun b => b = l ∨ b = H.n + 2 ∨ b = b7 ∨ b = b7 + 1)
      (J := fun j H' => Lop H' l 34873769 ws .ready none ∧ ∃ last, TI H' H.n (H.n + 1) (H.n + 2) b7 (b7 + 1) s k false (begN p j : Int) last ∧ last < (j : Int))
      (X := fun H' => Lop H' l 34873769 ws .done (some (.exit 2)) ∧ ∃ last, TI H' H.n (H.n + 1) (H.n + 2) b7 (b7 + 1) s k false k last)
      dI.get dI.lt (by omega) hs3 hMs hf ?_ ?_ ?_ ?_) ?_
    · rintro j H' H'' hk' ⟨q1, last, q2, q3⟩
      exact ⟨q1.keeps hk', last, q2.keeps hk', q3⟩
    · exact ⟨hL, -1, ht, by omega⟩
    · rintro j H' hj hbj ⟨q1, last, q2, q3⟩
      refine ⟨q1, last, ?_, by omega⟩
      rw [begN_no hbj]; exact q2
    · rintro j H' e S hj hc he hS hbut ⟨q1, last, q2, q3⟩
      have hnl := begN_le p j
      have h48 := hc.len
      have hns := begN_yes (Beg.of hc he)
      refine wp_rnd q1.get h4 (ScopeAll_round hvs.symm ⟨by omega, by omega, by omega, by omega, by omega⟩ q1 q2 (hs3.but hbut hMs) hMs hc he hS q3 ⟨by omega, by omega⟩ fun H8 hb8 ht8 => ⟨fun e hl8 => ?_, fun e hl8 => ?_⟩)
      · exact ⟨hb8, .inr ⟨rfl, hl8, j, by rw [e] at ht8; exact ht8⟩⟩
      · refine ⟨hb8, .inl ⟨rfl, hl8, j, ?_, by omega⟩⟩
        rw [hns]; exact ht8
    · rintro _ H8 ⟨hb8, ⟨q1, last, q2, _⟩ | ⟨q1, last, q2⟩⟩
      · refine wp_endL0 q1.get (by intro hh; cases hh) (wp_ret ⟨.inl rfl, _, last, q2.set (l := l) (by omega) _, .inr rfl⟩)
      · refine wp_endLx q1.get (by intro hh; cases hh) (wp_onX (wp_ret ⟨.inr rfl, _, last, q2.set (l := l) (by omega) _, .inl rfl⟩))
  · rintro lf H9 ⟨hlf, cc, last, t9, hcc⟩
    rcases hlf with rfl | rfl
    all_goals
      show wp _ _ _
      refine wp_nl (wp_jn (wp.mono (Q := fun lf H' => lf = .norm [] ∧ Cel H' (H.n + 2) (.bool true)) ?_ ?_))
      · refine wp_ldcel t9.c7 (wp_asI (wp_ldcel t9.c5 (wp_asI (wp_condE (fun e => ?_) (fun e => ?_)))))
        · exact wp_stcel t9.c6 rfl (wp_ret ⟨rfl, Cel.self t9.c6.lt⟩)
        · refine wp_ldcel t9.c7 (wp_asI (wp_stcel t9.c6 rfl (wp_ret ⟨rfl, ?_⟩)))
          have : (cc == (begN p p.length : Int)) = true := by
            rcases hcc with h | h
            · exact absurd h e
            · simpa using h
          rw [this]
          exact Cel.self t9.c6.lt
      · rintro _ H10 ⟨rfl, c10⟩
        show wp _ _ _
        refine wp_nl (wp_ldcel c10 (wp_asB (wp_rF ?_)))
        rfl
end Go.Proofs.Ytijppadieomnjaa.HL
