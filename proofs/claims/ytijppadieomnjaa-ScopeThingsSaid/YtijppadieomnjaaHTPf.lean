/- What the document's Of (scope) computes. Conditions: none (lemmas). -/
import Derived.Test.YtijppadieomnjaaHTPc
namespace Go.Proofs.Ytijppadieomnjaa.HT
open Go

theorem ref28_Reads_wp {D : HV → List HV → M HV} {H : Heap} {Q : HV → Heap → Prop} {c : Ins} {k i : Nat} (h : ∀ z : Bool, (z = true ↔ rdP c k i) → Q (.bool z) H) : wp (f_ref28_Reads D [.agg c.cs, I k, I i]) Q H := by
  obtain ⟨o, a, b, c⟩ := c
  unfold f_ref28_Reads
  show wp (fin (uA [.agg [I o, I a, I b, I c], I k, I i] _)) _ _
  unfold rdP at h
  simp only at h
  with_reducible repeat' (first | refine wp_finF ?_ | refine wp_uA ?_ | refine wp_uI ?_ | refine wp_uB ?_ | refine wp_uL ?_ | refine wp_uS ?_ | refine wp_uP ?_ | refine wp_uc ?_ | refine wp_nl ?_ | refine wp_asB ?_ | refine wp_asI ?_ | refine wp_asSl ?_ | refine wp_asT ?_ | refine wp_asA ?_ | refine wp_asS ?_ | refine wp_asP ?_ | refine wp_jn ?_ | refine wp_nN ?_ | refine wp_rN ?_ | refine wp_xN ?_ | refine wp_nB ?_ | refine wp_rB ?_ | refine wp_xB rfl ?_ | refine wp_xB' rfl ?_ | refine wp_bB ?_ | refine wp_rX ?_ | refine wp_xX ?_ | refine wp_rE ?_ | refine wp_xE ?_ | refine wp_rR ?_ | refine wp_xR ?_ | refine wp_r0 ?_ | refine wp_x0 ?_ | refine wp_rF ?_ | refine wp_rF0 ?_ | refine wp_rF2 ?_ | refine wp_rF3 ?_ | refine wp_rF4 ?_ | refine wp_condT ?_ | refine wp_condF ?_ | refine wp_condNT ?_ | refine wp_condNF ?_ | refine wp_condD (fun _ => ?_) (fun _ => ?_) | refine wp_condE (fun _ => ?_) (fun _ => ?_) | refine wp_condNE (fun _ => ?_) (fun _ => ?_) | refine wp_condN (fun _ => ?_) (fun _ => ?_) | refine wp_cond (fun _ => ?_) (fun _ => ?_))
  all_goals (refine h _ ?_; clear h; grind)
theorem ref28_Writes_wp {D : HV → List HV → M HV} {H : Heap} {Q : HV → Heap → Prop} {c : Ins} {k i : Nat} (h : ∀ z : Bool, (z = true ↔ wrP c k i) → Q (.bool z) H) : wp (f_ref28_Writes D [.agg c.cs, I k, I i]) Q H := by
  obtain ⟨o, a, b, c⟩ := c
  unfold f_ref28_Writes
  show wp (fin (uA [.agg [I o, I a, I b, I c], I k, I i] _)) _ _
  have h' : ∀ z : Bool, (z = true ↔ (o = 7 ∧ k = 0 ∧ (i : Int) = a) ∨ (o ≠ 6 ∧ o ≠ 8 ∧ rdP ⟨o, a, b, c⟩ k i)) → Q (.bool z) H := h
  clear h
  have h7 : o = 7 → ¬ rdP ⟨o, a, b, c⟩ k i := by intro e; unfold rdP; simp [e]
  with_reducible repeat' (first | refine wp_finF ?_ | refine wp_uA ?_ | refine wp_uI ?_ | refine wp_uB ?_ | refine wp_uL ?_ | refine wp_uS ?_ | refine wp_uP ?_ | refine wp_uc ?_ | refine wp_nl ?_ | refine wp_asB ?_ | refine wp_asI ?_ | refine wp_asSl ?_ | refine wp_asT ?_ | refine wp_asA ?_ | refine wp_asS ?_ | refine wp_asP ?_ | refine wp_jn ?_ | refine wp_nN ?_ | refine wp_rN ?_ | refine wp_xN ?_ | refine wp_nB ?_ | refine wp_rB ?_ | refine wp_xB rfl ?_ | refine wp_xB' rfl ?_ | refine wp_bB ?_ | refine wp_rX ?_ | refine wp_xX ?_ | refine wp_rE ?_ | refine wp_xE ?_ | refine wp_rR ?_ | refine wp_xR ?_ | refine wp_r0 ?_ | refine wp_x0 ?_ | refine wp_rF ?_ | refine wp_rF0 ?_ | refine wp_rF2 ?_ | refine wp_rF3 ?_ | refine wp_rF4 ?_ | refine wp_condT ?_ | refine wp_condF ?_ | refine wp_condNT ?_ | refine wp_condNF ?_ | refine wp_condD (fun _ => ?_) (fun _ => ?_) | refine wp_condE (fun _ => ?_) (fun _ => ?_) | refine wp_condNE (fun _ => ?_) (fun _ => ?_) | refine wp_condN (fun _ => ?_) (fun _ => ?_) | refine wp_cond (fun _ => ?_) (fun _ => ?_) | refine wp_bnd (ref28_Reads_wp (c := ⟨o, a, b, c⟩) fun z hz => ?_))
  all_goals (refine h' _ ?_; clear h'; grind)

/-- what a place of a scope says of one instruction. -/
def posP (c : Ins) (x : Nat) : Prop := (x < 24 ∧ rdP c (x / 8) (x % 8)) ∨ (24 ≤ x ∧ x < 48 ∧ wrP c ((x - 24) / 8) ((x - 24) % 8)) ∨ (48 ≤ x ∧ x < 51 ∧ seP c (x - 48)) ∨ (51 ≤ x ∧ x < 55 ∧ taP c (x - 51)) ∨
  (x = 55 ∧ c.op = 21) ∨ (x = 56 ∧ (c.op = 14 ∨ c.op = 19))
def ExB (p : List Ins) (a j : Nat) (P : Ins → Prop) : Prop := ∃ n, ∃ hn : n < p.length, n < j ∧ Rch p a n ∧ Blk p n = (a : Int) ∧ P p[n]
theorem exB_zero {p : List Ins} {a : Nat} {P : Ins → Prop} : ¬ ExB p a 0 P := fun ⟨_, _, h, _⟩ => by omega
theorem exB_skip {p : List Ins} {a j : Nat} {P : Ins → Prop} (h : ¬ (Rch p a j ∧ Blk p j = (a : Int))) : ExB p a (j + 1) P ↔ ExB p a j P := by
  constructor
  · rintro ⟨n, hn, h1, h2, h3, h4⟩
    refine ⟨n, hn, ?_, h2, h3, h4⟩
    by_cases e : n = j
    · subst e; exact absurd ⟨h2, h3⟩ h
    · omega
  · rintro ⟨n, hn, h1, h2, h3⟩
    exact ⟨n, hn, by omega, h2, h3⟩
theorem exB_step {p : List Ins} {a j : Nat} {P : Ins → Prop} (hj : j < p.length) (h : Rch p a j) (hb : Blk p j = (a : Int)) : ExB p a (j + 1) P ↔ ExB p a j P ∨ P p[j] := by
  constructor
  · rintro ⟨n, hn, h1, h2, h3, h4⟩
    by_cases e : n = j
    · subst e; exact .inr h4
    · exact .inl ⟨n, hn, by omega, h2, h3, h4⟩
  · rintro (⟨n, hn, h1, h2, h3⟩ | h3)
    · exact ⟨n, hn, by omega, h2, h3⟩
    · exact ⟨j, hj, by omega, h, hb, h3⟩
/-- the document's scope of all below j. -/
structure RefI (p : List Ins) (a j : Nat) (L : List Bool) : Prop where
  len : L.length = 57
  at_ : ∀ x, L.getD x false = true ↔ ExB p a j (posP · x)
/-- places that were set. -/
structure PW (L T : List Bool) (A : Nat → Prop) : Prop where
  len : T.length = 57
  at_ : ∀ x, T.getD x false = true ↔ L.getD x false = true ∨ A x
theorem PW.set {L T : List Bool} {A : Nat → Prop} (h : PW L T A) {e : Nat} (he : e < 57) {v : Bool} {nb : Prop} (hv : v = true ↔ T.getD e false = true ∨ nb) : PW L (T.set e v) (fun x => A x ∨ (x = e ∧ nb)) := by
  refine ⟨by simpa using h.len, fun x => ?_⟩
  by_cases hx : x = e
  · subst hx
    rw [getD_set_self (by rw [h.len]; exact he), hv, h.at_]
    constructor
    · rintro ((h | h) | h)
      · exact .inl h
      · exact .inr (.inl h)
      · exact .inr (.inr ⟨rfl, h⟩)
    · rintro (h | h | ⟨_, h⟩)
      · exact .inl (.inl h)
      · exact .inl (.inr h)
      · exact .inr h
  · rw [getD_set_ne hx, h.at_]; simp [hx]
theorem PW.iff {L T : List Bool} {A B : Nat → Prop} (h : PW L T A) (hab : ∀ x, A x ↔ B x) : PW L T B := ⟨h.len, fun x => by rw [h.at_, hab]⟩
def A24 (c : Ins) (u : Nat) (x : Nat) : Prop := (x < u ∧ rdP c (x / 8) (x % 8)) ∨ (24 ≤ x ∧ x < 24 + u ∧ wrP c ((x - 24) / 8) ((x - 24) % 8))
theorem a24_step {c : Ins} {k i : Nat} (hk : k < 3) (hi : i < 8) (x : Nat) : ((A24 c (k * 8 + i) x ∨ (x = k * 8 + i ∧ rdP c k i)) ∨ (x = 24 + (k * 8 + i) ∧ wrP c k i)) ↔ A24 c (k * 8 + (i + 1)) x := by
  unfold A24
  have e1 : (k * 8 + i) / 8 = k := by omega
  have e2 : (k * 8 + i) % 8 = i := by omega
  have e3 : (24 + (k * 8 + i) - 24) = k * 8 + i := by omega
  constructor
  · rintro (((⟨h, h'⟩ | ⟨h1, h2, h3⟩) | ⟨rfl, h⟩) | ⟨rfl, h⟩)
    · exact .inl ⟨by omega, h'⟩
    · exact .inr ⟨h1, by omega, h3⟩
    · exact .inl ⟨by omega, by rw [e1, e2]; exact h⟩
    · exact .inr ⟨by omega, by omega, by rw [e3, e1, e2]; exact h⟩
  · rintro (⟨h, h'⟩ | ⟨h1, h2, h3⟩)
    · by_cases e : x = k * 8 + i
      · subst e; rw [e1, e2] at h'; exact .inl (.inr ⟨rfl, h'⟩)
      · exact .inl (.inl (.inl ⟨by omega, h'⟩))
    · by_cases e : x = 24 + (k * 8 + i)
      · subst e; rw [e3, e1, e2] at h3; exact .inr ⟨rfl, h3⟩
      · exact .inl (.inl (.inr ⟨h1, by omega, h3⟩))
def B4 (c : Ins) (v : Nat) (x : Nat) : Prop := A24 c 24 x ∨ (48 ≤ x ∧ x < 51 ∧ x < 48 + v ∧ seP c (x - 48)) ∨ (51 ≤ x ∧ x < 51 + v ∧ taP c (x - 51))
theorem wp_setA {Q : Leaf → Heap → Prop} {H : Heap} {T : List Bool} {e i : Nat} (he : e = i) (hi : i < T.length) {v : Bool} {f : List HV → Leaf} (h : wp (ret (f ((T.set i v).map HV.bool))) Q H) :
    wp (gd (decide (e < (T.map HV.bool).length)) (ret (f (List.set (T.map HV.bool) e (.bool v))))) Q H := by
  refine wp_gdD (by rw [List.length_map]; omega) ?_
  rw [set_map T he]; exact h

theorem ref28_Of_wp {D : HV → List HV → M HV} {H : Heap} {Q : HV → Heap → Prop} {s : Sl} {p : List Ins} (hs : RProg H s p) {a : Int}
    (hy : ∀ k : Nat, a = k → Beg p a → ∀ L, RefI p k p.length L → Q (.tup [.agg (L.map HV.bool), .bool true]) H)
    (hn : ¬ Beg p a → Q (.tup [.agg (List.replicate 57 (HV.bool false)), .bool false]) H) : wp (f_ref28_Of D [.sl s, I a]) Q H := by
  unfold f_ref28_Of
  have hlen := hs.lenI
  with_reducible repeat' (first | refine wp_finF ?_ | refine wp_uA ?_ | refine wp_uI ?_ | refine wp_uB ?_ | refine wp_uL ?_ | refine wp_uS ?_ | refine wp_uP ?_ | refine wp_uc ?_ | refine wp_nl ?_ | refine wp_asB ?_ | refine wp_asI ?_ | refine wp_asSl ?_ | refine wp_asT ?_ | refine wp_asA ?_ | refine wp_asS ?_ | refine wp_asP ?_ | refine wp_nN ?_ | refine wp_rN ?_ | refine wp_xN ?_ | refine wp_nB ?_ | refine wp_rB ?_ | refine wp_xB rfl ?_ | refine wp_xB' rfl ?_ | refine wp_bB ?_ | refine wp_rX ?_ | refine wp_xX ?_ | refine wp_rE ?_ | refine wp_xE ?_ | refine wp_rR ?_ | refine wp_xR ?_ | refine wp_r0 ?_ | refine wp_x0 ?_ | refine wp_rF ?_ | refine wp_rF0 ?_ | refine wp_rF2 ?_ | refine wp_rF3 ?_ | refine wp_rF4 ?_ | refine wp_condT ?_ | refine wp_condF ?_ | refine wp_condNT ?_ | refine wp_condNF ?_)
  refine wp_jnP (¬ Beg p a) ?_ (fun hb => ?_) (fun hb => ?_)
  · refine wp_bnd (ref27_Can_wp hs fun z hz => wp_asB ?_)
    refine wp_condN (fun c => wp_bB ⟨fun _ hh => ?_, fun _ => rfl⟩) (fun c => ?_)
    · rw [hz.2 hh.1] at c; cases c
    · have hc := hz.1 c
      refine wp_condD (fun c => wp_bB ⟨fun _ ⟨_, k, hk, _⟩ => by omega, fun _ => rfl⟩) (fun c0 => ?_)
      refine wp_condD (fun c => wp_bB ⟨fun _ ⟨_, k, hk, hk', _⟩ => by omega, fun _ => rfl⟩) (fun c1 => ?_)
      obtain ⟨k, rfl⟩ : ∃ k : Nat, a = k := ⟨a.toNat, by omega⟩
      have hk : k < p.length := by omega
      refine wp_atF hs hk (k := 0) (v := I (p[k]).op) rfl fun _ _ => wp_asI (wp_bB ?_)
      rw [bne_iff_ne]
      constructor
      · rintro h ⟨_, k', hk', h3, h4⟩
        have : k' = k := by omega
        subst this; exact h h4
      · intro h h4; exact h ⟨hc, k, rfl, hk, h4⟩
  · with_reducible repeat' (first | refine wp_finF ?_ | refine wp_uA ?_ | refine wp_uI ?_ | refine wp_uB ?_ | refine wp_uL ?_ | refine wp_uS ?_ | refine wp_uP ?_ | refine wp_uc ?_ | refine wp_nl ?_ | refine wp_asB ?_ | refine wp_asI ?_ | refine wp_asSl ?_ | refine wp_asT ?_ | refine wp_asA ?_ | refine wp_asS ?_ | refine wp_asP ?_ | refine wp_nN ?_ | refine wp_rN ?_ | refine wp_xN ?_ | refine wp_nB ?_ | refine wp_rB ?_ | refine wp_xB rfl ?_ | refine wp_xB' rfl ?_ | refine wp_bB ?_ | refine wp_rX ?_ | refine wp_xX ?_ | refine wp_rE ?_ | refine wp_xE ?_ | refine wp_rR ?_ | refine wp_xR ?_ | refine wp_r0 ?_ | refine wp_x0 ?_ | refine wp_rF ?_ | refine wp_rF0 ?_ | refine wp_rF2 ?_ | refine wp_rF3 ?_ | refine wp_rF4 ?_ | refine wp_condT ?_ | refine wp_condF ?_ | refine wp_condNT ?_ | refine wp_condNF ?_)
    exact hn hb
  · obtain ⟨hc, k, rfl, hk, h4⟩ := Classical.not_not.1 hb
    have h48 := hc.len
    have hbeg : Beg p (k : Int) := ⟨hc, k, rfl, hk, h4⟩
    with_reducible repeat' (first | refine wp_finF ?_ | refine wp_uA ?_ | refine wp_uI ?_ | refine wp_uB ?_ | refine wp_uL ?_ | refine wp_uS ?_ | refine wp_uP ?_ | refine wp_uc ?_ | refine wp_nl ?_ | refine wp_asB ?_ | refine wp_asI ?_ | refine wp_asSl ?_ | refine wp_asT ?_ | refine wp_asA ?_ | refine wp_asS ?_ | refine wp_asP ?_ | refine wp_nN ?_ | refine wp_rN ?_ | refine wp_xN ?_ | refine wp_nB ?_ | refine wp_rB ?_ | refine wp_xB rfl ?_ | refine wp_xB' rfl ?_ | refine wp_bB ?_ | refine wp_rX ?_ | refine wp_xX ?_ | refine wp_rE ?_ | refine wp_xE ?_ | refine wp_rR ?_ | refine wp_xR ?_ | refine wp_r0 ?_ | refine wp_x0 ?_ | refine wp_rF ?_ | refine wp_rF0 ?_ | refine wp_rF2 ?_ | refine wp_rF3 ?_ | refine wp_rF4 ?_ | refine wp_condT ?_ | refine wp_condF ?_ | refine wp_condNT ?_ | refine wp_condNF ?_)
    refine wp_bnd (ref27_Seen_wp hs hc (a := k) (by omega) fun V hV hR => wp_asA ?_)
    have hVm : (V.map HV.bool).length = 49 := by simpa using hV
    refine wp_gd (by rw [hVm]; rfl) (wp_gd (by rw [hVm]; simp) ?_)
    rw [putN_full (by rw [hVm]; simp), hlen]
    have e0 : List.replicate 57 (HV.bool false) = (List.replicate 57 false).map HV.bool := by rw [List.map_replicate]
    rw [e0]
    refine wp_blk ?_
    refine wp_loop (fun m vs H' => H' = H ∧ ∃ (j : Nat) (L : List Bool), m + j = p.length ∧ vs = [I (j : Int), .agg (L.map HV.bool)] ∧ RefI p k j L) p.length
      ⟨rfl, 0, _, by omega, rfl, ⟨by simp, fun x => ?_⟩⟩ ?_
    · rw [List.getD_eq_getElem?_getD, List.getElem?_replicate]
      constructor
      · intro h; split at h <;> cases h
      · intro h; exact absurd h exB_zero
    rintro m vs H ⟨rfl, j, L, hmj, rfl, hL⟩
    refine wp_uI (wp_uA (wp_nl (wp_condD (fun hj => ?_) (fun hj => ?_))))
    · have hj' : j < p.length := by omega
      have hwj : wr ((j : Int) + 1) = ((j + 1 : Nat) : Int) := by rw [wr_small (by omega) (by omega)]; rfl
      have hjV : j < V.length := by omega
      refine wp_blk ?_
      refine wp_at hs hj' fun _ _ => ?_
      show wp (uI .i64 [I (p[j]).op, I (p[j]).a, I (p[j]).b, I (p[j]).c] _) _ _
      refine wp_uI (wp_uI (wp_uI (wp_uI (wp_nl ?_))))
      refine wp_jnP (¬ (Rch p k j ∧ Blk p j = (k : Int))) ?_ (fun hh => ?_) (fun hh => ?_)
      · refine wp_gdD (by omega) (wp_gdD (by omega) (wp_gxB (i := j) (by omega) hjV (wp_asB ?_)))
        have hRj := hR j
        rw [getD_of hjV] at hRj
        refine wp_condN (fun c => wp_bB ⟨fun _ hh => ?_, fun _ => rfl⟩) (fun c => ?_)
        · rw [hRj.2 hh.1] at c; cases c
        · refine wp_bnd (ref07_Block_wp hs (by omega) hj' (wp_asI (wp_bB ?_)))
          rw [bne_iff_ne]
          exact ⟨fun h ⟨_, h'⟩ => h h', fun h h' => h ⟨hRj.1 c, h'⟩⟩
      · with_reducible repeat' (first | refine wp_finF ?_ | refine wp_uA ?_ | refine wp_uI ?_ | refine wp_uB ?_ | refine wp_uL ?_ | refine wp_uS ?_ | refine wp_uP ?_ | refine wp_uc ?_ | refine wp_nl ?_ | refine wp_asB ?_ | refine wp_asI ?_ | refine wp_asSl ?_ | refine wp_asT ?_ | refine wp_asA ?_ | refine wp_asS ?_ | refine wp_asP ?_ | refine wp_nN ?_ | refine wp_rN ?_ | refine wp_xN ?_ | refine wp_nB ?_ | refine wp_rB ?_ | refine wp_xB rfl ?_ | refine wp_xB' rfl ?_ | refine wp_bB ?_ | refine wp_rX ?_ | refine wp_xX ?_ | refine wp_rE ?_ | refine wp_xE ?_ | refine wp_rR ?_ | refine wp_xR ?_ | refine wp_r0 ?_ | refine wp_x0 ?_ | refine wp_rF ?_ | refine wp_rF0 ?_ | refine wp_rF2 ?_ | refine wp_rF3 ?_ | refine wp_rF4 ?_ | refine wp_condT ?_ | refine wp_condF ?_ | refine wp_condNT ?_ | refine wp_condNF ?_)
        refine wp_ret ⟨m - 1, by omega, rfl, j + 1, L, by omega, by rw [hwj], hL.len, fun x => ?_⟩
        rw [hL.at_, exB_skip hh]
      · obtain ⟨hrj, hbj⟩ := Classical.not_not.1 hh
        with_reducible repeat' (first | refine wp_finF ?_ | refine wp_uA ?_ | refine wp_uI ?_ | refine wp_uB ?_ | refine wp_uL ?_ | refine wp_uS ?_ | refine wp_uP ?_ | refine wp_uc ?_ | refine wp_nl ?_ | refine wp_asB ?_ | refine wp_asI ?_ | refine wp_asSl ?_ | refine wp_asT ?_ | refine wp_asA ?_ | refine wp_asS ?_ | refine wp_asP ?_ | refine wp_nN ?_ | refine wp_rN ?_ | refine wp_xN ?_ | refine wp_nB ?_ | refine wp_rB ?_ | refine wp_xB rfl ?_ | refine wp_xB' rfl ?_ | refine wp_bB ?_ | refine wp_rX ?_ | refine wp_xX ?_ | refine wp_rE ?_ | refine wp_xE ?_ | refine wp_rR ?_ | refine wp_xR ?_ | refine wp_r0 ?_ | refine wp_x0 ?_ | refine wp_rF ?_ | refine wp_rF0 ?_ | refine wp_rF2 ?_ | refine wp_rF3 ?_ | refine wp_rF4 ?_ | refine wp_condT ?_ | refine wp_condF ?_ | refine wp_condNT ?_ | refine wp_condNF ?_)
        have hn3 : (p[j]).cs = [I (p[j]).op, I (p[j]).a, I (p[j]).b, I (p[j]).c] := rfl
        -- reads and writes
        refine wp_blk ?_
        refine wp_loop (fun m1 vs H' => H' = H ∧ ∃ (q : Nat) (T : List Bool), m1 + q = 3 ∧ vs = [I (q : Int), .agg (T.map HV.bool)] ∧ PW L T (A24 p[j] (q * 8))) 3
          ⟨rfl, 0, L, by omega, rfl, hL.len, fun x => by unfold A24; simp; omega⟩ ?_
        rintro m1 vs H ⟨rfl, q, T, hmq, rfl, hT⟩
        refine wp_uI (wp_uA (wp_nl (wp_condD (fun hq => ?_) (fun hq => ?_))))
        · have hq' : q < 3 := by omega
          have hwq : wr ((q : Int) + 1) = ((q + 1 : Nat) : Int) := by rw [wr_small (by omega) (by omega)]; rfl
          refine wp_blk ?_
          refine wp_loop (fun m2 vs H' => H' = H ∧ ∃ (i : Nat) (T : List Bool), m2 + i = 8 ∧ vs = [I (i : Int), .agg (T.map HV.bool)] ∧ PW L T (A24 p[j] (q * 8 + i))) 8
            ⟨rfl, 0, T, by omega, rfl, hT⟩ ?_
          rintro m2 vs H ⟨rfl, i, T, hmi, rfl, hT⟩
          refine wp_uI (wp_uA (wp_nl (wp_condD (fun hi => ?_) (fun hi => ?_))))
          · have hi' : i < 8 := by omega
            have hwi : wr ((i : Int) + 1) = ((i + 1 : Nat) : Int) := by rw [wr_small (by omega) (by omega)]; rfl
            refine wp_blk ?_
            refine wp_jn (wp.mono (Q := fun lf H' => H' = H ∧ ∃ T', lf = .norm [.agg (T'.map HV.bool)] ∧ PW L T' (fun x => A24 p[j] (q * 8 + i) x ∨ (x = q * 8 + i ∧ rdP p[j] q i))) ?_ ?_)
            · refine wp_gdD (by omega) (wp_gdD (by omega) (wp_gdD (by omega) (wp_gdD (by omega) (wp_gxB (i := q * 8 + i) (by omega) (by rw [hT.len]; omega) (wp_asB ?_)))))
              refine wp_cond (fun c => ?_) (fun c => ?_)
              · refine wp_gdD (by omega) (wp_gdD (by omega) (wp_gdD (by omega) (wp_gdD (by omega) ?_)))
                refine wp_setA (f := fun l => .norm [.agg l]) (i := q * 8 + i) (by omega) (by rw [hT.len]; omega) (wp_ret ⟨rfl, _, rfl, hT.set (by omega) ?_⟩)
                rw [getD_of (by rw [hT.len]; omega), c]; simp
              · refine wp_bnd (ref28_Reads_wp (c := p[j]) fun z hz => wp_asB ?_)
                refine wp_gdD (by omega) (wp_gdD (by omega) (wp_gdD (by omega) (wp_gdD (by omega) ?_)))
                refine wp_setA (f := fun l => .norm [.agg l]) (i := q * 8 + i) (by omega) (by rw [hT.len]; omega) (wp_ret ⟨rfl, _, rfl, hT.set (by omega) ?_⟩)
                rw [getD_of (by rw [hT.len]; omega), c, hz]; simp
            · rintro _ H ⟨rfl, T2, rfl, hT2⟩
              show wp _ _ _
              have fin : ∀ v : Bool, (v = true ↔ T2.getD (24 + (q * 8 + i)) false = true ∨ wrP p[j] q i) → PW L (T2.set (24 + (q * 8 + i)) v) (A24 p[j] (q * 8 + (i + 1))) := fun v hv =>
                (hT2.set (by omega) hv).iff fun x => a24_step hq' hi' x
              refine wp_uA (wp_nl ?_)
              refine wp_gdD (by omega) (wp_gdD (by omega) (wp_gdD (by omega) (wp_gdD (by omega) (wp_gxB (i := 24 + (q * 8 + i)) (by omega) (by rw [hT2.len]; omega) (wp_asB ?_)))))
              refine wp_cond (fun c => ?_) (fun c => ?_)
              · refine wp_gdD (by omega) (wp_gdD (by omega) (wp_gdD (by omega) (wp_gdD (by omega) ?_)))
                refine wp_setA (f := fun l => .norm [.agg l]) (i := 24 + (q * 8 + i)) (by omega) (by rw [hT2.len]; omega) (wp_ret ?_)
                show wp _ _ _
                refine wp_uA (wp_nl (wp_ret ⟨m2 - 1, by omega, rfl, i + 1, _, by omega, by rw [hwi], fin _ ?_⟩))
                rw [getD_of (by rw [hT2.len]; omega), c]; simp
              · refine wp_bnd (ref28_Writes_wp (c := p[j]) fun z hz => wp_asB ?_)
                refine wp_gdD (by omega) (wp_gdD (by omega) (wp_gdD (by omega) (wp_gdD (by omega) ?_)))
                refine wp_setA (f := fun l => .norm [.agg l]) (i := 24 + (q * 8 + i)) (by omega) (by rw [hT2.len]; omega) (wp_ret ?_)
                show wp _ _ _
                refine wp_uA (wp_nl (wp_ret ⟨m2 - 1, by omega, rfl, i + 1, _, by omega, by rw [hwi], fin _ ?_⟩))
                rw [getD_of (by rw [hT2.len]; omega), c, hz]; simp
          · have : i = 8 := by omega
            subst this
            refine wp_ret ?_
            show wp _ _ _
            refine wp_uA (wp_nl (wp_ret ⟨m1 - 1, by omega, rfl, q + 1, T, by omega, by rw [hwq], ?_⟩))
            rw [show (q + 1) * 8 = q * 8 + 8 by omega]; exact hT
        · have : q = 3 := by omega
          subst this
          refine wp_ret ?_
          show wp _ _ _
          refine wp_uA (wp_nl ?_)
          -- sockets and tallies
          refine wp_blk ?_
          refine wp_loop (fun m2 vs H' => H' = H ∧ ∃ (i : Nat) (T : List Bool), m2 + i = 4 ∧ vs = [I (i : Int), .agg (T.map HV.bool)] ∧ PW L T (B4 p[j] i)) 4
            ⟨rfl, 0, T, by omega, rfl, hT.iff fun x => by unfold B4; constructor
                                                          · exact .inl
                                                          · rintro (h | h | h)
                                                            · exact h
                                                            · omega
                                                            · omega⟩ ?_
          rintro m2 vs H ⟨rfl, i, T, hmi, rfl, hT⟩
          refine wp_uI (wp_uA (wp_nl (wp_condD (fun hi => ?_) (fun hi => ?_))))
          · have hi' : i < 4 := by omega
            have hwi : wr ((i : Int) + 1) = ((i + 1 : Nat) : Int) := by rw [wr_small (by omega) (by omega)]; rfl
            refine wp_blk ?_
            refine wp_jnP (i < 3 ∧ seP p[j] i) ?_ (fun hse => ?_) (fun hse => ?_)
            · unfold seP
              refine wp_condD (fun c3 => wp_condE (fun c => wp_bB ?_) (fun c => wp_condE (fun c' => wp_bB ?_) (fun c' => wp_bB ?_))) (fun c3 => wp_bB ?_)
              · simp [c]; omega
              · simp [c']; omega
              · simp [c, c']
              · simp; intro h; omega
            all_goals
              refine wp_uB (wp_nl (wp_jn (wp.mono (Q := fun lf H' => H' = H ∧ ∃ T', lf = .norm [.agg (T'.map HV.bool)] ∧ PW L T' (fun x => B4 p[j] i x ∨ (x = 48 + i ∧ (i < 3 ∧ seP p[j] i)))) ?_ ?_)))
            · refine wp_condT ?_
              refine wp_gdD (by omega) (wp_gdD (by omega) ?_)
              refine wp_setA (f := fun l => .norm [.agg l]) (i := 48 + i) (by omega) (by rw [hT.len]; omega) (wp_ret ⟨rfl, _, rfl, hT.set (by omega) ?_⟩)
              exact ⟨fun _ => .inr hse, fun _ => rfl⟩
            rotate_left
            · refine wp_condF (wp_ret ⟨rfl, T, rfl, hT.iff fun x => ?_⟩)
              simp [hse]
            all_goals
              rintro _ H ⟨rfl, T2, rfl, hT2⟩
              show wp _ _ _
              have fin : ∀ T3, PW L T3 (fun x => (B4 p[j] i x ∨ (x = 48 + i ∧ (i < 3 ∧ seP p[j] i))) ∨ (x = 51 + i ∧ taP p[j] i)) → PW L T3 (B4 p[j] (i + 1)) := fun T3 h3 => h3.iff fun x => by
                unfold B4
                constructor
                · rintro (((h | ⟨q1, q2, q3, q4⟩ | ⟨q1, q2, q3⟩) | ⟨rfl, q1, q2⟩) | ⟨rfl, q1⟩)
                  · exact .inl h
                  · exact .inr (.inl ⟨q1, q2, by omega, q4⟩)
                  · exact .inr (.inr ⟨q1, by omega, q3⟩)
                  · exact .inr (.inl ⟨by omega, by omega, by omega, by rw [show 48 + i - 48 = i by omega]; exact q2⟩)
                  · exact .inr (.inr ⟨by omega, by omega, by rw [show 51 + i - 51 = i by omega]; exact q1⟩)
                · rintro (h | ⟨q1, q2, q3, q4⟩ | ⟨q1, q2, q3⟩)
                  · exact .inl (.inl (.inl h))
                  · by_cases e : x = 48 + i
                    · subst e; rw [show 48 + i - 48 = i by omega] at q4; exact .inl (.inr ⟨rfl, by omega, q4⟩)
                    · exact .inl (.inl (.inr (.inl ⟨q1, q2, by omega, q4⟩)))
                  · by_cases e : x = 51 + i
                    · subst e; rw [show 51 + i - 51 = i by omega] at q3; exact .inr ⟨rfl, q3⟩
                    · exact .inl (.inl (.inr (.inr ⟨q1, by omega, q3⟩)))
              refine wp_uA (wp_nl (wp_jnP (taP p[j] i) ?_ (fun hta => ?_) (fun hta => ?_)))
              · unfold taP
                refine wp_condE (fun c => wp_bB ?_) (fun c => wp_bB ?_)
                · simp [c]
                · simp [c]
              · refine wp_uB (wp_nl (wp_condT ?_))
                refine wp_gdD (by omega) (wp_gdD (by omega) ?_)
                refine wp_setA (f := fun l => .norm [.agg l]) (i := 51 + i) (by omega) (by rw [hT2.len]; omega) (wp_ret ?_)
                show wp _ _ _
                refine wp_uA (wp_nl (wp_ret ⟨m2 - 1, by omega, rfl, i + 1, _, by omega, by rw [hwi], fin _ (hT2.set (by omega) ?_)⟩))
                simp only [hta, or_true]
              · refine wp_uB (wp_nl (wp_condF (wp_ret ?_)))
                show wp _ _ _
                refine wp_uA (wp_nl (wp_ret ⟨m2 - 1, by omega, rfl, i + 1, T2, by omega, by rw [hwi], fin _ (hT2.iff fun x => ?_)⟩))
                simp [hta]
          · have : i = 4 := by omega
            subst this
            refine wp_ret ?_
            show wp _ _ _
            refine wp_uA (wp_nl (wp_jn (wp.mono (Q := fun lf H' => H' = H ∧ ∃ T', lf = .norm [.agg (T'.map HV.bool)] ∧ PW L T' (fun x => B4 p[j] 4 x ∨ (x = 55 ∧ (p[j]).op = 21))) ?_ ?_)))
            · refine wp_gxB (i := 55) rfl (by rw [hT.len]; omega) (wp_asB (wp_cond (fun c => ?_) (fun c => ?_)))
              · refine wp_setA (f := fun l => .norm [.agg l]) (i := 55) rfl (by rw [hT.len]; omega) (wp_ret ⟨rfl, _, rfl, hT.set (by omega) ?_⟩)
                rw [getD_of (by rw [hT.len]; omega), c]; simp
              · refine wp_setA (f := fun l => .norm [.agg l]) (i := 55) rfl (by rw [hT.len]; omega) (wp_ret ⟨rfl, _, rfl, hT.set (by omega) ?_⟩)
                rw [getD_of (by rw [hT.len]; omega), c]; simp
            · rintro _ H ⟨rfl, T2, rfl, hT2⟩
              show wp _ _ _
              have fin : ∀ v : Bool, (v = true ↔ T2.getD 56 false = true ∨ ((p[j]).op = 14 ∨ (p[j]).op = 19)) → RefI p k (j + 1) (T2.set 56 v) := fun v hv => by
                have h3 := hT2.set (e := 56) (by omega) hv
                refine ⟨h3.len, fun x => ?_⟩
                rw [h3.at_, exB_step hj' hrj hbj, hL.at_]
                have : ((B4 p[j] 4 x ∨ x = 55 ∧ (p[j]).op = 21) ∨ x = 56 ∧ ((p[j]).op = 14 ∨ (p[j]).op = 19)) ↔ posP p[j] x := by
                  unfold B4 A24 posP
                  constructor
                  · rintro ((((⟨q1, q2⟩ | ⟨q1, q2, q3⟩) | ⟨q1, q2, q3, q4⟩ | ⟨q1, q2, q3⟩) | q) | q)
                    · exact .inl ⟨q1, q2⟩
                    · exact .inr (.inl ⟨q1, by omega, q3⟩)
                    · exact .inr (.inr (.inl ⟨q1, q2, q4⟩))
                    · exact .inr (.inr (.inr (.inl ⟨q1, by omega, q3⟩)))
                    · exact .inr (.inr (.inr (.inr (.inl q))))
                    · exact .inr (.inr (.inr (.inr (.inr q))))
                  · rintro (⟨q1, q2⟩ | ⟨q1, q2, q3⟩ | ⟨q1, q2, q4⟩ | ⟨q1, q2, q3⟩ | q | q)
                    · exact .inl (.inl (.inl (.inl ⟨q1, q2⟩)))
                    · exact .inl (.inl (.inl (.inr ⟨q1, by omega, q3⟩)))
                    · exact .inl (.inl (.inr (.inl ⟨q1, q2, by omega, q4⟩)))
                    · exact .inl (.inl (.inr (.inr ⟨q1, by omega, q3⟩)))
                    · exact .inl (.inr q)
                    · exact .inr q
                rw [this]
              have out : ∀ v : Bool, (v = true ↔ T2.getD 56 false = true ∨ ((p[j]).op = 14 ∨ (p[j]).op = 19)) → wp (gd (decide (56 < (T2.map HV.bool).length)) (ret (Leaf.norm [.agg (List.set (T2.map HV.bool) 56 (.bool v))]))) (PBlk 1 (PLoop (fun m vs H' => H' = H ∧ ∃ (j : Nat) (L : List Bool), m + j = p.length ∧ vs = [I (j : Int), .agg (L.map HV.bool)] ∧ RefI p k j L) m (PBlk 0 (PFin Q) fun vs_1 => uA vs_1 fun y6_13 r_32 => nl r_32 (gxN y6_13 0 57 fun x157l => gd (Nat.beq x157l.length 57) (gd (Nat.ble (0 + x157l.length) ((List.replicate 57 false).map HV.bool).length) (gxN (putN ((List.replicate 57 false).map HV.bool) 0 x157l) 0 57 fun z0l => ret (.ret [.agg z0l, .bool true])))))) fun vs_3 => uA vs_3 fun y6_12 r_31 => nl r_31 (ret (.norm [I (wr ((j : Int) + 1)), .agg y6_12]))) H := by
                intro v hv
                refine wp_setA (f := fun l => .norm [.agg l]) (i := 56) rfl (by rw [hT2.len]; omega) (wp_ret ?_)
                show wp _ _ _
                exact wp_uA (wp_nl (wp_ret ⟨m - 1, by omega, rfl, j + 1, _, by omega, by rw [hwj], fin v hv⟩))
              refine wp_uA (wp_nl (wp_gxB (i := 56) rfl (by rw [hT2.len]; omega) (wp_asB (wp_cond (fun c => ?_) (fun c => ?_)))))
              · exact out true (by rw [getD_of (by rw [hT2.len]; omega), c]; simp)
              · refine wp_condE (fun e => out true (by simp [e])) (fun e => out _ ?_)
                rw [getD_of (by rw [hT2.len]; omega), c]; simp [e]
    · have : j = p.length := by omega
      subst this
      refine wp_ret ?_
      show wp _ _ _
      have hLm : (L.map HV.bool).length = 57 := by simpa using hL.len
      refine wp_uA (wp_nl (wp_gxAll hLm (wp_gd (by rw [hLm]; rfl) (wp_gd (by rw [hLm]; simp) ?_))))
      rw [putN_full (by rw [hLm]; simp)]
      exact wp_gxAll hLm (wp_rF2 (hy k rfl hbeg L hL))
end Go.Proofs.Ytijppadieomnjaa.HT
namespace Go.Proofs.Ytijppadieomnjaa.HT
open Go

theorem wp_gxNo {α : Type} {Q : α → Heap → Prop} {H : Heap} {cs : List HV} {o m : Nat} {f : List HV → M α} (hm : o + m ≤ cs.length) (h : wp (f ((cs.drop o).take m)) Q H) : wp (gxN cs o m f) Q H := by
  unfold gxN
  exact wp_gd (by simpa using hm) h
structure Same (S : Sco) (L : List Bool) : Prop where
  len : L.length = 57
  r : ∀ k, k < 3 → ∀ i, i < 8 → (S.r k).getLsbD i = L.getD (k * 8 + i) false
  w : ∀ k, k < 3 → ∀ i, i < 8 → (S.w k).getLsbD i = L.getD (24 + (k * 8 + i)) false
  s : ∀ i, i < 3 → S.s i = L.getD (48 + i) false
  t : ∀ i, i < 4 → S.t i = L.getD (51 + i) false
  su : S.su = L.getD 55 false
  wa : S.wa = L.getD 56 false
theorem ex_exB {p : List Ins} (hc : CanB p) {k e : Nat} (he : EndAt p k e) {P : Ins → Prop} (hP : ∀ c, P c → c.op ≠ 4 ∧ c.op ≠ 5) : Ex p k e P ↔ ExB p k p.length P := by
  have h1 := he.le
  have h2 := he.lt
  constructor
  · rintro ⟨n, hn, q1, q2, q3⟩
    have hge : k ≤ n := by
      clear q1 q3
      induction q2 with
      | refl => exact Nat.le_refl _
      | step hi hr hm ih => have := nextL_range hc hi hm; have := ih hi; omega
    have hkn : k ≠ n := fun hh => by subst hh; exact (hP _ q3).1 (he.b hn)
    refine ⟨n, hn, hn, q2, ?_, q3⟩
    rw [Blk_eq hn, if_neg (hP _ q3).1, opn_in hc.shaped he.b h1 he.no n (by omega) (by omega)]
  · rintro ⟨n, hn, _, q2, q3, q4⟩
    rw [Blk_eq hn, if_neg (hP _ q4).1] at q3
    have hlt := opn_lt p n
    have hle : n ≤ e := Classical.byContradiction fun hh => opn_past he n (by omega) (by omega) q3
    have hne : n ≠ e := fun hh => by subst hh; exact (hP _ q4).2 (he.fin hn)
    exact ⟨n, hn, by omega, q2, q4⟩
theorem rdP_op {c : Ins} {k i : Nat} (h : rdP c k i) : c.op ≠ 4 ∧ c.op ≠ 5 := by unfold rdP at h; omega
theorem wrP_op {c : Ins} {k i : Nat} (h : wrP c k i) : c.op ≠ 4 ∧ c.op ≠ 5 := by
  rcases h with h | ⟨_, _, h⟩
  · omega
  · exact rdP_op h
theorem exB_congr {p : List Ins} {a j : Nat} {P P' : Ins → Prop} (h : ∀ c, P c ↔ P' c) : ExB p a j P ↔ ExB p a j P' := by
  have : P = P' := funext fun c => propext (h c)
  rw [this]
theorem same_of {p : List Ins} (hc : CanB p) {k e : Nat} (he : EndAt p k e) {S : Sco} {L : List Bool} (hS : ScoI p k e S) (hL : RefI p k p.length L) : Same S L := by
  have key : ∀ {b : Bool} {x : Nat} {P : Ins → Prop}, (b = true ↔ Ex p k e P) → (∀ c, P c → c.op ≠ 4 ∧ c.op ≠ 5) → (∀ c, P c ↔ posP c x) → b = L.getD x false := by
    intro b x P h1 h2 h3
    rw [Bool.eq_iff_iff, h1, hL.at_, ex_exB hc he h2, exB_congr h3]
  refine ⟨hL.len, fun k hk i hi => ?_, fun k hk i hi => ?_, fun i hi => ?_, fun i hi => ?_, ?_, ?_⟩
  · refine key (hS.r k hk i hi) (fun c h => rdP_op h) fun c => ?_
    unfold posP
    rw [show (k * 8 + i) / 8 = k by omega, show (k * 8 + i) % 8 = i by omega]
    constructor
    · intro h; exact .inl ⟨by omega, h⟩
    · rintro (⟨_, h⟩ | ⟨h, _⟩ | ⟨h, _⟩ | ⟨h, _⟩ | ⟨h, _⟩ | ⟨h, _⟩)
      · exact h
      all_goals omega
  · refine key (hS.w k hk i hi) (fun c h => wrP_op h) fun c => ?_
    unfold posP
    rw [show (24 + (k * 8 + i) - 24) / 8 = k by omega, show (24 + (k * 8 + i) - 24) % 8 = i by omega]
    constructor
    · intro h; exact .inr (.inl ⟨by omega, by omega, h⟩)
    · rintro (⟨h, _⟩ | ⟨_, _, h⟩ | ⟨h, _⟩ | ⟨h, _⟩ | ⟨h, _⟩ | ⟨h, _⟩)
      · omega
      · exact h
      all_goals omega
  · refine key (hS.s i hi) (fun c h => by unfold seP at h; omega) fun c => ?_
    unfold posP
    rw [show 48 + i - 48 = i by omega]
    constructor
    · intro h; exact .inr (.inr (.inl ⟨by omega, by omega, h⟩))
    · rintro (⟨h, _⟩ | ⟨_, h, _⟩ | ⟨_, _, h⟩ | ⟨h, _⟩ | ⟨h, _⟩ | ⟨h, _⟩)
      · omega
      · omega
      · exact h
      all_goals omega
  · refine key (hS.t i hi) (fun c h => by unfold taP at h; omega) fun c => ?_
    unfold posP
    rw [show 51 + i - 51 = i by omega]
    constructor
    · intro h; exact .inr (.inr (.inr (.inl ⟨by omega, by omega, h⟩)))
    · rintro (⟨h, _⟩ | ⟨_, h, _⟩ | ⟨_, h, _⟩ | ⟨_, _, h⟩ | ⟨h, _⟩ | ⟨h, _⟩)
      · omega
      · omega
      · omega
      · exact h
      all_goals omega
  · refine key hS.su (fun c h => by omega) fun c => ?_
    unfold posP
    constructor
    · intro h; exact .inr (.inr (.inr (.inr (.inl ⟨rfl, h⟩))))
    · rintro (⟨h, _⟩ | ⟨_, h, _⟩ | ⟨_, h, _⟩ | ⟨_, h, _⟩ | ⟨_, h⟩ | ⟨h, _⟩)
      · omega
      · omega
      · omega
      · omega
      · exact h
      · omega
  · refine key hS.wa (fun c h => by omega) fun c => ?_
    unfold posP
    constructor
    · intro h; exact .inr (.inr (.inr (.inr (.inr ⟨rfl, h⟩))))
    · rintro (⟨h, _⟩ | ⟨_, h, _⟩ | ⟨_, h, _⟩ | ⟨_, h, _⟩ | ⟨h, _⟩ | ⟨_, h⟩)
      · omega
      · omega
      · omega
      · omega
      · omega
      · exact h

theorem scope_good_wp {D : HV → List HV → M HV} {H : Heap} {Q : HV → Heap → Prop} {k i : Int} (h : ∀ z : Bool, (z = true ↔ 0 ≤ k ∧ k ≤ 2 ∧ 0 ≤ i ∧ i < 8) → Q (.bool z) H) : wp (f_scope_good D [I k, I i]) Q H := by
  unfold f_scope_good
  with_reducible repeat' (first | refine wp_finF ?_ | refine wp_uA ?_ | refine wp_uI ?_ | refine wp_uB ?_ | refine wp_uL ?_ | refine wp_uS ?_ | refine wp_uP ?_ | refine wp_uc ?_ | refine wp_nl ?_ | refine wp_asB ?_ | refine wp_asI ?_ | refine wp_asSl ?_ | refine wp_asT ?_ | refine wp_asA ?_ | refine wp_asS ?_ | refine wp_asP ?_ | refine wp_jn ?_ | refine wp_nN ?_ | refine wp_rN ?_ | refine wp_xN ?_ | refine wp_nB ?_ | refine wp_rB ?_ | refine wp_xB rfl ?_ | refine wp_xB' rfl ?_ | refine wp_bB ?_ | refine wp_rX ?_ | refine wp_xX ?_ | refine wp_rE ?_ | refine wp_xE ?_ | refine wp_rR ?_ | refine wp_xR ?_ | refine wp_r0 ?_ | refine wp_x0 ?_ | refine wp_rF ?_ | refine wp_rF0 ?_ | refine wp_rF2 ?_ | refine wp_rF3 ?_ | refine wp_rF4 ?_ | refine wp_condT ?_ | refine wp_condF ?_ | refine wp_condNT ?_ | refine wp_condNF ?_ | refine wp_condD (fun _ => ?_) (fun _ => ?_) | refine wp_condE (fun _ => ?_) (fun _ => ?_) | refine wp_condNE (fun _ => ?_) (fun _ => ?_) | refine wp_condN (fun _ => ?_) (fun _ => ?_) | refine wp_cond (fun _ => ?_) (fun _ => ?_))
  all_goals (refine h _ ?_; clear h; grind)
theorem scope_Has_wp {D : HV → List HV → M HV} {H : Heap} {Q : HV → Heap → Prop} {f : Nat → BitVec 8} {k i : Int} (h1 : ∀ a b : Nat, k = a → i = b → a < 3 → b < 8 → Q (.bool ((f a).getLsbD b)) H) (h2 : ¬ (0 ≤ k ∧ k ≤ 2 ∧ 0 ≤ i ∧ i < 8) → Q (.bool false) H) :
    wp (f_scope_Things_Has D [.agg [U8 (f 0), U8 (f 1), U8 (f 2)], I k, I i]) Q H := by
  unfold f_scope_Things_Has
  with_reducible repeat' (first | refine wp_finF ?_ | refine wp_uA ?_ | refine wp_uI ?_ | refine wp_uB ?_ | refine wp_uL ?_ | refine wp_uS ?_ | refine wp_uP ?_ | refine wp_uc ?_ | refine wp_nl ?_ | refine wp_asB ?_ | refine wp_asI ?_ | refine wp_asSl ?_ | refine wp_asT ?_ | refine wp_asA ?_ | refine wp_asS ?_ | refine wp_asP ?_ | refine wp_nN ?_ | refine wp_rN ?_ | refine wp_xN ?_ | refine wp_nB ?_ | refine wp_rB ?_ | refine wp_xB rfl ?_ | refine wp_xB' rfl ?_ | refine wp_bB ?_ | refine wp_rX ?_ | refine wp_xX ?_ | refine wp_rE ?_ | refine wp_xE ?_ | refine wp_rR ?_ | refine wp_xR ?_ | refine wp_r0 ?_ | refine wp_x0 ?_ | refine wp_rF ?_ | refine wp_rF0 ?_ | refine wp_rF2 ?_ | refine wp_rF3 ?_ | refine wp_rF4 ?_ | refine wp_condT ?_ | refine wp_condF ?_ | refine wp_condNT ?_ | refine wp_condNF ?_)
  refine wp_jn (wp_bnd (scope_good_wp fun z hz => wp_asB (wp_cond (fun c => ?_) (fun c => wp_ret ?_))))
  · obtain ⟨q1, q2, q3, q4⟩ := hz.1 c
    obtain ⟨a, rfl⟩ : ∃ a : Nat, k = a := ⟨k.toNat, by omega⟩
    obtain ⟨b, rfl⟩ : ∃ b : Nat, i = b := ⟨i.toNat, by omega⟩
    refine wp_gdD (by omega) (wp_gdD (by omega) ?_)
    refine wp_gxg (v := U8 (f a)) ?_ (wp_asI (wp_gdD (by omega) (wp_ret ?_)))
    · rcases lt3 (k := a) (by omega) with rfl | rfl | rfl <;> rfl
    · show wp _ _ _
      rw [bit_test _ (by omega)]
      exact wp_uB (wp_nl (wp_rF (h1 a b rfl rfl (by omega) (by omega))))
  · show wp _ _ _
    exact wp_uB (wp_nl (wp_rF (h2 fun hh => by rw [hz.2 hh] at c; cases c)))

def pS : List Ins := [⟨4, 0, 0, 0⟩, ⟨6, 0, 2, 0⟩, ⟨7, 1, 0, 0⟩, ⟨5, 0, 0, 0⟩]
theorem pS_fit : ∀ x ∈ pS, IFit x := by
  intro x hx; simp [pS] at hx
  rcases hx with rfl | rfl | rfl | rfl <;> exact ⟨by simp [loI, hiI], by simp [loI, hiI], by simp [loI, hiI], by simp [loI, hiI]⟩
theorem pS_can : CanB pS := canB_of pS_fit (by decide)
theorem pS_r1 : Rch pS 0 1 := .step (i := 0) (by decide) .refl (by decide)
theorem pS_r2 : Rch pS 0 2 := .step (i := 1) (by decide) pS_r1 (by decide)
theorem pS_ex {P : Ins → Prop} : Ex pS 0 3 P ↔ (P ⟨4, 0, 0, 0⟩ ∨ P ⟨6, 0, 2, 0⟩) ∨ P ⟨7, 1, 0, 0⟩ := by
  rw [ex_step (by decide) pS_r2, ex_step (by decide) pS_r1, ex_step (by decide) .refl]
  simp only [ex_zero, false_or]
  exact Iff.rfl
theorem pS_cells {S : Sco} (h : ScoI pS 0 3 S) : S.r 0 = 4#8 ∧ S.cells = [.int .u8 4, .int .u8 0, .int .u8 0, .int .u8 2, .int .u8 0, .int .u8 0, .bool false, .bool false, .bool false, .bool false, .bool false, .bool false, .bool false, .bool false, .bool false] := by
  have bits : ∀ {b v : BitVec 8}, (∀ i, i < 8 → (b.getLsbD i = true ↔ v.getLsbD i = true)) → b = v := fun {b v} hb =>
    BitVec.eq_of_getLsbD_eq fun i hi => by rw [Bool.eq_iff_iff]; exact hb i hi
  have no : ∀ {b : Bool}, ¬ b = true → b = false := fun {b} hb => by cases b; rfl; exact absurd rfl hb
  have cases8 : ∀ i, i < 8 → i = 0 ∨ i = 1 ∨ i = 2 ∨ i = 3 ∨ i = 4 ∨ i = 5 ∨ i = 6 ∨ i = 7 := by omega
  have r0 : S.r 0 = 4#8 := bits fun i hi => by
    rw [h.r 0 (by omega) i hi, pS_ex]
    rcases cases8 i hi with rfl | rfl | rfl | rfl | rfl | rfl | rfl | rfl <;> simp [rdP]
  have r1 : S.r 1 = 0#8 := bits fun i hi => by
    rw [h.r 1 (by omega) i hi, pS_ex]; simp [rdP]
  have r2 : S.r 2 = 0#8 := bits fun i hi => by
    rw [h.r 2 (by omega) i hi, pS_ex]; simp [rdP]
  have w0 : S.w 0 = 2#8 := bits fun i hi => by
    rw [h.w 0 (by omega) i hi, pS_ex]
    rcases cases8 i hi with rfl | rfl | rfl | rfl | rfl | rfl | rfl | rfl <;> simp [wrP, rdP]
  have w1 : S.w 1 = 0#8 := bits fun i hi => by
    rw [h.w 1 (by omega) i hi, pS_ex]; simp [wrP, rdP]
  have w2 : S.w 2 = 0#8 := bits fun i hi => by
    rw [h.w 2 (by omega) i hi, pS_ex]; simp [wrP, rdP]
  have s : ∀ i, i < 3 → S.s i = false := fun i hi => no fun hh => by
    have := (h.s i hi).1 hh; rw [pS_ex] at this; simp [seP] at this
  have t : ∀ i, i < 4 → S.t i = false := fun i hi => no fun hh => by
    have := (h.t i hi).1 hh; rw [pS_ex] at this; simp [taP] at this
  have su : S.su = false := no fun hh => by
    have := h.su.1 hh; rw [pS_ex] at this; simp at this
  have wa : S.wa = false := no fun hh => by
    have := h.wa.1 hh; rw [pS_ex] at this; simp at this
  refine ⟨r0, ?_⟩
  unfold Sco.cells
  rw [r0, r1, r2, w0, w1, w2, s 0 (by omega), s 1 (by omega), s 2 (by omega), t 0 (by omega), t 1 (by omega), t 2 (by omega), t 3 (by omega), su, wa]
  rfl
theorem law28_alive_wp {cl : List (Nat × Clo)} {rn : List (Nat × Rnd)} {D0 : DD} (h1 : lkA cl n_bound_From_1 = some f_bound_From_1) (h2 : lkA rn 82468377 = some r0_scope_Of) {H : Heap} {Q : HV → Heap → Prop} (h : ∀ H', Keeps H H' → Q (.bool true) H') :
    wp (f_law28_alive (stepD cl rn (stepD cl rn D0)) []) Q H := by
  unfold f_law28_alive
  with_reducible repeat' (first | refine wp_finF ?_ | refine wp_uA ?_ | refine wp_uI ?_ | refine wp_uB ?_ | refine wp_uL ?_ | refine wp_uS ?_ | refine wp_uP ?_ | refine wp_uc ?_ | refine wp_nl ?_ | refine wp_asB ?_ | refine wp_asI ?_ | refine wp_asSl ?_ | refine wp_asT ?_ | refine wp_asA ?_ | refine wp_asS ?_ | refine wp_asP ?_ | refine wp_nN ?_ | refine wp_rN ?_ | refine wp_xN ?_ | refine wp_nB ?_ | refine wp_rB ?_ | refine wp_xB rfl ?_ | refine wp_xB' rfl ?_ | refine wp_bB ?_ | refine wp_rX ?_ | refine wp_xX ?_ | refine wp_rE ?_ | refine wp_xE ?_ | refine wp_rR ?_ | refine wp_xR ?_ | refine wp_r0 ?_ | refine wp_x0 ?_ | refine wp_rF ?_ | refine wp_rF0 ?_ | refine wp_rF2 ?_ | refine wp_rF3 ?_ | refine wp_rF4 ?_ | refine wp_condT ?_ | refine wp_condF ?_ | refine wp_condNT ?_ | refine wp_condNF ?_)
  refine wp_nw ?_
  have hs : RProg (H.push (.cells [I 4, I 0, I 0, I 0, I 6, I 0, I 2, I 0, I 7, I 1, I 0, I 0, I 5, I 0, I 0, I 0] false)) ⟨some (H.n, 0), 4, 4, none⟩ pS := slr_push _ rfl rfl (by simp [pS]) (by simp [pS])
  have hk0 := Keeps.push H (.cells [I 4, I 0, I 0, I 0, I 6, I 0, I 2, I 0, I 7, I 1, I 0, I 0, I 5, I 0, I 0, I 0] false)
  generalize H.push (.cells [I 4, I 0, I 0, I 0, I 6, I 0, I 2, I 0, I 7, I 1, I 0, I 0, I 5, I 0, I 0, I 0] false) = H0 at hs hk0
  refine wp_bnd (scope_Of_wp h1 h2 hs pS_fit (a := 0) (fun k hk _ e he S H1 hk1 hS => ?_) (fun hn => absurd ⟨pS_can, 0, rfl, by decide, rfl⟩ hn))
  have : k = 0 := by omega
  subst this
  have : e = 3 := by
    have q1 := he.lt; have q2 := he.le; have q3 : e < 4 := q2
    have : e = 1 ∨ e = 2 ∨ e = 3 := by omega
    rcases this with rfl | rfl | rfl
    · have := he.fin q2; simp [pS] at this
    · have := he.fin q2; simp [pS] at this
    · rfl
  subst this
  obtain ⟨r0, hcl⟩ := pS_cells hS
  refine wp_asT (wp_uA (wp_uB (wp_nl (wp_gd rfl (wp_gd rfl ?_)))))
  refine wp_jn (wp_condT ?_)
  rw [putN_full (by rw [cells_len]; rfl)]
  refine wp_gxAll rfl (wp_eqM (b := true) (by rw [hcl]; rfl) (wp_condT ?_))
  refine wp_gxNo (by rw [cells_len]; omega) ?_
  show wp (uI .u8 [U8 (S.r 0), U8 (S.r 1), U8 (S.r 2)] _) _ _
  with_reducible repeat' (first | refine wp_finF ?_ | refine wp_uA ?_ | refine wp_uI ?_ | refine wp_uB ?_ | refine wp_uL ?_ | refine wp_uS ?_ | refine wp_uP ?_ | refine wp_uc ?_ | refine wp_nl ?_ | refine wp_asB ?_ | refine wp_asI ?_ | refine wp_asSl ?_ | refine wp_asT ?_ | refine wp_asA ?_ | refine wp_asS ?_ | refine wp_asP ?_ | refine wp_nN ?_ | refine wp_rN ?_ | refine wp_xN ?_ | refine wp_nB ?_ | refine wp_rB ?_ | refine wp_xB rfl ?_ | refine wp_xB' rfl ?_ | refine wp_bB ?_ | refine wp_rX ?_ | refine wp_xX ?_ | refine wp_rE ?_ | refine wp_xE ?_ | refine wp_rR ?_ | refine wp_xR ?_ | refine wp_r0 ?_ | refine wp_x0 ?_ | refine wp_rF ?_ | refine wp_rF0 ?_ | refine wp_rF2 ?_ | refine wp_rF3 ?_ | refine wp_rF4 ?_ | refine wp_condT ?_ | refine wp_condF ?_ | refine wp_condNT ?_ | refine wp_condNF ?_)
  refine wp_bnd (scope_Has_wp (f := S.r) (k := 0) (i := 2) (fun a b ha hb _ _ => ?_) (fun hn => absurd ⟨by omega, by omega, by omega, by omega⟩ hn))
  have : a = 0 := by omega
  subst this
  have : b = 2 := by omega
  subst this
  rw [r0]
  refine wp_asB (wp_ret ?_)
  show wp _ _ _
  exact wp_uB (wp_nl (wp_rF (h _ (hk0.trans hk1))))
end Go.Proofs.Ytijppadieomnjaa.HT
namespace Go.Proofs.Ytijppadieomnjaa.HT
open Go

theorem Beg.of {p : List Ins} {k e : Nat} (hc : CanB p) (he : EndAt p k e) : Beg p (k : Int) := ⟨hc, k, rfl, Nat.lt_trans he.lt he.le, he.b _⟩
/-- the iterator over blocks: each Begin, with its scope. -/
theorem scope_All_1_wp {cl : List (Nat × Clo)} {rn : List (Nat × Rnd)} {D0 : DD} (h1 : lkA cl n_bound_From_1 = some f_bound_From_1) (h2 : lkA rn 82468377 = some r0_scope_Of) {Hs : Heap} {l b : Nat} {s : Sl} {p : List Ins} {Mo : Nat → Prop} {J : Nat → Heap → Prop} {X : Heap → Prop}
    (hb : Hs.get b = .cells [.sl s] false) (hbn : b < Hs.n) (hbM : ¬ Mo b) (hs : RProg Hs s p) (hsM : ∀ b o, s.p = some (b, o) → ¬ Mo b) (hf : ∀ x ∈ p, IFit x)
    (hJk : ∀ j H H', Keeps H H' → J j H → J j H') (h0 : J 0 Hs) (hskip : ∀ j H, j < p.length → ¬ Beg p (j : Int) → J j H → J (j + 1) H)
    (hround : ∀ j H1 e S, j < p.length → CanB p → EndAt p j e → ScoI p j e S → But Mo Hs H1 → J j H1 →
      wp (stepD cl rn (stepD cl rn D0) (.yld l) [I j, .agg S.cells]) (fun r H2 => But Mo H1 H2 ∧ ((r = .bool true ∧ J (j + 1) H2) ∨ (r = .bool false ∧ X H2))) H1) :
    wp (f_scope_All_1 (stepD cl rn (stepD cl rn D0)) ([] ++ [.yld l] ++ [.ptr (some (b, 0))])) (fun _ H' => But Mo Hs H' ∧ (J p.length H' ∨ X H')) Hs := by
  show wp (f_scope_All_1 _ [.yld l, .ptr (some (b, 0))]) _ _
  unfold f_scope_All_1
  have hlt := hs.lt
  have hlen := hs.lenI
  refine wp_finF (wp_uc (wp_uP (wp_nl ?_)))
  show wp (mP (some (b, 0)) _) _ _
  rw [mP_eq']
  refine wp_ldCg hb rfl (wp_asSl ?_)
  rw [hlen]
  refine wp_blk ?_
  refine wp_loop (fun k vs H' => ∃ j : Nat, k + j = p.length ∧ vs = [I (j : Int)] ∧ But Mo Hs H' ∧ J j H') p.length ⟨0, by omega, rfl, But.refl _ _, h0⟩ ?_
  rintro k vs H1 ⟨j, hk, rfl, hb1, hJ⟩
  refine wp_uI (wp_nl (wp_condD (fun hj => ?_) (fun hj => ?_)))
  · have hj' : j < p.length := by omega
    have hw : wr ((j : Int) + 1) = ((j + 1 : Nat) : Int) := by rw [wr_small (by omega) (by omega)]; rfl
    rw [hw]
    show wp (mP (some (b, 0)) _) _ _
    rw [mP_eq']
    refine wp_ldCg (by rw [hb1.get b hbn hbM]; exact hb) rfl (wp_asSl ?_)
    refine wp_bnd (scope_Of_wp h1 h2 (hs.but hb1 hsM) hf (fun k' hk' hc e he S H2 hk2 hS => ?_) (fun hn H2 hk2 => ?_))
    · have : k' = j := by omega
      subst this
      refine wp_asT (wp_uA (wp_uB (wp_nl (wp_gd rfl (wp_gd rfl (wp_jn (wp_condT ?_)))))))
      rw [putN_full (by rw [cells_len]; rfl)]
      refine wp_gxAll rfl (wp_bnd ?_)
      refine (hround k' H2 e S hj' hc he hS (hb1.trans hk2.but) (hJk _ _ _ hk2 hJ)).mono ?_
      rintro r H3 ⟨hb3, ⟨rfl, hJ3⟩ | ⟨rfl, hX⟩⟩
      · refine wp_asB (wp_ret ?_)
        show wp _ _ _
        refine wp_uB (wp_nl (wp_condF (wp_ret ?_)))
        exact ⟨k - 1, by omega, k' + 1, by omega, rfl, (hb1.trans hk2.but).trans hb3, hJ3⟩
      · refine wp_asB (wp_ret ?_)
        show wp _ _ _
        refine wp_uB (wp_nl (wp_condT (wp_ret ?_)))
        exact ⟨(hb1.trans hk2.but).trans hb3, .inr hX⟩
    · refine wp_asT (wp_uA (wp_uB (wp_nl (wp_gd rfl (wp_gd rfl (wp_jn (wp_condF (wp_ret ?_))))))))
      show wp _ _ _
      refine wp_uB (wp_nl (wp_condF (wp_ret ?_)))
      exact ⟨k - 1, by omega, j + 1, by omega, rfl, hb1.trans hk2.but, hskip j _ hj' hn (hJk _ _ _ hk2 hJ)⟩
  · have : j = p.length := by omega
    subst this
    refine wp_ret ?_
    show wp _ _ _
    exact wp_nl (wp_rF0 ⟨hb1, .inl hJ⟩)
theorem scope_All_wp {D : DD} {H : Heap} {Q : HV → Heap → Prop} {s : Sl} (h : Q (.func n_scope_All_1 [] [.ptr (some (H.n, 0))]) (H.push (.cells [.sl s] false))) : wp (f_scope_All D [.sl s]) Q H := by
  unfold f_scope_All
  with_reducible repeat' (first | refine wp_finF ?_ | refine wp_uA ?_ | refine wp_uI ?_ | refine wp_uB ?_ | refine wp_uL ?_ | refine wp_uS ?_ | refine wp_uP ?_ | refine wp_uc ?_ | refine wp_nl ?_ | refine wp_asB ?_ | refine wp_asI ?_ | refine wp_asSl ?_ | refine wp_asT ?_ | refine wp_asA ?_ | refine wp_asS ?_ | refine wp_asP ?_ | refine wp_nN ?_ | refine wp_rN ?_ | refine wp_xN ?_ | refine wp_nB ?_ | refine wp_rB ?_ | refine wp_xB rfl ?_ | refine wp_xB' rfl ?_ | refine wp_bB ?_ | refine wp_rX ?_ | refine wp_xX ?_ | refine wp_rE ?_ | refine wp_xE ?_ | refine wp_rR ?_ | refine wp_xR ?_ | refine wp_r0 ?_ | refine wp_x0 ?_ | refine wp_rF ?_ | refine wp_rF0 ?_ | refine wp_rF2 ?_ | refine wp_rF3 ?_ | refine wp_rF4 ?_ | refine wp_condT ?_ | refine wp_condF ?_ | refine wp_condNT ?_ | refine wp_condNF ?_)
  refine wp_nw (wp_rF ?_)
  exact h
end Go.Proofs.Ytijppadieomnjaa.HT
