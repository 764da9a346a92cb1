/- the restatement of labels (ref26, ref25): walked. Conditions: the variables of the package (Gl). -/
import Derived.Test.YtmfmcegpoiinjaaDoorHMLw
namespace Go.Proofs.YtmfmcegpoiinjaaDoor.HM
open Go
set_option maxRecDepth 100000

section
variable {D : HV → List HV → M HV} {H : Heap} {Q : HV → Heap → Prop}
theorem Behind_wp {k : Nat} (hk : k < 22) (h : Q (.str (S shapes[k]!)) H) : wp (f_ref26_Behind D [I k]) Q H := by
  have hc : k = 0 ∨ k = 1 ∨ k = 2 ∨ k = 3 ∨ k = 4 ∨ k = 5 ∨ k = 6 ∨ k = 7 ∨ k = 8 ∨ k = 9 ∨ k = 10 ∨ k = 11 ∨ k = 12 ∨ k = 13 ∨ k = 14 ∨ k = 15 ∨ k = 16 ∨ k = 17 ∨ k = 18 ∨ k = 19 ∨ k = 20 ∨ k = 21 := by omega
  rcases hc with rfl | rfl | rfl | rfl | rfl | rfl | rfl | rfl | rfl | rfl | rfl | rfl | rfl | rfl | rfl | rfl | rfl | rfl | rfl | rfl | rfl | rfl <;> exact ⟨0, _, _, fun _ _ => rfl, h⟩
theorem Named_wp {s : Sl} {p : List Ins} (hs : RProg H s p) {k : Int} (h : Q (.bool (isT p k)) H) : wp (f_ref26_Named D [.sl s, I k]) Q H := by
  unfold f_ref26_Named
  have hlen := hs.lenI
  have hlt := hs.lt
  refine step ?_
  refine wp_loop0 p.length hlt hlen (fun _ => rfl) rfl (fun i => isT (p.take i) k = false) (by simp [isT]) ?_ ?_
  · intro i hi hp
    have hist := isT_take hi k
    have hall : isT (p.take (i + 1)) k = true → isT p k = true := fun hh => by
      unfold isT at hh ⊢
      rw [List.any_eq_true] at hh ⊢
      obtain ⟨x, hx, hx2⟩ := hh
      exact ⟨x, List.mem_of_mem_take hx, hx2⟩
    refine wp_at hs hi fun b o => ?_
    generalize p[i] = z at *
    rw [hp] at hist
    show wp (uI .i64 (Ins.cs z) _) _ _
    refine step ?_
    refine wp_jnP ((z.op = 3 ∨ z.op = 20) ∧ z.a = k) ?_ (fun h3 => step ?_) (fun h3 => step ?_)
    · refine step ⟨fun c1 => ?_, fun c1 => ⟨fun c2 => ?_, fun c2 => ?_⟩⟩
      · rw [beq_iff_eq]; omega
      · rw [beq_iff_eq]; omega
      · exact ⟨fun hh => (by cases hh), fun hh => by omega⟩
    · rw [hall (by rw [hist]; simp; omega)] at h
      exact h
    · rw [hist]; simp; omega
  · intro hp
    rw [List.take_length] at hp
    rw [hp] at h
    exact step h
end
end Go.Proofs.YtmfmcegpoiinjaaDoor.HM
namespace Go.Proofs.YtmfmcegpoiinjaaDoor.HM
open Go

theorem cond_le' (i n : Int) (a b : M Leaf) : cond (decide (i ≤ n)) a b = cond (decide (i < n + 1)) a b := by
  have : decide (i ≤ n) = decide (i < n + 1) := by rw [decide_eq_decide]; omega
  rw [this]
theorem cut_clean {c : UInt8} : ∀ {m : Bs}, (∀ x ∈ m, x ≠ c) → cutAt c m = [m]
  | [], _ => rfl
  | b :: r, h => by
    have ih := cut_clean (m := r) fun x hx => h x (List.mem_cons_of_mem _ hx)
    have hb : b ≠ c := h b List.mem_cons_self
    rw [cutAt, if_neg hb, ih]
theorem cut_at {c : UInt8} : ∀ {a r : Bs}, (∀ x ∈ a, x ≠ c) → cutAt c (a ++ c :: r) = a :: cutAt c r
  | [], r, _ => by rw [List.nil_append, cutAt, if_pos rfl]
  | b :: a, r, h => by
    have ih := cut_at (a := a) (r := r) fun x hx => h x (List.mem_cons_of_mem _ hx)
    have hb : b ≠ c := h b List.mem_cons_self
    rw [List.cons_append, cutAt, if_neg hb, ih]
/-- ahead of place i. -/
def PcI (c : UInt8) (l : Bs) (i : Nat) (out : List Bs) (f : Nat) : Prop :=
  if i ≤ l.length then f ≤ i ∧ cutAt c l = out ++ cutAt c (l.drop f) ∧ ∀ x ∈ (l.drop f).take (i - f), x ≠ c else out = cutAt c l

section
variable {D : HV → List HV → M HV} {H : Heap} {Q : HV → Heap → Prop}
theorem Pieces_wp {l : Bs} {c : UInt8} (hl : l.length ≤ 100000) (h : ∀ H' s, Kp H H' → RStrs H' s (cutAt c l) → Q (.sl s) H') : wp (f_ref25_Pieces D [.str (S l), .int .u8 (c.toNat : Int)]) Q H := by
  unfold f_ref25_Pieces
  have hsz := S_size l
  have hroom : (10000000 : Nat) ≤ room := by decide
  refine step ?_
  refine wp_for (σ := Sl × List Bs × Nat) (l.length + 1) (len := ((S l).size : Int) + 1) (by omega) (by rw [hsz]; omega) (fun x i => [.sl x.1, I x.2.2, I i]) (out := fun x => [.sl x.1]) (fun _ _ => cond_le' _ _ _ _) rfl
    (fun i x H' => Lg H H' [] [(x.1, 1, x.2.1.map fun y => [HV.str (S y)])] ∧ PcI c l i x.2.1 x.2.2 ∧ x.2.1.length ≤ i) (⟨none, 0, 0, none⟩, [], 0) rfl ⟨(Lg.of (Lm.nil H)).nil 1, by simp [PcI], by simp⟩ ?_ ?_
  · rintro i ⟨s, out, f⟩ H' hi ⟨L, hp, ho⟩
    simp only at L hp ho ⊢
    unfold PcI at hp
    rw [if_pos (by omega)] at hp
    obtain ⟨hf, hc, hn⟩ := hp
    refine wp_blk ?_
    refine wp_jnP (i = l.length ∨ l[i]? = some c) ?_ (fun h3 => step ?_) (fun h3 => step ?_)
    · refine step ⟨fun c1 => ?_, fun c1 => ?_⟩
      · simp; omega
      · have hil : i < l.length := by omega
        have e := at_S hil
        refine ⟨by omega, by omega, ?_⟩
        rw [e, beq_iff_eq, List.getElem?_eq_getElem hil]
        constructor
        · intro hh; right; have : l[i] = c := UInt8.toNat_inj.1 (by omega)
          rw [this]
        · intro hh; rcases hh with hh | hh
          · omega
          · cases hh; rfl
    · refine ⟨by omega, by omega, by omega, ?_⟩
      rw [S_ext]
      refine wp_apdG 0 L rfl (by simp) (by omega) (by simp; omega) (by simp; omega) fun s' H2 L2 => ?_
      refine step ?_
      have hw : ((i + 1 : Nat) : Int) = wr ((i : Int) + 1) := by rw [wr_small (by omega) (by omega)]; omega
      simp only [Int.toNat_natCast] at L2
      refine ⟨(s', out ++ [(l.drop f).take (i - f)], i + 1), ?_, ?_, ?_, by simp; omega⟩
      · show _ = [HV.sl s', I ((i + 1 : Nat) : Int), I (wr ((i : Int) + 1))]
        rw [hw]
      · simpa using L2
      · show PcI c l (i + 1) (out ++ [(l.drop f).take (i - f)]) (i + 1)
        unfold PcI
        by_cases hil : i = l.length
        · rw [if_neg (by omega)]
          have hfull : (l.drop f).take (i - f) = l.drop f := List.take_of_length_le (by rw [List.length_drop]; omega)
          rw [hfull] at hn ⊢
          rw [hc, cut_clean hn]
        · have hi2 : i < l.length := by omega
          rw [if_pos (by omega)]
          have hci : l[i] = c := by
            rcases h3 with h3 | h3
            · omega
            · rw [List.getElem?_eq_getElem hi2] at h3; cases h3; rfl
          have hsp : l.drop f = (l.drop f).take (i - f) ++ c :: l.drop (i + 1) := by
            have h1 := (List.take_append_drop (i - f) (l.drop f)).symm
            rw [List.drop_drop, show f + (i - f) = i by omega, List.drop_eq_getElem_cons hi2, hci] at h1
            exact h1
          refine ⟨by omega, ?_, by simp⟩
          rw [hc]
          have h5 : cutAt c (l.drop f) = (l.drop f).take (i - f) :: cutAt c (l.drop (i + 1)) := by
            have := cut_at (r := l.drop (i + 1)) hn
            rw [← hsp] at this; exact this
          rw [h5]; simp
    · refine ⟨(s, out, f), rfl, L, ?_, by simp; omega⟩
      have hi2 : i < l.length := by
        rcases Nat.lt_or_ge i l.length with h5 | h5
        · exact h5
        · exact absurd (.inl (by omega)) h3
      show PcI c l (i + 1) out f
      unfold PcI
      rw [if_pos (by omega)]
      refine ⟨by omega, hc, fun x hx => ?_⟩
      obtain ⟨j, hj⟩ := List.mem_iff_getElem?.1 hx
      rw [List.getElem?_take] at hj
      split at hj
      · rename_i hj2
        by_cases hj3 : j < i - f
        · exact hn x (List.mem_of_getElem? (i := j) (by rw [List.getElem?_take, if_pos hj3]; exact hj))
        · rw [List.getElem?_drop, show f + j = i by omega] at hj
          intro hxc; subst hxc
          exact h3 (.inr hj)
      · cases hj
  · rintro ⟨s, out, f⟩ H' ⟨L, hp, ho⟩
    simp only at L hp ho ⊢
    unfold PcI at hp
    rw [if_neg (by omega)] at hp
    subst hp
    exact step (h _ _ L.kp (L.own _ (List.mem_of_getElem? (i := 0) rfl)).slR)
end
end Go.Proofs.YtmfmcegpoiinjaaDoor.HM
namespace Go.Proofs.YtmfmcegpoiinjaaDoor.HM
open Go
set_option maxRecDepth 100000

def goalN (n : Bs) (v : Int) : Bs := n ++ Lib.itoa v
def PNv (v : List HV) (H : Heap) : Leaf → Heap → Prop := fun l H' => match l with
  | .norm vs => vs = v ∧ H' = H
  | _ => False
instance wi_nv {v vs : List HV} {H : Heap} : W (ret (.norm vs)) (PNv v H) H (vs = v) := ⟨fun h => wp_ret ⟨h, rfl⟩⟩
theorem wp_jnV {Q : Leaf → Heap → Prop} {H : Heap} {m : M Leaf} {K : List HV → M Leaf} (v : List HV) (h : wp m (PNv v H) H) (hk : wp (K v) Q H) : wp (jn m K) Q H := by
  refine wp_jn (h.mono ?_)
  intro l H' hl
  cases l with
  | norm vs => obtain ⟨rfl, rfl⟩ := hl; exact hk
  | exit j vs => exact hl.elim
  | ret vs => exact hl.elim
def wordsL : Bs := [104, 97, 108, 116, 32, 99, 111, 110, 115, 116, 32, 97, 100, 100, 32, 106, 117, 109, 112, 32, 98, 101, 103, 105, 110, 32, 101, 110, 100, 32, 108, 111, 97, 100, 32, 115, 116, 111, 114, 101, 32, 114, 101, 97, 100, 32, 119, 114, 105, 116, 101, 32, 99, 114, 101, 97, 116, 101, 32, 114, 101, 109, 111, 118, 101, 32, 114, 101, 110, 97, 109, 101, 32, 99, 117, 116, 32, 114, 101, 99, 118, 32, 115, 101, 110, 100, 32, 99, 111, 109, 109, 105, 116, 32, 97, 98, 111, 114, 116, 32, 111, 112, 101, 110, 32, 114, 101, 116, 114, 121, 32, 101, 108, 115, 101, 32, 105, 110, 101, 118]
theorem cut_words : cutAt 32 wordsL = words := by decide

section
variable {D : HV → List HV → M HV} {H : Heap} {Q : HV → Heap → Prop}
theorem Told_wp (hG : Gl H) {p : Ins} (hp : p.ok) (h0 : 0 ≤ p.op) (h22 : p.op < 22) {n : Bs} (hn : n.length ≤ 100) (h : ∀ H', Kp H H' → Q (.str (S (tellS (goalN n) p))) H') : wp (f_ref26_Told D [.agg (Ins.cs p), .str (S n)]) Q H := by
  unfold f_ref26_Told
  obtain ⟨q1, q2, q3, q4, q5⟩ := sh_at (k := p.op.toNat) (by omega)
  have hkw : p.op.toNat < words.length := by rw [show words.length = 22 from rfl]; omega
  have hwd : words[p.op.toNat]! = words[p.op.toNat] := by rw [List.getElem!_eq_getElem?_getD, List.getElem?_eq_getElem hkw]; rfl
  have hopn : p.op = ((p.op.toNat : Nat) : Int) := by omega
  have hB : ∀ {H : Heap} {Q : HV → Heap → Prop}, Q (.str (S shapes[p.op.toNat]!)) H → wp (f_ref26_Behind D [I p.op]) Q H := fun {H Q} hq => by
    rw [hopn]; exact Behind_wp (by omega) hq
  have hh : ∀ w, words[p.op.toNat]! ++ tellF (goalN n) shapes[p.op.toNat]! p.f = w → ∀ H', Kp H H' → Q (.str (S w)) H' := fun w hw => by rw [← hw]; exact h
  generalize shapes[p.op.toNat]! = sh at *
  have hf3 : p.f.length = 3 := rfl
  have hfi : ∀ v ∈ p.f, Int64 v := by
    intro v hv
    simp only [Ins.f, List.mem_cons, List.not_mem_nil, or_false] at hv
    rcases hv with rfl | rfl | rfl
    · exact hp.a
    · exact hp.b
    · exact hp.c
  have hsz := S_size sh
  have hns := S_size n
  refine step (wp_bnd (Pieces_wp (l := wordsL) (c := 32) (by decide) fun H1 s k1 hs => step ?_))
  rw [cut_words] at hs
  have G1 := hG.kp k1
  refine wp_ixC hs (by have := hs.lenI; omega) (v := .str (S words[p.op.toNat])) (by rw [List.getElem?_map, List.getElem?_eq_getElem hkw]; rfl) fun b o => ?_
  refine step ?_
  rw [hwd] at hh q5
  generalize words[p.op.toNat] = w0 at *
  refine wp_blk (wp_range (σ := Bs) sh.length (fun i x => [.str (S x), I i]) (fun i x H' => H' = H1 ∧ x.length ≤ 8 + 125 * i ∧ x ++ tellF (goalN n) (sh.drop i) (p.f.drop i) = w0 ++ tellF (goalN n) sh p.f) w0 rfl ⟨rfl, by omega, rfl⟩ ?_ ?_)
  · rintro i x H2 hi ⟨rfl, hxl, hx⟩
    have hif : i < p.f.length := by omega
    have hfx := hfi _ (List.getElem_mem hif)
    have hil := itoa_len hfx
    have hxs := S_size x
    have hat := at_S hi
    rw [List.drop_eq_getElem_cons hi, List.drop_eq_getElem_cons hif, tellF] at hx
    have hge : (p.f.map I)[0 + (i : Int).toNat * 1]? = some (I p.f[i]) := by
      rw [show 0 + (i : Int).toNat * 1 = i by omega, List.getElem?_map, List.getElem?_eq_getElem hif]; rfl
    generalize p.f[i] = v at *
    refine step (wp_bnd (hB (step ⟨fun c1 => ?_, fun c1 => by omega⟩)))
    refine ⟨by rw [show (ByteArray.mk #[32]).size = 1 from rfl]; omega, wp_bnd (hB (step ⟨by omega, by omega, ?_⟩))⟩
    have e1 : S x ++ ByteArray.mk #[32] = S (x ++ [32]) := by rw [show ByteArray.mk #[32] = S [32] from rfl, S_app]
    rw [hat, e1]
    refine wp_jnV [.str (S (x ++ [32] ++ if sh[i] = 103 then n else []))] ?_ ?_
    · refine step ⟨fun c2 => ⟨?_, ?_⟩, fun c2 => ?_⟩
      · simp only [S_size, List.length_append, List.length_cons, List.length_nil]; omega
      · have hc : sh[i] = 103 := UInt8.toNat_inj.1 (by simpa using (by omega : (sh[i]).toNat = 103))
        rw [if_pos hc, S_app]
      · have hc : sh[i] ≠ 103 := fun hh => c2 (by rw [hh]; rfl)
        rw [if_neg hc, List.append_nil]
    · have hyl : (x ++ [32] ++ if sh[i] = 103 then n else []).length ≤ 8 + 125 * i + 101 := by
        rw [List.length_append, List.length_append]; split
        · simp; omega
        · simp; omega
      have hx2 : (x ++ [32] ++ if sh[i] = 103 then n else []) ++ Lib.itoa v ++ tellF (goalN n) (sh.drop (i + 1)) (p.f.drop (i + 1)) = w0 ++ tellF (goalN n) sh p.f := by
        rw [← hx]; split <;> simp [goalN]
      generalize (x ++ [32] ++ if sh[i] = 103 then n else []) = y at *
      have hys := S_size y
      have hvs := S_size (Lib.itoa v)
      refine step ⟨by omega, by omega, wp_gxG (v := I v) hge (step (wp_bnd (Itoa_wp G1 hfx (step ⟨by omega, ?_⟩))))⟩
      rw [S_app]
      refine wp_nX ⟨y ++ Lib.itoa v, ?_, rfl, by simp; omega, hx2⟩
      rw [wr_small (by omega) (by omega)]; rfl
  · rintro x H2 ⟨rfl, hxl, hx⟩
    refine step (wp_bnd (hB (step ⟨fun c1 => by omega, fun c1 => ?_⟩)))
    rw [List.drop_eq_nil_of_le (Nat.le_refl _)] at hx
    simp only [tellF, List.append_nil] at hx
    refine wp_ret ?_
    show wp (uS [.str (S x)] _) _ _
    exact step (hh x hx.symm _ k1)
end
end Go.Proofs.YtmfmcegpoiinjaaDoor.HM
namespace Go.Proofs.YtmfmcegpoiinjaaDoor.HM
open Go
set_option maxRecDepth 100000

theorem head_iff {k : Nat} (hk : k < 22) : shapes[k]!.head? = some 103 ↔ (k = 3 ∨ k = 20) := by
  have key : ∀ k : Fin 22, (shapes[k.1]!.head? = some 103 ↔ (k.1 = 3 ∨ k.1 = 20)) := by decide
  exact key ⟨k, hk⟩
theorem told_iff {x : Ins} {n : Int} (h0 : 0 ≤ x.op) (h22 : x.op < 22) : toldS x n ↔ ((shapes[x.op.toNat]!.length < 3 → x.c = 0) ∧ (shapes[x.op.toNat]!.length < 2 → x.b = 0) ∧ (shapes[x.op.toNat]!.length < 1 → x.a = 0) ∧ ((x.op = 3 ∨ x.op = 20) → 0 ≤ x.a ∧ x.a ≤ n)) := by
  have hi := head_iff (k := x.op.toNat) (by omega)
  unfold toldS
  rw [hi]
  constructor
  · rintro ⟨_, _, h1, h2⟩
    exact ⟨fun h => h1 2 x.c rfl (by omega), fun h => h1 1 x.b rfl (by omega), fun h => h1 0 x.a rfl (by omega), fun h => h2 (by omega)⟩
  · rintro ⟨h1, h2, h3, h4⟩
    refine ⟨h0, h22, fun i v hv hl => ?_, fun h => h4 (by omega)⟩
    match i, hv with
    | 0, hv => cases hv; exact h3 (by omega)
    | 1, hv => cases hv; exact h2 (by omega)
    | 2, hv => cases hv; exact h1 (by omega)
theorem tell_lenN {x : Ins} (hx : x.ok) (h0 : 0 ≤ x.op) (h22 : x.op < 22) {n : Bs} (hn : n.length ≤ 100) : (tellS (goalN n) x).length ≤ 400 := by
  obtain ⟨q1, q2, q3, q4, q5⟩ := sh_at (k := x.op.toNat) (by omega)
  have key : ∀ (sh : Bs) (f : List Int), (∀ v ∈ f, Int64 v) → (tellF (goalN n) sh f).length ≤ 121 * sh.length := by
    intro sh
    induction sh with
    | nil => intro f _; simp [tellF]
    | cons c sh ih =>
      intro f hf
      cases f with
      | nil => simp [tellF]
      | cons v f =>
        have h1 := ih f (fun w hw => hf w (List.mem_cons_of_mem _ hw))
        have h2 := itoa_len (hf v List.mem_cons_self)
        rw [tellF]
        split
        · simp [goalN]; omega
        · simp; omega
  have hfi : ∀ v ∈ x.f, Int64 v := by
    intro v hv
    simp only [Ins.f, List.mem_cons, List.not_mem_nil, or_false] at hv
    rcases hv with rfl | rfl | rfl
    · exact hx.a
    · exact hx.b
    · exact hx.c
  have := key shapes[x.op.toNat]! x.f hfi
  unfold tellS
  rw [List.length_append]; omega

section
variable {D : HV → List HV → M HV} {H : Heap} {Q : HV → Heap → Prop}
theorem RWrite_wp (hG : Gl H) {s : Sl} {p : List Ins} (hs : RProg H s p) (hp : ∀ x ∈ p, x.ok) {n : Bs} (hn : n.length ≤ 100)
    (h1 : ∀ t H', writeS (goalN n) p = .inl t → Kp H H' → Q (.tup [.str (S t), I 0]) H')
    (h2 : ∀ e H', writeS (goalN n) p = .inr e → Kp H H' → Q (.tup [.str (S []), I e]) H') : wp (f_ref26_Write D [.sl s, .str (S n)]) Q H := by
  unfold f_ref26_Write
  have hlen := hs.lenI
  have hns := S_size n
  refine step ⟨fun c => ?_, fun c => ?_⟩
  · exact h2 3 H (by unfold writeS; rw [if_pos (by omega)]) (Kp.refl H)
  · have hp48 : p.length ≤ 48 := by omega
    refine wp_loop0 p.length (by omega) hlen (fun _ => rfl) rfl (fun i => ∀ y ∈ p.take i, toldS y p.length) (by simp) ?_ ?_
    · intro i hi q1
      have hok := hp _ (List.getElem_mem hi)
      refine wp_at hs hi fun b o => ?_
      have hmem := List.getElem_mem hi
      have htk : ∀ y ∈ p.take (i + 1), y ∈ p.take i ∨ y = p[i] := by
        intro y hy; rw [List.take_succ_eq_append_getElem hi] at hy
        rcases List.mem_append.1 hy with hy | hy
        · exact .inl hy
        · exact .inr (by simpa using hy)
      generalize p[i] = z at *
      have bad : ¬ toldS z p.length → Q (.tup [.str (S []), I 1]) H := fun hh => by
        refine h2 1 H ?_ (Kp.refl _)
        unfold writeS
        rw [if_neg (by omega), if_neg (fun h3 => hh (h3 z hmem))]
      show wp (uI .i64 (Ins.cs z) _) _ _
      refine step ?_
      refine wp_jnP (z.op < 0 ∨ 21 < z.op) ?_ (fun h3 => step (bad fun hh => by have := hh.1; have := hh.2.1; omega)) (fun h3 => step ?_)
      · refine step ⟨fun c1 => ⟨fun _ => .inl c1, fun _ => rfl⟩, fun c1 => ?_⟩
        rw [decide_eq_true_eq]; omega
      · have hopn : z.op = ((z.op.toNat : Nat) : Int) := by omega
        have hti := told_iff (x := z) (n := p.length) (by omega) (by omega)
        have hB : ∀ {H : Heap} {Q : HV → Heap → Prop}, Q (.str (S shapes[z.op.toNat]!)) H → wp (f_ref26_Behind D [I z.op]) Q H := fun {H Q} hq => by
          rw [hopn]; exact Behind_wp (by omega) hq
        generalize shapes[z.op.toNat]! = sh at *
        have hsz := S_size sh
        refine wp_bnd (hB (step ?_))
        refine wp_jnP (¬ toldS z p.length) ?_ (fun h4 => step (bad h4)) (fun h4 => step ?_)
        · rw [hti, hlen, hsz]
          refine step ?_
          simp only [decide_eq_true_eq, true_iff, Bool.false_eq_true, false_iff]
          repeat' (first | apply And.intro | intro _)
          all_goals omega
        · intro y hy
          rcases htk y hy with hy | rfl
          · exact q1 y hy
          · exact Classical.byContradiction h4
    · intro q1
      rw [List.take_length] at q1
      have hw : writeS (goalN n) p = .inl (textT (goalN n) p (p.length + 1)) := by unfold writeS; rw [if_neg (by omega), if_pos q1]
      refine step ?_
      have hroom : (100000 : Nat) ≤ room := by decide
      refine wp_for (σ := Bs) (p.length + 1) (len := (s.len : Int) + 1) (by omega) (by rw [hlen]; omega) (fun x i => [.str (S x), I i]) (out := fun x => [.str (S x)]) (fun _ _ => cond_le' _ _ _ _) rfl
        (fun i x H2 => Kp H H2 ∧ x = textT (goalN n) p i ∧ x.length ≤ 1000 * i) [] rfl ⟨Kp.refl H, by simp [textT], by simp⟩ ?_ ?_
      · rintro i x H2 hi ⟨k2, hx, hxl⟩
        have G2 : Gl H2 := hG.kp k2
        have hi64 : Int64 (i : Int) := by unfold Int64; omega
        have hgl := itoa_len hi64
        have hgs := S_size (Lib.itoa (i : Int))
        have hxs := S_size x
        have z1 : (ByteArray.mk #[58]).size = 1 := rfl
        have z2 : (ByteArray.mk #[10]).size = 1 := rfl
        have e1 : S x ++ ByteArray.mk #[58] = S (x ++ [58]) := by rw [show ByteArray.mk #[58] = S [58] from rfl, S_app]
        refine wp_blk (wp_bnd (Named_wp (hs.keeps k2.k) (step ?_)))
        refine wp_jnV [.str (S (x ++ if isT p i = true then 58 :: (goalN n i ++ [10]) else []))] ?_ ?_
        · refine step ⟨fun c1 => ⟨by omega, ?_, ?_⟩, fun c1 => ?_⟩
          · rw [e1]; simp only [S_size, List.length_append, List.length_cons, List.length_nil]; omega
          · refine wp_bnd (Itoa_wp G2 hi64 (step ⟨?_, ?_, ?_⟩))
            · rw [e1, S_app]; simp only [S_size, List.length_append, List.length_cons, List.length_nil]; omega
            · rw [e1, S_app, S_app, z2]; simp only [S_size, List.length_append, List.length_cons, List.length_nil]; omega
            · rw [e1, show ByteArray.mk #[10] = S [10] from rfl, S_app, S_app, S_app, if_pos c1]
              simp [goalN]
          · rw [if_neg (by rw [c1]; simp), List.append_nil]
        · have hyl : (x ++ if isT p i = true then 58 :: (goalN n i ++ [10]) else []).length ≤ 1000 * i + 200 := by
            rw [List.length_append]; split
            · simp [goalN]; omega
            · simp; omega
          have hts := textT_succ (goalN n) p i
          unfold lineT at hts
          rw [← List.append_assoc, ← hx] at hts
          generalize (x ++ if isT p i = true then 58 :: (goalN n i ++ [10]) else []) = y at *
          have hys := S_size y
          refine step ⟨fun c1 => ?_, fun c1 => ?_⟩
          · have hip : i < p.length := by omega
            have hok := hp _ (List.getElem_mem hip)
            have htd := q1 _ (List.getElem_mem hip)
            rw [List.getElem?_eq_getElem hip] at hts
            refine wp_at (hs.keeps k2.k) hip fun b2 o2 => ?_
            generalize p[i] = z at *
            have htl := tell_lenN hok htd.1 htd.2.1 hn
            have hss := S_size (tellS (goalN n) z)
            show wp (uI .i64 (Ins.cs z) _) _ _
            refine step (wp_bnd (Told_wp G2 hok htd.1 htd.2.1 hn fun H3 k3 => step ⟨?_, ?_, ?_⟩))
            · omega
            · rw [S_app, z2]; simp only [S_size, List.length_append]; omega
            · rw [show ByteArray.mk #[10] = S [10] from rfl, S_app, S_app]
              refine ⟨y ++ tellS (goalN n) z ++ [10], rfl, k2.trans k3, ?_, by simp; omega⟩
              rw [hts]; simp
          · have hip : p[i]? = none := List.getElem?_eq_none (by omega)
            rw [hip] at hts
            exact ⟨y, rfl, k2, by rw [hts]; simp, by omega⟩
      · rintro x H2 ⟨k2, hx, hxl⟩
        exact step (by rw [hx]; exact h1 _ _ hw k2)
end
end Go.Proofs.YtmfmcegpoiinjaaDoor.HM
