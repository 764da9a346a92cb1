/- What the functions of the law's texts compute: alive, and histories of the same entries. Conditions: none (lemmas). -/
import Derived.Test.YthlfemjbeihmbaaHLWs
namespace Go.Proofs.Ythlfemjbeihmbaa.HL
open Go
open Classical

/-! histories of the same entries -/
theorem val_at {l l' : List Dd} (h : l'.map Dd.val = l.map Dd.val) {i : Nat} {d' : Dd} (hd : l'[i]? = some d') : ∃ d, l[i]? = some d ∧ d.r = d'.r ∧ d.w = d'.w := by
  have h1 := congrArg (fun x => x[i]?) h
  simp only [List.getElem?_map, hd, Option.map_some] at h1
  cases hq : l[i]? with
  | none => rw [hq] at h1; cases h1
  | some d =>
    rw [hq] at h1
    have h2 : d'.val = d.val := Option.some.inj h1
    unfold Dd.val at h2
    have h3 := congrArg Prod.fst h2
    have h4 := congrArg Prod.snd h2
    exact ⟨d, rfl, h3.symm, h4.symm⟩
theorem val_len {l l' : List Dd} (h : l'.map Dd.val = l.map Dd.val) : l'.length = l.length := by
  have := congrArg List.length h; simpa using this
theorem ahead_val {a b a' b' : Dd} (h1 : a.r = a'.r) (h2 : a.w = a'.w) (h3 : b.r = b'.r) (h4 : b.w = b'.w) : Ahead a b ↔ Ahead a' b' := by
  unfold Ahead; rw [h1, h2, h3, h4]
theorem ahd_val {l l' : List Dd} (h : l'.map Dd.val = l.map Dd.val) : Ahd l' = Ahd l := by
  funext i k
  refine propext ⟨?_, ?_⟩
  · rintro ⟨a, b, ha, hb, hab⟩
    obtain ⟨a2, ha2, e1, e2⟩ := val_at h ha
    obtain ⟨b2, hb2, e3, e4⟩ := val_at h hb
    exact ⟨a2, b2, ha2, hb2, (ahead_val e1 e2 e3 e4).2 hab⟩
  · rintro ⟨a, b, ha, hb, hab⟩
    obtain ⟨a2, ha2, e1, e2⟩ := val_at h.symm ha
    obtain ⟨b2, hb2, e3, e4⟩ := val_at h.symm hb
    exact ⟨a2, b2, ha2, hb2, (ahead_val e1 e2 e3 e4).2 hab⟩
theorem mem_val {l l' : List Dd} (h : l'.map Dd.val = l.map Dd.val) {d' : Dd} (hd : d' ∈ l') : ∃ d ∈ l, d.r = d'.r ∧ d.w = d'.w := by
  obtain ⟨i, hi, rfl⟩ := List.getElem_of_mem hd
  obtain ⟨d, h1, h2⟩ := val_at h (List.getElem?_eq_getElem hi)
  exact ⟨d, List.mem_of_getElem? h1, h2⟩
theorem writers_val {l l' : List Dd} (h : l'.map Dd.val = l.map Dd.val) (e : En) : writersN l' e = writersN l e := by
  have key : ∀ l : List Dd, writersN l e = (l.map Dd.val).countP fun v => decide (e ∈ v.2) := by
    intro l; unfold writersN; rw [List.countP_map]; rfl
  rw [key, key, h]
theorem can_val {l l' : List Dd} (h : l'.map Dd.val = l.map Dd.val) (hc : CanP l) : CanP l' := by
  refine ⟨fun d' hd' => ?_, fun d' hd' => ?_⟩
  · obtain ⟨d, hd, e1, e2⟩ := mem_val h hd'
    rw [← e1, ← e2]; exact hc.1 d hd
  · obtain ⟨d, hd, e1, e2⟩ := mem_val h hd'
    rw [← e1, ← e2]
    exact ⟨fun e he => by rw [writers_val h]; exact (hc.2 d hd).1 e he, fun e he hv => by rw [writers_val h]; exact (hc.2 d hd).2 e he hv⟩
theorem can_val_iff {l l' : List Dd} (h : l'.map Dd.val = l.map Dd.val) : CanP l' ↔ CanP l := ⟨can_val h.symm, can_val h⟩
theorem noSelf_val {l l' : List Dd} (h : l'.map Dd.val = l.map Dd.val) (hc : NoSelf l) : NoSelf l' := by
  intro d' hd'
  obtain ⟨d, hd, e1, e2⟩ := mem_val h hd'
  rw [← e1, ← e2]; exact hc d hd
theorem noSelf_val_iff {l l' : List Dd} (h : l'.map Dd.val = l.map Dd.val) : NoSelf l' ↔ NoSelf l := ⟨noSelf_val h.symm, noSelf_val h⟩
theorem nowS_val {l l' : List Dd} (h : l'.map Dd.val = l.map Dd.val) (S : List Nat) : nowS l' S = nowS l S := by
  have : stepN l' = stepN l := by
    funext f i
    unfold stepN
    cases hq : l'[i]? with
    | none =>
      have hq2 : l[i]? = none := by
        have := val_len h
        rw [List.getElem?_eq_none_iff] at hq ⊢; omega
      rw [hq2]
    | some d' =>
      obtain ⟨d, hd, e1, e2⟩ := val_at h hq
      rw [hd]; simp only [e2]
  unfold nowS; rw [this]
theorem ser_val {l l' : List Dd} (h : l'.map Dd.val = l.map Dd.val) {S : List Nat} (hs : Ser l S) : Ser l' S := by
  intro t k hk
  obtain ⟨h1, d, hd, hn⟩ := hs t k hk
  obtain ⟨d', hd', e1, e2⟩ := val_at h.symm hd
  refine ⟨h1, d', hd', ?_⟩
  rw [nowS_val h]
  unfold Next
  rw [e1, e2]; exact hn
theorem replays_val {l l' : List Dd} (h : l'.map Dd.val = l.map Dd.val) (o : List Int) : ReplaysP l' o ↔ ReplaysP l o := by
  unfold ReplaysP
  rw [val_len h]
  constructor
  · rintro ⟨h1, S, h2, h3⟩; exact ⟨h1, S, h2, ser_val h.symm h3⟩
  · rintro ⟨h1, S, h2, h3⟩; exact ⟨h1, S, h2, ser_val h h3⟩
theorem fit_val {l l' : List Dd} (h : l'.map Dd.val = l.map Dd.val) (hf : ∀ d ∈ l, DFit d) : ∀ d ∈ l', DFit d := by
  intro d' hd'
  obtain ⟨d, hd, e1, e2⟩ := mem_val h hd'
  exact ⟨by rw [← e1]; exact (hf d hd).r, by rw [← e2]; exact (hf d hd).w⟩

/-- a row that was just made. -/
theorem slr_push {H : Heap} {cs : List HV} {sz n : Nat} (ls : List (List HV)) (hn : n = ls.length) (hc : cs = ls.flatten) (hz : ∀ l ∈ ls, l.length = sz) (hl : ls.length ≤ 1000000) : SlR (H.push (.cells cs false)) ⟨some (H.n, 0), n, n, none⟩ sz ls := by
  subst hn; subst hc
  refine ⟨rfl, by omega, Nat.le_refl _, .inl rfl, hz, .inr ⟨H.n, 0, ls.flatten, false, rfl, by simp [Heap.push], by simp [Heap.push], ?_, ?_⟩⟩
  · rw [flatten_length hz]; omega
  · rw [List.drop_zero, ← flatten_length hz, List.take_length]

def eA (v : Int) : En := ⟨0, 0, v⟩
theorem single_one {e : En} {least : Int} (h : okE least e) : Single [e] least := by
  refine ⟨by simp, fun i x hx => ?_⟩
  cases i with
  | zero =>
    simp at hx; subst hx
    exact ⟨h, fun j hj => by omega⟩
  | succ i => simp at hx

theorem s8_wp {D : HV → List HV → M HV} (hD : ∀ xs, D (.func 19 [] []) xs = s19 noD xs) {H : Heap} {Q : HV → Heap → Prop} (h : ∀ H', Keeps H H' → Q (.bool true) H') : wp (s8 D []) Q H := by
  unfold s8
  refine wp_fin (wp_nl (wp_nw (wp_nw (wp_nw (wp_nw ?_)))))
  generalize hH1 : H.push (.cells [I 0, I 0, I 0] false) = H1
  generalize hH2 : H1.push (.cells [I 0, I 0, I 1] false) = H2
  generalize hH3 : H2.push (.cells [I 0, I 0, I 2] false) = H3
  have k1 : Keeps H H1 := by rw [← hH1]; exact Keeps.push _ _
  have k2 : Keeps H1 H2 := by rw [← hH2]; exact Keeps.push _ _
  have k3 : Keeps H2 H3 := by rw [← hH3]; exact Keeps.push _ _
  have z1 : Ents H1 ⟨some (H.n, 0), 1, 1, none⟩ [eA 0] := by rw [← hH1]; exact slr_push _ rfl rfl (by simp [En.cs]) (by simp)
  have z2 : Ents H2 ⟨some (H1.n, 0), 1, 1, none⟩ [eA 1] := by rw [← hH2]; exact slr_push _ rfl rfl (by simp [En.cs]) (by simp)
  have z3 : Ents H3 ⟨some (H2.n, 0), 1, 1, none⟩ [eA 2] := by rw [← hH3]; exact slr_push _ rfl rfl (by simp [En.cs]) (by simp)
  let dA : Dd := ⟨⟨some (H.n, 0), 1, 1, none⟩, ⟨some (H1.n, 0), 1, 1, none⟩, [eA 0], [eA 1]⟩
  let dB : Dd := ⟨⟨some (H.n, 0), 1, 1, none⟩, ⟨some (H2.n, 0), 1, 1, none⟩, [eA 0], [eA 2]⟩
  generalize hH4 : H3.push (.cells [.sl (⟨some (H.n, 0), 1, 1, none⟩), .sl (⟨some (H1.n, 0), 1, 1, none⟩), .sl (⟨some (H.n, 0), 1, 1, none⟩), .sl (⟨some (H2.n, 0), 1, 1, none⟩)] false) = H4
  have k4 : Keeps H3 H4 := by rw [← hH4]; exact Keeps.push _ _
  have sl4 : SlR H4 ⟨some (H3.n, 0), 2, 2, none⟩ 2 ([dA, dB].map Dd.cs) := by rw [← hH4]; exact slr_push _ rfl rfl (by simp [Dd.cs]) (by simp)
  have y1 : Ents H4 ⟨some (H.n, 0), 1, 1, none⟩ [eA 0] := SlR.keeps z1 ((k2.trans k3).trans k4)
  have y2 : Ents H4 ⟨some (H1.n, 0), 1, 1, none⟩ [eA 1] := SlR.keeps z2 (k3.trans k4)
  have y3 : Ents H4 ⟨some (H2.n, 0), 1, 1, none⟩ [eA 2] := SlR.keeps z3 k4
  have deeds : Deeds H4 ⟨some (H3.n, 0), 2, 2, none⟩ [dA, dB] := ⟨sl4, fun d hd => by
    rcases List.mem_cons.1 hd with rfl | hd
    · exact ⟨y1, y2⟩
    · simp at hd; subst hd; exact ⟨y1, y3⟩⟩
  have fA : DFit dA := ⟨fun e he => by simp [dA] at he; subst he; simp [eA], fun e he => by simp [dA] at he; subst he; simp [eA]⟩
  have fB : DFit dB := ⟨fun e he => by simp [dB] at he; subst he; simp [eA], fun e he => by simp [dB] at he; subst he; simp [eA]⟩
  have ok0 : okE 0 (eA 0) := by simp [okE, eA]
  have ok1 : okE 1 (eA 1) := by simp [okE, eA]
  have ok2 : okE 1 (eA 2) := by simp [okE, eA]
  have can2 : CanP [dA, dB] := by
    refine ⟨fun d hd => ?_, fun d hd => ?_⟩
    · rcases List.mem_cons.1 hd with rfl | hd
      · exact ⟨single_one ok0, single_one ok1⟩
      · simp at hd; subst hd; exact ⟨single_one ok0, single_one ok2⟩
    · rcases List.mem_cons.1 hd with rfl | hd
      · refine ⟨fun e he => ?_, fun e he hv => ?_⟩
        · simp [dA] at he; subst he; simp [writersN, dA, dB, eA]
        · simp [dA] at he; subst he; simp [eA] at hv
      · simp at hd; subst hd
        refine ⟨fun e he => ?_, fun e he hv => ?_⟩
        · simp [dB] at he; subst he; simp [writersN, dA, dB, eA]
        · simp [dB] at he; subst he; simp [eA] at hv
  have can1 : CanP [dA] := by
    refine ⟨fun d hd => ?_, fun d hd => ?_⟩
    · simp at hd; subst hd; exact ⟨single_one ok0, single_one ok1⟩
    · simp at hd; subst hd
      refine ⟨fun e he => ?_, fun e he hv => ?_⟩
      · simp [dA] at he; subst he; simp [writersN, dA, eA]
      · simp [dA] at he; subst he; simp [eA] at hv
  have ab : Ahead dA dB := .inr (.inr ⟨eA 0, by simp [dA], eA 2, by simp [dB], rfl, by simp [eA], by simp [eA]⟩)
  have ba : Ahead dB dA := .inr (.inr ⟨eA 0, by simp [dB], eA 1, by simp [dA], rfl, by simp [eA], by simp [eA]⟩)
  have ns1 : NoSelf [dA] := by
    intro d hd
    simp at hd; subst hd
    rintro ⟨a, ha, b, hb, _, _, hle⟩
    simp [dA] at ha hb
    subst ha; subst hb
    simp [eA] at hle
  refine wp_bnd (s10_wp (l := [dA, dB]) deeds (fun d hd => by
    rcases List.mem_cons.1 hd with rfl | hd
    · exact fA
    · simp at hd; subst hd; exact fB) hD (fun hh => by simp at hh) (fun _ hh => absurd can2 hh) (fun _ _ H5 k5 _ => ?_) (fun _ _ _ S s' H' hS hch _ => ?_))
  · refine wp_asT (wp_uL (wp_uI (wp_nl ?_)))
    refine wp_gd rfl (wp_gd rfl (wp_gd rfl (wp_gd rfl (wp_gd rfl ?_))))
    have d5 : Deeds H5 ⟨some (H3.n, 0), 1, 2, none⟩ [dA] :=
      ⟨by
        have := SlR.pre (sl4.keeps k5) (i := 1) (by simp)
        exact this, fun d hd => by simp at hd; subst hd; exact ⟨SlR.keeps y1 k5, SlR.keeps y2 k5⟩⟩
    refine wp_bnd (s10_wp (l := [dA]) (s := ⟨some (H3.n, 0), 1, 2, none⟩) d5 (fun d hd => by simp at hd; subst hd; exact fA) hD (fun hh => by simp at hh) (fun _ hh => absurd can1 hh) (fun _ _ H6 k6 hbad => ?_) (fun _ _ _ S s' H6 hS hch ho => ?_))
    · exfalso
      rcases hbad with hb | ⟨_, S, hS, _, hno⟩
      · exact hb ns1
      · have : S = [] := by cases S with
          | nil => rfl
          | cons x S => simp at hS
        subst this
        refine hno 0 ⟨by simp, by simp, fun i hi _ hne => by simp at hi; omega⟩
    · have hS0 : S = [0] := by
        match S, hS with
        | [k], _ =>
          have := (hch 0 k rfl).1.1
          simp at this
          rw [this]
      subst hS0
      have h6 : SlR H6 s' 1 [[I 0]] := ho.slR
      have hlen : s'.len = 1 := h6.len
      refine wp_asT (wp_uL (wp_uI (wp_nl ?_)))
      have hK : Keeps H H6 := (((k1.trans k2).trans k3).trans k4).trans (k5.trans ho.keeps)
      refine wp_jn (wp.mono (Q := fun lf H' => lf = .norm [.bool true] ∧ Keeps H H') ?_ ?_)
      · refine wp_cond (fun _ => ?_) (fun c => by simp at c)
        refine wp_cond (fun _ => ?_) (fun c => by simp at c)
        refine wp_cond (fun _ => ?_) (fun c => by rw [hlen] at c; simp at c)
        refine wp_ixC h6 (by omega) (v := I 0) rfl (fun _ _ => wp_asI ?_)
        refine wp_cond (fun _ => ?_) (fun c => by simp at c)
        refine wp_gd rfl (wp_gd rfl (wp_gd rfl (wp_gd rfl (wp_gd rfl ?_))))
        have d6 : Deeds H6 ⟨some (H3.n, 0), 1, 2, none⟩ [dA] := ⟨d5.sl.keeps ho.keeps, fun d hd => ⟨SlR.keeps (d5.ok d hd).1 ho.keeps, SlR.keeps (d5.ok d hd).2 ho.keeps⟩⟩
        refine wp_bnd (s15_wp (l := [dA]) (o := [0]) (s := ⟨some (H3.n, 0), 1, 2, none⟩) d6 h6 fun z H7 k7 hz => wp_asB (wp_ret ⟨?_, hK.trans k7⟩))
        have : z = true := hz.2 ⟨by simp, can1, rfl, [0], rfl, chain_ser ⟨can1⟩ ns1 hch⟩
        rw [this]
      · rintro _ H7 ⟨rfl, hk7⟩
        exact wp_uB (wp_nl (wp_ret (h H7 hk7)))
  · exfalso
    have hk : 0 < S.length := by rw [hS]; simp
    have hp := (hch 0 _ (List.getElem?_eq_getElem hk)).1
    obtain ⟨hp1, _, hp2⟩ := hp
    simp only [List.length_cons, List.length_nil] at hp1 hp2
    have h01 : Ahd [dA, dB] 0 1 := ⟨dA, dB, rfl, rfl, ab⟩
    have h10 : Ahd [dA, dB] 1 0 := ⟨dB, dA, rfl, rfl, ba⟩
    rcases Nat.lt_or_ge S[0] 1 with h1 | h1
    · have : S[0] = 0 := by omega
      rw [this] at hp2
      exact hp2 1 (by omega) (by simp) (by omega) h10
    · have : S[0] = 1 := by omega
      rw [this] at hp2
      exact hp2 0 (by omega) (by simp) (by omega) h01
end Go.Proofs.Ythlfemjbeihmbaa.HL
