/- One block behind another: models, what goes out stays small. Conditions: the program can be (lemmas). -/
import Derived.Test.YtijppadieomnjaaHMSk
import Derived.KernelRfl
import Derived.Test.YtijppadieomnjaaHMPf
namespace Go.Proofs.Ytijppadieomnjaa.HM
open Go

def OutB (N k : Nat) (o : Lo) : Prop := ∀ i, i < 3 → (o.out i).size ≤ N + k ∧ (o.la i).size ≤ k
theorem OutB.up {N k : Nat} {o : Lo} (h : OutB N k o) : OutB N (k + 1) o := fun i hi => by have := h i hi; omega
theorem outB_step {c : Ins} {N k : Nat} {o o' : Lo} {ws ws' : List Lo} (h : OutB N k o) (hw : ∀ w ∈ ws, OutB N k w) (hs : stepB c o ws = some (o', ws')) : OutB N (k + 1) o' ∧ ∀ w ∈ ws', OutB N (k + 1) w := by
  have hw' : ∀ w ∈ ws, OutB N (k + 1) w := fun w hm => (hw w hm).up
  unfold stepB at hs
  cases hpf : plainF c o.pl o.r with
  | some q =>
    obtain ⟨pl', r'⟩ := q
    rw [hpf] at hs
    cases hs
    exact ⟨h.up, hw'⟩
  | none =>
    rw [hpf] at hs
    simp only at hs
    split at hs
    · split at hs
      · cases hs
      · cases hs; exact ⟨h.up, hw'⟩
    split at hs
    · cases hs
      refine ⟨fun i hi => ⟨?_, (h.up i hi).2⟩, hw'⟩
      show (updS _ _ _ i).size ≤ _
      unfold updS
      split
      · rename_i ei; subst ei
        rw [ByteArray.size_append, strB_one]
        have := h _ hi; omega
      · exact (h.up i hi).1
    split at hs
    · cases hs
      refine ⟨fun i hi => ⟨(h.up i hi).1, ?_⟩, hw'⟩
      show (updS _ _ _ i).size ≤ _
      unfold updS
      split
      · rename_i ei; subst ei
        rw [ByteArray.size_append, strB_one]
        have := h _ hi; omega
      · exact (h.up i hi).2
    split at hs
    · cases hs; exact ⟨h.up, hw'⟩
    split at hs
    · cases hs
      refine ⟨h.up, fun w hm => ?_⟩
      rcases List.mem_cons.1 hm with rfl | hm
      · exact h.up
      · exact hw' w hm
    split at hs
    · cases ws with
      | nil => cases hs
      | cons w ws => cases hs; exact ⟨hw' _ (by simp), fun x hx => hw' x (by simp [hx])⟩
    split at hs
    · cases hs; exact ⟨h.up, by simp⟩
    · cases hs; exact ⟨h.up, hw'⟩
theorem runs_out {p : List Ins} (hc : CanB p) {at_ e : Nat} (he : EndAt p at_ e) {N : Nat} {o : Lo} {ws : List Lo} {x : Option Lo} (h : Runs p o ws x) : ∀ {k : Nat} {b : Lo}, StOk p at_ e k o ws → OutB N k o → (∀ w ∈ ws, OutB N k w) → x = some b → OutB N 400 b := by
  induction h with
  | done =>
    intro k b hk h1 _ hb; cases hb
    have := (hk.k_lt hc he).1
    exact fun i hi => by have := h1 i hi; omega
  | wait => intro k b _ _ _ hb; cases hb
  | step h h5 hs hr ih =>
    intro k b hk h1 h2 hb
    obtain ⟨q1, q2⟩ := outB_step h1 h2 hs
    exact ih (hk.step hc he h h5 hs) q1 q2 hb
/-- the model behind a block. -/
def aft (m : Lo) (x : Option Lo) : Lo := match x with
  | some o => outsO o 3
  | none => m
theorem aft_ok {p : List Ins} (hc : CanB p) {at_ e : Nat} (he : EndAt p at_ e) {m : Lo} (hm : GoodM m) {r : Nat → Int} {x : Option Lo} (h : Runs p (begO m at_ r) [] x) (at2 : Nat) (r2 : Nat → Int) : LoOk 0 (begO (aft m x) at2 r2) := by
  cases x with
  | none => exact hm.ok at2 r2
  | some o =>
    have hb := StOk.beg hc he (hm.ok at_ r) rfl
    obtain ⟨_, k', hk'⟩ := h.fin hc he hb rfl
    have hz : ∀ i, i < 3 → ((begO m at_ r).la i).size ≤ 0 := fun i _ => Nat.le_refl _
    have ho := runs_out hc he (N := 1024) h hb (fun i hi => ⟨(hm.1 i hi).2.2, hz i hi⟩) (by simp) rfl
    refine ⟨hk'.f, hk'.p, hk'.tx, fun i hi => ?_, fun i _ => Nat.le_refl _⟩
    show (if i < 3 then o.out i ++ o.la i else o.out i : ByteArray).size ≤ _
    rw [if_pos hi, ByteArray.size_append]
    have := ho i hi
    omega
def rOf (x : Option Lo) (r : Nat → Int) : Nat → Int := match x with
  | some o => o.r
  | none => r
theorem BlkR.aft {p : List Ins} {a : Nat} {m : Lo} {r r1 : Nat → Int} {y y1 : List HV} {k1 : Int} {b1 : Bool} (hy : MoL y m) (h : BlkR p a m r y y1 k1 r1 b1) :
    ∃ x, Runs p (begO m a r) [] x ∧ MoL y1 (HM.aft m x) ∧ b1 = x.isSome ∧ r1 = rOf x r := by
  rcases h with ⟨o, q1, q2, rfl, rfl, rfl⟩ | ⟨q1, rfl, rfl, rfl, rfl⟩
  · exact ⟨_, q1, q2, rfl, rfl⟩
  · exact ⟨_, q1, hy, rfl, rfl⟩
end Go.Proofs.Ytijppadieomnjaa.HM
namespace Go.Proofs.Ytijppadieomnjaa.HM
open Go

/-- models alike. -/
structure AlM (C F P U : Nat → Prop) (T : Nat → Int → Int → Prop) (m1 m2 : Lo) : Prop where
  th : AlT C F P m1.th m2.th
  out : ∀ i, i < 3 → U i → m1.out i = m2.out i
  ta : ∀ i, T i (m1.ta i) (m2.ta i)
  tx : m1.tx = m2.tx
section
variable {C F P U : Nat → Prop} {T : Nat → Int → Int → Prop}
theorem aft_al {p : List Ins} (hc : CanB p) {a e : Nat} (he : EndAt p a e) {S : Sco} (hS : ScoI p a e S) (hT : ∀ i x y b, T i x y → T i (sumI x b) (sumI y b))
    (h0 : ∀ i, (S.r 0).getLsbD i = true → C i) (h1 : ∀ i, (S.r 1).getLsbD i = true → F i) (h2 : ∀ i, (S.r 2).getLsbD i = true → P i)
    {m1 m2 : Lo} {r : Nat → Int} {x1 x2 : Option Lo} (hok : LoOk 0 (begO m1 a r)) (h : AlM C F P U T m1 m2) (q1 : Runs p (begO m1 a r) [] x1) (q2 : Runs p (begO m2 a r) [] x2) :
    AlM C F P U T (aft m1 x1) (aft m2 x2) ∧ x1.isSome = x2.isSome ∧ rOf x1 r = rOf x2 r := by
  have ha : Alk C F P (fun i => i < 3 ∧ U i) T (begO m1 a r) (begO m2 a r) := ⟨h.th, fun i hi => h.out i hi.1 hi.2, h.ta, h.tx, rfl, rfl, rfl⟩
  rcases runs_alk hc he hT (a := a) (fun n hn hne hr j hj => h0 _ (sc_rd hc he hS (by omega) hn hne hr hj)) (fun n hn hne hr j hj => h1 _ (sc_rd hc he hS (by omega) hn hne hr hj)) (fun n hn hne hr j hj => h2 _ (sc_rd hc he hS (by omega) hn hne hr hj))
    q1 (StOk.beg hc he hok rfl) (rchA_beg hc he m1 r) ha .nil q2 with ⟨rfl, rfl⟩ | ⟨b1, b2, rfl, rfl, hb⟩
  · exact ⟨h, rfl, rfl⟩
  · refine ⟨⟨hb.th, fun i hi hu => ?_, hb.ta, hb.tx⟩, rfl, hb.r⟩
    show (if i < 3 then b1.out i ++ b1.la i else b1.out i) = (if i < 3 then b2.out i ++ b2.la i else b2.out i)
    rw [hb.out i ⟨hi, hu⟩, hb.la]
end
theorem aft_frm {p : List Ins} (hc : CanB p) {a e : Nat} (he : EndAt p a e) {S : Sco} (hS : ScoI p a e S) {m : Lo} {r : Nat → Int} {x : Option Lo} (hok : LoOk 0 (begO m a r)) (q : Runs p (begO m a r) [] x) :
    AlT (fun i => ¬ (S.w 0).getLsbD i = true) (fun i => ¬ (S.w 1).getLsbD i = true) (fun i => ¬ (S.w 2).getLsbD i = true) m.th (aft m x).th ∧ ∀ i, i < 3 → ¬ S.s i = true → m.out i = (aft m x).out i := by
  cases x with
  | none => exact ⟨.rfl' _, fun _ _ _ => rfl⟩
  | some o =>
    have hf : Frm (fun i => ¬ (S.w 0).getLsbD i = true) (fun i => ¬ (S.w 1).getLsbD i = true) (fun i => ¬ (S.w 2).getLsbD i = true) (fun i => ¬ S.s i = true) (fun i => ¬ S.t i = true) m o :=
      runs_frm hc he (a := a) (fun n hn hne hr i hw hh => hh (sc_wr hc he hS (by omega) hn hne hr hw)) (fun n hn hne hr i hw hh => hh (sc_wr hc he hS (by omega) hn hne hr hw)) (fun n hn hne hr i hw hh => hh (sc_wr hc he hS (by omega) hn hne hr hw))
        (fun n hn hne hr i hw hh => hh (sc_se hc he hS hn hne hr hw)) (fun n hn hne hr i hw hh => hh (sc_ta hc he hS hn hne hr hw)) q (StOk.beg hc he hok rfl) (rchA_beg hc he m r) ⟨.rfl' _, fun _ _ => rfl, fun _ _ => rfl, fun _ _ => rfl⟩ (by simp) rfl
    exact ⟨hf.th, fun i hi hu => (hf.outs hi hu).symm⟩
end Go.Proofs.Ytijppadieomnjaa.HM
namespace Go.Proofs.Ytijppadieomnjaa.HM
open Go

theorem sumI_eq (x y : Int) : sumI x y = wr (x + y) := by
  unfold sumI wr IntKind.wrap
  simp [IntKind.bits, IntKind.signed]
theorem wr_wr (x y : Int) : wr (wr x + y) = wr (x + y) := by
  unfold wr IntKind.wrap
  simp [IntKind.bits, IntKind.signed]
  omega
def In64 (x : Int) : Prop := -9223372036854775808 ≤ x ∧ x ≤ 9223372036854775807
theorem wr_in (x : Int) : In64 (wr x) := by
  unfold In64 wr IntKind.wrap
  simp [IntKind.bits, IntKind.signed]
  omega
theorem wr_eq {x y z : Int} (hx : In64 x) (hy : In64 y) (h : wr (x + z) = wr (y + z)) : x = y := by
  unfold In64 at hx hy
  unfold wr IntKind.wrap at h
  simp [IntKind.bits, IntKind.signed] at h
  omega
theorem step_tx {c : Ins} {t : Nat → ByteArray} {o o' : Lo} {ws ws' : List Lo} (h : o.tx = t) (hw : ∀ w ∈ ws, w.tx = t) (hs : stepB c o ws = some (o', ws')) : o'.tx = t ∧ ∀ w ∈ ws', w.tx = t := by
  unfold stepB at hs
  cases hpf : plainF c o.pl o.r with
  | some q =>
    obtain ⟨pl', r'⟩ := q
    rw [hpf] at hs
    cases hs
    exact ⟨h, hw⟩
  | none =>
    rw [hpf] at hs
    simp only at hs
    split at hs
    · split at hs
      · cases hs
      · cases hs; exact ⟨h, hw⟩
    split at hs
    · cases hs; exact ⟨h, hw⟩
    split at hs
    · cases hs; exact ⟨h, hw⟩
    split at hs
    · cases hs; exact ⟨h, hw⟩
    split at hs
    · cases hs
      refine ⟨h, fun w hm => ?_⟩
      rcases List.mem_cons.1 hm with rfl | hm
      · exact h
      · exact hw w hm
    split at hs
    · cases ws with
      | nil => cases hs
      | cons w ws => cases hs; exact ⟨hw _ (by simp), fun x hx => hw x (by simp [hx])⟩
    split at hs
    · cases hs; exact ⟨h, by simp⟩
    · cases hs; exact ⟨h, hw⟩
theorem runs_tx {p : List Ins} {t : Nat → ByteArray} {o : Lo} {ws : List Lo} {x : Option Lo} (h : Runs p o ws x) : ∀ {b : Lo}, o.tx = t → (∀ w ∈ ws, w.tx = t) → x = some b → b.tx = t := by
  induction h with
  | done => intro b h1 _ hb; cases hb; exact h1
  | wait => intro b _ _ hb; cases hb
  | step h h5 hs hr ih =>
    intro b h1 h2 hb
    obtain ⟨q1, q2⟩ := step_tx h1 h2 hs
    exact ih q1 q2 hb
theorem aft_tx {p : List Ins} {m : Lo} {a : Nat} {r : Nat → Int} {x : Option Lo} (h : Runs p (begO m a r) [] x) : m.tx = (aft m x).tx := by
  cases x with
  | none => rfl
  | some o => exact (runs_tx (t := m.tx) h rfl (by simp) rfl).symm
/-- no thing that one writes is touched by the other. -/
def NoCl (S S' : Sco) : Prop := ∀ k, k < 3 → ∀ i, i < 8 → ¬ ((S.w k).getLsbD i = true ∧ ((S'.r k).getLsbD i = true ∨ (S'.w k).getLsbD i = true)) ∧ ¬ ((S'.w k).getLsbD i = true ∧ (S.r k).getLsbD i = true)
theorem bit8 {v : BitVec 8} {i : Nat} (h : v.getLsbD i = true) : i < 8 := by
  apply Classical.byContradiction
  intro hn
  rw [BitVec.getLsbD_of_ge _ _ (by omega)] at h
  cases h
section
variable {p q : List Ins} {a b e f : Nat} {S S' : Sco}
theorem blocks_commute (hp : CanB p) (hq : CanB q) (he : EndAt p a e) (hf : EndAt q b f) (hS : ScoI p a e S) (hS' : ScoI q b f S') (hno : NoCl S S') {m : Lo} (hm : GoodM m) (hta : ∀ i, i < 4 → In64 (m.ta i)) {rp rq : Nat → Int} {o1 o2 o3 o4 : Option Lo}
    (q1 : Runs p (begO m a rp) [] o1) (q2 : Runs q (begO (aft m o1) b rq) [] o2) (q4 : Runs q (begO m b rq) [] o4) (q3 : Runs p (begO (aft m o4) a rp) [] o3) :
    (o1.isSome = o3.isSome ∧ rOf o1 rp = rOf o3 rp) ∧ (o2.isSome = o4.isSome ∧ rOf o2 rq = rOf o4 rq) ∧
    (∀ i, i < 8 → (aft (aft m o1) o2).th.c i = (aft (aft m o4) o3).th.c i) ∧ (∀ i, i < 6 → (aft (aft m o1) o2).th.f i = (aft (aft m o4) o3).th.f i) ∧ (∀ i, i < 3 → (aft (aft m o1) o2).th.p i = (aft (aft m o4) o3).th.p i) ∧
    (∀ i, i < 4 → (aft (aft m o1) o2).ta i = (aft (aft m o4) o3).ta i) ∧ (∀ i, i < 3 → ¬ (S.s i = true ∧ S'.s i = true) → (aft (aft m o1) o2).out i = (aft (aft m o4) o3).out i) := by
  have k1 := aft_ok hp he hm q1 b rq
  have k4 := aft_ok hq hf hm q4 a rp
  have f1 := aft_frm hp he hS (hm.ok a rp) q1
  have f4 := aft_frm hq hf hS' (hm.ok b rq) q4
  have f2 := aft_frm hq hf hS' k1 q2
  have f3 := aft_frm hp he hS k4 q3
  have w1 : ∀ k, k < 3 → ∀ i, (S.r k).getLsbD i = true → ¬ (S'.w k).getLsbD i = true := fun k hk i hr hw => (hno k hk i (bit8 hr)).2 ⟨hw, hr⟩
  have w2 : ∀ k, k < 3 → ∀ i, (S'.r k).getLsbD i = true → ¬ (S.w k).getLsbD i = true := fun k hk i hr hw => (hno k hk i (bit8 hr)).1 ⟨hw, .inl hr⟩
  have w3 : ∀ k, k < 3 → ∀ i, (S'.w k).getLsbD i = true → ¬ (S.w k).getLsbD i = true := fun k hk i hr hw => (hno k hk i (bit8 hr)).1 ⟨hw, .inr hr⟩
  have hT : ∀ (z : Nat → Int) (i : Nat) (x y b : Int), wr (y + m.ta i) = wr (x + z i) → wr (sumI y b + m.ta i) = wr (sumI x b + z i) := by
    intro z i x y b h
    rw [sumI_eq, sumI_eq, wr_wr, wr_wr, show y + b + m.ta i = y + m.ta i + b by omega, show x + b + z i = x + z i + b by omega, ← wr_wr, h, wr_wr]
  have A1 := aft_al hp he hS (T := fun i x y => wr (y + m.ta i) = wr (x + (aft m o4).ta i)) (hT _) (C := fun i => ¬ (S'.w 0).getLsbD i = true) (F := fun i => ¬ (S'.w 1).getLsbD i = true) (P := fun i => ¬ (S'.w 2).getLsbD i = true) (U := fun i => ¬ S'.s i = true)
    (w1 0 (by omega)) (w1 1 (by omega)) (w1 2 (by omega)) (m1 := m) (m2 := aft m o4) (hm.ok a rp) ⟨f4.1, f4.2, fun i => by rw [Int.add_comm], aft_tx q4⟩ q1 q3
  have A2 := aft_al hq hf hS' (T := fun i x y => wr (y + m.ta i) = wr (x + (aft m o1).ta i)) (hT _) (C := fun i => ¬ (S.w 0).getLsbD i = true) (F := fun i => ¬ (S.w 1).getLsbD i = true) (P := fun i => ¬ (S.w 2).getLsbD i = true) (U := fun i => ¬ S.s i = true)
    (w2 0 (by omega)) (w2 1 (by omega)) (w2 2 (by omega)) (m1 := m) (m2 := aft m o1) (hm.ok b rq) ⟨f1.1, f1.2, fun i => by rw [Int.add_comm], aft_tx q1⟩ q4 q2
  have R3 := (aft_al hp he hS (T := fun i x _ => i < 4 → In64 x) (fun i x y b _ _ => by rw [sumI_eq]; exact wr_in _) (C := fun _ => True) (F := fun _ => True) (P := fun _ => True) (U := fun _ => True) (fun _ _ => trivial) (fun _ _ => trivial) (fun _ _ => trivial) (hm.ok a rp) ⟨.rfl' _, fun _ _ _ => rfl, fun i hi => hta i hi, rfl⟩ q1 q1).1.ta
  have R4 := (aft_al hq hf hS' (T := fun i x _ => i < 4 → In64 x) (fun i x y b _ _ => by rw [sumI_eq]; exact wr_in _) (C := fun _ => True) (F := fun _ => True) (P := fun _ => True) (U := fun _ => True) (fun _ _ => trivial) (fun _ _ => trivial) (fun _ _ => trivial) (hm.ok b rq) ⟨.rfl' _, fun _ _ _ => rfl, fun i hi => hta i hi, rfl⟩ q4 q4).1.ta
  have R1 := (aft_al hp he hS (T := fun i x _ => i < 4 → In64 x) (fun i x y b _ _ => by rw [sumI_eq]; exact wr_in _) (C := fun _ => True) (F := fun _ => True) (P := fun _ => True) (U := fun _ => True) (fun _ _ => trivial) (fun _ _ => trivial) (fun _ _ => trivial) k4 ⟨.rfl' _, fun _ _ _ => rfl, fun i hi => R4 i hi, rfl⟩ q3 q3).1.ta
  have R2 := (aft_al hq hf hS' (T := fun i x _ => i < 4 → In64 x) (fun i x y b _ _ => by rw [sumI_eq]; exact wr_in _) (C := fun _ => True) (F := fun _ => True) (P := fun _ => True) (U := fun _ => True) (fun _ _ => trivial) (fun _ _ => trivial) (fun _ _ => trivial) k1 ⟨.rfl' _, fun _ _ _ => rfl, fun i hi => R3 i hi, rfl⟩ q2 q2).1.ta
  refine ⟨⟨A1.2.1, A1.2.2⟩, ⟨A2.2.1.symm, A2.2.2.symm⟩, fun i hi => ?_, fun i hi => ?_, fun i hi => ?_, fun i hi => ?_, fun i hi hu => ?_⟩
  · by_cases h : (S'.w 0).getLsbD i = true
    · have h' := w3 0 (by omega) i h
      rw [← A2.1.th.c i h', f3.1.c i h']
    · rw [← A1.1.th.c i h, f2.1.c i h]
  · by_cases h : (S'.w 1).getLsbD i = true
    · have h' := w3 1 (by omega) i h
      rw [← A2.1.th.f i h', f3.1.f i h']
    · rw [← A1.1.th.f i h, f2.1.f i h]
  · by_cases h : (S'.w 2).getLsbD i = true
    · have h' := w3 2 (by omega) i h
      rw [← A2.1.th.p i h', f3.1.p i h']
    · rw [← A1.1.th.p i h, f2.1.p i h]
  · refine wr_eq (z := m.ta i) (R2 i hi) (R1 i hi) ?_
    rw [A1.1.ta i, A2.1.ta i, Int.add_comm]
  · by_cases h : S'.s i = true
    · have h' : ¬ S.s i = true := fun h2 => hu ⟨h2, h⟩
      rw [← A2.1.out i hi h', f3.2 i hi h']
    · rw [← A1.1.out i hi h, f2.2 i hi h]
end
end Go.Proofs.Ytijppadieomnjaa.HM
namespace Go.Proofs.Ytijppadieomnjaa.HM
open Go

/-- one thing that one of both writes and the other touches. -/
def ClAt (S S' : Sco) (k i : Nat) : Prop := (S.w k).getLsbD i = true ∧ ((S'.r k).getLsbD i = true ∨ (S'.w k).getLsbD i = true) ∨ (S'.w k).getLsbD i = true ∧ (S.r k).getLsbD i = true
def ClP (S S' : Sco) : Prop := ∃ k, k < 3 ∧ ∃ i, i < 8 ∧ ClAt S S' k i
def MeK (f g : Nat → BitVec 8) (k : Nat) : Prop := ∃ i, i < 8 ∧ (f k).getLsbD i = true ∧ (g k).getLsbD i = true
def MeP (f g : Nat → BitVec 8) : Prop := ∃ k, k < 3 ∧ MeK f g k
theorem and_ne (a b : BitVec 8) : (((a &&& b).toNat : Int) != 0) = true ↔ ∃ i, i < 8 ∧ a.getLsbD i = true ∧ b.getLsbD i = true := by
  constructor
  · intro h
    apply Classical.byContradiction
    intro hn
    have : a &&& b = 0#8 := by
      apply BitVec.eq_of_getLsbD_eq
      intro i hi
      rw [BitVec.getLsbD_and]
      cases ha : a.getLsbD i
      · simp
      · cases hb : b.getLsbD i
        · simp
        · exact absurd ⟨i, hi, ha, hb⟩ hn
    rw [this] at h; simp at h
  · rintro ⟨i, hi, ha, hb⟩
    rw [bne_iff_ne]; intro h0
    have h1 : (a &&& b).toNat = 0 := by omega
    have h2 : a &&& b = 0#8 := BitVec.eq_of_toNat_eq (by simpa using h1)
    have h3 := congrArg (fun x => x.getLsbD i) h2
    simp [ha, hb] at h3
theorem meP_clP (S S' : Sco) : (MeP S.w S'.w ∨ MeP S.w S'.r ∨ MeP S'.w S.r) ↔ ClP S S' := by
  constructor
  · rintro (⟨k, hk, i, hi, h1, h2⟩ | ⟨k, hk, i, hi, h1, h2⟩ | ⟨k, hk, i, hi, h1, h2⟩)
    · exact ⟨k, hk, i, hi, .inl ⟨h1, .inr h2⟩⟩
    · exact ⟨k, hk, i, hi, .inl ⟨h1, .inl h2⟩⟩
    · exact ⟨k, hk, i, hi, .inr ⟨h1, h2⟩⟩
  · rintro ⟨k, hk, i, hi, ⟨h1, h2 | h2⟩ | ⟨h1, h2⟩⟩
    · exact .inr (.inl ⟨k, hk, i, hi, h1, h2⟩)
    · exact .inl ⟨k, hk, i, hi, h1, h2⟩
    · exact .inr (.inr ⟨k, hk, i, hi, h1, h2⟩)
theorem noCl_of {S S' : Sco} (h : ¬ ClP S S') : NoCl S S' := fun k hk i hi =>
  ⟨fun hh => h ⟨k, hk, i, hi, .inl hh⟩, fun hh => h ⟨k, hk, i, hi, .inr hh⟩⟩

theorem scope_Meets_wp {D : HV → List HV → M HV} {H : Heap} {Q : HV → Heap → Prop} {f g : Nat → BitVec 8} (h : ∀ b : Bool, (b = true ↔ MeP f g) → Q (.bool b) H) :
    wp (f_scope_Things_Meets D [.agg [U8 (f 0), U8 (f 1), U8 (f 2)], .agg [U8 (g 0), U8 (g 1), U8 (g 2)]]) Q H := by
  unfold f_scope_Things_Meets
  with_reducible repeat' (first | refine wp_finF ?_ | refine wp_uA ?_ | refine wp_uI ?_ | refine wp_uB ?_ | refine wp_uL ?_ | refine wp_uS ?_ | refine wp_uP ?_ | refine wp_uc ?_ | refine wp_nl ?_ | refine wp_asB ?_ | refine wp_asI ?_ | refine wp_asSl ?_ | refine wp_asT ?_ | refine wp_asA ?_ | refine wp_asS ?_ | refine wp_asP ?_ | refine wp_nN ?_ | refine wp_rN ?_ | refine wp_xN ?_ | refine wp_nB ?_ | refine wp_rB ?_ | refine wp_xB rfl ?_ | refine wp_xB' rfl ?_ | refine wp_bB ?_ | refine wp_rX ?_ | refine wp_xX ?_ | refine wp_rE ?_ | refine wp_xE ?_ | refine wp_rR ?_ | refine wp_xR ?_ | refine wp_r0 ?_ | refine wp_x0 ?_ | refine wp_rF ?_ | refine wp_rF0 ?_ | refine wp_rF2 ?_ | refine wp_rF3 ?_ | refine wp_rF4 ?_ | refine wp_condT ?_ | refine wp_condF ?_ | refine wp_condNT ?_ | refine wp_condNF ?_)
  refine wp_loop0 3 (by omega) rfl (fun _ => rfl) rfl (fun k => ∀ k', k' < k → ¬ MeK f g k') (fun _ h => by omega) ?_ ?_
  · intro k hk hP
    refine wp_gdD (by omega) (wp_gdD (by omega) (wp_gxg (v := U8 (f k)) (by rcases lt3 hk with rfl | rfl | rfl <;> rfl) (wp_asI ?_)))
    refine wp_gdD (by omega) (wp_gdD (by omega) (wp_gxg (v := U8 (g k)) (by rcases lt3 hk with rfl | rfl | rfl <;> rfl) (wp_asI ?_)))
    rw [u8_of, u8_of, u8_wrap]
    refine wp_cond (fun c => wp_r0 (wp_rB (wp_rF (h true ⟨fun _ => ⟨k, hk, (and_ne _ _).1 c⟩, fun _ => rfl⟩)))) (fun c => wp_n0 fun k' hk' => ?_)
    by_cases e : k' = k
    · subst e
      exact fun hh => by rw [(and_ne _ _).2 hh] at c; cases c
    · exact hP k' (by omega)
  · intro hP
    exact wp_nl (wp_rF (h false ⟨fun hh => (by cases hh), fun ⟨k, hk, hh⟩ => absurd hh (hP k hk)⟩))

theorem scope_Clash_wp {D : HV → List HV → M HV} {H : Heap} {Q : HV → Heap → Prop} {S S' : Sco} (h : ∀ b : Bool, (b = true ↔ ClP S S') → Q (.bool b) H) :
    wp (f_scope_Clash D [.agg S.cells, .agg S'.cells]) Q H := by
  have l1 := cells_len S
  have l2 := cells_len S'
  unfold f_scope_Clash
  with_reducible repeat' (first | refine wp_finF ?_ | refine wp_uA ?_ | refine wp_uI ?_ | refine wp_uB ?_ | refine wp_uL ?_ | refine wp_uS ?_ | refine wp_uP ?_ | refine wp_uc ?_ | refine wp_nl ?_ | refine wp_asB ?_ | refine wp_asI ?_ | refine wp_asSl ?_ | refine wp_asT ?_ | refine wp_asA ?_ | refine wp_asS ?_ | refine wp_asP ?_ | refine wp_nN ?_ | refine wp_rN ?_ | refine wp_xN ?_ | refine wp_nB ?_ | refine wp_rB ?_ | refine wp_xB rfl ?_ | refine wp_xB' rfl ?_ | refine wp_bB ?_ | refine wp_rX ?_ | refine wp_xX ?_ | refine wp_rE ?_ | refine wp_xE ?_ | refine wp_rR ?_ | refine wp_xR ?_ | refine wp_r0 ?_ | refine wp_x0 ?_ | refine wp_rF ?_ | refine wp_rF0 ?_ | refine wp_rF2 ?_ | refine wp_rF3 ?_ | refine wp_rF4 ?_ | refine wp_condT ?_ | refine wp_condF ?_ | refine wp_condNT ?_ | refine wp_condNF ?_)
  refine wp_jnP (ClP S S') ?_ (fun hh => wp_uB (wp_nl (wp_rF (h true (by simp [hh]))))) (fun hh => wp_uB (wp_nl (wp_rF (h false (by simp [hh])))))
  refine wp_gxE (l := [U8 (S.w 0), U8 (S.w 1), U8 (S.w 2)]) (by omega) rfl (wp_uI (wp_uI (wp_uI (wp_nl ?_))))
  refine wp_gxE (l := [U8 (S'.w 0), U8 (S'.w 1), U8 (S'.w 2)]) (by omega) rfl (wp_uI (wp_uI (wp_uI (wp_nl (wp_bnd ?_)))))
  refine scope_Meets_wp (f := S.w) (g := S'.w) fun b1 e1 => wp_asB (wp_cond (fun c => wp_bB ⟨fun _ => (meP_clP S S').1 (.inl (e1.1 c)), fun _ => rfl⟩) (fun c1 => ?_))
  refine wp_gxE (l := [U8 (S.w 0), U8 (S.w 1), U8 (S.w 2)]) (by omega) rfl (wp_uI (wp_uI (wp_uI (wp_nl ?_))))
  refine wp_gxE (l := [U8 (S'.r 0), U8 (S'.r 1), U8 (S'.r 2)]) (by omega) rfl (wp_uI (wp_uI (wp_uI (wp_nl (wp_bnd ?_)))))
  refine scope_Meets_wp (f := S.w) (g := S'.r) fun b2 e2 => wp_asB (wp_cond (fun c => wp_bB ⟨fun _ => (meP_clP S S').1 (.inr (.inl (e2.1 c))), fun _ => rfl⟩) (fun c2 => ?_))
  refine wp_gxE (l := [U8 (S'.w 0), U8 (S'.w 1), U8 (S'.w 2)]) (by omega) rfl (wp_uI (wp_uI (wp_uI (wp_nl ?_))))
  refine wp_gxE (l := [U8 (S.r 0), U8 (S.r 1), U8 (S.r 2)]) (by omega) rfl (wp_uI (wp_uI (wp_uI (wp_nl (wp_bnd ?_)))))
  refine scope_Meets_wp (f := S'.w) (g := S.r) fun b3 e3 => wp_asB (wp_bB ?_)
  rw [← meP_clP, e3]
  refine ⟨fun hh => .inr (.inr hh), ?_⟩
  rintro (hh | hh | hh)
  · rw [e1.2 hh] at c1; cases c1
  · rw [e2.2 hh] at c2; cases c2
  · exact hh

/-- things, bit by bit. -/
def bitsL (f : Nat → BitVec 8) : List HV := (List.range 24).map fun j => .bool ((f (j / 8)).getLsbD (j % 8))
def plainL (S : Sco) : List HV := bitsL S.r ++ bitsL S.w ++ [.bool (S.s 0), .bool (S.s 1), .bool (S.s 2), .bool (S.t 0), .bool (S.t 1), .bool (S.t 2), .bool (S.t 3), .bool S.su, .bool S.wa]
theorem bitsL_len (f : Nat → BitVec 8) : (bitsL f).length = 24 := rfl
theorem bitsL_get {f : Nat → BitVec 8} {j : Nat} (hj : j < 24) : (bitsL f)[j]? = some (.bool ((f (j / 8)).getLsbD (j % 8))) := by
  unfold bitsL
  rw [List.getElem?_map, List.getElem?_range hj]; rfl
theorem plainL_r {S : Sco} {k i : Nat} (hk : k < 3) (hi : i < 8) : (plainL S)[k * 8 + i]? = some (.bool ((S.r k).getLsbD i)) := by
  have h := bitsL_get (f := S.r) (j := k * 8 + i) (by omega)
  rw [show (k * 8 + i) / 8 = k by omega, show (k * 8 + i) % 8 = i by omega] at h
  unfold plainL
  rw [List.getElem?_append_left (by rw [List.length_append, bitsL_len]; omega), List.getElem?_append_left (by rw [bitsL_len]; omega), h]
theorem plainL_w {S : Sco} {k i : Nat} (hk : k < 3) (hi : i < 8) : (plainL S)[24 + (k * 8 + i)]? = some (.bool ((S.w k).getLsbD i)) := by
  have h := bitsL_get (f := S.w) (j := k * 8 + i) (by omega)
  rw [show (k * 8 + i) / 8 = k by omega, show (k * 8 + i) % 8 = i by omega] at h
  unfold plainL
  rw [List.getElem?_append_left (by rw [List.length_append, bitsL_len, bitsL_len]; omega), List.getElem?_append_right (by rw [bitsL_len]; omega), bitsL_len, Nat.add_sub_cancel_left, h]
/-- the first n places are told. -/
def BitsI (f : Nat → BitVec 8) (n : Nat) (y : List HV) : Prop := y.length = 24 ∧ ∀ j, j < n → y[j]? = some (.bool ((f (j / 8)).getLsbD (j % 8)))
theorem BitsI.all {f : Nat → BitVec 8} {y : List HV} (h : BitsI f 24 y) : y = bitsL f := by
  refine List.ext_getElem? fun j => ?_
  by_cases hj : j < 24
  · rw [h.2 j hj, bitsL_get hj]
  · rw [List.getElem?_eq_none (by rw [h.1]; omega), List.getElem?_eq_none (by rw [bitsL_len]; omega)]
theorem law28_bitsOf_wp {D : HV → List HV → M HV} {H : Heap} {Q : HV → Heap → Prop} {f : Nat → BitVec 8} (h : Q (.agg (bitsL f)) H) :
    wp (f_law28_bitsOf D [.agg [U8 (f 0), U8 (f 1), U8 (f 2)]]) Q H := by
  unfold f_law28_bitsOf
  with_reducible repeat' (first | refine wp_finF ?_ | refine wp_uA ?_ | refine wp_uI ?_ | refine wp_uB ?_ | refine wp_uL ?_ | refine wp_uS ?_ | refine wp_uP ?_ | refine wp_uc ?_ | refine wp_nl ?_ | refine wp_asB ?_ | refine wp_asI ?_ | refine wp_asSl ?_ | refine wp_asT ?_ | refine wp_asA ?_ | refine wp_asS ?_ | refine wp_asP ?_ | refine wp_nN ?_ | refine wp_rN ?_ | refine wp_xN ?_ | refine wp_nB ?_ | refine wp_rB ?_ | refine wp_xB rfl ?_ | refine wp_xB' rfl ?_ | refine wp_bB ?_ | refine wp_rX ?_ | refine wp_xX ?_ | refine wp_rE ?_ | refine wp_xE ?_ | refine wp_rR ?_ | refine wp_xR ?_ | refine wp_r0 ?_ | refine wp_x0 ?_ | refine wp_rF ?_ | refine wp_rF0 ?_ | refine wp_rF2 ?_ | refine wp_rF3 ?_ | refine wp_rF4 ?_ | refine wp_condT ?_ | refine wp_condF ?_ | refine wp_condNT ?_ | refine wp_condNF ?_)
  refine wp_for (σ := List HV) 3 (by omega) rfl (fun y i => [I i, .agg y]) (out := fun y => [.agg y]) (fun _ _ => rfl) rfl (fun k y H' => H' = H ∧ BitsI f (k * 8) y) (List.replicate 24 (HV.bool false)) rfl ⟨rfl, by simp, fun _ h => by omega⟩ ?_ ?_
  · rintro k y H1 hk ⟨rfl, hy⟩
    refine wp_for (σ := List HV) 8 (by omega) rfl (fun y i => [I i, .agg y]) (out := fun y => [.agg y]) (fun _ _ => rfl) rfl (fun i y H' => H' = H1 ∧ BitsI f (k * 8 + i) y) y rfl ⟨rfl, hy⟩ ?_ ?_
    · rintro i y H2 hi ⟨rfl, hy⟩
      have hw : IntKind.wrap .u64 (i : Int) = (i : Int) := by
        show (i : Int) % 18446744073709551616 = _
        omega
      rw [hw]
      refine wp_gdD (by omega) (wp_gdD (by omega) (wp_gxg (v := U8 (f k)) (by rcases lt3 hk with rfl | rfl | rfl <;> rfl) (wp_asI ?_)))
      rw [bit_test _ hi]
      refine wp_gdD (by omega) (wp_gdD (by omega) (wp_gdD (by omega) (wp_gdD (by omega) (wp_gdD (by omega) (wp_gdD (by rw [hy.1]; omega) ?_)))))
      refine wp_nR ⟨_, rfl, rfl, by rw [List.length_set]; exact hy.1, fun j hj => ?_⟩
      rw [show 0 + (k : Int).toNat * 8 + (i : Int).toNat * 1 = k * 8 + i by omega, List.getElem?_set]
      split
      · rename_i e
        subst e
        rw [if_pos (by rw [hy.1]; omega), show (k * 8 + i) / 8 = k by omega, show (k * 8 + i) % 8 = i by omega]
      · exact hy.2 j (by omega)
    · rintro y H' ⟨rfl, hy⟩
      refine wp_uA (wp_nl (wp_nR ⟨_, rfl, rfl, ?_⟩))
      rw [Nat.succ_mul]; exact hy
  · rintro y H' ⟨rfl, hy⟩
    have e := hy.all
    subst e
    refine wp_uA (wp_nl (wp_gxAl rfl (wp_gdQ rfl (wp_gdL (Nat.le_refl _) (wp_gxP rfl rfl (wp_rF h))))))
theorem law28_plain_wp {D : HV → List HV → M HV} {H : Heap} {Q : HV → Heap → Prop} {S : Sco} (h : Q (.agg (plainL S)) H) : wp (f_law28_plain D [.agg S.cells]) Q H := by
  have l1 := cells_len S
  unfold f_law28_plain
  with_reducible repeat' (first | refine wp_finF ?_ | refine wp_uA ?_ | refine wp_uI ?_ | refine wp_uB ?_ | refine wp_uL ?_ | refine wp_uS ?_ | refine wp_uP ?_ | refine wp_uc ?_ | refine wp_nl ?_ | refine wp_asB ?_ | refine wp_asI ?_ | refine wp_asSl ?_ | refine wp_asT ?_ | refine wp_asA ?_ | refine wp_asS ?_ | refine wp_asP ?_ | refine wp_nN ?_ | refine wp_rN ?_ | refine wp_xN ?_ | refine wp_nB ?_ | refine wp_rB ?_ | refine wp_xB rfl ?_ | refine wp_xB' rfl ?_ | refine wp_bB ?_ | refine wp_rX ?_ | refine wp_xX ?_ | refine wp_rE ?_ | refine wp_xE ?_ | refine wp_rR ?_ | refine wp_xR ?_ | refine wp_r0 ?_ | refine wp_x0 ?_ | refine wp_rF ?_ | refine wp_rF0 ?_ | refine wp_rF2 ?_ | refine wp_rF3 ?_ | refine wp_rF4 ?_ | refine wp_condT ?_ | refine wp_condF ?_ | refine wp_condNT ?_ | refine wp_condNF ?_)
  refine wp_gxE (l := [U8 (S.r 0), U8 (S.r 1), U8 (S.r 2)]) (by omega) rfl (wp_uI (wp_uI (wp_uI (wp_nl (wp_bnd ?_)))))
  refine law28_bitsOf_wp (f := S.r) (wp_asA ?_)
  refine wp_gxE (l := [U8 (S.w 0), U8 (S.w 1), U8 (S.w 2)]) (by omega) rfl (wp_uI (wp_uI (wp_uI (wp_nl (wp_bnd ?_)))))
  refine law28_bitsOf_wp (f := S.w) (wp_asA ?_)
  refine wp_gxE (l := [.bool (S.s 0), .bool (S.s 1), .bool (S.s 2)]) (by omega) rfl (wp_uB (wp_uB (wp_uB (wp_nl ?_))))
  refine wp_gxE (l := [.bool (S.t 0), .bool (S.t 1), .bool (S.t 2), .bool (S.t 3)]) (by omega) rfl (wp_uB (wp_uB (wp_uB (wp_uB (wp_nl ?_)))))
  refine wp_gxg (v := .bool S.su) rfl (wp_asB (wp_gxg (v := .bool S.wa) rfl (wp_asB ?_)))
  refine wp_gdQ rfl (wp_gdQ rfl ?_)
  have e : putN (putN (putN (putN (putN (putN (List.replicate 57 (HV.bool false)) 0 (bitsL S.r)) 24 (bitsL S.w)) 48 [.bool (S.s 0), .bool (S.s 1), .bool (S.s 2)]) 51 [.bool (S.t 0), .bool (S.t 1), .bool (S.t 2), .bool (S.t 3)]) 55 [.bool S.su]) 56 [.bool S.wa] = plainL S := by kernel_rfl
  rw [e]
  exact wp_gdQ rfl (wp_gdL (Nat.le_refl _) (wp_gxP rfl rfl (wp_rF h)))

theorem ref28_Clash_wp {D : HV → List HV → M HV} {H : Heap} {Q : HV → Heap → Prop} {S S' : Sco} (h : ∀ b : Bool, (b = true ↔ ClP S S') → Q (.bool b) H) :
    wp (f_ref28_Clash D [.agg (plainL S), .agg (plainL S')]) Q H := by
  unfold f_ref28_Clash
  with_reducible repeat' (first | refine wp_finF ?_ | refine wp_uA ?_ | refine wp_uI ?_ | refine wp_uB ?_ | refine wp_uL ?_ | refine wp_uS ?_ | refine wp_uP ?_ | refine wp_uc ?_ | refine wp_nl ?_ | refine wp_asB ?_ | refine wp_asI ?_ | refine wp_asSl ?_ | refine wp_asT ?_ | refine wp_asA ?_ | refine wp_asS ?_ | refine wp_asP ?_ | refine wp_nN ?_ | refine wp_rN ?_ | refine wp_xN ?_ | refine wp_nB ?_ | refine wp_rB ?_ | refine wp_xB rfl ?_ | refine wp_xB' rfl ?_ | refine wp_bB ?_ | refine wp_rX ?_ | refine wp_xX ?_ | refine wp_rE ?_ | refine wp_xE ?_ | refine wp_rR ?_ | refine wp_xR ?_ | refine wp_r0 ?_ | refine wp_x0 ?_ | refine wp_rF ?_ | refine wp_rF0 ?_ | refine wp_rF2 ?_ | refine wp_rF3 ?_ | refine wp_rF4 ?_ | refine wp_condT ?_ | refine wp_condF ?_ | refine wp_condNT ?_ | refine wp_condNF ?_)
  refine wp_loop0 3 (by omega) rfl (fun _ => rfl) rfl (fun k => ∀ k', k' < k → ∀ i, i < 8 → ¬ ClAt S S' k' i) (fun _ h => by omega) ?_ ?_
  · intro k hk hP
    refine wp_loop0 8 (by omega) rfl (fun _ => rfl) rfl (fun i => ∀ i', i' < i → ¬ ClAt S S' k i') (fun _ h => by omega) ?_ ?_
    · intro i hi hI
      have er : ∀ S : Sco, (plainL S)[0 + (k : Int).toNat * 8 + (i : Int).toNat * 1]? = some (.bool ((S.r k).getLsbD i)) := fun S => by
        rw [← plainL_r hk hi]; congr 1; omega
      have ew : ∀ S : Sco, (plainL S)[24 + (k : Int).toNat * 8 + (i : Int).toNat * 1]? = some (.bool ((S.w k).getLsbD i)) := fun S => by
        rw [← plainL_w hk hi]; congr 1; omega
      have hk' : (k : Int) < 3 := by omega
      have hi' : (i : Int) < 8 := by omega
      have g0 : (0 : Int) ≤ k := by omega
      have g1 : (0 : Int) ≤ i := by omega
      refine wp_jnP (ClAt S S' k i) ?_ (fun hh => wp_uB (wp_nl (wp_condT ?_))) (fun hh => wp_uB (wp_nl (wp_condF (wp_n0 fun i' hi' => ?_))))
      · unfold ClAt
        refine wp_gdD g0 (wp_gdD hk' (wp_gdD g1 (wp_gdD hi' (wp_gxg (ew S) (wp_asB ?_)))))
        refine wp_cond (fun c1 => ?_) (fun c1 => ?_)
        · refine wp_gdD g0 (wp_gdD hk' (wp_gdD g1 (wp_gdD hi' (wp_gxg (er S') (wp_asB ?_)))))
          refine wp_cond (fun c2 => wp_bB (by simp [c1, c2])) (fun c2 => ?_)
          refine wp_gdD g0 (wp_gdD hk' (wp_gdD g1 (wp_gdD hi' (wp_gxg (ew S') (wp_asB ?_)))))
          refine wp_cond (fun c3 => wp_bB (by simp [c1, c3])) (fun c3 => ?_)
          refine wp_gdD g0 (wp_gdD hk' (wp_gdD g1 (wp_gdD hi' (wp_gxg (ew S') (wp_asB ?_)))))
          exact wp_cond (fun c4 => by rw [c3] at c4; cases c4) (fun c4 => wp_bB (by simp [c1, c2, c3]))
        · refine wp_gdD g0 (wp_gdD hk' (wp_gdD g1 (wp_gdD hi' (wp_gxg (ew S') (wp_asB ?_)))))
          refine wp_cond (fun c2 => ?_) (fun c2 => wp_bB (by simp [c1, c2]))
          refine wp_gdD g0 (wp_gdD hk' (wp_gdD g1 (wp_gdD hi' (wp_gxg (er S) (wp_asB (wp_bB (by simp [c1, c2])))))))
      · exact wp_r0 (wp_rB (wp_r0 (wp_rB (wp_rF (h true ⟨fun _ => ⟨k, hk, i, hi, hh⟩, fun _ => rfl⟩)))))
      · by_cases e : i' = i
        · subst e; exact hh
        · exact hI i' (by omega)
    · intro hI
      refine wp_nl (wp_n0 fun k' hk' => ?_)
      by_cases e : k' = k
      · subst e; exact fun i hi => hI i hi
      · exact hP k' (by omega)
  · intro hP
    exact wp_nl (wp_rF (h false ⟨fun hh => (by cases hh), fun ⟨k, hk, i, hi, hh⟩ => absurd hh (hP k hk i hi)⟩))
end Go.Proofs.Ytijppadieomnjaa.HM
namespace Go.Proofs.Ytijppadieomnjaa.HM
open Go

/-- a block's scope, or that none begins there. -/
def OfR (p : List Ins) (a : Int) (S : Sco) (ok : Bool) : Prop := (∃ k e, a = ((k : Nat) : Int) ∧ CanB p ∧ EndAt p k e ∧ ScoI p k e S ∧ Beg p a ∧ ok = true) ∨ (¬ Beg p a ∧ S = Sco.zero ∧ ok = false)
theorem OfR.iff {p : List Ins} {a : Int} {S : Sco} {ok : Bool} (h : OfR p a S ok) : ok = true ↔ Beg p a := by
  rcases h with ⟨k, e, _, _, _, _, hb, rfl⟩ | ⟨hb, _, rfl⟩
  · simp [hb]
  · simp [hb]
theorem scope_Of_wp' {cl : List (Nat × Clo)} {rn : List (Nat × Rnd)} {D0 : DD} (h1 : lkA cl n_bound_From_1 = some f_bound_From_1) (h2 : lkA rn 82468377 = some r0_scope_Of) {H : Heap} {Q : HV → Heap → Prop} {s : Sl} {p : List Ins} (hs : RProg H s p) (hf : ∀ x ∈ p, IFit x) {a : Int}
    (h : ∀ S ok H', Keeps H H' → OfR p a S ok → Q (.tup [.agg S.cells, .bool ok]) H') : wp (f_scope_Of (stepD cl rn (stepD cl rn D0)) [.sl s, I a]) Q H :=
  scope_Of_wp h1 h2 hs hf (fun k hk hc e he S H' hk' hS => h S true H' hk' (.inl ⟨k, e, hk, hc, he, hS, hk ▸ Beg.of hc he, rfl⟩)) (fun hn H' hk' => h Sco.zero false H' hk' (.inr ⟨hn, rfl, rfl⟩))
theorem ref28_Of_wp' {D : HV → List HV → M HV} {H : Heap} {Q : HV → Heap → Prop} {s : Sl} {p : List Ins} (hs : RProg H s p) {a : Int} (h : ∀ L : List HV, ∀ ok, L.length = 57 → (ok = true ↔ Beg p a) → Q (.tup [.agg L, .bool ok]) H) : wp (f_ref28_Of D [.sl s, I a]) Q H :=
  ref28_Of_wp hs (fun k hk hb L hL => h _ true (by rw [List.length_map]; exact hL.len) (by simp [hb])) (fun hb => h _ false (by simp) (by simp [hb]))
theorem moL_things {a b : Lo} (hc : ∀ i, i < 8 → a.th.c i = b.th.c i) (hf : ∀ i, i < 6 → a.th.f i = b.th.f i) (hp : ∀ i, i < 3 → a.th.p i = b.th.p i) : ((moL a).drop 0).take 23 = ((moL b).drop 0).take 23 := by
  simp [moL, hc 0, hc 1, hc 2, hc 3, hc 4, hc 5, hc 6, hc 7, hf 0, hf 1, hf 2, hf 3, hf 4, hf 5, hp 0, hp 1, hp 2]
theorem moL_thEq (o : Lo) : eqSh [(.ki .i64), (.ki .i64), (.ki .i64), (.ki .i64), (.ki .i64), (.ki .i64), (.ki .i64), (.ki .i64), .kb, .ks, .kb, .ks, .kb, .ks, .kb, .ks, .kb, .ks, .kb, .ks, (.ki .i64), (.ki .i64), (.ki .i64)] (((moL o).drop 0).take 23) (((moL o).drop 0).take 23) = some true := by
  simp [HM.eqSh, moL]
def rA : Nat → Int := fun n => match n with
  | 0 => 1
  | 1 => 2
  | 2 => 3
  | _ => 4
def rB' : Nat → Int := fun n => match n with
  | 0 => 5
  | 1 => 6
  | 2 => 7
  | _ => 8
theorem Sco.s_at (S : Sco) {i : Nat} (hi : i < 3) : S.cells[6 + (i : Int).toNat * 1]? = some (.bool (S.s i)) := by
  rcases lt3 hi with rfl | rfl | rfl <;> rfl
theorem law28_ScopeCommutes_wp {cl : List (Nat × Clo)} {rn : List (Nat × Rnd)} {D0 : DD} (h1 : lkA cl n_bound_From_1 = some f_bound_From_1) (h2 : lkA rn 82468377 = some r0_scope_Of) {H : Heap} {s t : Sl} {p q : List Ins} (hs : RProg H s p) (hf : ∀ x ∈ p, IFit x) (ht : RProg H t q) (hg : ∀ x ∈ q, IFit x)
    {y : List HV} {m : Lo} (hy : MoL y m) (hta : ∀ i, i < 4 → In64 (m.ta i)) {a b : Int} : wp (f_law28_ScopeCommutes (stepD cl rn (stepD cl rn D0)) [.sl s, .sl t, .agg y, I a, I b]) Yes H := by
  have hyl := hy.len
  unfold f_law28_ScopeCommutes
  with_reducible repeat' (first | refine wp_finF ?_ | refine wp_uA ?_ | refine wp_uI ?_ | refine wp_uB ?_ | refine wp_uL ?_ | refine wp_uS ?_ | refine wp_uP ?_ | refine wp_uc ?_ | refine wp_nl ?_ | refine wp_asB ?_ | refine wp_asI ?_ | refine wp_asSl ?_ | refine wp_asT ?_ | refine wp_asA ?_ | refine wp_asS ?_ | refine wp_asP ?_ | refine wp_nN ?_ | refine wp_rN ?_ | refine wp_xN ?_ | refine wp_nB ?_ | refine wp_rB ?_ | refine wp_xB rfl ?_ | refine wp_xB' rfl ?_ | refine wp_bB ?_ | refine wp_rX ?_ | refine wp_xX ?_ | refine wp_rE ?_ | refine wp_xE ?_ | refine wp_rR ?_ | refine wp_xR ?_ | refine wp_r0 ?_ | refine wp_x0 ?_ | refine wp_rF ?_ | refine wp_rF0 ?_ | refine wp_rF2 ?_ | refine wp_rF3 ?_ | refine wp_rF4 ?_ | refine wp_condT ?_ | refine wp_condF ?_ | refine wp_condNT ?_ | refine wp_condNF ?_)
  refine wp_bnd (law28_alive_wp h1 h2 fun H1 hk1 => wp_asB (wp_condNT ?_))
  have hs1 := hs.keeps hk1
  have ht1 := ht.keeps hk1
  refine wp_bnd (scope_Of_wp' h1 h2 hs1 hf fun S ok1 H2 hk2 hS => ?_)
  have hs2 := hs1.keeps hk2
  have ht2 := ht1.keeps hk2
  refine wp_asT (wp_uA (wp_uB (wp_nl (wp_gdQ rfl (wp_gdL (Nat.le_refl _) ?_)))))
  refine wp_bnd (scope_Of_wp' h1 h2 ht2 hg fun S' ok2 H3 hk3 hS' => ?_)
  have hs3 := hs2.keeps hk3
  have ht3 := ht2.keeps hk3
  refine wp_asT (wp_uA (wp_uB (wp_nl (wp_gdQ rfl (wp_gdL (Nat.le_refl _) ?_)))))
  refine wp_bnd (ref28_Of_wp' hs3 fun L1 b1 hl1 e1 => ?_)
  refine wp_asT (wp_uA (wp_uB (wp_nl (wp_gdQ hl1 (wp_gdL (by rw [hl1]; exact Nat.le_refl _) ?_)))))
  refine wp_bnd (ref28_Of_wp' ht3 fun L2 b2 hl2 e2 => ?_)
  refine wp_asT (wp_uA (wp_uB (wp_nl (wp_gdQ hl2 (wp_gdL (by rw [hl2]; exact Nat.le_refl _) ?_)))))
  have e1' : ok1 = b1 := by rw [Bool.eq_iff_iff, hS.iff, e1]
  have e2' : ok2 = b2 := by rw [Bool.eq_iff_iff, hS'.iff, e2]
  subst e1'
  subst e2'
  refine wp_jn (wp.mono (Q := fun l H' => H' = H3 ∧ ∃ z : Bool, l = .norm [.bool z] ∧ (z = false → ok1 = true ∧ ok2 = true ∧ GoodM m)) ?_ ?_)
  · refine wp_condN (fun c => wp_ret ⟨rfl, true, rfl, fun h => by cases h⟩) (fun c1 => ?_)
    refine wp_condN (fun c => wp_ret ⟨rfl, true, rfl, fun h => by cases h⟩) (fun c2 => ?_)
    refine wp_gxAl hyl (wp_bnd (law28_good_wp hy fun z hz => wp_asB (wp_ret ⟨rfl, _, rfl, fun hh => ⟨c1, c2, hz ?_⟩⟩)))
    cases z <;> simp_all
  rintro _ _ ⟨rfl, z, rfl, hz⟩
  show wp _ _ _
  refine wp_uB (wp_nl (wp_cond (fun c => ?_) (fun c => ?_)))
  · clear hz hS hS' e1 e2
    refine wp_jnP True ?_ (fun _ => wp_uB (wp_nl (wp_rF rfl))) (fun hh => absurd trivial hh)
    cases ok1 <;> cases ok2
    · exact wp_condNF (wp_condNF (wp_bB (by simp)))
    · exact wp_condNF (wp_condNT (wp_bB (by simp)))
    · exact wp_condNT (wp_condT (wp_condNF (wp_bB (by simp))))
    · exact wp_condNT (wp_condT (wp_condNT (wp_bB (by simp))))
  obtain ⟨rfl, rfl, hm⟩ := hz c
  obtain ⟨k, e, rfl, hp, he, hS, _⟩ | ⟨_, _, hh⟩ := hS
  rotate_left
  · cases hh
  obtain ⟨l, f, rfl, hq, hf', hS', _⟩ | ⟨_, _, hh⟩ := hS'
  rotate_left
  · cases hh
  refine wp_gxP rfl rfl (wp_gxP rfl rfl (wp_bnd (scope_Clash_wp fun z0 hz0 => wp_asB (wp_cond (fun c0 => ?_) (fun c0 => ?_)))))
  · refine wp_gxP rfl rfl (wp_bnd (law28_plain_wp (wp_asA ?_)))
    refine wp_gxP rfl rfl (wp_bnd (law28_plain_wp (wp_asA ?_)))
    refine wp_bnd (ref28_Clash_wp fun z1 hz1 => wp_asB (wp_rF ?_))
    have : z1 = true := hz1.2 (hz0.1 c0)
    subst this; rfl
  have hno : NoCl S S' := noCl_of fun hh => by rw [hz0.2 hh] at c0; cases c0
  refine wp_gxAl hyl (wp_bnd ?_)
  refine ref23_Block_wp' (r := rA) hp hs3 he hy (hm.ok _ _) fun H4 y1 k1 r1 b1 hk4 hb1 => ?_
  obtain ⟨o1, q1, hy1, rfl, rfl⟩ := hb1.aft hy
  have hyl1 := hy1.len
  refine wp_asT (wp_uA (wp_uI (wp_uA (wp_uI (wp_uI (wp_uI (wp_uI (wp_nl (wp_uB (wp_nl ?_))))))))))
  refine wp_gdQ hyl1 (wp_gdL (by rw [hyl1]; exact Nat.le_refl _) (wp_gxP rfl hyl1 (wp_bnd ?_)))
  refine ref23_Block_wp' (r := rB') hq (ht3.keeps hk4) hf' hy1 (aft_ok hp he hm q1 _ _) fun H5 y2 k2 r2 b2 hk5 hb2 => ?_
  obtain ⟨o2, q2, hy2, rfl, rfl⟩ := hb2.aft hy1
  have hyl2 := hy2.len
  refine wp_asT (wp_uA (wp_uI (wp_uA (wp_uI (wp_uI (wp_uI (wp_uI (wp_nl (wp_uB (wp_nl ?_))))))))))
  refine wp_gdQ hyl2 (wp_gdL (by rw [hyl2]; exact Nat.le_refl _) (wp_gxAl hyl (wp_bnd ?_)))
  refine ref23_Block_wp' (r := rB') hq ((ht3.keeps hk4).keeps hk5) hf' hy (hm.ok _ _) fun H6 y4 k4 r4 b4 hk6 hb4 => ?_
  obtain ⟨o4, q4, hy4, rfl, rfl⟩ := hb4.aft hy
  have hyl4 := hy4.len
  refine wp_asT (wp_uA (wp_uI (wp_uA (wp_uI (wp_uI (wp_uI (wp_uI (wp_nl (wp_uB (wp_nl ?_))))))))))
  refine wp_gdQ hyl4 (wp_gdL (by rw [hyl4]; exact Nat.le_refl _) (wp_gxP rfl hyl4 (wp_bnd ?_)))
  refine ref23_Block_wp' (r := rA) hp (((hs3.keeps hk4).keeps hk5).keeps hk6) he hy4 (aft_ok hq hf' hm q4 _ _) fun H7 y3 k3 r3 b3 hk7 hb3 => ?_
  obtain ⟨o3, q3, hy3, rfl, rfl⟩ := hb3.aft hy4
  have hyl3 := hy3.len
  refine wp_asT (wp_uA (wp_uI (wp_uA (wp_uI (wp_uI (wp_uI (wp_uI (wp_nl (wp_uB (wp_nl ?_))))))))))
  refine wp_gdQ hyl3 (wp_gdL (by rw [hyl3]; exact Nat.le_refl _) ?_)
  obtain ⟨⟨C1, C2⟩, ⟨C3, C4⟩, C5, C6, C7, C8, C9⟩ := blocks_commute hp hq he hf' hS hS' hno hm hta q1 q2 q4 q3
  rw [C1, C3, C2, C4]
  generalize aft (aft m o1) o2 = w1 at hy2 C5 C6 C7 C8 C9
  generalize aft (aft m o4) o3 = w2 at hy3 C5 C6 C7 C8 C9
  refine wp_jnP False ?_ (fun hh => hh.elim) (fun _ => wp_uB (wp_nl (wp_condF ?_)))
  · refine wp_condN (fun c => by simp at c) (fun _ => ?_)
    refine wp_condN (fun c => by simp at c) (fun _ => ?_)
    refine wp_eqM (regL_eqSh (rOf o3 rA)) (wp_condNT ?_)
    refine wp_eqM (regL_eqSh (rOf o4 rB')) (wp_condNT ?_)
    refine wp_gxPn hyl2 rfl (by omega) (l := ((moL w2).drop 0).take 23) (by rw [hy2.eq]; exact moL_things C5 C6 C7) ?_
    refine wp_gxPn hyl3 rfl (by omega) (l := ((moL w2).drop 0).take 23) (by rw [hy3.eq]) ?_
    refine wp_eqM (moL_thEq w2) (wp_condNT ?_)
    refine wp_gxPn hyl2 rfl (by omega) (l := [I (w1.ta 0), I (w1.ta 1), I (w1.ta 2), I (w1.ta 3)]) (by rw [hy2.eq]; rfl) (wp_uI (wp_uI (wp_uI (wp_uI (wp_nl ?_)))))
    refine wp_gxPn hyl3 rfl (by omega) (l := [I (w2.ta 0), I (w2.ta 1), I (w2.ta 2), I (w2.ta 3)]) (by rw [hy3.eq]; rfl) (wp_uI (wp_uI (wp_uI (wp_uI (wp_nl ?_)))))
    rw [C8 0 (by omega), C8 1 (by omega), C8 2 (by omega), C8 3 (by omega)]
    exact wp_eqM (regL_eqSh w2.ta) (wp_bB (by simp))
  refine wp_loop0 3 (by omega) rfl (fun _ => rfl) rfl (fun _ => True) trivial ?_ (fun _ => wp_nl (wp_rF rfl))
  intro i hi _
  have hi' : (i : Int) < 3 := by omega
  have g0 : (0 : Int) ≤ i := by omega
  have eo : 26 + (i : Int).toNat * 1 = 26 + i := by omega
  refine wp_jnP False ?_ (fun hh => hh.elim) (fun _ => wp_uB (wp_nl (wp_condF (wp_n0 trivial))))
  have outs : ¬ (S.s i = true ∧ S'.s i = true) → wp (gd (decide ((0 : Int) ≤ (i : Int))) (gd (decide ((i : Int) < (3 : Int))) (
      gx (putN [I 0, I 0, I 0, I 0, I 0, I 0, I 0, I 0, .bool false, .str (ByteArray.mk #[]), .bool false, .str (ByteArray.mk #[]), .bool false, .str (ByteArray.mk #[]), .bool false, .str (ByteArray.mk #[]), .bool false, .str (ByteArray.mk #[]), .bool false, .str (ByteArray.mk #[]), I 0, I 0, I 0, .str (ByteArray.mk #[]), .str (ByteArray.mk #[]), .str (ByteArray.mk #[]), .str (ByteArray.mk #[]), .str (ByteArray.mk #[]), .str (ByteArray.mk #[]), I 0, I 0, I 0, I 0] 0 y2) (26 + (i : Int).toNat * 1) fun v_4 => asS v_4 fun x183_1 =>
      gd (decide ((0 : Int) ≤ (i : Int))) (gd (decide ((i : Int) < (3 : Int))) (
      gx (putN [I 0, I 0, I 0, I 0, I 0, I 0, I 0, I 0, .bool false, .str (ByteArray.mk #[]), .bool false, .str (ByteArray.mk #[]), .bool false, .str (ByteArray.mk #[]), .bool false, .str (ByteArray.mk #[]), .bool false, .str (ByteArray.mk #[]), .bool false, .str (ByteArray.mk #[]), I 0, I 0, I 0, .str (ByteArray.mk #[]), .str (ByteArray.mk #[]), .str (ByteArray.mk #[]), .str (ByteArray.mk #[]), .str (ByteArray.mk #[]), .str (ByteArray.mk #[]), I 0, I 0, I 0, I 0] 0 y3) (26 + (i : Int).toNat * 1) fun v_5 => asS v_5 fun x187_1 =>
      ret (.norm [.bool (!(x183_1.toList == x187_1.toList))])))))) (PB False H7) H7 := by
    intro hn
    refine wp_gdD g0 (wp_gdD hi' (wp_gxPg rfl hyl2 (v := .str (w1.out i)) (by rw [eo]; exact hy2.out i hi) (wp_asS ?_)))
    refine wp_gdD g0 (wp_gdD hi' (wp_gxPg rfl hyl3 (v := .str (w2.out i)) (by rw [eo]; exact hy3.out i hi) (wp_asS (wp_bB ?_))))
    rw [C9 i hi hn]; simp
  refine wp_gdD g0 (wp_gdD hi' (wp_gxPg rfl rfl (S.s_at hi) (wp_asB (wp_cond (fun c1 => ?_) (fun c1 => ?_)))))
  · refine wp_gdD g0 (wp_gdD hi' (wp_gxPg rfl rfl (S'.s_at hi) (wp_asB (wp_condN (fun c2 => ?_) (fun c2 => wp_bB (by simp))))))
    exact outs fun hh => by rw [c2] at hh; cases hh.2
  · exact wp_condNF (outs fun hh => by rw [c1] at hh; cases hh.1)
end Go.Proofs.Ytijppadieomnjaa.HM
