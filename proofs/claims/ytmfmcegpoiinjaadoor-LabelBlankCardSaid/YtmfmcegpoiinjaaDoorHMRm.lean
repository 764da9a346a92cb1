/- law26: joined, LabelFaults: walked. Conditions: the variables of the package (Gl), the tables' entries. -/
import Derived.Test.YtmfmcegpoiinjaaDoorHMRh
namespace Go.Proofs.YtmfmcegpoiinjaaDoor.HM
open Go
set_option maxRecDepth 100000

/-- lines as a text. -/
def joinL : List Bs → Bs
  | [] => []
  | l :: ls => l ++ ls.flatMap fun m => 10 :: m
theorem joinL_snoc (ls : List Bs) (m : Bs) : joinL (ls ++ [m]) = (if ls.length = 0 then joinL ls else joinL ls ++ [10]) ++ m := by
  cases ls with
  | nil => simp [joinL]
  | cons l ls => simp [joinL]
theorem joinL_take {ls : List Bs} {i : Nat} (hi : i < ls.length) : joinL (ls.take (i + 1)) = (if i = 0 then joinL (ls.take i) else joinL (ls.take i) ++ [10]) ++ ls[i] := by
  rw [List.take_succ_eq_append_getElem hi, joinL_snoc]
  have : (ls.take i).length = i := by simp; omega
  rw [this]
theorem joinL_pre : ∀ (a b : List Bs), (joinL a).length ≤ (joinL (a ++ b)).length
  | [], b => by simp [joinL]
  | l :: a, b => by simp only [joinL, List.cons_append, List.flatMap_append, List.length_append]; omega
theorem joinL_at {ls : List Bs} {i : Nat} (hi : i < ls.length) : (joinL (ls.take i)).length + ls[i].length ≤ (joinL ls).length := by
  have h1 := joinL_take hi
  have h2 := joinL_pre (ls.take (i + 1)) (ls.drop (i + 1))
  rw [List.take_append_drop, h1, List.length_append] at h2
  split at h2
  · omega
  · simp only [List.length_append] at h2; omega
theorem cut_join : ∀ (ls : List Bs) (l : Bs), (∀ x ∈ l, x ≠ (10 : UInt8)) → (∀ m ∈ ls, ∀ x ∈ m, x ≠ (10 : UInt8)) → cutAt 10 (l ++ ls.flatMap fun m => 10 :: m) = l :: ls
  | [], l, h, _ => by rw [List.flatMap_nil, List.append_nil]; exact cut_clean h
  | m :: ls, l, h, h2 => by
    rw [List.flatMap_cons, List.cons_append, cut_at h, cut_join ls m (h2 m List.mem_cons_self) fun y hy => h2 y (List.mem_cons_of_mem _ hy)]
theorem cut_len1 {l : Bs} : (cutAt 10 l).length ≤ 1 ↔ ∀ x ∈ l, x ≠ (10 : UInt8) := by
  constructor
  · intro h
    induction l with
    | nil => intro x hx; cases hx
    | cons b r ih =>
      have hr : 1 ≤ (cutAt 10 r).length := by
        cases r with
        | nil => simp [cutAt]
        | cons c r =>
          rw [cutAt]
          split
          · simp
          · split <;> simp
      rw [cutAt] at h
      split at h
      · simp only [List.length_cons] at h; omega
      · rename_i hb
        have hr2 : (cutAt 10 r).length ≤ 1 := by
          split at h
          · rename_i e; rw [e]; simp
          · rename_i p ps e; rw [e]; simpa using h
        intro x hx
        rcases List.mem_cons.1 hx with rfl | hx
        · exact hb
        · exact ih hr2 x hx
  · intro h
    rw [cut_clean h]; simp
/-- lines that are played. -/
def Jok (ls : List Bs) : Prop := ls.length ≤ 60 ∧ ∀ (i : Nat) (l : Bs), ls[i]? = some l → l.length ≤ 2048 ∧ (joinL (ls.take i)).length + l.length ≤ 2048 ∧ ∀ x ∈ l, x ≠ (10 : UInt8)
theorem Jok.clean {ls : List Bs} (h : Jok ls) : ∀ l ∈ ls, ∀ x ∈ l, x ≠ (10 : UInt8) := fun l hl => by
  obtain ⟨i, hi⟩ := List.mem_iff_getElem?.1 hl
  exact (h.2 i l hi).2.2
theorem Jok.len {ls : List Bs} (h : Jok ls) : (joinL ls).length ≤ 2049 := by
  rcases Nat.eq_zero_or_pos ls.length with h0 | hp
  · have := List.eq_nil_of_length_eq_zero h0
    subst this; simp [joinL]
  · have hi : ls.length - 1 < ls.length := by omega
    have h1 := joinL_take hi
    have h2 := (h.2 _ _ (List.getElem?_eq_getElem hi)).2.1
    rw [show ls.length - 1 + 1 = ls.length by omega, List.take_length] at h1
    rw [h1, List.length_append]
    split
    · omega
    · simp only [List.length_append, List.length_cons, List.length_nil]; omega
section
variable {D : HV → List HV → M HV} {H : Heap} {Q : HV → Heap → Prop}
theorem joined_wp {s : Sl} {ls : List Bs} (hs : RStrs H s ls) (hx : ∀ l ∈ ls, l.length ≤ 9223372036854775807)
    (h1 : ∀ H', Jok ls → Kp H H' → Q (.tup [.str (S (joinL ls)), .bool true]) H') (h2 : ∀ H', ¬ Jok ls → Kp H H' → Q (.tup [.str (S []), .bool false]) H') : wp (f_law26_joined D [.sl s]) Q H := by
  unfold f_law26_joined
  have hlen := hs.lenI
  refine step ⟨fun c => ?_, fun c => ?_⟩
  · exact h2 H (fun hh => by have := hh.1; omega) (Kp.refl H)
  · refine wp_for (σ := Bs) ls.length (by omega) hlen (fun x i => [.str (S x), I i]) (out := fun x => [.str (S x)]) (fun _ _ => rfl) rfl
      (fun i x H' => Kp H H' ∧ x = joinL (ls.take i) ∧ ∀ (j : Nat) (l : Bs), j < i → ls[j]? = some l → l.length ≤ 2048 ∧ (joinL (ls.take j)).length + l.length ≤ 2048 ∧ ∀ x ∈ l, x ≠ (10 : UInt8)) [] rfl ⟨Kp.refl H, by simp [joinL], fun j l hj => by omega⟩ ?_ ?_
    · rintro i x H1 hi ⟨k1, hxe, hok⟩
      have hge : ls[i]? = some ls[i] := List.getElem?_eq_getElem hi
      have hxl := hx _ (List.getElem_mem hi)
      have hjt := joinL_take hi
      rw [← hxe] at hjt
      have hxs : x.length ≤ 2049 := by
        rcases Nat.eq_zero_or_pos i with h0 | hp
        · subst h0; rw [hxe]; simp [joinL]
        · have hi' : i - 1 < ls.length := by omega
          have e1 := joinL_take hi'
          rw [show i - 1 + 1 = i by omega, ← hxe] at e1
          have e2 := (hok (i - 1) _ (by omega) (List.getElem?_eq_getElem hi')).2.1
          rw [e1, List.length_append]
          split
          · omega
          · simp only [List.length_append, List.length_cons, List.length_nil]; omega
      have hbad : ¬ (ls[i].length ≤ 2048 ∧ (joinL (ls.take i)).length + ls[i].length ≤ 2048 ∧ ∀ x ∈ ls[i], x ≠ (10 : UInt8)) → ¬ Jok ls := fun hh hj => hh (hj.2 i _ hge)
      have hgood : (ls[i].length ≤ 2048 ∧ (joinL (ls.take i)).length + ls[i].length ≤ 2048 ∧ ∀ x ∈ ls[i], x ≠ (10 : UInt8)) → ∀ (j : Nat) (l : Bs), j < i + 1 → ls[j]? = some l → l.length ≤ 2048 ∧ (joinL (ls.take j)).length + l.length ≤ 2048 ∧ ∀ x ∈ l, x ≠ (10 : UInt8) := fun hg j l hj hl => by
        rcases Nat.lt_or_ge j i with h3 | h3
        · exact hok j l h3 hl
        · have : j = i := by omega
          subst this; rw [hge] at hl; cases hl; exact hg
      rw [← hxe] at hbad hgood
      refine wp_atS (hs.keeps k1.k) hi fun b o => ?_
      generalize ls[i] = l at *
      have hsl := S_size l
      have hsx := S_size x
      have z1 : (ByteArray.mk #[10]).size = 1 := rfl
      refine step ?_
      refine wp_jn (step ⟨fun c1 => ?_, fun c1 => ⟨fun c2 => ?_, fun c2 => ?_⟩⟩)
      · exact h2 H1 (hbad fun hh => by have := hh.1; omega) k1
      · rw [wr_small (by omega) (by omega)] at c2
        exact h2 H1 (hbad fun hh => by have := hh.2.1; omega) k1
      · rw [wr_small (by omega) (by omega)] at c2
        refine wp_bnd (Pieces_wp (c := 10) (by omega) fun H2 s2 k2 hs2 => step ?_)
        have hl2 := hs2.lenI
        have hc1 := cut_len1 (l := l)
        refine ⟨fun c3 => ?_, fun c3 => ?_⟩
        · exact h2 H2 (hbad fun hh => by have := hc1.2 hh.2.2; omega) (k1.trans k2)
        · have hcl := hc1.1 (by omega)
          have hg := hgood ⟨by omega, by omega, hcl⟩
          refine wp_jn (step ⟨fun c4 => ⟨by omega, ⟨by rw [show ByteArray.mk #[10] = S [10] from rfl, S_app]; simp only [S_size, List.length_append, List.length_cons, List.length_nil]; omega, joinL (ls.take (i + 1)), ?_, k1.trans k2, rfl, hg⟩⟩, fun c4 => ⟨by omega, joinL (ls.take (i + 1)), ?_, k1.trans k2, rfl, hg⟩⟩)
          · rw [hjt, if_neg (by omega), show ByteArray.mk #[10] = S [10] from rfl, S_app, S_app]
          · rw [hjt, if_pos (by omega), S_app]
    · rintro x H1 ⟨k1, hxe, hok⟩
      rw [List.take_length] at hxe
      subst hxe
      refine step (h1 H1 ⟨by omega, fun i l hl => hok i l (List.getElem?_eq_some_iff.1 hl).1 hl⟩ k1)
end

/-! lines that say nothing -/
def bads : List Bs := [[58], [58, 49, 97], [58, 97, 97, 97, 97, 97, 97, 97, 97, 97], [104, 97, 108, 116, 32, 48], [106, 117, 109, 112, 32, 51, 32, 48, 32, 48], [99, 111, 110, 115, 116, 32, 48], [101, 108, 115, 101], [32, 104, 97, 108, 116], [104, 97, 108, 116, 32], [119, 104, 97, 116], [97, 100, 100, 32, 48, 49, 32, 48], [97, 98, 111, 114, 116, 32, 45, 48]]
theorem said_nomark {s : Bs} (h : s.head? = some 58) (hn : ¬ nameOk (s.drop 1)) : said s = none := by
  unfold said; rw [if_pos h, if_neg hn]
theorem said_noword {s w : Bs} {ws : List Bs} (h : s.head? ≠ some 58) (hc : cutAt 32 s = w :: ws) (hw : words.idxOf? w = none) : said s = none := by
  unfold said; rw [if_neg h, hc, List.headD_cons, hw]
theorem said_nofields {s w : Bs} {ws : List Bs} {k : Nat} (h : s.head? ≠ some 58) (hc : cutAt 32 s = w :: ws) (hw : words.idxOf? w = some k) (hf : fieldsS shapes[k]! ws 0 [] [0, 0, 0] = none) : said s = none := by
  unfold said; rw [if_neg h, hc, List.headD_cons, hw]
  simp only
  rw [List.drop_one, List.tail_cons, hf]
theorem said_bads : ∀ b ∈ bads, said b = none := by
  intro b hb
  simp only [bads, List.mem_cons, List.not_mem_nil, or_false] at hb
  rcases hb with rfl | rfl | rfl | rfl | rfl | rfl | rfl | rfl | rfl | rfl | rfl | rfl
  · exact said_nomark rfl fun h => by have := h.1; simp at this
  · refine said_nomark rfl fun h => ?_
    have := h.2.2 0 49 rfl
    unfold okAt at this; revert this; decide
  · exact said_nomark rfl fun h => by have := h.2.1; simp at this
  · exact said_nofields (k := 0) (by decide) (show cutAt 32 _ = [104, 97, 108, 116] :: [[48]] by decide) (by decide) (fields_len _ _ _ _ _ (by decide))
  · refine said_nofields (k := 3) (by decide) (show cutAt 32 _ = [106, 117, 109, 112] :: [[51], [48], [48]] by decide) (by decide) ?_
    show fieldsS [103, 110, 110] [[51], [48], [48]] 0 [] [0, 0, 0] = none
    rw [fieldsS, if_pos rfl, if_neg]
    intro h
    have := h.2.2 0 51 rfl
    unfold okAt at this; revert this; decide
  · exact said_nofields (k := 1) (by decide) (show cutAt 32 _ = [99, 111, 110, 115, 116] :: [[48]] by decide) (by decide) (fields_len _ _ _ _ _ (by decide))
  · exact said_nofields (k := 20) (by decide) (show cutAt 32 _ = [101, 108, 115, 101] :: [] by decide) (by decide) (fields_len _ _ _ _ _ (by decide))
  · exact said_noword (by decide) (show cutAt 32 _ = [] :: [[104, 97, 108, 116]] by decide) (by decide)
  · exact said_nofields (k := 0) (by decide) (show cutAt 32 _ = [104, 97, 108, 116] :: [[]] by decide) (by decide) (fields_len _ _ _ _ _ (by decide))
  · exact said_noword (by decide) (show cutAt 32 _ = [119, 104, 97, 116] :: [] by decide) (by decide)
  · refine said_nofields (k := 2) (by decide) (show cutAt 32 _ = [97, 100, 100] :: [[48, 49], [48]] by decide) (by decide) ?_
    show fieldsS [110, 110] [[48, 49], [48]] 0 [] [0, 0, 0] = none
    have : refNum [48, 49] = none := by unfold refNum; rw [if_pos (by decide)]
    rw [fieldsS, if_neg (by decide), this]
  · refine said_nofields (k := 17) (by decide) (show cutAt 32 _ = [97, 98, 111, 114, 116] :: [[45, 48]] by decide) (by decide) ?_
    show fieldsS [110] [[45, 48]] 0 [] [0, 0, 0] = none
    have : refNum [45, 48] = none := by unfold refNum; rw [if_pos (by decide)]
    rw [fieldsS, if_neg (by decide), this]
theorem pass_app : ∀ (A B : List Bs) (i : Nat) (st : Sht), passS i (A ++ B) st = match passS i A st with
    | .inl st' => passS (i + A.length) B st'
    | .inr n => .inr n
  | [], B, i, st => by rw [List.nil_append, passS_end]; rfl
  | [] :: A, B, i, st => by
    rw [List.cons_append, passS_nil, passS_nil, pass_app A B (i + 1) st, List.length_cons, show i + 1 + A.length = i + (A.length + 1) by omega]
  | (c :: r) :: A, B, i, st => by
    have hne : (c :: r : Bs) ≠ [] := by simp
    rw [List.cons_append]
    cases e : takeS ((i : Int) + 1) (c :: r) st with
    | none => rw [passS_no hne e, passS_no hne e]
    | some st1 =>
      rw [passS_yes hne e, passS_yes hne e, pass_app A B (i + 1) st1, List.length_cons, show i + 1 + A.length = i + (A.length + 1) by omega]
theorem pass_end2 (ls : List Bs) (i : Nat) (st : Sht) : passS i (ls ++ [[]]) st = passS i ls st := by
  rw [pass_app]
  cases passS i ls st with
  | inl st' => simp only; rw [passS_nil, passS_end]
  | inr n => rfl
/-- a pass over a text of lines. -/
theorem pass_join {ls : List Bs} (h : ∀ l ∈ ls, ∀ x ∈ l, x ≠ (10 : UInt8)) (st : Sht) : passS 0 (cutAt 10 (joinL ls)) st = passS 0 ls st := by
  cases ls with
  | nil => rw [show cutAt 10 (joinL []) = [[]] from rfl, passS_nil, passS_end, passS_end]
  | cons l ls =>
    rw [show joinL (l :: ls) = l ++ ls.flatMap fun m => 10 :: m from rfl, cut_join ls l (h l List.mem_cons_self) fun m hm => h m (List.mem_cons_of_mem _ hm)]
theorem lines_len : ∀ (L : List Bs), (L.flatMap fun l => l ++ [10]).length = (joinL L).length + (if L = [] then 0 else 1)
  | [] => rfl
  | l :: L => by
    have ih := lines_len L
    have e : ∀ L : List Bs, (L.flatMap fun l => l ++ [(10 : UInt8)]).length = (L.flatMap fun m => (10 : UInt8) :: m).length := by
      intro L
      induction L with
      | nil => rfl
      | cons m L ih2 => simp only [List.flatMap_cons, List.length_append, List.length_cons, List.length_nil, ih2] <;> omega
    simp only [List.flatMap_cons, List.length_append, joinL, List.length_cons, List.length_nil, e L]
    simp; omega
theorem lines_ins (A B : List Bs) (b : Bs) : ((A ++ b :: B).flatMap fun l => l ++ [(10 : UInt8)]).length = ((A ++ B).flatMap fun l => l ++ [(10 : UInt8)]).length + b.length + 1 := by
  simp; omega
theorem bads_len : ∀ b ∈ bads, b.length ≤ 10 ∧ b ≠ [] ∧ ∀ x ∈ b, x ≠ (10 : UInt8) := by unfold bads; decide
/-- A LINE THAT SAYS NOTHING IS TOLD. -/
theorem read_fault {ls : List Bs} (hj : Jok ls) {p : List Ins} {ms : List Pl} (hr : readS (joinL ls) = .inl (p, ms)) {a : Nat} (ha : a ≤ ls.length) {b : Bs} (hb : b ∈ bads) :
    readS ((ls.take a ++ b :: ls.drop a).flatMap fun l => l ++ [10]) = .inr ((a : Int) + 1, 60) := by
  obtain ⟨b1, b2, b3⟩ := bads_len b hb
  have hcl := hj.clean
  have hjl := hj.len
  have h1 := lines_ins (ls.take a) (ls.drop a) b
  rw [List.take_append_drop, lines_len ls] at h1
  have h2 : (if ls = [] then 0 else 1) ≤ 1 := by split <;> omega
  unfold readS at hr
  rw [if_neg (by omega), pass_join hcl] at hr
  unfold readS
  rw [if_neg (by omega), cut_lines, pass_end2]
  · cases hp : passS 0 ls ⟨[], [], []⟩ with
    | inr n => rw [hp] at hr; cases hr
    | inl st =>
      have hp' := hp
      rw [← List.take_append_drop a ls, pass_app] at hp'
      rw [pass_app]
      cases hq : passS 0 (ls.take a) ⟨[], [], []⟩ with
      | inr n => rw [hq] at hp'; cases hp'
      | inl st1 =>
        simp only
        rw [passS_no b2 (take_none (said_bads b hb))]
        have : (ls.take a).length = a := by simp; omega
        rw [this]
        simp
  · intro l hl
    rcases List.mem_append.1 hl with hl | hl
    · exact hcl l (List.mem_of_mem_take hl)
    · rcases List.mem_cons.1 hl with rfl | hl
      · exact b3
      · exact hcl l (List.mem_of_mem_drop hl)
section
variable {H : Heap} {Q : HV → Heap → Prop}
theorem kind_ok (x : Int) : ∃ k : Nat, k < 12 ∧ wr (Int.tmod (IntKind.wrap .u64 x) 12) = (k : Int) := by
  have h1 : IntKind.wrap .u64 x = x % 18446744073709551616 := w64 x
  have h2 : 0 ≤ x % 18446744073709551616 := Int.emod_nonneg _ (by decide)
  have h3 : Int.tmod (x % 18446744073709551616) 12 = (x % 18446744073709551616) % 12 := Int.tmod_eq_emod_of_nonneg h2
  rw [h1, h3, wr_small (by omega) (by omega)]
  exact ⟨(x % 18446744073709551616 % 12).toNat, by omega, by omega⟩
/-- so many lines, the odd one among them. -/
def insL (ls : List Bs) (a : Nat) (b : Bs) (i : Nat) : List Bs := if i ≤ a then ls.take i else ls.take a ++ b :: (ls.drop a).take (i - a)
theorem LabelFaults_wp {cl : List (Nat × Clo)} {rn : List (Nat × Rnd)} {D0 : DD} (hc : lkA cl n_label_lines_1 = some f_label_lines_1) (hr : lkA rn 96110293 = some r0_label_read) (hG : Gl H)
    {s : Sl} {ls : List Bs} (hs : RStrs H s ls) (hx : ∀ l ∈ ls, l.length ≤ 9223372036854775807) {a k : Int} (ha64 : Int64 a) (_hk64 : Int64 k) (h : ∀ H', Q (.bool true) H') : wp (f_law26_LabelFaults (stepD cl rn (stepD cl rn D0)) [.sl s, I a, I k]) Q H := by
  unfold f_law26_LabelFaults
  have hlen := hs.lenI
  have hlt := hs.lt
  unfold Int64 at ha64
  refine step (wp_bnd (alive_wp hc hr hG fun H1 k1 => step ?_))
  refine wp_bnd (joined_wp (hs.keeps k1.k) hx (fun H2 hj k2 => step ?_) (fun H2 hj k2 => step (wp_jn (step (h _)))))
  have K2 := k1.trans k2
  refine wp_jnP (¬ (0 ≤ a ∧ a ≤ ls.length)) ?_ (fun _ => step (h _)) (fun ha => step ?_)
  · refine step ⟨fun c => ⟨fun _ hh => by omega, fun _ => rfl⟩, fun c => ?_⟩
    rw [decide_eq_true_eq]; omega
  have hjl := hj.len
  refine wp_bnd (RRead_out (by omega) fun p ms n e H3 sp sm ho k3 hp hm => step ⟨fun _ => h _, fun he => ?_⟩)
  subst he
  have hrd := ho.e0.1
  obtain ⟨an, rfl⟩ : ∃ an : Nat, a = an := ⟨a.toNat, by omega⟩
  have han : an ≤ ls.length := by omega
  obtain ⟨kn, hk12, hke⟩ := kind_ok k
  rw [hke]
  refine ⟨by omega, by omega, ?_⟩
  have hkb : kn < bads.length := hk12
  refine wp_gxG (v := .str (S bads[kn])) (by
    rw [show 0 + (kn : Int).toNat * 1 = kn by omega]
    show (bads.map fun b => HV.str (S b))[kn]? = _
    rw [List.getElem?_map, List.getElem?_eq_getElem hkb]; rfl) ?_
  have hb := List.getElem_mem hkb
  generalize bads[kn] = b at *
  obtain ⟨b1, b2, b3⟩ := bads_len b hb
  have K3 := K2.trans k3
  have hfin := read_fault hj hrd han hb
  have hs3 := hs.keeps K3.k
  have hll := lines_len ls
  have hl1 : (if ls = [] then 0 else 1) ≤ 1 := by split <;> omega
  -- how long what is built may be
  have hbl : ∀ i, ((insL ls an b i).flatMap fun l => l ++ [(10 : UInt8)]).length ≤ 2100 := by
    intro i
    have pre : ∀ (A B : List Bs), (A.flatMap fun l => l ++ [(10 : UInt8)]).length ≤ ((A ++ B).flatMap fun l => l ++ [(10 : UInt8)]).length := fun A B => by simp
    unfold insL
    split
    · have := pre (ls.take i) (ls.drop i)
      rw [List.take_append_drop] at this; omega
    · have e := lines_ins (ls.take an) ((ls.drop an).take (i - an)) b
      have := pre (ls.take an ++ (ls.drop an).take (i - an)) ((ls.drop an).drop (i - an))
      rw [List.append_assoc, List.take_append_drop, List.take_append_drop] at this
      omega
  have hxl : ∀ l ∈ ls, l.length ≤ 2048 := fun l hl => by
    obtain ⟨i, hi⟩ := List.mem_iff_getElem?.1 hl
    exact (hj.2 i l hi).1
  refine step ?_
  refine wp_for (σ := Bs) (ls.length + 1) (len := (s.len : Int) + 1) (by have := hj.1; omega) (by rw [hlen]; omega) (fun x i => [.str (S x), I i]) (out := fun x => [.str (S x)]) (fun _ _ => cond_le' _ _ _ _) rfl
    (fun i x H' => H' = H3 ∧ x = (insL ls an b i).flatMap fun l => l ++ [10]) [] rfl ⟨rfl, by simp [insL]⟩ ?_ ?_
  · rintro i x H4 hi ⟨rfl, hxe⟩
    have hxs : x.length ≤ 2100 := by rw [hxe]; exact hbl i
    have hsx := S_size x
    have hsb := S_size b
    have z1 : (ByteArray.mk #[10]).size = 1 := rfl
    have e10 : ByteArray.mk #[10] = S [10] := rfl
    refine wp_blk ?_
    refine wp_jnV [.str (S (x ++ if i = an then b ++ [10] else []))] ?_ ?_
    · refine step ⟨fun c => ⟨by omega, ?_, ?_⟩, fun c => ?_⟩
      · rw [S_app, z1]; simp only [S_size, List.length_append]; omega
      · rw [if_pos (by omega), e10, S_app, S_app, List.append_assoc]
      · rw [if_neg (by omega), List.append_nil]
    · have hyl : (x ++ if i = an then b ++ [10] else []).length ≤ 2200 := by
        rw [List.length_append]; split
        · simp; omega
        · simp; omega
      have hnext : (insL ls an b (i + 1)).flatMap (fun l => l ++ [(10 : UInt8)]) = (x ++ if i = an then b ++ [10] else []) ++ (match ls[i]? with | some l => l ++ [10] | none => []) := by
        rw [hxe]
        unfold insL
        rcases Nat.lt_trichotomy i an with h1 | h1 | h1
        · have hil : i < ls.length := by omega
          rw [if_pos (by omega), if_pos (by omega), if_neg (by omega), List.take_succ_eq_append_getElem hil, List.getElem?_eq_getElem hil, List.flatMap_append, List.append_nil]
          simp only [List.flatMap_cons, List.flatMap_nil, List.append_nil]
        · subst h1
          rw [if_neg (by omega), if_pos (by omega), if_pos rfl, show i + 1 - i = 1 by omega]
          rcases Nat.lt_or_ge i ls.length with h2 | h2
          · rw [List.drop_eq_getElem_cons h2, List.getElem?_eq_getElem h2, List.take_succ_cons, List.take_zero, List.flatMap_append]
            simp only [List.flatMap_cons, List.flatMap_nil, List.append_nil, List.append_assoc]
          · rw [List.drop_eq_nil_of_le h2, List.getElem?_eq_none h2, List.take_nil, List.flatMap_append]
            simp only [List.flatMap_cons, List.flatMap_nil, List.append_nil]
        · rw [if_neg (by omega), if_neg (by omega), if_neg (by omega)]
          rcases Nat.lt_or_ge i ls.length with h2 | h2
          · have h3 : i - an < (ls.drop an).length := by rw [List.length_drop]; omega
            rw [show i + 1 - an = i - an + 1 by omega, List.take_succ_eq_append_getElem h3, List.getElem?_eq_getElem h2]
            have : (ls.drop an)[i - an] = ls[i] := by rw [List.getElem_drop]; congr 1; omega
            rw [this, List.flatMap_append, List.flatMap_append]
            simp only [List.flatMap_cons, List.flatMap_append, List.flatMap_nil, List.append_nil, List.append_assoc]
          · have t1 : (ls.drop an).take (i + 1 - an) = ls.drop an := List.take_of_length_le (by rw [List.length_drop]; omega)
            have t2 : (ls.drop an).take (i - an) = ls.drop an := List.take_of_length_le (by rw [List.length_drop]; omega)
            rw [List.getElem?_eq_none h2, t1, t2]
            simp only [List.append_nil]
      generalize (x ++ if i = an then b ++ [10] else []) = y at *
      have hsy := S_size y
      refine step ⟨fun c => ?_, fun c => ?_⟩
      · have hil : i < ls.length := by omega
        rw [List.getElem?_eq_getElem hil] at hnext
        have hil2 := hxl _ (List.getElem_mem hil)
        refine wp_atS hs3 hil fun b' o' => ?_
        generalize ls[i] = l at *
        have hsl := S_size l
        refine step ⟨by omega, ?_, ⟨_, ?_, rfl, rfl⟩⟩
        · rw [S_app, z1]; simp only [S_size, List.length_append]; omega
        · rw [hnext, e10, S_app, S_app]
          simp only [List.append_assoc]
      · have hil : ls[i]? = none := List.getElem?_eq_none (by omega)
        rw [hil, List.append_nil] at hnext
        exact ⟨_, by rw [hnext], rfl, rfl⟩
  · rintro x H4 ⟨rfl, hxe⟩
    have hL : insL ls an b (ls.length + 1) = ls.take an ++ b :: ls.drop an := by
      unfold insL
      have t1 : (ls.drop an).take (ls.length + 1 - an) = ls.drop an := List.take_of_length_le (by rw [List.length_drop]; omega)
      rw [if_neg (by omega), t1]
    have hxs : x.length ≤ 2100 := by rw [hxe]; exact hbl _
    rw [hL] at hxe
    rw [← hxe] at hfin
    refine step ?_
    refine wp_bnd (Read_out hc hr (hG.kp K3) (by omega) fun q ms' n' e' H5 sq ho' k5 hq => step ?_)
    obtain ⟨rfl, _, rfl, rfl⟩ := Out.inj (.inr ⟨hfin, rfl, rfl⟩) ho'
    have hql := hq.lenI
    refine wp_jnV [.bool true] ?_ (step (h _))
    have hw : wr ((an : Int) + 1) = (an : Int) + 1 := wr_small (by omega) (by have := hj.1; omega)
    rw [hw]
    exact step ⟨fun _ => ⟨fun _ => rfl, fun c => absurd rfl c⟩, fun c => absurd hql c⟩
end
end Go.Proofs.YtmfmcegpoiinjaaDoor.HM
namespace Go.Proofs.YtmfmcegpoiinjaaDoor.HM
open Go
set_option maxRecDepth 100000

def haltB : Bs := [104, 97, 108, 116]
def haltL : Bs := [104, 97, 108, 116, 10]
theorem repeat_halt : ∀ n : Nat, Lib.repeatL haltL n = (List.replicate n haltB).flatMap fun l => l ++ [10] := by
  intro n
  induction n with
  | zero => rfl
  | succ n ih =>
    rw [List.replicate_succ, List.flatMap_cons, ← ih]
    rfl
abbrev insH : Ins := ⟨0, 0, 0, 0⟩
theorem said_haltB : said haltB = some (.ins insH []) := said_halt
/-- a pass over so many halts. -/
theorem pass_halt : ∀ (n i : Nat) (st : Sht) (B : List Bs), st.prog.length + n ≤ 48 → passS i (List.replicate n haltB ++ B) st = passS (i + n) B { st with prog := st.prog ++ List.replicate n insH }
  | 0, i, st, B, _ => by simp
  | n + 1, i, st, B, h => by
    have ht := take_ins' (n := (i : Int) + 1) (st := st) said_haltB (by omega)
    rw [if_pos rfl] at ht
    rw [List.replicate_succ, List.cons_append, passS_yes (by decide) ht, pass_halt n (i + 1) _ B (by simp; omega)]
    rw [show i + 1 + n = i + (n + 1) by omega, List.append_assoc]
    rfl
theorem pass_full {i : Nat} {st : Sht} {B : List Bs} (h : st.prog.length = 48) : passS i (haltB :: B) st = .inr (i + 1) := by
  refine passS_no (by decide) ?_
  unfold takeS; rw [said_haltB]
  exact if_pos (by omega)
theorem clean_halts (n : Nat) : ∀ l ∈ List.replicate n haltB, ∀ x ∈ l, x ≠ (10 : UInt8) := by
  intro l hl
  rw [(List.mem_replicate.1 hl).2]; decide
theorem halts_len (n : Nat) : ((List.replicate n haltB).flatMap fun l => l ++ [(10 : UInt8)]).length = 5 * n := by
  induction n with
  | zero => rfl
  | succ n ih => rw [List.replicate_succ, List.flatMap_cons, List.length_append, ih]; simp only [haltB, List.length_append, List.length_cons, List.length_nil]; omega
/-- so many halts, read. -/
def haltsT (n : Nat) : Bs := (List.replicate n haltB).flatMap fun l => l ++ [10]
theorem haltsT_len (n : Nat) : (haltsT n).length = 5 * n := halts_len n
theorem read_halts {n : Nat} (hn : n ≤ 100) : readS (haltsT n) = if n ≤ 48 then .inl (List.replicate n insH, []) else .inr (49, 60) := by
  have hl := haltsT_len n
  unfold readS
  rw [if_neg (by omega), show cutAt 10 (haltsT n) = _ from cut_lines _ (clean_halts n), pass_end2]
  by_cases h : n ≤ 48
  · have := pass_halt n 0 ⟨[], [], []⟩ [] (by simp; exact h)
    rw [List.append_nil, passS_end] at this
    rw [this, if_pos h]
    simp [linkS]
  · have e : List.replicate n haltB = List.replicate 48 haltB ++ haltB :: List.replicate (n - 49) haltB := by
      rw [← List.replicate_succ, List.replicate_append_replicate]; congr 1; omega
    rw [e, pass_halt 48 0 _ _ (by decide), pass_full (by simp), if_neg h]
    rfl
def markA : Bs := [58, 97]
def elseB : Bs := [101, 108, 115, 101, 32, 98]
theorem name_one {c : UInt8} (h : Ltr c) : nameOk [c] := ⟨by simp, by simp, fun i x hx => by
  cases i with
  | zero => simp at hx; subst hx; exact .inl h
  | succ i => simp at hx⟩
theorem said_markA : said markA = some (.mark [97]) := by
  unfold said
  rw [if_pos (by decide), show List.drop 1 markA = ([97] : Bs) from rfl, if_pos (name_one (by unfold Ltr; decide))]
theorem said_elseB : said elseB = some (.ins ⟨20, 0, 0, 0⟩ [98]) := by
  unfold said
  rw [if_neg (by decide), show cutAt 32 elseB = [[101, 108, 115, 101], [98]] by decide, show words.idxOf? (List.headD [[101, 108, 115, 101], [98]] []) = some 20 by decide]
  have : fieldsS shapes[20]! (List.drop 1 [[101, 108, 115, 101], [98]]) 0 [] [0, 0, 0] = some ([98], [0, 0, 0]) := by
    show fieldsS [103] [[98]] 0 [] [0, 0, 0] = _
    rw [fieldsS, if_pos rfl, if_pos (name_one (by unfold Ltr; decide))]; rfl
  simp only [this]
  rfl
/-- a mark, halts, something, halts. -/
theorem lens (a b : Nat) (x : Bs) : ((markA :: (List.replicate a haltB ++ x :: List.replicate b haltB)).flatMap fun l => l ++ [(10 : UInt8)]).length = 5 * (a + b) + x.length + 4 := by
  rw [List.flatMap_cons, List.flatMap_append, List.flatMap_cons]
  simp only [List.length_append, halts_len, markA, List.length_cons, List.length_nil]
  omega
theorem clean2 {a b : Nat} {x : Bs} (hx : ∀ c ∈ x, c ≠ (10 : UInt8)) : ∀ l ∈ markA :: (List.replicate a haltB ++ x :: List.replicate b haltB), ∀ c ∈ l, c ≠ (10 : UInt8) := by
  intro l hl
  rcases List.mem_cons.1 hl with rfl | hl
  · decide
  · rcases List.mem_append.1 hl with hl | hl
    · exact clean_halts a l hl
    · rcases List.mem_cons.1 hl with rfl | hl
      · exact hx
      · exact clean_halts b l hl
theorem read_twice {a b : Nat} (h : a + b ≤ 47) : readS ((markA :: (List.replicate a haltB ++ markA :: List.replicate b haltB)).flatMap fun l => l ++ [10]) = .inr ((a : Int) + 2, 60) := by
  have hl := lens a b markA
  have hm : markA.length = 2 := rfl
  unfold readS
  rw [if_neg (by omega), cut_lines _ (clean2 (by decide)), pass_end2]
  have t1 := take_mark' (n := ((0 : Nat) : Int) + 1) (st := ⟨[], [], []⟩) said_markA (by simp)
  rw [passS_yes (by decide) t1, pass_halt a (0 + 1) _ _ (by simp; omega), passS_no (by decide) (take_mark2 said_markA (by simp))]
  simp only
  congr 2
  omega
theorem read_nogoal {a b : Nat} (h : a + b ≤ 47) : readS ((markA :: (List.replicate a haltB ++ elseB :: List.replicate b haltB)).flatMap fun l => l ++ [10]) = .inr ((a : Int) + 2, 5) := by
  have hl := lens a b elseB
  have hm : elseB.length = 6 := rfl
  unfold readS
  rw [if_neg (by omega), cut_lines _ (clean2 (by decide)), pass_end2]
  have t1 := take_mark' (n := ((0 : Nat) : Int) + 1) (st := ⟨[], [], []⟩) said_markA (by simp)
  rw [passS_yes (by decide) t1, pass_halt a (0 + 1) _ _ (by simp; omega)]
  have t2 := fun st hlt => take_ins' (n := ((0 + 1 + a : Nat) : Int) + 1) (st := st) said_elseB hlt
  rw [passS_yes (by decide) (t2 _ (by simp; omega))]
  have := fun st hh => pass_halt b (0 + 1 + a + 1) st [] hh
  simp only [List.append_nil] at this
  rw [this _ (by simp; omega), passS_end]
  simp only [if_neg (show ¬ ([98] : Bs) = [] by decide), List.nil_append]
  rw [linkS]
  rw [show (List.find? (fun m => decide (m.name = ([98] : Bs))) [(⟨[97], ((0 : Nat) : Int) + 1, (([] : List Ins).length : Int)⟩ : Pl)]) = none by rfl]
  simp only
  congr 2
  omega
section
variable {D : HV → List HV → M HV} {H : Heap} {Q : HV → Heap → Prop}
theorem Repeat_wp {n : Nat} (hn : n ≤ 100) (h : Q (.str (S (haltsT n))) H) : wp (f_strings_Repeat D [.str (S haltL), I n]) Q H := by
  unfold f_strings_Repeat
  have hs : (S haltL).size = 5 := rfl
  refine step ⟨?_, ?_⟩
  · rw [hs]; simp; omega
  · have e : Lib.repeatL (S haltL).data.toList (n : Int).toNat = haltsT n := by
      rw [Int.toNat_natCast, show (S haltL).data.toList = haltL from rfl, repeat_halt]; rfl
    rw [e]; exact wp_ret h
theorem LabelFull_wp {cl : List (Nat × Clo)} {rn : List (Nat × Rnd)} {D0 : DD} (hc : lkA cl n_label_lines_1 = some f_label_lines_1) (hr : lkA rn 96110293 = some r0_label_read) (hG : Gl H)
    {n a : Int} (_hn : Int64 n) (_ha : Int64 a) (h : ∀ H', Q (.bool true) H') : wp (f_law26_LabelFull (stepD cl rn (stepD cl rn D0)) [I n, I a]) Q H := by
  unfold f_law26_LabelFull
  refine step (wp_bnd (alive_wp hc hr hG fun H1 k1 => step ?_))
  refine wp_jnP (¬ (0 ≤ n ∧ n ≤ 100 ∧ 0 ≤ a ∧ a ≤ n)) ?_ (fun _ => step (h _)) (fun hb => step ?_)
  · refine step ⟨fun c => ⟨fun _ hh => by omega, fun _ => rfl⟩, fun c => ⟨fun c2 => ⟨fun _ hh => by omega, fun _ => rfl⟩, fun c2 => ⟨fun c3 => ⟨fun _ hh => by omega, fun _ => rfl⟩, fun c3 => ?_⟩⟩⟩
    rw [decide_eq_true_eq]; omega
  obtain ⟨nn, rfl⟩ : ∃ nn : Nat, n = nn := ⟨n.toNat, by omega⟩
  obtain ⟨an, rfl⟩ : ∃ an : Nat, a = an := ⟨a.toNat, by omega⟩
  have G1 := hG.kp k1
  refine wp_bnd (Repeat_wp (n := nn) (by omega) (step ?_))
  have hl1 := haltsT_len nn
  refine wp_bnd (Read_out hc hr G1 (by omega) fun p ms k e H2 sp ho k2 hp => step ?_)
  have hrh := read_halts (n := nn) (by omega)
  have hpl := hp.lenI
  have G2 := G1.kp k2
  refine wp_jnR (fun H' => H' = H2) ?_ ?_
  · refine step ⟨fun c => ?_, fun c => ?_⟩
    · rw [if_neg (by omega)] at hrh
      obtain ⟨rfl, _, rfl, rfl⟩ := Out.inj (.inr ⟨hrh, rfl, rfl⟩) ho
      refine wp_jnV [.bool false] ?_ (step rfl)
      refine step ⟨fun c => absurd hpl c, fun _ => ⟨fun c => absurd rfl c, fun _ => by rfl⟩⟩
    · rw [if_pos (by omega)] at hrh
      obtain ⟨rfl, _, rfl, rfl⟩ := Out.inj (.inl ⟨hrh, rfl, rfl⟩) ho
      rw [List.length_replicate] at hpl
      refine wp_jnV [.bool false] ?_ (step rfl)
      refine step ⟨fun c => absurd hpl c, fun _ => ⟨fun c => absurd rfl c, fun _ => by rfl⟩⟩
  rintro H' rfl
  refine step ⟨fun _ => h _, fun c => ?_⟩
  have hla := haltsT_len an
  have hlb := haltsT_len (nn - an)
  have hsa := S_size (haltsT an)
  have hsb := S_size (haltsT (nn - an))
  have z1 : (ByteArray.mk #[58, 97, 10]).size = 3 := rfl
  have z2 : (ByteArray.mk #[101, 108, 115, 101, 32, 98, 10]).size = 7 := rfl
  have hsub : wr ((nn : Int) - an) = ((nn - an : Nat) : Int) := by rw [wr_small (by omega) (by omega)]; omega
  have e1 : ByteArray.mk #[58, 97, 10] = S (markA ++ [10]) := rfl
  have e2 : ByteArray.mk #[101, 108, 115, 101, 32, 98, 10] = S (elseB ++ [10]) := rfl
  rw [hsub]
  have hsz : ∀ x y : ByteArray, (x ++ y).size = x.size + y.size := fun x y => ByteArray.size_append
  refine wp_bnd (Repeat_wp (n := an) (by omega) (step ⟨by omega, by rw [hsz]; omega, ?_⟩))
  refine wp_bnd (Repeat_wp (n := nn - an) (by omega) (step ⟨by rw [hsz, hsz]; omega, ?_⟩))
  have s1 : ((ByteArray.mk #[58, 97, 10] ++ S (haltsT an)) ++ ByteArray.mk #[58, 97, 10]) ++ S (haltsT (nn - an)) = S ((markA :: (List.replicate an haltB ++ markA :: List.replicate (nn - an) haltB)).flatMap fun l => l ++ [10]) := by
    rw [e1, S_app, S_app, S_app]
    congr 1
    simp only [haltsT, List.flatMap_cons, List.flatMap_append, List.append_assoc]
  rw [s1]
  have hr2 := read_twice (a := an) (b := nn - an) (by omega)
  have hn2 := lens an (nn - an) markA
  have hm2 : markA.length = 2 := rfl
  refine wp_bnd (Read_out hc hr G2 (by omega) fun p2 ms2 k2' e2' H3 sp2 ho2 k3 hp2 => step ?_)
  obtain ⟨_, _, rfl, rfl⟩ := Out.inj (.inr ⟨hr2, rfl, rfl⟩) ho2
  refine wp_bnd (Repeat_wp (n := an) (by omega) (step ⟨by omega, by rw [hsz]; omega, ?_⟩))
  refine wp_bnd (Repeat_wp (n := nn - an) (by omega) (step ⟨by rw [hsz, hsz]; omega, ?_⟩))
  have s2 : ((ByteArray.mk #[58, 97, 10] ++ S (haltsT an)) ++ ByteArray.mk #[101, 108, 115, 101, 32, 98, 10]) ++ S (haltsT (nn - an)) = S ((markA :: (List.replicate an haltB ++ elseB :: List.replicate (nn - an) haltB)).flatMap fun l => l ++ [10]) := by
    rw [e1, e2, S_app, S_app, S_app]
    congr 1
    simp only [haltsT, List.flatMap_cons, List.flatMap_append, List.append_assoc]
  rw [s2]
  have hr3 := read_nogoal (a := an) (b := nn - an) (by omega)
  have hn3 := lens an (nn - an) elseB
  have hm3 : elseB.length = 6 := rfl
  refine wp_bnd (Read_out hc hr (G2.kp k3) (by omega) fun p3 ms3 k3' e3' H4 sp3 ho3 k4 hp3 => step ?_)
  obtain ⟨_, _, rfl, rfl⟩ := Out.inj (.inr ⟨hr3, rfl, rfl⟩) ho3
  have hw : wr ((an : Int) + 2) = (an : Int) + 2 := wr_small (by omega) (by omega)
  rw [hw]
  refine wp_jnV [.bool true] ?_ (step (h _))
  exact step ⟨fun _ => ⟨fun _ => ⟨fun _ => rfl, fun c => absurd rfl c⟩, fun c => absurd rfl c⟩, fun c => absurd rfl c⟩
end
end Go.Proofs.YtmfmcegpoiinjaaDoor.HM
namespace Go.Proofs.YtmfmcegpoiinjaaDoor.HM
open Go
set_option maxRecDepth 100000

/-- w stands in s. -/
def Has (w s : Bs) : Prop := ∃ a b, s = a ++ w ++ b
theorem has_contains {s w : Bs} (h : Lib.contains s w = false) : ¬ Has w s := by
  rintro ⟨a, b, rfl⟩
  unfold Lib.contains at h
  rw [decide_eq_false_iff_not] at h
  rcases Lib.index_spec (a ++ w ++ b) w with ⟨_, h2⟩ | ⟨i, h1, _⟩
  · have := h2 a.length
    unfold Lib.occAt at this
    rw [List.append_assoc, List.drop_left] at this
    have h3 : w.isPrefixOf (w ++ b) = true := by rw [List.isPrefixOf_iff_prefix]; exact List.prefix_append w b
    rw [h3] at this
    have := this (by simp)
    cases this
  · omega
theorem Has.mid {w s a b : Bs} (h : Has w s) : Has w (a ++ s ++ b) := by
  obtain ⟨x, y, rfl⟩ := h
  exact ⟨a ++ x, y ++ b, by simp⟩
theorem has_line : ∀ {ls : List Bs} {l w : Bs}, l ∈ ls → Has w l → Has w (joinL ls) := by
  intro ls l w hl h
  obtain ⟨A, B, rfl⟩ := List.append_of_mem hl
  have : ∃ a b, joinL (A ++ l :: B) = a ++ l ++ b := by
    cases A with
    | nil => exact ⟨[], B.flatMap fun m => 10 :: m, by simp [joinL]⟩
    | cons x A => exact ⟨x ++ (A.flatMap fun m => 10 :: m) ++ [10], B.flatMap fun m => 10 :: m, by simp [joinL]⟩
  obtain ⟨a, b, e⟩ := this
  rw [e]; exact h.mid
theorem cut_first {c : UInt8} : ∀ {r p : Bs} {ps : List Bs}, cutAt c r = p :: ps → ∃ b, r = p ++ b
  | [], p, ps, e => by
    simp [cutAt] at e
    exact ⟨[], by rw [e.1]; rfl⟩
  | y :: r, p, ps, e => by
    rw [cutAt] at e
    split at e
    · cases e; exact ⟨y :: r, rfl⟩
    · split at e
      · cases e; exact ⟨r, rfl⟩
      · rename_i e2
        cases e
        obtain ⟨b, hb⟩ := cut_first e2
        exact ⟨b, by rw [hb]; rfl⟩
theorem cut_has {c : UInt8} : ∀ (l x : Bs), x ∈ cutAt c l → ∃ a b, l = a ++ x ++ b
  | [], x, h => by simp [cutAt] at h; subst h; exact ⟨[], [], rfl⟩
  | d :: r, x, h => by
    have ih := cut_has (c := c) r
    rw [cutAt] at h
    split at h
    · rename_i hd
      rcases List.mem_cons.1 h with rfl | h
      · exact ⟨[], d :: r, rfl⟩
      · obtain ⟨a, b, e⟩ := ih x h
        exact ⟨d :: a, b, by rw [e]; rfl⟩
    · split at h
      · rename_i e
        simp at h; subst h
        exact ⟨[], r, rfl⟩
      · rename_i p ps e
        rcases List.mem_cons.1 h with rfl | h
        · -- the first piece stands at the beginning
          have hp := cut_first e
          obtain ⟨b, hb⟩ := hp
          exact ⟨[], b, by rw [hb]; rfl⟩
        · obtain ⟨a, b, e2⟩ := ih x (by rw [e]; exact List.mem_cons_of_mem _ h)
          exact ⟨d :: a, b, by rw [e2]; rfl⟩
theorem fields_mem : ∀ (sh : Bs) (xs : List Bs) (i : Nat) (g : Bs) (f : List Int) (r : Bs × List Int), fieldsS sh xs i g f = some r → r.1 = g ∨ r.1 ∈ xs
  | [], xs, i, g, f, r, h => by have := fields_nil h; subst this; exact .inl rfl
  | c :: sh, [], i, g, f, r, h => by simp [fieldsS] at h
  | c :: sh, x :: xs, i, g, f, r, h => by
    rw [fieldsS] at h
    split at h
    · split at h
      · rcases fields_mem sh xs _ _ _ r h with h2 | h2
        · exact .inr (by rw [h2]; exact List.mem_cons_self)
        · exact .inr (List.mem_cons_of_mem _ h2)
      · cases h
    · split at h
      · rcases fields_mem sh xs _ _ _ r h with h2 | h2
        · exact .inl h2
        · exact .inr (List.mem_cons_of_mem _ h2)
      · cases h
theorem said_mark_has {s m : Bs} (h : said s = some (.mark m)) : Has m s := by
  have hh := (said_mark_head h).1
  unfold said at h
  rw [if_pos hh] at h
  split at h
  · cases h
    cases s with
    | nil => cases hh
    | cons c r => exact ⟨[c], [], by simp⟩
  · cases h
theorem said_ins_has {s g : Bs} {x : Ins} (h : said s = some (.ins x g)) : g = [] ∨ Has g s := by
  have hh := said_ins_head h
  unfold said at h
  rw [if_neg hh] at h
  split at h
  · cases h
  · split at h
    · rename_i g' f hf
      cases h
      rcases fields_mem _ _ _ _ _ _ hf with h2 | h2
      · exact .inl h2
      · exact .inr (cut_has s _ (List.mem_of_mem_drop h2))
    · cases h
def z8 : Bs := [122, 122, 122, 122, 122, 122, 122, 122]
def zz : Bs := 58 :: z8
theorem said_zz : said zz = some (.mark z8) := by
  unfold said
  rw [if_pos (by decide), show List.drop 1 zz = z8 from rfl, if_pos]
  refine ⟨by decide, by decide, fun i c h => ?_⟩
  have : ∀ x ∈ z8, 97 ≤ x.toNat ∧ x.toNat ≤ 122 := by decide
  exact .inl (this c (List.mem_of_getElem? h))

/-! what was read, and what was read with the two lines -/
def shN (a : Nat) (n : Int) : Int := if n > a then n + 2 else n
structure Rz (a : Nat) (st st' : Sht) : Prop where
  prog : st'.prog = st.prog
  marks : (st'.marks.filter fun m => decide (m.name ≠ z8)).map nmAt = st.marks.map nmAt
  goals : st'.goals = st.goals.map fun g => { g with line := shN a g.line }
  noM : ∀ m ∈ st.marks, m.name ≠ z8
  noG : ∀ g ∈ st.goals, g.name ≠ z8
theorem names_iff {a : Nat} {st st' : Sht} (h : Rz a st st') {m : Bs} (hm : m ≠ z8) : m ∈ st'.marks.map Pl.name ↔ m ∈ st.marks.map Pl.name := by
  rw [names_map rfl, names_map rfl, ← h.marks]
  constructor
  · intro hh
    obtain ⟨x, hx, rfl⟩ := List.mem_map.1 hh
    obtain ⟨y, hy, rfl⟩ := List.mem_map.1 hx
    exact List.mem_map.2 ⟨nmAt y, List.mem_map.2 ⟨y, List.mem_filter.2 ⟨hy, by simpa using hm⟩, rfl⟩, rfl⟩
  · intro hh
    obtain ⟨x, hx, rfl⟩ := List.mem_map.1 hh
    obtain ⟨y, hy, rfl⟩ := List.mem_map.1 hx
    exact List.mem_map.2 ⟨nmAt y, List.mem_map.2 ⟨y, (List.mem_filter.1 hy).1, rfl⟩, rfl⟩
theorem Rz.take {a : Nat} {st st' : Sht} (h : Rz a st st') {n : Int} (hn : n > a) {s : Bs} (hs : ¬ Has z8 s) :
    (takeS n s st = none ∧ takeS (n + 2) s st' = none) ∨ ∃ t t', takeS n s st = some t ∧ takeS (n + 2) s st' = some t' ∧ Rz a t t' := by
  cases hy : said s with
  | none => exact .inl ⟨take_none hy, take_none hy⟩
  | some y => cases y with
    | mark m =>
      have hm : m ≠ z8 := fun e => hs (by rw [← e]; exact said_mark_has hy)
      have hi := names_iff h hm
      by_cases hmem : m ∈ st.marks.map Pl.name
      · exact .inl ⟨take_mark2 hy hmem, take_mark2 hy (hi.2 hmem)⟩
      · refine .inr ⟨_, _, take_mark' hy hmem, take_mark' hy (fun hh => hmem (hi.1 hh)), h.prog, ?_, h.goals, fun x hx => ?_, h.noG⟩
        · simp only [List.filter_append, List.map_append, h.marks, h.prog]
          congr 1
          rw [List.filter_cons_of_pos (by simpa using hm)]; rfl
        · rcases List.mem_append.1 hx with hx | hx
          · exact h.noM x hx
          · simp at hx; subst hx; exact hm
    | ins x g =>
      have hg : g ≠ z8 := fun e => by
        rcases said_ins_has hy with h2 | h2
        · rw [h2] at e; cases e
        · exact hs (by rw [← e]; exact h2)
      by_cases hl : st.prog.length < 48
      · have t1 := take_ins' (n := n) hy hl
        have t2 := take_ins' (n := n + 2) (st := st') hy (by rw [h.prog]; exact hl)
        refine .inr ⟨_, _, t1, t2, by simp only [h.prog], h.marks, ?_, h.noM, fun y hy2 => ?_⟩
        · simp only
          split
          · exact h.goals
          · rw [List.map_append, h.goals, h.prog]
            have : shN a n = n + 2 := by unfold shN; rw [if_pos hn]
            simp [this]
        · simp only at hy2
          split at hy2
          · exact h.noG y hy2
          · rcases List.mem_append.1 hy2 with hy2 | hy2
            · exact h.noG y hy2
            · simp at hy2; subst hy2; exact hg
      · refine .inl ⟨?_, ?_⟩
        · unfold takeS; rw [hy]; exact if_pos (by omega)
        · unfold takeS; rw [hy]; exact if_pos (by rw [h.prog]; omega)
theorem pass_z {a : Nat} : ∀ (ls : List Bs) (i : Nat) (st st' : Sht), a ≤ i → Rz a st st' → (∀ l ∈ ls, ¬ Has z8 l) →
    (∃ n, passS i ls st = .inr n ∧ passS (i + 2) ls st' = .inr (n + 2) ∧ i < n ∧ n ≤ i + ls.length) ∨ ∃ t t', passS i ls st = .inl t ∧ passS (i + 2) ls st' = .inl t' ∧ Rz a t t'
  | [], i, st, st', _, h, _ => .inr ⟨st, st', by rw [passS_end], by rw [passS_end], h⟩
  | [] :: ls, i, st, st', hi, h, hz => by
    have := pass_z ls (i + 1) st st' (by omega) h fun l hl => hz l (List.mem_cons_of_mem _ hl)
    rw [passS_nil, passS_nil, show i + 2 + 1 = i + 1 + 2 by omega]
    rcases this with ⟨n, h1, h2, h3, h4⟩ | h1
    · exact .inl ⟨n, h1, h2, by omega, by simp; omega⟩
    · exact .inr h1
  | (c :: r) :: ls, i, st, st', hi, h, hz => by
    have hne : (c :: r : Bs) ≠ [] := by simp
    have e2 : (((i + 2 : Nat) : Int) + 1) = ((i : Int) + 1) + 2 := by omega
    rcases h.take (n := (i : Int) + 1) (by omega) (hz _ List.mem_cons_self) with ⟨h1, h2⟩ | ⟨t, t', h1, h2, h3⟩
    · rw [← e2] at h2
      exact .inl ⟨i + 1, passS_no hne h1, by rw [passS_no hne h2], by omega, by simp⟩
    · rw [← e2] at h2
      rw [passS_yes hne h1, passS_yes hne h2, show i + 2 + 1 = i + 1 + 2 by omega]
      rcases pass_z ls (i + 1) t t' (by omega) h3 fun l hl => hz l (List.mem_cons_of_mem _ hl) with ⟨n, q1, q2, q3, q4⟩ | q
      · exact .inl ⟨n, q1, q2, by omega, by simp; omega⟩
      · exact .inr q
theorem pass_err : ∀ (ls : List Bs) (i : Nat) (st : Sht) (n : Nat), passS i ls st = .inr n → i < n ∧ n ≤ i + ls.length
  | [], i, st, n, h => by rw [passS_end] at h; cases h
  | [] :: ls, i, st, n, h => by
    rw [passS_nil] at h
    have := pass_err ls (i + 1) st n h
    simp; omega
  | (c :: r) :: ls, i, st, n, h => by
    have hne : (c :: r : Bs) ≠ [] := by simp
    cases e : takeS ((i : Int) + 1) (c :: r) st with
    | none => rw [passS_no hne e] at h; cases h; simp
    | some t =>
      rw [passS_yes hne e] at h
      have := pass_err ls (i + 1) t n h
      simp; omega
/-- what a pass over lines without that name leaves. -/
structure Nz (i : Nat) (st : Sht) : Prop where
  m : ∀ m ∈ st.marks, m.name ≠ z8
  g : ∀ g ∈ st.goals, g.name ≠ z8 ∧ 0 ≤ g.line ∧ g.line ≤ i
theorem pass_nz : ∀ (ls : List Bs) (i : Nat) (st st' : Sht), passS i ls st = .inl st' → Nz i st → (∀ l ∈ ls, ¬ Has z8 l) → Nz (i + ls.length) st'
  | [], i, st, st', h, hb, _ => by rw [passS_end] at h; cases h; exact hb
  | [] :: ls, i, st, st', h, hb, hz => by
    rw [passS_nil] at h
    have := pass_nz ls (i + 1) st st' h ⟨hb.m, fun g hg => by have := hb.g g hg; exact ⟨this.1, this.2.1, by omega⟩⟩ fun l hl => hz l (List.mem_cons_of_mem _ hl)
    rw [List.length_cons, show i + (ls.length + 1) = i + 1 + ls.length by omega]; exact this
  | (c :: r) :: ls, i, st, st', h, hb, hz => by
    have hne : (c :: r : Bs) ≠ [] := by simp
    have hs := hz _ List.mem_cons_self
    cases e : takeS ((i : Int) + 1) (c :: r) st with
    | none => rw [passS_no hne e] at h; cases h
    | some t =>
      rw [passS_yes hne e] at h
      have up : ∀ g ∈ st.goals, g.name ≠ z8 ∧ 0 ≤ g.line ∧ g.line ≤ ((i + 1 : Nat) : Int) := fun g hg => by have := hb.g g hg; exact ⟨this.1, this.2.1, by omega⟩
      have hn : Nz (i + 1) t := by
        cases hy : said (c :: r) with
        | none => rw [take_none hy] at e; cases e
        | some y => cases y with
          | mark m =>
            have := take_mark hy e; subst this
            refine ⟨fun x hx => ?_, up⟩
            rcases List.mem_append.1 hx with hx | hx
            · exact hb.m x hx
            · simp at hx; subst hx
              exact fun e => hs (by rw [← e]; exact said_mark_has hy)
          | ins x g =>
            have := take_ins hy e; subst this
            refine ⟨hb.m, fun y hy2 => ?_⟩
            simp only at hy2
            split at hy2
            · exact up y hy2
            · rcases List.mem_append.1 hy2 with hy2 | hy2
              · exact up y hy2
              · simp at hy2; subst hy2
                refine ⟨fun e => ?_, by simp only; omega, by simp only; omega⟩
                rcases said_ins_has hy with h2 | h2
                · rw [h2] at e; cases e
                · exact hs (by rw [← e]; exact h2)
      have := pass_nz ls (i + 1) t st' h hn fun l hl => hz l (List.mem_cons_of_mem _ hl)
      rw [List.length_cons, show i + (ls.length + 1) = i + 1 + ls.length by omega]; exact this
theorem find_filter {w : Bs} (hw : w ≠ z8) : ∀ (l : List Pl), (l.find? fun m => decide (m.name = w)) = ((l.filter fun m => decide (m.name ≠ z8)).find? fun m => decide (m.name = w))
  | [] => rfl
  | m :: l => by
    have ih := find_filter hw l
    by_cases h : m.name = z8
    · rw [List.filter_cons_of_neg (by simpa using h), ← ih, List.find?_cons_of_neg]
      simp only [decide_eq_true_eq]; intro e; exact hw (by rw [← e, h])
    · rw [List.filter_cons_of_pos (by simpa using h)]
      by_cases h2 : m.name = w
      · rw [List.find?_cons_of_pos (by simpa using h2), List.find?_cons_of_pos (by simpa using h2)]
      · rw [List.find?_cons_of_neg (by simpa using h2), List.find?_cons_of_neg (by simpa using h2), ih]
theorem find_z {a : Nat} {st st' : Sht} (h : Rz a st st') {w : Bs} (hw : w ≠ z8) : (st'.marks.find? fun m => decide (m.name = w)).map nmAt = (st.marks.find? fun m => decide (m.name = w)).map nmAt := by
  rw [find_filter hw]
  have e : ∀ l : List Pl, (l.find? fun m => decide (m.name = w)).map nmAt = (l.map nmAt).find? fun x => decide (x.1 = w) := fun l => by rw [List.find?_map]; rfl
  rw [e, e, h.marks]
theorem link_z {a : Nat} {st st' : Sht} (h : Rz a st st') : ∀ (gs : List Pl) (p : List Ins), (∀ g ∈ gs, g.name ≠ z8) → (∃ q, linkS gs st.marks p = .inl q ∧ linkS (gs.map fun g => { g with line := shN a g.line }) st'.marks p = .inl q) ∨
    ∃ g ∈ gs, linkS gs st.marks p = .inr g.line ∧ linkS (gs.map fun g => { g with line := shN a g.line }) st'.marks p = .inr (shN a g.line)
  | [], p, _ => .inl ⟨p, rfl, rfl⟩
  | g :: gs, p, hg => by
    have hf := find_z h (hg g List.mem_cons_self)
    rw [List.map_cons, linkS, linkS]
    simp only
    cases e1 : st.marks.find? fun m => decide (m.name = g.name) with
    | none =>
      rw [e1] at hf
      cases e2 : st'.marks.find? fun m => decide (m.name = g.name) with
      | none => exact .inr ⟨g, List.mem_cons_self, rfl, rfl⟩
      | some m => rw [e2] at hf; cases hf
    | some m =>
      rw [e1] at hf
      cases e2 : st'.marks.find? fun m => decide (m.name = g.name) with
      | none => rw [e2] at hf; cases hf
      | some m' =>
        rw [e2] at hf
        simp only [Option.map_some, Option.some.injEq, nmAt, Prod.mk.injEq] at hf
        simp only
        rw [hf.2]
        rcases link_z h gs (setA p g.at_.toNat m.at_) fun g hg' => hg g (List.mem_cons_of_mem _ hg') with ⟨q, q1, q2⟩ | ⟨g', hg', q1, q2⟩
        · exact .inl ⟨q, q1, q2⟩
        · exact .inr ⟨g', List.mem_cons_of_mem _ hg', q1, q2⟩
/-- THE TWO LINES PLAY NO PART. -/
theorem read_blank {ls : List Bs} (hcl : ∀ l ∈ ls, ∀ x ∈ l, x ≠ (10 : UInt8)) (hl : (joinL ls).length ≤ 4096) (hn : ls.length ≤ 60) {a : Nat} (ha : a ≤ ls.length) (hz : ∀ l ∈ ls, ¬ Has z8 l) (hl2 : (joinL (ls.take a ++ [] :: zz :: ls.drop a)).length ≤ 4096) :
    (∃ p ms ms', readS (joinL ls) = .inl (p, ms) ∧ readS (joinL (ls.take a ++ [] :: zz :: ls.drop a)) = .inl (p, ms')) ∨
    ∃ n e, readS (joinL ls) = .inr (n, e) ∧ 0 ≤ n ∧ n ≤ 100 ∧ readS (joinL (ls.take a ++ [] :: zz :: ls.drop a)) = .inr (shN a n, e) := by
  have hcl2 : ∀ l ∈ ls.take a ++ [] :: zz :: ls.drop a, ∀ x ∈ l, x ≠ (10 : UInt8) := by
    intro l hl
    rcases List.mem_append.1 hl with hl | hl
    · exact hcl l (List.mem_of_mem_take hl)
    · rcases List.mem_cons.1 hl with rfl | hl
      · intro x hx; cases hx
      · rcases List.mem_cons.1 hl with rfl | hl
        · decide
        · exact hcl l (List.mem_of_mem_drop hl)
  have hta : (ls.take a).length = a := by simp; omega
  have hda : (ls.drop a).length = ls.length - a := by simp
  have r1 : readS (joinL ls) = match passS 0 ls ⟨[], [], []⟩ with
      | .inr n => .inr (n, 60)
      | .inl st => match linkS st.goals st.marks st.prog with
        | .inr n => .inr (n, 5)
        | .inl p => .inl (p, st.marks) := by unfold readS; rw [if_neg (by omega), pass_join hcl] <;> rfl
  have r2 : readS (joinL (ls.take a ++ [] :: zz :: ls.drop a)) = match passS 0 (ls.take a ++ [] :: zz :: ls.drop a) ⟨[], [], []⟩ with
      | .inr n => .inr (n, 60)
      | .inl st => match linkS st.goals st.marks st.prog with
        | .inr n => .inr (n, 5)
        | .inl p => .inl (p, st.marks) := by unfold readS; rw [if_neg (by omega), pass_join hcl2] <;> rfl
  have p1 : passS 0 ls ⟨[], [], []⟩ = passS 0 (ls.take a ++ ls.drop a) ⟨[], [], []⟩ := by rw [List.take_append_drop]
  rw [pass_app, Nat.zero_add, hta] at p1
  rw [pass_app, Nat.zero_add, hta] at r2
  cases hq : passS 0 (ls.take a) ⟨[], [], []⟩ with
  | inr n =>
    rw [hq] at p1 r2
    simp only at p1 r2
    rw [p1] at r1
    simp only at r1
    have he := pass_err _ _ _ _ hq
    rw [hta] at he
    refine .inr ⟨n, 60, r1, by omega, by omega, ?_⟩
    rw [r2]
    unfold shN
    rw [if_neg (by omega)]
  | inl st =>
    rw [hq] at p1 r2
    simp only at p1 r2
    have hnz := pass_nz _ _ _ _ hq ⟨by simp, by simp⟩ fun l hl => hz l (List.mem_of_mem_take hl)
    rw [hta, Nat.zero_add] at hnz
    have hnm : z8 ∉ st.marks.map Pl.name := fun h => by
      obtain ⟨m, hm, e⟩ := List.mem_map.1 h
      exact hnz.m m hm e
    have t1 := take_mark' (n := ((a + 1 : Nat) : Int) + 1) said_zz hnm
    rw [passS_nil, passS_yes (by decide) t1] at r2
    have hR : Rz a st { st with marks := st.marks ++ [⟨z8, ((a + 1 : Nat) : Int) + 1, st.prog.length⟩] } := by
      refine ⟨rfl, ?_, ?_, hnz.m, fun g hg => (hnz.g g hg).1⟩
      · simp only [List.filter_append, List.map_append]
        rw [List.filter_eq_self.2 (fun m hm => by simpa using hnz.m m hm), List.filter_cons_of_neg (by simp)]
        simp
      · simp only
        have : ∀ gs : List Pl, (∀ g ∈ gs, g.line ≤ (a : Int)) → gs = gs.map fun g => { g with line := shN a g.line } := by
          intro gs
          induction gs with
          | nil => intro _; rfl
          | cons g gs ih =>
            intro h
            rw [List.map_cons, ← ih fun g hg => h g (List.mem_cons_of_mem _ hg)]
            have : shN a g.line = g.line := by unfold shN; rw [if_neg (by have := h g List.mem_cons_self; omega)]
            rw [this]
        exact this _ fun g hg => (hnz.g g hg).2.2
    rcases pass_z (ls.drop a) a st _ (Nat.le_refl _) hR fun l hl => hz l (List.mem_of_mem_drop hl) with ⟨n, q1, q2, q3, q4⟩ | ⟨t, t', q1, q2, q3⟩
    · rw [q1] at p1
      rw [show a + 1 + 1 = a + 2 by omega, q2] at r2
      rw [p1] at r1
      simp only at r1 r2
      refine .inr ⟨n, 60, r1, by omega, by omega, ?_⟩
      rw [r2]
      unfold shN
      rw [if_pos (by omega)]
      congr 2
    · rw [q1] at p1
      rw [show a + 1 + 1 = a + 2 by omega, q2] at r2
      rw [p1] at r1
      simp only at r1 r2
      have hnt := pass_nz _ _ _ _ p1 ⟨by simp, by simp⟩ hz
      rw [Nat.zero_add] at hnt
      rw [q3.goals, q3.prog] at r2
      rcases link_z q3 t.goals t.prog q3.noG with ⟨q, w1, w2⟩ | ⟨g, hg, w1, w2⟩
      · rw [w1] at r1
        rw [w2] at r2
        exact .inl ⟨q, _, _, r1, r2⟩
      · rw [w1] at r1
        rw [w2] at r2
        have := hnt.g g hg
        exact .inr ⟨g.line, 5, r1, this.2.1, by omega, r2⟩
end Go.Proofs.YtmfmcegpoiinjaaDoor.HM
namespace Go.Proofs.YtmfmcegpoiinjaaDoor.HM
open Go
set_option maxRecDepth 100000

section
variable {α : Type} {Q : α → Heap → Prop} {H : Heap}
theorem heap_same {b : Nat} {o : HObj} (h : H.get b = o) : H.set b o = H := by
  cases H with
  | mk n get ty =>
    simp only [Heap.set, Heap.mk.injEq, true_and, and_true]
    funext x
    by_cases e : x = b
    · rw [if_pos e, e]; exact h.symm
    · rw [if_neg e]
theorem wp_stN0 {b o : Nat} {cs : List HV} {m : M α} (hg : H.get b = .cells cs false) (ho : o ≤ cs.length) (h : wp m Q H) : wp (stN b o [] m) Q H := by
  refine wp_of (m' := m) (fun n => ?_) h
  unfold stN
  simp only [hg]
  rw [show decide (o + ([] : List HV).length ≤ cs.length) = true by simpa using ho]
  have : putN cs o [] = cs := by simp [putN]
  rw [this, heap_same hg]; rfl
/-- elements put behind the empty row that a literal makes. -/
theorem wp_apdE {b : Nat} {m by_ : Nat} {vs : List HV} {f : Sl → M α} (hg : H.get b = .cells [] false) (hm : vs.length = m) (hr : m * by_ ≤ room) (hr2 : m ≤ room)
    (h0 : m = 0 → wp (f ⟨some (b, 0), 0, 0, none⟩) Q H) (h1 : 0 < m → wp (f ⟨some (H.n, 0), m, m, some 1⟩) Q (H.push (.cells vs false))) : wp (apd ⟨some (b, 0), 0, 0, none⟩ 1 by_ m vs f) Q H := by
  have hg0 : (decide ((0 + m) * by_ ≤ room) && decide (vs.length = m * 1) && decide (0 < 1) && decide (0 + m ≤ room)) = true := by simp [hm, hr, hr2]
  rcases Nat.eq_zero_or_pos m with e | e
  · subst e
    have : vs = [] := List.eq_nil_of_length_eq_zero hm
    subst this
    refine wp_of (m' := stN b (0 + 0 * 1) [] (f ⟨some (b, 0), 0 + 0, 0, none⟩)) (H' := H) (fun n => ?_) (wp_stN0 hg (by simp) (h0 rfl))
    unfold apd
    rw [hg0]; rfl
  · refine wp_of (m' := f ⟨some (H.n, 0), m, m, some 1⟩) (H' := H.push (.cells vs false)) (fun n => ?_) (h1 e)
    unfold apd
    rw [hg0]
    simp only [gd]
    rw [if_neg (by omega)]
    simp only [hg]
    unfold gxN
    simp only [Nat.zero_mul, Nat.add_zero, List.length_nil, Nat.le_refl, decide_true, gd, List.drop_zero, List.take_nil, List.nil_append, Nat.zero_add, nw]
/-- many more elements. -/
theorem wp_apdO {H0 : Heap} {s : Sl} {sz by_ m : Nat} {ls l2 : List (List HV)} {vs : List HV} {f : Sl → M α} (h : Own H0 H s sz ls) (hvs : vs = l2.flatten) (hm : m = l2.length) (hl : ∀ l ∈ l2, l.length = sz) (hsz : 0 < sz) (hr : (ls.length + m) * by_ ≤ room) (hr2 : ls.length + m ≤ room)
    (hf : ∀ s' H', Own H0 H' s' sz (ls ++ l2) → (∀ b, b < H.n → H'.ty b = H.ty b) → wp (f s') Q H') : wp (apd s sz by_ m vs f) Q H := by
  subst hvs; subst hm
  have hlen : s.len = ls.length := h.slR.len
  have hk := h.keeps
  have hroom : room ≤ 9223372036854775807 := by decide
  have hg0 : (decide ((s.len + l2.length) * by_ ≤ room) && decide (l2.flatten.length = l2.length * sz) && decide (0 < sz) && decide (s.len + l2.length ≤ room)) = true := by
    rw [hlen, flatten_length hl]; simp [hsz, hr, hr2]
  have hszs : ∀ x ∈ ls ++ l2, x.length = sz := fun x hx => by
    rcases List.mem_append.1 hx with hx | hx
    · exact h.szs x hx
    · exact hl x hx
  rcases Nat.eq_zero_or_pos l2.length with e0 | e0
  · have : l2 = [] := List.eq_nil_of_length_eq_zero e0
    subst this
    have hh := hf s H (by rw [List.append_nil]; exact h) (fun _ _ => rfl)
    rcases h.mem with ⟨rfl, rfl⟩ | ⟨b, rfl, h1, h2, h3⟩
    · refine wp_of (m' := f ⟨none, 0, 0, none⟩) (fun n => ?_) hh
      unfold apd
      rw [hg0]; rfl
    · refine wp_of (m' := stN b (0 + ls.length * sz) [] (f ⟨some (b, 0), ls.length + 0, ls.length, some sz⟩)) (fun n => ?_) (wp_stN0 h3 (by rw [flatten_length h.szs]; omega) hh)
      unfold apd
      rw [hg0]
      simp only [gd]
      rw [if_pos (by simp)]
      rfl
  · unfold apd
    rw [hg0]
    rcases h.mem with ⟨rfl, rfl⟩ | ⟨b, rfl, h1, h2, h3⟩
    · refine wp_of (m' := f ⟨some (H.n, 0), l2.length, l2.length, some sz⟩) (H' := H.push (.cells l2.flatten false)) (fun n => ?_) (hf _ _ ⟨hk.trans (Keeps.push _ _), hszs, by simp at hr2 ⊢; omega, .inr ⟨H.n, by simp, hk.n, by simp [Heap.push], by simp [Heap.push]⟩⟩ (fun b hb => by simp only [Heap.push]; rw [if_neg (by omega)]))
      simp only [gd]
      rw [if_neg (by omega)]
      simp [nw]
    · have hfl : (ls.flatten).length = ls.length * sz := flatten_length h.szs
      have hget : ∀ (x : Nat), ((H.set b .dead).push (.cells ((ls ++ l2).flatten) false)).get x = if x = H.n then .cells ((ls ++ l2).flatten) false else if x = b then .dead else H.get x := fun _ => rfl
      refine wp_of (m' := f ⟨some (H.n, 0), ls.length + l2.length, ls.length + l2.length, some sz⟩) (H' := (H.set b .dead).push (.cells ((ls ++ l2).flatten) false)) (fun n => ?_) (hf _ _ ⟨?_, hszs, by simp at hr2 ⊢; omega, .inr ⟨H.n, by simp, hk.n, by simp [Heap.push, Heap.set], by rw [hget, if_pos rfl]⟩⟩ (fun x hx => ?_))
      · show (if ls.length + l2.length ≤ ls.length then _ else _ : Option (α × Heap)) = _
        rw [if_neg (by omega)]
        simp only [h3]
        unfold gxN
        rw [show decide (0 + ls.length * sz ≤ ls.flatten.length) = true from by simp [hfl]]
        have e1 : (ls.flatten.drop 0).take (ls.length * sz) = ls.flatten := by rw [List.drop_zero, ← hfl, List.take_length]
        have e2 : (decide (sz = sz) && decide (0 = 0) && decide (ls.flatten.length = ls.length * sz) && !false) = true := by simp [hfl]
        simp only [gd, e1, nw, hfl, decide_true, Bool.and_self, Bool.not_false]
        simp [Heap.set]
      · exact ⟨by have := hk.n; simp [Heap.push, Heap.set]; omega, fun x hx => by
          have := hk.n
          rw [hget, if_neg (by omega), if_neg (by omega)]; exact hk.get x hx⟩
      · show (if x = H.n then none else H.ty x) = H.ty x
        rw [if_neg (by omega)]
/-- the first of a row, read. -/
theorem wp_rdPre {s : Sl} {sz : Nat} {ls : List (List HV)} {f : List HV → M α} (h : SlR H s sz ls) {i : Nat} (hi : i ≤ ls.length) {cap : Nat} {opn : Option Nat} (hf : wp (f (ls.take i).flatten) Q H) :
    wp (rdS ⟨bif decide ((s.cap : Int) = 0) then s.p else s.p.map (fun q => (q.1, q.2 + (0 : Int).toNat * sz)), ((i : Int) - 0 : Int).toNat, cap, opn⟩ sz f) Q H := by
  have hp := h.pre hi
  have e1 : (s.pre sz i).p = (bif decide ((s.cap : Int) = 0) then s.p else s.p.map (fun q => (q.1, q.2 + (0 : Int).toNat * sz))) := rfl
  have hl : ((i : Int) - 0 : Int).toNat = i := by omega
  have htl : (ls.take i).length = i := by simp; omega
  unfold rdS
  simp only
  rw [← e1, hl]
  rcases hp.mem with ⟨h1, h2⟩ | ⟨b, o, cs, ro, h1, h2, h3, h4, h5⟩
  · rw [h1]
    have : i = 0 := by rw [← htl, h2]; rfl
    subst this
    exact wp_gd (by simp) (by simpa using hf)
  · rw [h1]
    rw [htl] at h4 h5
    refine wp_of (m' := f (ls.take i).flatten) (fun n => ?_) hf
    show ldN b o (i * sz) f H n = _
    unfold ldN
    simp only [h3]
    unfold gxN
    rw [decide_eq_true h4, h5]; rfl
/-- the last of a row, read. -/
theorem wp_rdDrop {s : Sl} {sz : Nat} {ls : List (List HV)} {f : List HV → M α} (h : SlR H s sz ls) {i : Nat} (hi : i ≤ ls.length) {cap : Nat} {opn : Option Nat} (hf : wp (f (ls.drop i).flatten) Q H) :
    wp (rdS ⟨bif decide ((s.cap : Int) = (i : Int)) then s.p else s.p.map (fun q => (q.1, q.2 + (i : Int).toNat * sz)), ((s.len : Int) - (i : Int) : Int).toNat, cap, opn⟩ sz f) Q H := by
  have hlen := h.len
  have hcap := h.cap
  have hl : ((s.len : Int) - (i : Int) : Int).toNat = ls.length - i := by omega
  unfold rdS
  simp only
  rw [hl]
  rcases h.mem with ⟨h1, h2⟩ | ⟨b, o, cs, ro, h1, h2, h3, h4, h5⟩
  · subst h2
    have : (bif decide ((s.cap : Int) = (i : Int)) then s.p else s.p.map (fun q => (q.1, q.2 + (i : Int).toNat * sz))) = none := by rw [h1]; cases decide ((s.cap : Int) = (i : Int)) <;> rfl
    rw [this]
    exact wp_gd (by simp) (by simpa using hf)
  · have hm : i * sz + (ls.length - i) * sz = ls.length * sz := by rw [← Nat.add_mul]; congr 1; omega
    by_cases hc : (s.cap : Int) = (i : Int)
    · have hil : i = ls.length := by omega
      rw [decide_eq_true hc, cond_true, h1]
      subst hil
      refine wp_of (m' := f []) (fun n => ?_) (by simpa using hf)
      show ldN b o ((ls.length - ls.length) * sz) f H n = _
      unfold ldN
      simp only [h3]
      unfold gxN
      rw [Nat.sub_self, Nat.zero_mul, decide_eq_true (by omega)]
      simp [gd]
    · rw [decide_eq_false hc, cond_false, h1]
      refine wp_of (m' := f (ls.drop i).flatten) (fun n => ?_) hf
      show ldN b (o + (i : Int).toNat * sz) ((ls.length - i) * sz) f H n = _
      unfold ldN
      simp only [h3]
      unfold gxN
      rw [Int.toNat_natCast, decide_eq_true (by omega)]
      have hlen2 : (ls.take i).flatten.length = i * sz := by
        rw [flatten_length (fun l hl => h.szs l (List.mem_of_mem_take hl)), List.length_take, Nat.min_eq_left hi]
      have e : (cs.drop (o + i * sz)).take ((ls.length - i) * sz) = (ls.drop i).flatten := by
        have : ls.flatten.drop (i * sz) = (ls.drop i).flatten := by
          conv => lhs; rw [← List.take_append_drop i ls, List.flatten_append, ← hlen2, List.drop_left]
        rw [← this, ← h5, List.drop_take, List.drop_drop]
        congr 1
        omega
      rw [e]; rfl
end
theorem flat1 (l : List Bs) : (l.map fun x => [HV.str (S x)]).flatten = l.map fun x => HV.str (S x) := by
  induction l with
  | nil => rfl
  | cons x l ih => simp [ih]
theorem blank_len {ls : List Bs} {a : Nat} : (joinL (ls.take a ++ [] :: zz :: ls.drop a)).length ≤ (joinL ls).length + 12 := by
  have h1 := lines_len (ls.take a ++ [] :: zz :: ls.drop a)
  have h2 := lines_ins (ls.take a) (zz :: ls.drop a) []
  have h3 := lines_ins (ls.take a) (ls.drop a) zz
  rw [List.take_append_drop, lines_len ls] at h3
  have h4 : zz.length = 9 := rfl
  have h5 : (if ls = [] then 0 else 1) ≤ 1 := by split <;> omega
  have h6 : (if (ls.take a ++ [] :: zz :: ls.drop a) = [] then 0 else 1) = 1 := if_neg (by simp)
  rw [h6] at h1
  simp only [List.length_nil] at h2
  omega
theorem blank_ok {ls : List Bs} {a : Nat} (hj : Jok ls) (hl : ls.length ≤ 58) (ha : a ≤ ls.length) (ht : (joinL ls).length ≤ 2000) : Jok (ls.take a ++ [] :: zz :: ls.drop a) := by
  have hbl := blank_len (ls := ls) (a := a)
  have hcl := hj.clean
  refine ⟨by simp; omega, fun i l hi => ?_⟩
  have hil := (List.getElem?_eq_some_iff.1 hi).1
  have hie := (List.getElem?_eq_some_iff.1 hi).2
  have hat := joinL_at hil
  rw [hie] at hat
  refine ⟨by omega, by omega, ?_⟩
  rcases List.mem_append.1 (List.mem_of_getElem? hi) with h | h
  · exact hcl l (List.mem_of_mem_take h)
  · rcases List.mem_cons.1 h with rfl | h
    · intro x hx; cases hx
    · rcases List.mem_cons.1 h with rfl | h
      · decide
      · exact hcl l (List.mem_of_mem_drop h)
section
variable {H : Heap} {Q : HV → Heap → Prop}
theorem Contains_wp {D : HV → List HV → M HV} (hG : Gl H) {l m : Bs} (hl : l.length < 4294967281) (h : Q (.bool (Lib.contains l m)) H) : wp (f_strings_Contains D [.str (S l), .str (S m)]) Q H := by
  unfold f_strings_Contains
  have hsz := S_size l
  refine step ⟨by omega, wp_glM hG.max (wp_ret ?_)⟩
  show Q (.bool (Lib.contains (S l).data.toList (S m).data.toList)) H
  exact h
theorem LabelBlank_wp {cl : List (Nat × Clo)} {rn : List (Nat × Rnd)} {D0 : DD} (hc : lkA cl n_label_lines_1 = some f_label_lines_1) (hr : lkA rn 96110293 = some r0_label_read) (hG : Gl H)
    {s : Sl} {ls : List Bs} (hs : RStrs H s ls) (hx : ∀ l ∈ ls, l.length ≤ 9223372036854775807) {a : Int} (ha64 : Int64 a) (h : ∀ H', Q (.bool true) H') : wp (f_law26_LabelBlank (stepD cl rn (stepD cl rn D0)) [.sl s, I a]) Q H := by
  unfold f_law26_LabelBlank
  have hlen := hs.lenI
  have hlt := hs.lt
  have hcap := SlR.cap hs
  have hopn := SlR.opn hs
  have hlN := hs.len
  unfold Int64 at ha64
  refine step (wp_bnd (alive_wp hc hr hG fun H1 k1 => step ?_))
  refine wp_bnd (joined_wp (hs.keeps k1.k) hx (fun H2 hj k2 => step ?_) (fun H2 hj k2 => step (wp_jn (step (h _)))))
  have K2 := k1.trans k2
  have hjl := hj.len
  have hj60 := hj.1
  have hcl := hj.clean
  refine wp_jnP (¬ (0 ≤ a ∧ a ≤ ls.length ∧ Lib.contains (joinL ls) z8 = false)) ?_ (fun _ => step (h _)) (fun hb => step ?_)
  · refine step ⟨fun c => ⟨fun _ hh => by omega, fun _ => rfl⟩, fun c => ⟨fun c2 => ⟨fun _ hh => by omega, fun _ => rfl⟩, fun c2 => ?_⟩⟩
    refine wp_bnd (Contains_wp (m := z8) (hG.kp K2) (by omega) (step ?_))
    cases hcn : Lib.contains (joinL ls) z8 with
    | false => exact ⟨fun hh => (by cases hh), fun hh => absurd ⟨by omega, by omega, rfl⟩ hh⟩
    | true => exact ⟨fun _ hh => (by cases hh.2.2), fun _ => rfl⟩
  have hb' := Classical.not_not.1 hb
  obtain ⟨an, rfl⟩ : ∃ an : Nat, a = an := ⟨a.toNat, by omega⟩
  have han : an ≤ ls.length := by omega
  have hz : ∀ l ∈ ls, ¬ Has z8 l := fun l hl hh => has_contains hb'.2.2 (has_line hl hh)
  have hs2 := hs.keeps K2.k
  have hok : slOk s.opn 1 = true := by rcases hopn with e | e <;> rw [e] <;> rfl
  have hroom : room = 140737488355328 := rfl
  refine wp_nw ?_
  have k3 := Kp.push H2 (.cells [] false)
  have hg3 : (H2.push (.cells [] false)).get H2.n = .cells [] false := by simp [Heap.push]
  have hn3 : (H2.push (.cells [] false)).n = H2.n + 1 := rfl
  generalize H2.push (.cells [] false) = H3 at *
  have hs3 := hs2.keeps k3.k
  refine step ⟨by omega, by omega, by omega, by omega, hok, ?_⟩
  refine wp_rdPre (i := an) hs3 (by simpa using han) ?_
  rw [← List.map_take, flat1]
  -- the row with the two lines
  have key : ∀ (s' : Sl) (H' : Heap), Own H2 H' s' 1 ((ls.take an ++ [[], zz]).map fun x => [HV.str (S x)]) → (∀ b, b < H2.n → H'.ty b = H2.ty b) →
      wp (gd (decide (0 ≤ (an : Int))) (gd (decide ((an : Int) ≤ (s.len : Int))) (gd (decide ((s.len : Int) ≤ (s.cap : Int))) (gd (decide ((s.cap : Int) ≤ (s.cap : Int))) (gd (slOk s.opn 1) (
        rdS (⟨bif decide ((s.cap : Int) = (an : Int)) then s.p else s.p.map (fun q => (q.1, q.2 + (an : Int).toNat * 1)), ((s.len : Int) - (an : Int) : Int).toNat, ((s.cap : Int) - (an : Int) : Int).toNat, slOp s.opn (decide ((an : Int) < (s.cap : Int)))⟩) 1 fun vs_2 =>
        apd s' 1 16 (((s.len : Int) - (an : Int) : Int).toNat) vs_2 fun x49 =>
        bnd (f_law26_joined (stepD cl rn (stepD cl rn D0)) [.sl x49]) fun r_8 =>
        asT r_8 fun x50l => uS x50l fun x50t0 r_9 =>
        uB r_9 fun _x50t1 r_10 =>
        nl r_10 (
        jn (
        cond (decide ((s.len : Int) > 58)) (
        ret (.norm [.bool true])) (
        ret (.norm [.bool (decide (((S (joinL ls)).size : Int) > 2000))]))) fun vs_3 =>
        uB vs_3 fun x60 r_11 =>
        nl r_11 (
        cond x60 (
        ret (.ret [.bool true])) (
        bnd (f_label_Read (stepD cl rn (stepD cl rn D0)) [.str (S (joinL ls))]) fun r_12 =>
        asT r_12 fun x63l => uL x63l fun x63t0 r_13 =>
        uI .i64 r_13 fun x63t1 r_14 =>
        uI .i64 r_14 fun x63t2 r_15 =>
        nl r_15 (
        bnd (f_label_Read (stepD cl rn (stepD cl rn D0)) [.str x50t0]) fun r_16 =>
        asT r_16 fun x69l => uL x69l fun x69t0 r_17 =>
        uI .i64 r_17 fun x69t1 r_18 =>
        uI .i64 r_18 fun x69t2 r_19 =>
        nl r_19 (
        jn (
        cond (decide (x63t1 > (an : Int))) (
        ret (.norm [I (wr (x63t1 + 2))])) (
        ret (.norm [I x63t1]))) fun vs_4 =>
        uI .i64 vs_4 fun x10 r_20 =>
        nl r_20 (
        jn (
        bnd (f_law26_same (stepD cl rn (stepD cl rn D0)) [.sl x63t0, .sl x69t0]) fun r_21 =>
        asB r_21 fun x80 =>
        cond x80 (
        cond (x10 == x69t1) (
        ret (.norm [.bool (x63t2 == x69t2)])) (
        ret (.norm [.bool false]))) (
        ret (.norm [.bool false]))) fun vs_5 =>
        uB vs_5 fun x4 r_22 =>
        nl r_22 (
        ret (.ret [.bool x4])))))))))))))) (PFin Q) H' := by
    intro s' H' ho hty
    refine step ⟨by omega, by omega, by omega, by omega, hok, ?_⟩
    have hs4 := hs2.keeps ho.keeps
    refine wp_rdDrop (i := an) hs4 (by simpa using han) ?_
    rw [← List.map_drop, flat1]
    refine wp_apdO (l2 := (ls.drop an).map fun x => [HV.str (S x)]) ho (flat1 _).symm (by simp; omega) (fun l hl => by obtain ⟨x, _, rfl⟩ := List.mem_map.1 hl; rfl) (by omega) (by simp; omega) (by simp; omega) fun s5 H5 ho5 hty5 => ?_
    rw [← List.map_append, List.append_assoc] at ho5
    have hr5 : RStrs H5 s5 (ls.take an ++ [] :: zz :: ls.drop an) := ho5.slR
    have K5 : Kp H2 H5 := ⟨ho5.keeps, fun b hb => (hty5 b (Nat.lt_of_lt_of_le hb ho.keeps.n)).trans (hty b hb)⟩
    have hbl := blank_len (ls := ls) (a := an)
    have hx5 : ∀ l ∈ ls.take an ++ [] :: zz :: ls.drop an, l.length ≤ 9223372036854775807 := by
      intro l hl
      rcases List.mem_append.1 hl with h | h
      · exact hx l (List.mem_of_mem_take h)
      · rcases List.mem_cons.1 h with rfl | h
        · simp
        · rcases List.mem_cons.1 h with rfl | h
          · decide
          · exact hx l (List.mem_of_mem_drop h)
    have hsz := S_size (joinL ls)
    refine wp_bnd (joined_wp hr5 hx5 (fun H6 _ k6 => step ?_) (fun H6 hnj k6 => step ?_))
    · refine wp_jnP (58 < ls.length ∨ 2000 < (joinL ls).length) ?_ (fun _ => step (h _)) (fun hc5 => step ?_)
      · refine step ⟨fun c => ⟨fun _ => .inl (by omega), fun _ => rfl⟩, fun c => ?_⟩
        rw [decide_eq_true_eq]; omega
      have G6 := hG.kp ((K2.trans K5).trans k6)
      refine wp_bnd (Read_out hc hr G6 (by omega) fun p ms n e H7 sp hou k7 hp => step ?_)
      refine wp_bnd (Read_out hc hr (G6.kp k7) (by omega) fun p2 ms2 n2 e2 H8 sp2 hou2 k8 hp2 => step ?_)
      have fin2 : ∀ n', shN an n = n' → p2 = p → n2 = n' → e2 = e → -4 ≤ n → n ≤ 100 → wp (jn (
        cond (decide (n > (an : Int))) (
        ret (.norm [I (wr (n + 2))])) (
        ret (.norm [I n]))) fun vs_4 =>
        uI .i64 vs_4 fun x10 r_20 =>
        nl r_20 (
        jn (
        bnd (f_law26_same (stepD cl rn (stepD cl rn D0)) [.sl sp, .sl sp2]) fun r_21 =>
        asB r_21 fun x80 =>
        cond x80 (
        cond (x10 == n2) (
        ret (.norm [.bool (e == e2)])) (
        ret (.norm [.bool false]))) (
        ret (.norm [.bool false]))) fun vs_5 =>
        uB vs_5 fun x4 r_22 =>
        nl r_22 (
        ret (.ret [.bool x4])))) (PFin Q) H8 := by
        intro n' hn' hp' hn2 he2 hn0 hn1
        subst hp'; subst hn2; subst he2
        refine wp_jnV [I n2] ?_ ?_
        · unfold shN at hn'
          refine step ⟨fun c => ?_, fun c => ?_⟩
          · rw [if_pos c] at hn'
            rw [wr_small (by omega) (by omega), hn']
          · rw [if_neg c] at hn'
            rw [hn']
        · refine step ?_
          refine wp_jnV [.bool true] ?_ (step (h _))
          refine wp_bnd (same_wp (hp.keeps k8.k) hp2 fun b hb => ?_)
          have : b = true := hb.2 rfl
          subst this
          refine step ⟨fun _ => ?_, fun c => absurd rfl c⟩
          simp
      rcases read_blank hcl (by omega) hj60 han hz (by omega) with ⟨q, m1, m2, r1, r2⟩ | ⟨n0, e0, r1, h0, h1, r2⟩
      · obtain ⟨rfl, _, rfl, rfl⟩ := Out.inj (.inl ⟨r1, rfl, rfl⟩) hou
        obtain ⟨rfl, _, rfl, rfl⟩ := Out.inj (.inl ⟨r2, rfl, rfl⟩) hou2
        exact fin2 0 (by unfold shN; rw [if_neg (by omega)]) rfl rfl rfl (by omega) (by omega)
      · obtain ⟨rfl, _, rfl, rfl⟩ := Out.inj (.inr ⟨r1, rfl, rfl⟩) hou
        obtain ⟨rfl, _, rfl, rfl⟩ := Out.inj (.inr ⟨r2, rfl, rfl⟩) hou2
        exact fin2 _ rfl rfl rfl rfl (by omega) (by omega)
    · have hbig : 58 < ls.length ∨ 2000 < (joinL ls).length := by
        refine Classical.byContradiction fun hh => hnj (blank_ok hj (by omega) han (by omega))
      refine wp_jnP (58 < ls.length ∨ 2000 < (joinL ls).length) ?_ (fun _ => step (h _)) (fun hc5 => absurd hbig hc5)
      refine step ⟨fun c => ⟨fun _ => .inl (by omega), fun _ => rfl⟩, fun c => ?_⟩
      rw [decide_eq_true_eq]; omega
  have htl : (ls.take an).length = an := by simp; omega
  have haN : ((an : Int) - 0 : Int).toNat = an := by omega
  rw [haN]
  refine wp_apdE hg3 (by simpa using htl) (by omega) (by omega) (fun e0 => ?_) (fun e0 => ?_)
  · subst e0
    refine wp_apdE hg3 (m := 2) rfl (by omega) (by omega) (fun e => absurd e (by decide)) fun _ => ?_
    have k4 := Kp.push H3 (.cells [.str (S []), .str (S zz)] false)
    refine key _ _ ⟨(k3.trans k4).k, by simp, by simp, .inr ⟨H3.n, rfl, by omega, by simp [Heap.push], by simp [Heap.push]; rfl⟩⟩ (k3.trans k4).t
  · have k4 := Kp.push H3 (.cells ((ls.take an).map fun x => HV.str (S x)) false)
    have ho4 : Own H2 (H3.push (.cells ((ls.take an).map fun x => HV.str (S x)) false)) ⟨some (H3.n, 0), an, an, some 1⟩ 1 ((ls.take an).map fun x => [HV.str (S x)]) :=
      ⟨(k3.trans k4).k, fun l hl => by obtain ⟨x, _, rfl⟩ := List.mem_map.1 hl; rfl, by simp; omega, .inr ⟨H3.n, by simp only [List.length_map, htl], by omega, by simp [Heap.push], by rw [flat1]; simp [Heap.push]⟩⟩
    refine wp_apdO (l2 := [[.str (S [])], [.str (S zz)]]) ho4 rfl rfl (by simp) (by omega) (by simp; omega) (by simp; omega) fun s5 H5 ho5 hty5 => ?_
    have e : ((ls.take an ++ [[], zz]).map fun x => [HV.str (S x)]) = (ls.take an).map (fun x => [HV.str (S x)]) ++ [[.str (S [])], [.str (S zz)]] := by simp
    rw [← e] at ho5
    exact key s5 H5 ho5 fun b hb => (hty5 b (by have := k4.k.n; omega)).trans ((k3.trans k4).t b hb)
end
end Go.Proofs.YtmfmcegpoiinjaaDoor.HM
