/- Lemmas for the row. Conditions: none. -/
import Derived.Test.YtbphjihgbenkdaaGreatHQIc
import Derived.Test.YtbphjihgbenkdaaGreatHQ5g
import Derived.Lib.Hide
namespace Go.Proofs.YtbphjihgbenkdaaGreat.HQ
set_option linter.unusedVariables false
set_option linter.unusedSectionVars false
set_option linter.unusedSimpArgs false
open Go Go.Proofs Go.RowKit
set_option linter.unusedSectionVars false
variable [Sites]
theorem Tryz.info253i : (Tryz.prog.info? 253).map (fun i => (i.zero, i.size, i.bytes)) = some (some (Value.agg #[.int .i64 0, .int .i64 0]), 2, 16) := by kernel_rfl
set_option maxHeartbeats 4000000 in
set_option maxRecDepth 100000 in
theorem Tryz.ins136_shift (b n c i vb voff vc : Nat) (cs vs : List Value) (w : World) (hi : i < n) (hroom : n + 1 ≤ c) (hn63 : n + 1 ≤ 140737488355328) (hvb : vb ≠ b)
  (hcl : cs.length = n * 2) (hvl : vs.length = 2)
  (hcs : ∀ j v, cs[j]? = some v → w.cell? ⟨b, j, none⟩ = some v) (hsp : ∀ j, j < (n + 1) * 2 → (w.cell? ⟨b, j, none⟩).isSome = true) (hfz : ∀ j, j < (n + 1) * 2 → w.frozen? ⟨b, j, none⟩ = false)
  (hvs : ∀ j v, vs[j]? = some v → w.cell? ⟨vb, voff + j, none⟩ = some v) (h1c : ∀ v ∈ cs, v.oneCell' = true) (h1v : ∀ v ∈ vs, v.oneCell' = true)
  (tA tB : TypeId) (kA kB : Nat) (hsa : w.shape? vb = some (tA, kA)) (hsb : w.shape? b = some (tB, kB)) (hkA : kA ≠ 0) (hkB : kB ≠ 0) (hfb : w.frozen? ⟨b, (i + 1) * 2, none⟩ = false) (hfe : w.frozen? ⟨b, kB, none⟩ = false) :
  Calls Tryz.prog 136 #[.slice (some ⟨b, 0, none⟩) n c, .int .i64 i, .slice (some ⟨vb, voff, none⟩) 1 vc] w fun e w' =>
   e = .returned (.slice (some ⟨b, 0, none⟩) (n + 1) c) ∧ w' = (w.drew.setCells b ((i + 1) * 2) (cs.drop (i * 2))).setCells b (i * 2) vs := by
 have hz2 : ¬ ((i : Int) = (n : Int)) := by omega
 have hov : ∀ lb cb, (callFunc 178 #[.slice (some ⟨vb, voff, none⟩) 1 vc, .slice (some ⟨b, (i + 1) * 2, none⟩) lb cb]).run Tryz.prog w = .ok (.value (.bool false)) w := fun lb cb => by
  rw [run_callFunc_extern Tryz.func178 (by kernel_rfl) (by kernel_rfl) (by kernel_rfl) (e := Extern.SlicesOverlaps.overlaps #[231, 231] #[4]) (by kernel_rfl),
   run_overlaps_b w 231 4 253 Tryz.underlying231 2 Tryz.sizeOf253 ⟨vb, voff, none⟩ ⟨b, (i + 1) * 2, none⟩ 1 vc lb cb hvb tA tB kA kB hsa hsb hkA hkB hfb hfe]
  rfl
 obtain ⟨ti, hti, htz, hts, htb⟩ := info_parts Tryz.info253i
 have hdl : (cs.drop (i * 2)).length = (n - i) * 2 := by rw [List.length_drop, hcl, Nat.sub_mul]
 have mixed := mixed
 have hin : i ≤ n := by omega
 have hw1 : IntKind.i64.wrap ((i : Int) + 1) = (i : Int) + 1 := by rw [IntKind.wrap_i64]; omega
 have hb1 : (0 : Int) ≤ (i : Int) + 1 := by omega
 have htn : ((i : Int) + 1).toNat = i + 1 := by omega
 have hb3 : (i : Int) ≤ (n : Int) + 1 := by omega
 have hb5 : (i : Int) + 1 ≤ (n : Int) + 1 := by omega
 have hb2 : ¬ (c = i + 1) := by omega
 have hb4 : ¬ (c = i) := by omega
 have hcp1 : ∀ ty dc sc, (Builtin.copy_ #[231, 231] ty #[.slice (some ⟨b, (i + 1) * 2, none⟩) (n - i) dc, .slice (some ⟨b, i * 2, none⟩) (n + 1 - i) sc]).run Tryz.prog w.drew = .ok (goInt (n - i : Nat)) (w.drew.setCells b ((i + 1) * 2) (cs.drop (i * 2))) := fun ty dc sc => by
  have hmin : Nat.min (n + 1 - i) (n - i) = n - i := by simp only [Nat.min_def]; split <;> omega
  have := run_copy_sz w.drew 231 231 ty 253 b ((i + 1) * 2) (n - i) dc ⟨b, i * 2, none⟩ (n + 1 - i) sc (cs.drop (i * 2)) Tryz.underlying231 hti (by rw [hdl, hts, hmin])
   (fun j v hj => by rw [Addr.add_lit]; exact hcs (i * 2 + j) v (by rwa [List.getElem?_drop] at hj))
   (fun j hj => hsp _ (by rw [hdl] at hj; omega)) (fun j hj => hfz _ (by rw [hdl] at hj; omega)) (fun v hv => h1c v (List.mem_of_mem_drop hv))
  rw [hmin] at this; exact this
 obtain ⟨W1, hW1⟩ : ∃ W1, W1 = w.drew.setCells b ((i + 1) * 2) (cs.drop (i * 2)) := ⟨_, rfl⟩
 have hsp1 : ∀ k, k < (n + 1) * 2 → (W1.cell? ⟨b, k, none⟩).isSome = true := fun k hk => by
  rw [hW1]
  exact isSome_setCells b (cs.drop (i * 2)) ((i + 1) * 2) w.drew (fun j hj => hsp ((i + 1) * 2 + j) (by rw [hdl] at hj; omega)) k (hsp k hk)
 have hcp2 : ∀ (W : World), (∀ x, W.cell? x = W1.cell? x) → (∀ x, W.frozen? x = W1.frozen? x) → ∀ ty dc, (Builtin.copy_ #[231, 231] ty #[.slice (some ⟨b, i * 2, none⟩) (n + 1 - i) dc, .slice (some ⟨vb, voff, none⟩) 1 vc]).run Tryz.prog W = .ok (goInt (1 : Nat)) (W.setCells b (i * 2) vs) := fun W hWc hWf ty dc => by
  have hmin : Nat.min 1 (n + 1 - i) = 1 := by simp only [Nat.min_def]; split <;> omega
  have := run_copy_sz W 231 231 ty 253 b (i * 2) (n + 1 - i) dc ⟨vb, voff, none⟩ 1 vc vs Tryz.underlying231 hti (by rw [hvl, hts, hmin])
   (fun j v hj => by
    rw [Addr.add_lit, hWc, hW1, World.cell?_setCells_out b _ _ _ _ (fun h _ => absurd h hvb)]
    exact hvs j v hj)
   (fun j hj => by rw [hWc]; exact hsp1 _ (by omega)) (fun j hj => by rw [hWf, hW1, World.frozen?_setCells]; exact hfz _ (by omega)) h1v
  rw [hmin] at this; exact this
 rw [← hW1] at hcp1
 go_enter Tryz.func136, Tryz.ntmps136
 go_wp2_with (simp only [hov])
 go_region_law_o (refine step_copy_runI rfl _ _ 231 231 rfl _ _ (by simp [Act.eval, Act.put]) (by simp [Act.eval, Act.put]) (hcp1 _ _ _) ?_)
 go_wp2_with (at_builtin; refine wpList_copy_runI _ rfl _ _ 231 231 rfl _ _ rfl rfl (hcp2 _ (fun _ => rfl) (fun _ => rfl) _ _) ?_)
 go_ret
 first | exact ⟨rfl, rfl⟩ | exact ⟨rfl, by rw [hW1]⟩
set_option maxHeartbeats 4000000 in
set_option maxRecDepth 100000 in
theorem Tryz.ins136_end_room (b n c vb voff vc : Nat) (vs : List Value) (w : World) (hroom : n + 1 ≤ c) (hn63 : n + 1 ≤ 140737488355328) (hvl : vs.length = 2)
  (hvs : ∀ j v, vs[j]? = some v → w.cell? ⟨vb, voff + j, none⟩ = some v) (h1v : ∀ v ∈ vs, v.oneCell' = true) {cc : Array Value} {el : TypeId} {fr : Nat × Nat} (hw : w.heap[b]? = some (.cells cc el fr)) (hfr : Thaw cc.size el fr) (hcc : (n + 1) * 2 ≤ cc.size) :
  Calls Tryz.prog 136 #[.slice (some ⟨b, 0, none⟩) n c, .int .i64 n, .slice (some ⟨vb, voff, none⟩) 1 vc] w fun e w' =>
   e = .returned (.slice (some ⟨b, 0, none⟩) (n + 1) c) ∧ w' = w.setCells b (n * 2) vs := by
 obtain ⟨ti, hti, htz, hts, htb⟩ := info_parts Tryz.info253i
 have mixed := mixed
 have hf : (Builtin.firstCells ti.size 1 (.slice (some ⟨vb, voff, none⟩) 1 vc)).run Tryz.prog w = .ok vs.toArray w := by
  rw [hts]
  exact run_firstCells_some w 2 1 ⟨vb, voff, none⟩ 1 vc vs (by omega) (fun j v hj => by rw [Addr.add_lit]; exact hvs j v hj)
 have hrun : ∀ ty, (Builtin.append_ #[231, 231] ty #[.slice (some ⟨b, 0, none⟩) n c, .slice (some ⟨vb, voff, none⟩) 1 vc]).run Tryz.prog w = .ok (.slice (some ⟨b, 0, none⟩) (n + 1) c) (w.setCells b (n * 2) vs) := fun ty => by
  have := run_append_in (ty := ty) Tryz.underlying231 (.inl ⟨_, Tryz.underlying231⟩) hti (b := b) (oo := 0) (sLen := n) (cap' := c) (m := 1) (fun _ => rfl) hf hroom hw hfr (by rw [hts]; omega) h1v
  rw [hts, Nat.zero_add] at this; exact this
 clear hf
 go_enter Tryz.func136, Tryz.ntmps136
 go_wp2_with (at_builtin; refine Lib.wpList_append_run _ rfl _ _ _ _ rfl _ _ rfl rfl _ _ (hrun _) ?_)
 go_ret
 exact ⟨rfl, rfl⟩
set_option maxHeartbeats 4000000 in
set_option maxRecDepth 100000 in
theorem Tryz.ins136_end_grow (base : Option Addr) (n c vb voff vc : Nat) (cs vs : List Value) (w : World) (hnc : n ≤ c) (hroom : c < n + 1) (hbig : (n + 1) * 16 ≤ 140737488355328)
  (hcl : cs.length = n * 2) (hvl : vs.length = 2) (hnil : base = none → n = 0) (hcs : ∀ a, base = some a → ∀ j v, cs[j]? = some v → w.cell? (a.add j) = some v)
  (hvs : ∀ j v, vs[j]? = some v → w.cell? ⟨vb, voff + j, none⟩ = some v)
  (ROW : Array Value) (hROW : ROW = (cs ++ vs ++ (Builtin.zeroCells (Value.agg #[.int .i64 0, .int .i64 0] : Value).cells (grownCap w (n + 1) c 253 - (n + 1))).toList).toArray) :
  Calls Tryz.prog 136 #[.slice base n c, .int .i64 n, .slice (some ⟨vb, voff, none⟩) 1 vc] w fun e w' =>
   e = .returned (.slice (some ⟨w.heap.size, 0, none⟩) (n + 1) (grownCap w (n + 1) c 253)) ∧
   w' = w.drew.alloc (.cells ROW 253) := by
 obtain ⟨ti, hti, htz, hts, htb⟩ := info_parts Tryz.info253i
 have mixed := mixed
 have hf : (Builtin.firstCells ti.size 1 (.slice (some ⟨vb, voff, none⟩) 1 vc)).run Tryz.prog w.drew = .ok vs.toArray w.drew := by
  rw [hts]
  exact run_firstCells_some w.drew 2 1 ⟨vb, voff, none⟩ 1 vc vs (by omega) (fun j v hj => by rw [Addr.add_lit]; exact hvs j v hj)
 have hold : (Builtin.firstCells ti.size n (.slice base n c)).run Tryz.prog w.drew = .ok cs.toArray w.drew := by
  rw [hts]
  cases base with
  | none =>
   have h0 := hnil rfl
   subst h0
   have h1 : cs = [] := List.length_eq_zero_iff.1 (by omega)
   rw [h1]
   exact run_firstCells_none w.drew 2 0 0 c
  | some a => exact run_firstCells_some w.drew 2 n a n c cs (by omega) (fun j v hj => hcs a rfl j v hj)
 have hrun : ∀ ty, (Builtin.append_ #[231, 231] ty #[.slice base n c, .slice (some ⟨vb, voff, none⟩) 1 vc]).run Tryz.prog w = .ok (.slice (some ⟨w.heap.size, 0, none⟩) (n + 1) (grownCap w (n + 1) c 253)) (w.drew.alloc (.cells ROW 253)) := fun ty => by
  rw [hROW]
  exact
  run_append_out (ty := ty) Tryz.underlying231 (.inl ⟨_, Tryz.underlying231⟩) hti htz (base := base) (sLen := n) (sCap := c) (m := 1) (fun _ => rfl) hf hold hroom (by omega) (by rw [htb]; exact growslice_fits hroom hbig)
 clear hf hold hROW
 go_enter Tryz.func136, Tryz.ntmps136
 cases base with
 | none =>
  have h0 := hnil rfl
  subst h0
  go_wp2_with (at_builtin; refine Lib.wpList_append_run _ rfl _ _ _ _ rfl _ _ rfl rfl _ _ (hrun _) ?_)
  go_ret
  exact ⟨rfl, rfl⟩
 | some a =>
  obtain ⟨ab, ao, asp⟩ := a
  go_wp2_with (at_builtin; refine Lib.wpList_append_run _ rfl _ _ _ _ rfl _ _ rfl rfl _ _ (hrun _) ?_)
  all_goals (go_ret; exact ⟨rfl, rfl⟩)
set_option maxHeartbeats 4000000 in
set_option maxRecDepth 100000 in
theorem Tryz.ins136_grow (b n c i vb voff vc : Nat) (cs vs : List Value) (w : World) (hi : i < n) (hnc : n ≤ c) (hroom : c < n + 1) (hbig : (n + 1) * 16 ≤ 140737488355328)
  (hcl : cs.length = n * 2) (hvl : vs.length = 2)
  (hcs : ∀ j v, cs[j]? = some v → w.cell? ⟨b, j, none⟩ = some v)
  (hvs : ∀ j v, vs[j]? = some v → w.cell? ⟨vb, voff + j, none⟩ = some v) (h1c : ∀ v ∈ cs, v.oneCell' = true) (h1v : ∀ v ∈ vs, v.oneCell' = true) :
  Calls Tryz.prog 136 #[.slice (some ⟨b, 0, none⟩) n c, .int .i64 i, .slice (some ⟨vb, voff, none⟩) 1 vc] w fun e w' =>
   e = .returned (.slice (some ⟨w.heap.size, 0, none⟩) (n + 1) (grownCap w (n + 1) c 253)) ∧
   ∃ ROW : Array Value, ROW.size = (grownCap w (n + 1) c 253) * 2 ∧ (∀ (j : Nat) (v : Value), (cs.take (i * 2))[j]? = some v → ROW[j]? = some v) ∧
   w' = (((w.alloc (.cells ROW 253)).drew.setCells w.heap.size (i * 2) vs).drew).setCells w.heap.size ((i + 1) * 2) (cs.drop (i * 2)) := by
 obtain ⟨ti, hti, htz, hts, htb⟩ := info_parts Tryz.info253i
 have mixed := mixed
 have hz2 : ¬ ((i : Int) = (n : Int)) := by omega
 have hz3 : (c : Int) < (n : Int) + 1 := by omega
 have hbw : b < w.heap.size := block_lt_of_cell (hcs 0 _ (List.getElem?_eq_getElem (by omega)))
 have hvw : vb < w.heap.size := block_lt_of_cell (hvs 0 _ (List.getElem?_eq_getElem (by omega)))
 have hkk : (n : Int) + 1 - (i : Int) = ((n + 1 - i : Nat) : Int) := by omega
 have hik : i + (n + 1 - i) = n + 1 := by omega
 have htl : (cs.take (i * 2)).length = i * 2 := by rw [List.length_take]; omega
 have hold : (Builtin.firstCells ti.size i (.slice (some ⟨b, 0, none⟩) i c)).run Tryz.prog w.drew = .ok (cs.take (i * 2)).toArray w.drew := by
  rw [hts]
  exact run_firstCells_some w.drew 2 i ⟨b, 0, none⟩ i c (cs.take (i * 2)) (by rw [htl]) (fun j v hj => by
   rw [Addr.add_lit]
   rw [List.getElem?_take] at hj
   split at hj
   ·simpa using hcs j v hj
   ·cases hj)
 have hrz : ∀ ty, (Builtin.append_ #[231, 3] ty #[.slice (some ⟨b, 0, none⟩) i c, .int .i64 ((n : Int) + 1 - (i : Int))]).run Tryz.prog w =
   .ok (.slice (some ⟨w.heap.size, 0, none⟩) (n + 1) (grownCap w (n + 1) c 253)) (w.drew.alloc (.cells ((cs.take (i * 2)).toArray ++ Builtin.zeroCells (Value.agg #[.int .i64 0, .int .i64 0] : Value).cells (n + 1 - i) ++ Builtin.zeroCells (Value.agg #[.int .i64 0, .int .i64 0] : Value).cells (grownCap w (n + 1) c 253 - (n + 1))) 253)) := fun ty => by
  have h := Lib.run_append_grow_zeros w 231 3 ty 253 ti _ .i64 .i64 Tryz.underlying231 Tryz.underlying3 hti htz (some ⟨b, 0, none⟩) i c (cs.take (i * 2)) hold (n + 1 - i) (by omega) (by omega) (by omega) (by omega) (by rw [htb]; omega) (by rw [htb, hik]; exact growslice_fits hroom hbig)
  rw [hik] at h
  rw [hkk]
  exact h
 obtain ⟨G, hG⟩ : ∃ G, G = grownCap w (n + 1) c 253 := ⟨_, rfl⟩
 obtain ⟨ROW, hROW⟩ : ∃ ROW : Array Value, ROW = (cs.take (i * 2)).toArray ++ Builtin.zeroCells (Value.agg #[.int .i64 0, .int .i64 0] : Value).cells (n + 1 - i) ++ Builtin.zeroCells (Value.agg #[.int .i64 0, .int .i64 0] : Value).cells (G - (n + 1)) := ⟨_, rfl⟩
 rw [← hG] at hrz ⊢
 rw [← hROW] at hrz
 have hGn : n + 1 ≤ G := by rw [hG]; exact grownCap_ge w _ _ _
 have hRs : ROW.size = G * 2 := by
  rw [hROW]
  simp only [Builtin.zeroCells, Array.size_append, Array.size_map, Array.size_range, List.size_toArray, htl]
  show i * 2 + (n + 1 - i) * 2 + (G - (n + 1)) * 2 = _
  omega
 have hRl : (n + 1) * 2 ≤ ROW.size := by rw [hRs]; exact Nat.mul_le_mul_right _ hGn
 have hRt : ∀ (j : Nat) (v : Value), (cs.take (i * 2))[j]? = some v → ROW[j]? = some v := fun j v hj => by
  have hlt : j < (cs.take (i * 2)).toArray.size := by simpa using (List.getElem?_eq_some_iff.1 hj).1
  rw [hROW, Array.getElem?_append_left (by rw [Array.size_append]; omega), Array.getElem?_append_left hlt, List.getElem?_toArray]; exact hj
 obtain ⟨W1, hW1⟩ : ∃ W1, W1 = w.drew.alloc (.cells ROW 253) := ⟨_, rfl⟩
 rw [← hW1] at hrz
 have hN : ∀ j, j < (n + 1) * 2 → (W1.cell? ⟨w.heap.size, j, none⟩).isSome = true := fun j hj => by
  rw [hW1, World.cell?_alloc_at (w := w.drew) ROW _ w.heap.size j rfl, Array.getElem?_eq_getElem (by omega)]; rfl
 have hNf : ∀ j, W1.frozen? ⟨w.heap.size, j, none⟩ = false := fun j => by rw [hW1]; exact World.frozen?_alloc_at (w := w.drew) ROW _ w.heap.size j rfl
 have hOb : ∀ j v, w.cell? ⟨b, j, none⟩ = some v → W1.cell? ⟨b, j, none⟩ = some v := fun j v h => by rw [hW1, World.cell?_alloc_past (w := w.drew) _ b j hbw]; exact h
 have hOv : ∀ j v, w.cell? ⟨vb, j, none⟩ = some v → W1.cell? ⟨vb, j, none⟩ = some v := fun j v h => by rw [hW1, World.cell?_alloc_past (w := w.drew) _ vb j hvw]; exact h
 have hcpA : ∀ (W : World), (∀ x, W.cell? x = W1.cell? x) → (∀ x, W.frozen? x = W1.frozen? x) → ∀ ty dc, (Builtin.copy_ #[231, 231] ty #[.slice (some ⟨w.heap.size, i * 2, none⟩) (n + 1 - i) dc, .slice (some ⟨vb, voff, none⟩) 1 vc]).run Tryz.prog W = .ok (goInt (1 : Nat)) (W.setCells w.heap.size (i * 2) vs) := fun W hWc hWf ty dc => by
  have hmin : Nat.min 1 (n + 1 - i) = 1 := by simp only [Nat.min_def]; split <;> omega
  have := run_copy_sz W 231 231 ty 253 w.heap.size (i * 2) (n + 1 - i) dc ⟨vb, voff, none⟩ 1 vc vs Tryz.underlying231 hti (by rw [hvl, hts, hmin])
   (fun j v hj => by rw [Addr.add_lit, hWc]; exact hOv _ v (hvs j v hj))
   (fun j hj => by rw [hWc]; exact hN _ (by omega)) (fun j hj => by rw [hWf]; exact hNf _) h1v
  rw [hmin] at this; exact this
 have hG63 : G ≤ 9223372036854775807 := by
  have := grownCap_le_maxLen w (n + 1) c 253 (by unfold maxLen; omega)
  rw [← hG] at this
  unfold maxLen at this
  omega
 have hGi : ¬ (G = i) := by omega
 have hGim : ¬ (G = i + 1) := by omega
 have hci : ¬ (c = i) := by omega
 have hbN : b ≠ w.heap.size := by omega
 have hdl : (cs.drop (i * 2)).length = (n - i) * 2 := by rw [List.length_drop, hcl, Nat.sub_mul]
 have hcpB : ∀ (W : World), (∀ x, W.cell? x = (W1.setCells w.heap.size (i * 2) vs).cell? x) → (∀ x, W.frozen? x = (W1.setCells w.heap.size (i * 2) vs).frozen? x) → ∀ ty dc sc, (Builtin.copy_ #[231, 231] ty #[.slice (some ⟨w.heap.size, (i + 1) * 2, none⟩) (n - i) dc, .slice (some ⟨b, i * 2, none⟩) (n - i) sc]).run Tryz.prog W = .ok (goInt (n - i : Nat)) (W.setCells w.heap.size ((i + 1) * 2) (cs.drop (i * 2))) := fun W hWc hWf ty dc sc => by
  have hmin : Nat.min (n - i) (n - i) = n - i := by simp only [Nat.min_def]; split <;> omega
  have := run_copy_sz W 231 231 ty 253 w.heap.size ((i + 1) * 2) (n - i) dc ⟨b, i * 2, none⟩ (n - i) sc (cs.drop (i * 2)) Tryz.underlying231 hti (by rw [hdl, hts, hmin])
   (fun j v hj => by
    rw [Addr.add_lit, hWc, World.cell?_setCells_out _ _ _ _ _ (fun h _ => absurd h hbN)]
    exact hOb _ v (hcs (i * 2 + j) v (by rwa [List.getElem?_drop] at hj)))
   (fun j hj => by rw [hWc]; exact isSome_setCells w.heap.size vs (i * 2) W1 (fun t ht => hN _ (by omega)) _ (hN _ (by rw [hdl] at hj; omega)))
   (fun j hj => by rw [hWf, World.frozen?_setCells]; exact hNf _) (fun v hv => h1c v (List.mem_of_mem_drop hv))
  rw [hmin] at this; exact this
 subst hW1
 have hE1 : ∀ x, ((w.alloc (.cells ROW 253)).drew).cell? x = (w.drew.alloc (.cells ROW 253)).cell? x := fun x => rfl
 have hE2 : ∀ x, ((w.alloc (.cells ROW 253)).drew).frozen? x = (w.drew.alloc (.cells ROW 253)).frozen? x := fun x => rfl
 have hF1 : ∀ x, (((w.alloc (.cells ROW 253)).drew.setCells w.heap.size (i * 2) vs).drew).cell? x = ((w.drew.alloc (.cells ROW 253)).setCells w.heap.size (i * 2) vs).cell? x := fun x => rfl
 have hF2 : ∀ x, (((w.alloc (.cells ROW 253)).drew.setCells w.heap.size (i * 2) vs).drew).frozen? x = ((w.drew.alloc (.cells ROW 253)).setCells w.heap.size (i * 2) vs).frozen? x := fun x => rfl
 have hw1 : IntKind.i64.wrap ((i : Int) + 1) = (i : Int) + 1 := by rw [IntKind.wrap_i64]; omega
 have hb1 : (0 : Int) ≤ (i : Int) + 1 := by omega
 have hin : i ≤ n := by omega
 have htn : ((i : Int) + 1).toNat = i + 1 := by omega
 have hb3 : (i : Int) ≤ (n : Int) := by omega
 have hb6 : (i : Int) + 1 ≤ (n : Int) + 1 := by omega
 clear hkk hik hold hROW hG hRl htl
 go_enter Tryz.func136, Tryz.ntmps136
 go_wp2_with (first
  | (at_builtin; refine Lib.wpList_append_run _ rfl _ _ _ _ rfl _ _ rfl rfl _ _ (hrz _) ?_)
  | (at_builtin; refine wpList_copy_runI _ rfl _ _ 231 231 rfl _ _ rfl rfl (hcpA _ hE1 hE2 _ _) ?_)
  | (at_builtin; refine wpList_copy_runI _ rfl _ _ 231 231 rfl _ _ rfl rfl (hcpB _ (fun _ => rfl) (fun _ => rfl) _ _ _) ?_))
 go_region_law_o (refine step_copy_runI rfl _ _ 231 231 rfl (.slice (some ⟨w.heap.size, (i + 1) * 2, none⟩) (n - i) (G - (i + 1))) (.slice (some ⟨b, i * 2, none⟩) (n - i) (c - i)) (by simp [Act.eval, Act.put]) (by simp [Act.eval, Act.put]) (hcpB _ hF1 hF2 3 (G - (i + 1)) (c - i)) ?_)
 go_wp2
 go_ret
 exact ⟨rfl, ROW, hRs, hRt, rfl⟩
open Go Go.Proofs Go.RowKit
set_option linter.unusedSectionVars false
variable [Sites]
theorem Tryz.info327i : (Tryz.prog.info? 327).map (fun i => (i.zero, i.size, i.bytes)) = some (some (Value.agg #[.int .i64 0, .bool false, .string ByteArray.empty]), 3, 32) := by kernel_rfl
set_option maxHeartbeats 4000000 in
set_option maxRecDepth 100000 in
theorem Tryz.ins215_shift (b n c i vb voff vc : Nat) (cs vs : List Value) (w : World) (hi : i < n) (hroom : n + 1 ≤ c) (hn63 : n + 1 ≤ 140737488355328) (hvb : vb ≠ b)
  (hcl : cs.length = n * 3) (hvl : vs.length = 3)
  (hcs : ∀ j v, cs[j]? = some v → w.cell? ⟨b, j, none⟩ = some v) (hsp : ∀ j, j < (n + 1) * 3 → (w.cell? ⟨b, j, none⟩).isSome = true) (hfz : ∀ j, j < (n + 1) * 3 → w.frozen? ⟨b, j, none⟩ = false)
  (hvs : ∀ j v, vs[j]? = some v → w.cell? ⟨vb, voff + j, none⟩ = some v) (h1c : ∀ v ∈ cs, v.oneCell' = true) (h1v : ∀ v ∈ vs, v.oneCell' = true)
  (tA tB : TypeId) (kA kB : Nat) (hsa : w.shape? vb = some (tA, kA)) (hsb : w.shape? b = some (tB, kB)) (hkA : kA ≠ 0) (hkB : kB ≠ 0) (hfb : w.frozen? ⟨b, (i + 1) * 3, none⟩ = false) (hfe : w.frozen? ⟨b, kB, none⟩ = false) :
  Calls Tryz.prog 215 #[.slice (some ⟨b, 0, none⟩) n c, .int .i64 i, .slice (some ⟨vb, voff, none⟩) 1 vc] w fun e w' =>
   e = .returned (.slice (some ⟨b, 0, none⟩) (n + 1) c) ∧ w' = (w.drew.setCells b ((i + 1) * 3) (cs.drop (i * 3))).setCells b (i * 3) vs := by
 have hz2 : ¬ ((i : Int) = (n : Int)) := by omega
 have hov : ∀ lb cb, (callFunc 224 #[.slice (some ⟨vb, voff, none⟩) 1 vc, .slice (some ⟨b, (i + 1) * 3, none⟩) lb cb]).run Tryz.prog w = .ok (.value (.bool false)) w := fun lb cb => by
  rw [run_callFunc_extern Tryz.func224 (by kernel_rfl) (by kernel_rfl) (by kernel_rfl) (e := Extern.SlicesOverlaps.overlaps #[236, 236] #[4]) (by kernel_rfl),
   run_overlaps_b w 236 4 327 Tryz.underlying236 3 Tryz.sizeOf327 ⟨vb, voff, none⟩ ⟨b, (i + 1) * 3, none⟩ 1 vc lb cb hvb tA tB kA kB hsa hsb hkA hkB hfb hfe]
  rfl
 obtain ⟨ti, hti, htz, hts, htb⟩ := info_parts Tryz.info327i
 have hdl : (cs.drop (i * 3)).length = (n - i) * 3 := by rw [List.length_drop, hcl, Nat.sub_mul]
 have mixed := mixed
 have hin : i ≤ n := by omega
 have hw1 : IntKind.i64.wrap ((i : Int) + 1) = (i : Int) + 1 := by rw [IntKind.wrap_i64]; omega
 have hb1 : (0 : Int) ≤ (i : Int) + 1 := by omega
 have htn : ((i : Int) + 1).toNat = i + 1 := by omega
 have hb3 : (i : Int) ≤ (n : Int) + 1 := by omega
 have hb5 : (i : Int) + 1 ≤ (n : Int) + 1 := by omega
 have hb2 : ¬ (c = i + 1) := by omega
 have hb4 : ¬ (c = i) := by omega
 have hcp1 : ∀ ty dc sc, (Builtin.copy_ #[236, 236] ty #[.slice (some ⟨b, (i + 1) * 3, none⟩) (n - i) dc, .slice (some ⟨b, i * 3, none⟩) (n + 1 - i) sc]).run Tryz.prog w.drew = .ok (goInt (n - i : Nat)) (w.drew.setCells b ((i + 1) * 3) (cs.drop (i * 3))) := fun ty dc sc => by
  have hmin : Nat.min (n + 1 - i) (n - i) = n - i := by simp only [Nat.min_def]; split <;> omega
  have := run_copy_sz w.drew 236 236 ty 327 b ((i + 1) * 3) (n - i) dc ⟨b, i * 3, none⟩ (n + 1 - i) sc (cs.drop (i * 3)) Tryz.underlying236 hti (by rw [hdl, hts, hmin])
   (fun j v hj => by rw [Addr.add_lit]; exact hcs (i * 3 + j) v (by rwa [List.getElem?_drop] at hj))
   (fun j hj => hsp _ (by rw [hdl] at hj; omega)) (fun j hj => hfz _ (by rw [hdl] at hj; omega)) (fun v hv => h1c v (List.mem_of_mem_drop hv))
  rw [hmin] at this; exact this
 obtain ⟨W1, hW1⟩ : ∃ W1, W1 = w.drew.setCells b ((i + 1) * 3) (cs.drop (i * 3)) := ⟨_, rfl⟩
 have hsp1 : ∀ k, k < (n + 1) * 3 → (W1.cell? ⟨b, k, none⟩).isSome = true := fun k hk => by
  rw [hW1]
  exact isSome_setCells b (cs.drop (i * 3)) ((i + 1) * 3) w.drew (fun j hj => hsp ((i + 1) * 3 + j) (by rw [hdl] at hj; omega)) k (hsp k hk)
 have hcp2 : ∀ (W : World), (∀ x, W.cell? x = W1.cell? x) → (∀ x, W.frozen? x = W1.frozen? x) → ∀ ty dc, (Builtin.copy_ #[236, 236] ty #[.slice (some ⟨b, i * 3, none⟩) (n + 1 - i) dc, .slice (some ⟨vb, voff, none⟩) 1 vc]).run Tryz.prog W = .ok (goInt (1 : Nat)) (W.setCells b (i * 3) vs) := fun W hWc hWf ty dc => by
  have hmin : Nat.min 1 (n + 1 - i) = 1 := by simp only [Nat.min_def]; split <;> omega
  have := run_copy_sz W 236 236 ty 327 b (i * 3) (n + 1 - i) dc ⟨vb, voff, none⟩ 1 vc vs Tryz.underlying236 hti (by rw [hvl, hts, hmin])
   (fun j v hj => by
    rw [Addr.add_lit, hWc, hW1, World.cell?_setCells_out b _ _ _ _ (fun h _ => absurd h hvb)]
    exact hvs j v hj)
   (fun j hj => by rw [hWc]; exact hsp1 _ (by omega)) (fun j hj => by rw [hWf, hW1, World.frozen?_setCells]; exact hfz _ (by omega)) h1v
  rw [hmin] at this; exact this
 rw [← hW1] at hcp1
 go_enter Tryz.func215, Tryz.ntmps215
 go_wp2_with (simp only [hov])
 go_region_law_o (refine step_copy_runI rfl _ _ 236 236 rfl _ _ (by simp [Act.eval, Act.put]) (by simp [Act.eval, Act.put]) (hcp1 _ _ _) ?_)
 go_wp2_with (at_builtin; refine wpList_copy_runI _ rfl _ _ 236 236 rfl _ _ rfl rfl (hcp2 _ (fun _ => rfl) (fun _ => rfl) _ _) ?_)
 go_ret
 first | exact ⟨rfl, rfl⟩ | exact ⟨rfl, by rw [hW1]⟩
set_option maxHeartbeats 4000000 in
set_option maxRecDepth 100000 in
theorem Tryz.ins215_end_room (b n c vb voff vc : Nat) (vs : List Value) (w : World) (hroom : n + 1 ≤ c) (hn63 : n + 1 ≤ 140737488355328) (hvl : vs.length = 3)
  (hvs : ∀ j v, vs[j]? = some v → w.cell? ⟨vb, voff + j, none⟩ = some v) (h1v : ∀ v ∈ vs, v.oneCell' = true) {cc : Array Value} {el : TypeId} {fr : Nat × Nat} (hw : w.heap[b]? = some (.cells cc el fr)) (hfr : Thaw cc.size el fr) (hcc : (n + 1) * 3 ≤ cc.size) :
  Calls Tryz.prog 215 #[.slice (some ⟨b, 0, none⟩) n c, .int .i64 n, .slice (some ⟨vb, voff, none⟩) 1 vc] w fun e w' =>
   e = .returned (.slice (some ⟨b, 0, none⟩) (n + 1) c) ∧ w' = w.setCells b (n * 3) vs := by
 obtain ⟨ti, hti, htz, hts, htb⟩ := info_parts Tryz.info327i
 have mixed := mixed
 have hf : (Builtin.firstCells ti.size 1 (.slice (some ⟨vb, voff, none⟩) 1 vc)).run Tryz.prog w = .ok vs.toArray w := by
  rw [hts]
  exact run_firstCells_some w 3 1 ⟨vb, voff, none⟩ 1 vc vs (by omega) (fun j v hj => by rw [Addr.add_lit]; exact hvs j v hj)
 have hrun : ∀ ty, (Builtin.append_ #[236, 236] ty #[.slice (some ⟨b, 0, none⟩) n c, .slice (some ⟨vb, voff, none⟩) 1 vc]).run Tryz.prog w = .ok (.slice (some ⟨b, 0, none⟩) (n + 1) c) (w.setCells b (n * 3) vs) := fun ty => by
  have := run_append_in (ty := ty) Tryz.underlying236 (.inl ⟨_, Tryz.underlying236⟩) hti (b := b) (oo := 0) (sLen := n) (cap' := c) (m := 1) (fun _ => rfl) hf hroom hw hfr (by rw [hts]; omega) h1v
  rw [hts, Nat.zero_add] at this; exact this
 clear hf
 go_enter Tryz.func215, Tryz.ntmps215
 go_wp2_with (at_builtin; refine Lib.wpList_append_run _ rfl _ _ _ _ rfl _ _ rfl rfl _ _ (hrun _) ?_)
 go_ret
 exact ⟨rfl, rfl⟩
set_option maxHeartbeats 4000000 in
set_option maxRecDepth 100000 in
theorem Tryz.ins215_end_grow (base : Option Addr) (n c vb voff vc : Nat) (cs vs : List Value) (w : World) (hnc : n ≤ c) (hroom : c < n + 1) (hbig : (n + 1) * 32 ≤ 140737488355328)
  (hcl : cs.length = n * 3) (hvl : vs.length = 3) (hnil : base = none → n = 0) (hcs : ∀ a, base = some a → ∀ j v, cs[j]? = some v → w.cell? (a.add j) = some v)
  (hvs : ∀ j v, vs[j]? = some v → w.cell? ⟨vb, voff + j, none⟩ = some v)
  (ROW : Array Value) (hROW : ROW = (cs ++ vs ++ (Builtin.zeroCells (Value.agg #[.int .i64 0, .bool false, .string ByteArray.empty] : Value).cells (grownCap w (n + 1) c 327 - (n + 1))).toList).toArray) :
  Calls Tryz.prog 215 #[.slice base n c, .int .i64 n, .slice (some ⟨vb, voff, none⟩) 1 vc] w fun e w' =>
   e = .returned (.slice (some ⟨w.heap.size, 0, none⟩) (n + 1) (grownCap w (n + 1) c 327)) ∧
   w' = w.drew.alloc (.cells ROW 327) := by
 obtain ⟨ti, hti, htz, hts, htb⟩ := info_parts Tryz.info327i
 have mixed := mixed
 have hf : (Builtin.firstCells ti.size 1 (.slice (some ⟨vb, voff, none⟩) 1 vc)).run Tryz.prog w.drew = .ok vs.toArray w.drew := by
  rw [hts]
  exact run_firstCells_some w.drew 3 1 ⟨vb, voff, none⟩ 1 vc vs (by omega) (fun j v hj => by rw [Addr.add_lit]; exact hvs j v hj)
 have hold : (Builtin.firstCells ti.size n (.slice base n c)).run Tryz.prog w.drew = .ok cs.toArray w.drew := by
  rw [hts]
  cases base with
  | none =>
   have h0 := hnil rfl
   subst h0
   have h1 : cs = [] := List.length_eq_zero_iff.1 (by omega)
   rw [h1]
   exact run_firstCells_none w.drew 3 0 0 c
  | some a => exact run_firstCells_some w.drew 3 n a n c cs (by omega) (fun j v hj => hcs a rfl j v hj)
 have hrun : ∀ ty, (Builtin.append_ #[236, 236] ty #[.slice base n c, .slice (some ⟨vb, voff, none⟩) 1 vc]).run Tryz.prog w = .ok (.slice (some ⟨w.heap.size, 0, none⟩) (n + 1) (grownCap w (n + 1) c 327)) (w.drew.alloc (.cells ROW 327)) := fun ty => by
  rw [hROW]
  exact
  run_append_out (ty := ty) Tryz.underlying236 (.inl ⟨_, Tryz.underlying236⟩) hti htz (base := base) (sLen := n) (sCap := c) (m := 1) (fun _ => rfl) hf hold hroom (by omega) (by rw [htb]; exact growslice_fits hroom hbig)
 clear hf hold hROW
 go_enter Tryz.func215, Tryz.ntmps215
 cases base with
 | none =>
  have h0 := hnil rfl
  subst h0
  go_wp2_with (at_builtin; refine Lib.wpList_append_run _ rfl _ _ _ _ rfl _ _ rfl rfl _ _ (hrun _) ?_)
  go_ret
  exact ⟨rfl, rfl⟩
 | some a =>
  obtain ⟨ab, ao, asp⟩ := a
  go_wp2_with (at_builtin; refine Lib.wpList_append_run _ rfl _ _ _ _ rfl _ _ rfl rfl _ _ (hrun _) ?_)
  all_goals (go_ret; exact ⟨rfl, rfl⟩)
set_option maxHeartbeats 4000000 in
set_option maxRecDepth 100000 in
theorem Tryz.ins215_grow (b n c i vb voff vc : Nat) (cs vs : List Value) (w : World) (hi : i < n) (hnc : n ≤ c) (hroom : c < n + 1) (hbig : (n + 1) * 32 ≤ 140737488355328)
  (hcl : cs.length = n * 3) (hvl : vs.length = 3)
  (hcs : ∀ j v, cs[j]? = some v → w.cell? ⟨b, j, none⟩ = some v)
  (hvs : ∀ j v, vs[j]? = some v → w.cell? ⟨vb, voff + j, none⟩ = some v) (h1c : ∀ v ∈ cs, v.oneCell' = true) (h1v : ∀ v ∈ vs, v.oneCell' = true) :
  Calls Tryz.prog 215 #[.slice (some ⟨b, 0, none⟩) n c, .int .i64 i, .slice (some ⟨vb, voff, none⟩) 1 vc] w fun e w' =>
   e = .returned (.slice (some ⟨w.heap.size, 0, none⟩) (n + 1) (grownCap w (n + 1) c 327)) ∧
   ∃ ROW : Array Value, ROW.size = (grownCap w (n + 1) c 327) * 3 ∧ (∀ (j : Nat) (v : Value), (cs.take (i * 3))[j]? = some v → ROW[j]? = some v) ∧
   w' = (((w.alloc (.cells ROW 327)).drew.setCells w.heap.size (i * 3) vs).drew).setCells w.heap.size ((i + 1) * 3) (cs.drop (i * 3)) := by
 obtain ⟨ti, hti, htz, hts, htb⟩ := info_parts Tryz.info327i
 have mixed := mixed
 have hz2 : ¬ ((i : Int) = (n : Int)) := by omega
 have hz3 : (c : Int) < (n : Int) + 1 := by omega
 have hbw : b < w.heap.size := block_lt_of_cell (hcs 0 _ (List.getElem?_eq_getElem (by omega)))
 have hvw : vb < w.heap.size := block_lt_of_cell (hvs 0 _ (List.getElem?_eq_getElem (by omega)))
 have hkk : (n : Int) + 1 - (i : Int) = ((n + 1 - i : Nat) : Int) := by omega
 have hik : i + (n + 1 - i) = n + 1 := by omega
 have htl : (cs.take (i * 3)).length = i * 3 := by rw [List.length_take]; omega
 have hold : (Builtin.firstCells ti.size i (.slice (some ⟨b, 0, none⟩) i c)).run Tryz.prog w.drew = .ok (cs.take (i * 3)).toArray w.drew := by
  rw [hts]
  exact run_firstCells_some w.drew 3 i ⟨b, 0, none⟩ i c (cs.take (i * 3)) (by rw [htl]) (fun j v hj => by
   rw [Addr.add_lit]
   rw [List.getElem?_take] at hj
   split at hj
   ·simpa using hcs j v hj
   ·cases hj)
 have hrz : ∀ ty, (Builtin.append_ #[236, 3] ty #[.slice (some ⟨b, 0, none⟩) i c, .int .i64 ((n : Int) + 1 - (i : Int))]).run Tryz.prog w =
   .ok (.slice (some ⟨w.heap.size, 0, none⟩) (n + 1) (grownCap w (n + 1) c 327)) (w.drew.alloc (.cells ((cs.take (i * 3)).toArray ++ Builtin.zeroCells (Value.agg #[.int .i64 0, .bool false, .string ByteArray.empty] : Value).cells (n + 1 - i) ++ Builtin.zeroCells (Value.agg #[.int .i64 0, .bool false, .string ByteArray.empty] : Value).cells (grownCap w (n + 1) c 327 - (n + 1))) 327)) := fun ty => by
  have h := Lib.run_append_grow_zeros w 236 3 ty 327 ti _ .i64 .i64 Tryz.underlying236 Tryz.underlying3 hti htz (some ⟨b, 0, none⟩) i c (cs.take (i * 3)) hold (n + 1 - i) (by omega) (by omega) (by omega) (by omega) (by rw [htb]; omega) (by rw [htb, hik]; exact growslice_fits hroom hbig)
  rw [hik] at h
  rw [hkk]
  exact h
 obtain ⟨G, hG⟩ : ∃ G, G = grownCap w (n + 1) c 327 := ⟨_, rfl⟩
 obtain ⟨ROW, hROW⟩ : ∃ ROW : Array Value, ROW = (cs.take (i * 3)).toArray ++ Builtin.zeroCells (Value.agg #[.int .i64 0, .bool false, .string ByteArray.empty] : Value).cells (n + 1 - i) ++ Builtin.zeroCells (Value.agg #[.int .i64 0, .bool false, .string ByteArray.empty] : Value).cells (G - (n + 1)) := ⟨_, rfl⟩
 rw [← hG] at hrz ⊢
 rw [← hROW] at hrz
 have hGn : n + 1 ≤ G := by rw [hG]; exact grownCap_ge w _ _ _
 have hRs : ROW.size = G * 3 := by
  rw [hROW]
  simp only [Builtin.zeroCells, Array.size_append, Array.size_map, Array.size_range, List.size_toArray, htl]
  show i * 3 + (n + 1 - i) * 3 + (G - (n + 1)) * 3 = _
  omega
 have hRl : (n + 1) * 3 ≤ ROW.size := by rw [hRs]; exact Nat.mul_le_mul_right _ hGn
 have hRt : ∀ (j : Nat) (v : Value), (cs.take (i * 3))[j]? = some v → ROW[j]? = some v := fun j v hj => by
  have hlt : j < (cs.take (i * 3)).toArray.size := by simpa using (List.getElem?_eq_some_iff.1 hj).1
  rw [hROW, Array.getElem?_append_left (by rw [Array.size_append]; omega), Array.getElem?_append_left hlt, List.getElem?_toArray]; exact hj
 obtain ⟨W1, hW1⟩ : ∃ W1, W1 = w.drew.alloc (.cells ROW 327) := ⟨_, rfl⟩
 rw [← hW1] at hrz
 have hN : ∀ j, j < (n + 1) * 3 → (W1.cell? ⟨w.heap.size, j, none⟩).isSome = true := fun j hj => by
  rw [hW1, World.cell?_alloc_at (w := w.drew) ROW _ w.heap.size j rfl, Array.getElem?_eq_getElem (by omega)]; rfl
 have hNf : ∀ j, W1.frozen? ⟨w.heap.size, j, none⟩ = false := fun j => by rw [hW1]; exact World.frozen?_alloc_at (w := w.drew) ROW _ w.heap.size j rfl
 have hOb : ∀ j v, w.cell? ⟨b, j, none⟩ = some v → W1.cell? ⟨b, j, none⟩ = some v := fun j v h => by rw [hW1, World.cell?_alloc_past (w := w.drew) _ b j hbw]; exact h
 have hOv : ∀ j v, w.cell? ⟨vb, j, none⟩ = some v → W1.cell? ⟨vb, j, none⟩ = some v := fun j v h => by rw [hW1, World.cell?_alloc_past (w := w.drew) _ vb j hvw]; exact h
 have hcpA : ∀ (W : World), (∀ x, W.cell? x = W1.cell? x) → (∀ x, W.frozen? x = W1.frozen? x) → ∀ ty dc, (Builtin.copy_ #[236, 236] ty #[.slice (some ⟨w.heap.size, i * 3, none⟩) (n + 1 - i) dc, .slice (some ⟨vb, voff, none⟩) 1 vc]).run Tryz.prog W = .ok (goInt (1 : Nat)) (W.setCells w.heap.size (i * 3) vs) := fun W hWc hWf ty dc => by
  have hmin : Nat.min 1 (n + 1 - i) = 1 := by simp only [Nat.min_def]; split <;> omega
  have := run_copy_sz W 236 236 ty 327 w.heap.size (i * 3) (n + 1 - i) dc ⟨vb, voff, none⟩ 1 vc vs Tryz.underlying236 hti (by rw [hvl, hts, hmin])
   (fun j v hj => by rw [Addr.add_lit, hWc]; exact hOv _ v (hvs j v hj))
   (fun j hj => by rw [hWc]; exact hN _ (by omega)) (fun j hj => by rw [hWf]; exact hNf _) h1v
  rw [hmin] at this; exact this
 have hG63 : G ≤ 9223372036854775807 := by
  have := grownCap_le_maxLen w (n + 1) c 327 (by unfold maxLen; omega)
  rw [← hG] at this
  unfold maxLen at this
  omega
 have hGi : ¬ (G = i) := by omega
 have hGim : ¬ (G = i + 1) := by omega
 have hci : ¬ (c = i) := by omega
 have hbN : b ≠ w.heap.size := by omega
 have hdl : (cs.drop (i * 3)).length = (n - i) * 3 := by rw [List.length_drop, hcl, Nat.sub_mul]
 have hcpB : ∀ (W : World), (∀ x, W.cell? x = (W1.setCells w.heap.size (i * 3) vs).cell? x) → (∀ x, W.frozen? x = (W1.setCells w.heap.size (i * 3) vs).frozen? x) → ∀ ty dc sc, (Builtin.copy_ #[236, 236] ty #[.slice (some ⟨w.heap.size, (i + 1) * 3, none⟩) (n - i) dc, .slice (some ⟨b, i * 3, none⟩) (n - i) sc]).run Tryz.prog W = .ok (goInt (n - i : Nat)) (W.setCells w.heap.size ((i + 1) * 3) (cs.drop (i * 3))) := fun W hWc hWf ty dc sc => by
  have hmin : Nat.min (n - i) (n - i) = n - i := by simp only [Nat.min_def]; split <;> omega
  have := run_copy_sz W 236 236 ty 327 w.heap.size ((i + 1) * 3) (n - i) dc ⟨b, i * 3, none⟩ (n - i) sc (cs.drop (i * 3)) Tryz.underlying236 hti (by rw [hdl, hts, hmin])
   (fun j v hj => by
    rw [Addr.add_lit, hWc, World.cell?_setCells_out _ _ _ _ _ (fun h _ => absurd h hbN)]
    exact hOb _ v (hcs (i * 3 + j) v (by rwa [List.getElem?_drop] at hj)))
   (fun j hj => by rw [hWc]; exact isSome_setCells w.heap.size vs (i * 3) W1 (fun t ht => hN _ (by omega)) _ (hN _ (by rw [hdl] at hj; omega)))
   (fun j hj => by rw [hWf, World.frozen?_setCells]; exact hNf _) (fun v hv => h1c v (List.mem_of_mem_drop hv))
  rw [hmin] at this; exact this
 subst hW1
 have hE1 : ∀ x, ((w.alloc (.cells ROW 327)).drew).cell? x = (w.drew.alloc (.cells ROW 327)).cell? x := fun x => rfl
 have hE2 : ∀ x, ((w.alloc (.cells ROW 327)).drew).frozen? x = (w.drew.alloc (.cells ROW 327)).frozen? x := fun x => rfl
 have hF1 : ∀ x, (((w.alloc (.cells ROW 327)).drew.setCells w.heap.size (i * 3) vs).drew).cell? x = ((w.drew.alloc (.cells ROW 327)).setCells w.heap.size (i * 3) vs).cell? x := fun x => rfl
 have hF2 : ∀ x, (((w.alloc (.cells ROW 327)).drew.setCells w.heap.size (i * 3) vs).drew).frozen? x = ((w.drew.alloc (.cells ROW 327)).setCells w.heap.size (i * 3) vs).frozen? x := fun x => rfl
 have hw1 : IntKind.i64.wrap ((i : Int) + 1) = (i : Int) + 1 := by rw [IntKind.wrap_i64]; omega
 have hb1 : (0 : Int) ≤ (i : Int) + 1 := by omega
 have hin : i ≤ n := by omega
 have htn : ((i : Int) + 1).toNat = i + 1 := by omega
 have hb3 : (i : Int) ≤ (n : Int) := by omega
 have hb6 : (i : Int) + 1 ≤ (n : Int) + 1 := by omega
 clear hkk hik hold hROW hG hRl htl
 go_enter Tryz.func215, Tryz.ntmps215
 go_wp2_with (first
  | (at_builtin; refine Lib.wpList_append_run _ rfl _ _ _ _ rfl _ _ rfl rfl _ _ (hrz _) ?_)
  | (at_builtin; refine wpList_copy_runI _ rfl _ _ 236 236 rfl _ _ rfl rfl (hcpA _ hE1 hE2 _ _) ?_)
  | (at_builtin; refine wpList_copy_runI _ rfl _ _ 236 236 rfl _ _ rfl rfl (hcpB _ (fun _ => rfl) (fun _ => rfl) _ _ _) ?_))
 go_region_law_o (refine step_copy_runI rfl _ _ 236 236 rfl (.slice (some ⟨w.heap.size, (i + 1) * 3, none⟩) (n - i) (G - (i + 1))) (.slice (some ⟨b, i * 3, none⟩) (n - i) (c - i)) (by simp [Act.eval, Act.put]) (by simp [Act.eval, Act.put]) (hcpB _ hF1 hF2 3 (G - (i + 1)) (c - i)) ?_)
 go_wp2
 go_ret
 exact ⟨rfl, ROW, hRs, hRt, rfl⟩
end Go.Proofs.YtbphjihgbenkdaaGreat.HQ
