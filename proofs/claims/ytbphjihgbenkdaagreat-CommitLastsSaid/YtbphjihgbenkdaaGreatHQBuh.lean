/- Lemmas for the row. Conditions: none. -/
import Derived.Test.YtbphjihgbenkdaaGreatHQBud
import Derived.Test.YtbphjihgbenkdaaGreatHQAtz
namespace Go.Proofs.YtbphjihgbenkdaaGreat.HQ
set_option linter.unusedVariables false
set_option linter.unusedSectionVars false
set_option linter.unusedSimpArgs false
open Go
class SeaOpen [Sea] : Prop where
 wa : lkA Sea.cl n_wafer_All_1 = some f_wafer_All_1
 la : lkA Sea.cl n_wal_Log_All_1 = some f_wal_Log_All_1
 ta : lkA Sea.cl n_tome_Tome_All_1 = some f_tome_Tome_All_1
 ca : lkA Sea.cl n_cell_Row_file_File_All_1 = some f_cell_Row_file_File_All_1
 rt : lkA Sea.rn 71670451 = some r0_tome_Tome_All_1
section
variable {α : Type} {H0 : Heap} {P F : List HP} {m : M α} {Q : α → List HP → Prop} {R : Prop}
instance vi_ntY {l : Nat} [h : V H0 P m Q R] : V1 H0 P (nt (.yld l) m) Q R := ⟨fun q => .red (fun h => h) (h.w q)⟩
end
section
variable {H0 : Heap} {P F F' : List HP} {Q : HV → List HP → Prop} {D : HV → List HV → M HV}
theorem disk_New_v (h : ∀ b, Q (.ptr (some (b, 0))) (own rDisk b ⟨[], [], [], [], []⟩ :: P)) : Wp H0 P (f_disk_New D []) Q := by
 refine Wp.cl ?_
 unfold f_disk_New
 refine Wp.nil chC (sz := 3) (by decide) ?_
 refine go fun b => ?_
 exact ⟨_, h b, .fold (⟨none, 0, 0, none⟩ : Sl) trivial (.cons rfl (.cons rfl .refl))⟩
theorem wafer_Open_e (h : Q (.tup [.str (S []), I 0]) P) : Wp H0 P (f_wafer_Open D [.str (S [])]) Q := by
 unfold f_wafer_Open
 have hs := S_size []
 refine go ⟨fun _ => h, fun c => ?_⟩
 simp only [List.length_nil] at hs
 omega
theorem wafer_All_1_e {b lp : Nat} [fb : Fnd P rC b [.str (S [])] F] (h : Q (.tup []) P) : Wp H0 P (f_wafer_All_1 D [.yld lp, .ptr (some (b, 0))]) Q := by
 unfold f_wafer_All_1
 refine go ?_
 refine Wp.loop (fun _ vs P' => vs = [.str (S [])] ∧ P' = P) 0 ⟨rfl, rfl⟩ ?_
 rintro k vs P' ⟨rfl, rfl⟩
 refine go (wafer_Open_e ?_)
 exact go h
end
section
variable {H0 : Heap} {P F F' : List HP} {Q : HV → List HP → Prop} [Sea] [SeaOpen] {n : Nat}
theorem wafer_Whole_e (h : Q (I 0) P) : Wp H0 P (f_wafer_Whole (lv (n + 1)) [.str (S [])]) Q := by
 refine Wp.cl ?_
 unfold f_wafer_Whole
 refine go fun b3 => ?_
 unfold f_wafer_All
 refine go fun b1 => ?_
 refine go fun lp => ?_
 rw [lv_succ]
 refine Wp.clo SeaOpen.wa ?_
 show Wp H0 _ (f_wafer_All_1 (lv n) [.yld lp, .ptr (some (b1, 0))]) _
 refine wafer_All_1_e ?_
 refine go ?_
 exact ⟨_, h, .weak (.weak (.weak .refl))⟩
theorem wal_Open_e {p a : Nat} {d : Dk} [fd : Fnd P rDisk p d F] (ha : a ≤ 1) (he : d.now a = []) (h : ∀ b, Q (.tup [.ptr (some (b, 0)), I 0]) (own rC b (lgC ⟨p, a, 0⟩) :: P)) : Wp H0 P (f_wal_Open (lv (n + 1)) [.ptr (some (p, 0)), I a]) Q := by
 refine Wp.cl ?_
 unfold f_wal_Open
 have hs := S_size []
 simp only [List.length_nil] at hs
 have fin : Wp H0 P (f_disk_Disk_Read (lv (n + 1)) [.ptr (some (p, 0)), I a]) (fun r P' => r = .str (S []) ∧ P' = P) := disk_Read_v ha ⟨by rw [he], rfl⟩
 obtain rfl | rfl : a = 0 ∨ a = 1 := by omega
 ·refine go ?_
  refine fin.mono ?_
  rintro _ _ ⟨rfl, rfl⟩
  refine go (wafer_Whole_e ?_)
  refine go fun b31 => ?_
  exact ⟨_, h b31, .cons (by rw [hs]; rfl) .refl⟩
 ·refine go ⟨fun _ => ?_, fun c => absurd c (by decide)⟩
  refine fin.mono ?_
  rintro _ _ ⟨rfl, rfl⟩
  refine go (wafer_Whole_e ?_)
  refine go fun b31 => ?_
  exact ⟨_, h b31, .cons (by rw [hs]; rfl) .refl⟩
theorem look_e {p : Nat} {l : Lg} {d : Dk} [fl : Fnd P rC p (lgC l) F] [fk : Fnd F rDisk l.d d F'] (ha : l.a ≤ 1) (he : d.now l.a = []) (h : Q (.tup [I 0, .agg [.str (S []), .sl ⟨none, 0, 0, none⟩]]) P) : Wp H0 P (f_vault_look (lv (n + 2)) [.ptr (some (p, 0))]) Q := by
 refine Wp.cl (Wp.two fl fk ?_)
 unfold f_vault_look
 refine go fun b2 b3 b4 b5 b6 => ?_
 unfold f_wal_Log_All
 refine go fun b1 => ?_
 refine go fun lp => ?_
 rw [lv_succ]
 refine Wp.clo SeaOpen.la ?_
 show Wp H0 _ (f_wal_Log_All_1 (lv (n + 1)) [.yld lp, .ptr (some (b1, 0))]) _
 unfold f_wal_Log_All_1
 refine go fun b7 => ?_
 refine disk_Read_v (d := d) ha ?_
 rw [he]
 refine go ?_
 unfold f_wafer_All
 refine go fun b8 => ?_
 refine go fun lq => ?_
 rw [lv_succ]
 refine Wp.clo SeaOpen.wa ?_
 show Wp H0 _ (f_wafer_All_1 (lv n) [.yld lq, .ptr (some (b8, 0))]) _
 refine wafer_All_1_e ?_
 refine go ?_
 refine go fun h0 w0 h1 w1 => ?_
 refine Wp.ldN (vs := [.str (S []), .sl ⟨none, 0, 0, none⟩]) (by simp) rfl ?_
 refine go fun h2 w2 h3 w3 => ⟨⟨⟨Was.eq w3 w2, Was.eq w2 w1, Was.eq w1 w0, trivial⟩, trivial⟩, ?_⟩
 refine Wp.stN (cs' := [.str (S []), .sl ⟨none, 0, 0, none⟩]) (by simp) rfl ?_
 refine go ?_
 refine Wp.ldN (vs := [.str (S []), .sl ⟨none, 0, 0, none⟩]) (by simp) rfl ?_
 refine go ?_
 exact ⟨_, h, .weak (.weak (.weak (.weak (.weak (.weak (.weak (.weak (.weak (.weak (Ent.perm (fl.p.trans (fk.p.cons _)).symm))))))))))⟩
theorem vault_Open_e {p : Nat} {d : Dk} [fd : Fnd P rDisk p d F] (h0 : d.now 0 = []) (h1 : d.now 1 = [])
  (h : ∀ b l, Q (.tup [.ptr (some (b, 0)), .agg [.str (S []), .sl ⟨none, 0, 0, none⟩], I 0]) (own rC b [.ptr (some (p, 0)), .ptr (some (l, 0)), I 0, .bool false] :: own rC l (lgC ⟨p, 0, 0⟩) :: P)) : Wp H0 P (f_vault_Open (lv (n + 2)) [.ptr (some (p, 0))]) Q := by
 refine Wp.cl ?_
 unfold f_vault_Open
 refine go fun b => ?_
 refine Wp.forL (σ := Option Nat) 2 (by decide) rfl (fun _ i => [I i, .agg [.str (S []), .sl ⟨none, 0, 0, none⟩]]) (out := fun _ => [.agg [.str (S []), .sl ⟨none, 0, 0, none⟩]]) (fun _ _ => rfl) (fun i x => x = none ↔ i = 0)
  (fun _ x => match x with
   | none => own rC b [.ptr (some (p, 0)), .ptr none, I 0, .bool false] :: P
   | some l => own rC b [.ptr (some (p, 0)), .ptr (some (l, 0)), I 0, .bool false] :: own rC l (lgC ⟨p, 0, 0⟩) :: P) none rfl (by simp) .refl ?_ ?_
 ·intro i x hi hx
  refine Wp.blk ?_
  obtain rfl | rfl : i = 0 ∨ i = 1 := by omega
  ·have : x = none := hx.2 rfl
   subst this
   show Wp H0 (own rC b [.ptr (some (p, 0)), .ptr none, I 0, .bool false] :: P) _ _
   refine go (wal_Open_e (p := p) (a := 0) (d := d) (by decide) h0 fun l => ?_)
   refine go ?_
   refine look_e (l := ⟨p, 0, 0⟩) (d := d) (Nat.zero_le 1) h0 ?_
   refine go ?_
   exact ⟨some l, rfl, by simp, .cons rfl (.cons rfl .refl)⟩
  ·obtain ⟨l, rfl⟩ : ∃ l, x = some l := by
    cases x with
    | none => exact absurd (hx.1 rfl) (by decide)
    | some l => exact ⟨l, rfl⟩
   show Wp H0 (own rC b [.ptr (some (p, 0)), .ptr (some (l, 0)), I 0, .bool false] :: own rC l (lgC ⟨p, 0, 0⟩) :: P) _ _
   refine go (wal_Open_e (p := p) (a := 1) (d := d) (by decide) h1 fun l2 => ?_)
   refine go ?_
   refine look_e (l := ⟨p, 1, 0⟩) (d := d) (Nat.le_refl 1) h1 ?_
   refine go ?_
   exact ⟨fun c => absurd c (by decide), fun _ => ⟨some l, rfl, by simp, .weak .refl⟩⟩
 ·intro x hx
  obtain ⟨l, rfl⟩ : ∃ l, x = some l := by
   cases x with
   | none => exact absurd (hx.1 rfl) (by decide)
   | some l => exact ⟨l, rfl⟩
  refine go ?_
  exact ⟨_, h b l, .refl⟩
theorem tome_Bytes_e {p : Nat} {fs : List (Fl × Int)} [fd : Fnd P rTome p fs F] (hf : fs.length = 6) (hn : ∀ x ∈ fs, x.1 = noFl) (h : Q (.str (S [])) P) : Wp H0 P (f_tome_Tome_Bytes (lv (n + 3)) [.ptr (some (p, 0))]) Q := by
 refine Wp.cl ?_
 unfold f_tome_Tome_Bytes
 refine Wp.open rTome p fun r _ => ?_
 refine Wp.open (rRow flC 3) r fun s _ => ?_
 refine Wp.row (s := s) fun q => ?_
 have hsl := q.len
 refine Wp.nil byC (sz := 1) (by decide) ?_
 refine go fun b7 b3 => ?_
 unfold f_tome_Tome_All
 refine go fun b1 => ?_
 refine go fun lp => ?_
 rw [lv_succ]
 refine Wp.clo SeaOpen.ta ?_
 show Wp H0 _ (f_tome_Tome_All_1 (lv (n + 2)) [.yld lp, .ptr (some (b1, 0))]) _
 unfold f_tome_Tome_All_1
 refine go fun b9 => ?_
 unfold f_cell_Row_file_File_All
 refine go fun b8 => ?_
 refine go fun lq => ?_
 rw [lv_succ]
 refine Wp.clo SeaOpen.ca ?_
 show Wp H0 _ (f_cell_Row_file_File_All_1 (lv (n + 1)) [.yld lq, .ptr (some (b8, 0))]) _
 unfold f_cell_Row_file_File_All_1
 refine go ?_
 refine Wp.forL (σ := Unit) 6 (by decide) (by omega) (fun _ i => [I i]) (out := fun _ => []) (fun _ _ => rfl) (fun _ _ => True) (fun _ _ => _) () rfl trivial .refl ?_ ?_
 ·intro i _ hi _
  have hx : fs[i]? = some fs[i] := List.getElem?_eq_getElem (by omega)
  have he := hn _ (List.getElem_mem (by omega : i < fs.length))
  generalize fs[i] = e at hx he
  obtain ⟨f, v⟩ := e
  have he : f = noFl := he
  subst he
  refine Wp.ixN (x := (noFl, v)) rfl hx fun _ _ => ?_
  refine go ?_
  rw [lv_succ]
  refine Wp.rnd (l := lq) SeaOpen.rt ?_
  unfold r0_tome_Tome_All_1
  refine go ⟨fun c => Bool.noConfusion (show false = true from c), fun _ => ?_⟩
  refine go ?_
  exact ⟨(), rfl, trivial, .refl⟩
 ·intro _ _
  refine go ?_
  refine go ?_
  refine go ?_
  refine Wp.ent (P' := own rSty b7 [] :: P) ?_ ?_
  ·exact .fold (⟨none, 0, 0, none⟩ : Sl) (.inl rfl) (.cons rfl (.cons rfl (.back rTome p (.fold r trivial (.cons rfl (.fold s trivial (.cons rfl (.cons rfl (.weak (.weak (.weak (.weak (.weak (.weak .refl))))))))))))))
  refine stylus_Bytes_v (bs := []) ?_
  refine go ?_
  exact ⟨_, h, .weak .refl⟩
end
def stlS (img : Bs) : Bs := [] ++ ([0, 1].map natL).flatten ++ img
def stlL (img : Bs) : Bs := closeL (stlS img)
theorem stlS_len (img : Bs) : (stlS img).length = img.length + 2 := by
 have e0 : natL 0 = [UInt8.ofNat 0] := natL_lo (by decide)
 have e1 : natL 1 = [UInt8.ofNat 1] := natL_lo (by decide)
 unfold stlS
 simp [e0, e1]
abbrev dkS (img : Bs) : Dk := ⟨[], [], stlL img, stlL img, []⟩
theorem dkS_ok {img : Bs} (h : img.length ≤ 900) : DOk' (dkS img) := by
 have e : (stlL img).length ≤ 16384 := by unfold stlL; rw [closeL_len, stlS_len]; omega
 refine ⟨fun a => ?_, fun a => ?_, by simp, fun c hc => by simp at hc, fun a => rfl⟩
 all_goals
  simp only [Dk.now, Dk.safe]
  split
  ·simp
  ·exact e
section
variable {H0 : Heap} {P F F' : List HP} {Q : HV → List HP → Prop} [Sea] [SeaOpen] {n : Nat}
theorem settle_e {p v l : Nat} {img : Bs} (hi : img.length ≤ 900)
  (h : ∀ l2, Q (I 0) (own rC v (vaC ⟨p, l2, 1⟩) :: own rC l2 (lgC ⟨p, 1, img.length + 8⟩) :: own rDisk p (dkS img) :: F)) :
  Wp H0 (own rC v [.ptr (some (p, 0)), .ptr (some (l, 0)), I 0, .bool false] :: own rC l (lgC ⟨p, 0, 0⟩) :: own rDisk p ⟨[], [], [], [], []⟩ :: F) (f_vault_Vault_Settle (lv (n + 2)) [.ptr (some (v, 0)), .str (S img)]) Q := by
 refine Wp.cl ?_
 unfold f_vault_Vault_Settle
 have hsl := stlS_len img
 have hss := S_size (stlS img)
 have e01 : (([] : Bs) ++ ([0, 1].map natL).flatten).length = 2 := by have := stlS_len []; simpa [stlS] using this
 refine Wp.nil byC (sz := 1) (by decide) ?_
 refine go ⟨fun c => absurd c (by decide), fun _ b19 b26 => ?_⟩
 refine Wp.ent (P' := own rSty b19 [] :: own rC b26 [I 0, I 1] :: own rC v [.ptr (some (p, 0)), .ptr (some (l, 0)), I 0, .bool false] :: own rC l (lgC ⟨p, 0, 0⟩) :: own rDisk p ⟨[], [], [], [], []⟩ :: F) (.fold (⟨none, 0, 0, none⟩ : Sl) (.inl rfl) (.cons rfl (.cons rfl (.cons rfl (.cons rfl (.cons rfl (.cons rfl .refl))))))) ?_
 refine stylus_NatB_v [0, 1] rfl rfl (by rw [e01]; decide) (by decide) ?_
 refine go ?_
 refine stylus_Raw_v (l := img) (by rw [List.length_append, e01]; omega) ?_
 refine go (stylus_Bytes_v (bs := stlS img) ?_)
 refine go ⟨fun c => ?_, fun _ h0 w0 h1 w1 h2 w2 h3 w3 h4 w4 h5 w5 => ?_⟩
 ·exfalso; omega
 refine wal_Area_v (l := ⟨p, 0, 0⟩) ?_
 refine go fun h6 w6 h7 w7 => ?_
 have e1 : wr (1 - ((0 : Nat) : Int)) = ((1 : Nat) : Int) := rfl
 rw [e1]
 refine wal_Open_e (p := p) (a := 1) (d := ⟨[], [], [], [], []⟩) (Nat.le_refl 1) rfl fun l2 => ?_
 refine go fun h8 w8 h9 w9 h10 w10 h11 w11 h12 w12 => ⟨⟨⟨Was.eq w12 w11, Was.eq w11 w10, Was.eq w10 w9, Was.eq w9 w8, Was.eq w8 w7, Was.eq w7 w6, Was.eq w6 w5, Was.eq w5 w4, Was.eq w4 w3, Was.eq w3 w2, Was.eq w2 w1, Was.eq w1 w0, trivial⟩, trivial⟩, ?_⟩
 have k0 := DOk'.new
 have k1 := k0.reset (a := 1) (Nat.le_refl 1) (by simp)
 have k2 := k1.sync
 have hz : ((Dk.reset ⟨[], [], [], [], []⟩ 1).sync).now 1 = [] := rfl
 have k3 := k2.app (a := 1) (b := closeL (stlS img)) (Nat.le_refl 1) (by rw [hz, closeL_len]; simp; omega) (by show 0 < 1000000; decide)
 have k4 := k3.sync
 have k5 := k4.reset (a := 0) (Nat.zero_le 1) (by show 0 < 1000000; decide)
 refine wal_Clear_v (l := ⟨p, 1, 0⟩) (d := ⟨[], [], [], [], []⟩) k0 (Nat.le_refl 1) ?_
 refine go (wal_Force_v (l := ⟨p, 1, 0⟩) (d := _) k1 ?_)
 refine go (stylus_Bytes_v (bs := stlS img) ?_)
 refine go ?_
 refine wal_Append_v (l := ⟨p, 1, 0⟩) (d := _) (b := stlS img) k2 (Nat.le_refl 1) (Nat.zero_le _) (by omega) (by show 0 + _ ≤ _; omega) ?_
 refine go (wal_Force_v (l := ⟨p, 1, 0 + ((stlS img).length + 6)⟩) (d := _) k3 ?_)
 refine go (wal_Clear_v (l := ⟨p, 0, 0⟩) (d := _) k4 (Nat.zero_le 1) ?_)
 refine go (wal_Force_v (l := ⟨p, 0, 0⟩) (d := _) k5 ?_)
 refine go ?_
 exact ⟨_, h l2, .cons rfl (.cons (by rw [hsl]; simp) (.cons rfl (.weak (.weak .refl))))⟩
theorem image_e {p : Nat} {fs : List (Fl × Int)} [fd : Fnd P rTome p fs F] (hf : fs.length = 6) (hn : ∀ x ∈ fs, x.1 = noFl) (h : Q (.str (S (natL 0))) P) : Wp H0 P (f_world_image (lv (n + 3)) [I 0, .ptr (some (p, 0))]) Q := by
 refine Wp.cl ?_
 have e0 : natL 0 = [UInt8.ofNat 0] := natL_lo (by decide)
 unfold f_world_image
 refine Wp.nil byC (sz := 1) (by decide) ?_
 refine go fun b7 b10 => ?_
 refine Wp.ent (P' := own rSty b7 [] :: own rC b10 [I 0] :: P) (.fold (⟨none, 0, 0, none⟩ : Sl) (.inl rfl) (.cons rfl (.cons rfl (.cons rfl .refl)))) ?_
 refine stylus_NatB_v [0] rfl rfl (by simp [e0]) (by decide) ?_
 refine go (tome_Bytes_e (fs := fs) hf hn ?_)
 refine go (stylus_Raw_v (l := []) (by simp [e0]) ?_)
 refine go (stylus_Bytes_v ?_)
 refine go ?_
 have e : ([] ++ (List.map natL [0]).flatten ++ [] : Bs) = natL 0 := by simp
 rw [e]
 exact ⟨_, h, .weak .refl⟩
theorem world_Open_e {p : Nat} [fd : Fnd P rDisk p ⟨[], [], [], [], []⟩ F]
  (h : ∀ b vw wi tk va l, Q (.tup [.ptr (some (b, 0)), I 0]) (own rWd b ⟨vw, wi, tk, p, va, 0, 0, 0, 0, [], 0, 0⟩ :: own rView vw vw0 :: own rC wi (wiC ⟨[], [], []⟩) :: own rC tk (tkC ⟨-1, false, -1⟩) :: own rC va (vaC ⟨p, l, 1⟩) :: own rC l (lgC ⟨p, 1, (natL 0).length + 8⟩) :: own rDisk p (dkS (natL 0)) :: F)) :
  Wp H0 P (f_world_Open (lv (n + 3)) [.ptr (some (p, 0))]) Q := by
 refine Wp.cl (Wp.ent (P' := own rDisk p ⟨[], [], [], [], []⟩ :: F) (Ent.perm fd.p) ?_)
 have e0 : natL 0 = [UInt8.ofNat 0] := natL_lo (by decide)
 unfold f_world_Open
 refine go ?_
 refine vault_Open_e (d := ⟨[], [], [], [], []⟩) rfl rfl fun v l => ?_
 refine go ?_
 unfold f_world_read
 refine go ⟨fun _ => ?_, fun c => absurd c (by rw [show S [] = ByteArray.mk #[] from rfl]; simp)⟩
 refine tome_New_v fun t => ?_
 refine go ?_
 refine go ?_
 unfold f_redo_Replay
 refine go ?_
 refine Wp.forL (σ := Unit) 0 (by decide) rfl (fun _ i => [I 0, I i]) (out := fun _ => [I 0]) (fun _ _ => rfl) (fun _ _ => True) (fun _ _ => _) () rfl trivial .refl (fun i _ hi => absurd hi (by omega)) ?_
 intro _ _
 refine go ?_
 refine go ⟨fun c => absurd c (by decide), fun _ => ?_⟩
 refine image_e (fs := List.replicate 6 (noFl, 0)) (by simp) (fun x hx => by rw [(List.mem_replicate.1 hx).2]) ?_
 refine go ?_
 refine Wp.ent (P' := own rC v [.ptr (some (p, 0)), .ptr (some (l, 0)), I 0, .bool false] :: own rC l (lgC ⟨p, 0, 0⟩) :: own rDisk p ⟨[], [], [], [], []⟩ :: own rTome t (List.replicate 6 (noFl, 0)) :: F) (.cons rfl (.cons rfl (.cons rfl (.cons rfl .refl)))) ?_
 refine settle_e (n := n + 1) (by rw [e0]; decide) fun l2 => ?_
 refine go ?_
 refine attempt_NewView_v fun vw => ?_
 refine go ?_
 unfold f_wire_New
 refine go fun wi => ?_
 refine go (token_New_v fun tk => ?_)
 refine Wp.nil ntC (sz := 2) (by decide) ?_
 refine go fun b => ?_
 refine Wp.open rView vw fun y _ => ?_
 refine go ?_
 exact ⟨_, h b vw wi tk v l2, .fold (⟨none, 0, 0, none⟩ : Sl) trivial (.cons rfl (.cons rfl (.fold ((y.1, t, y.2.2) : Nat × Nat × Nat) trivial (.cons rfl (.cons rfl (.cons rfl (.cons rfl (.cons rfl (.cons rfl (.cons rfl (.cons rfl (.cons rfl (.weak .refl)))))))))))))⟩
end
theorem vw0P : VwP vw0 := by
 refine ⟨⟨rfl, rfl, rfl, rfl⟩, fun s x l h1 h2 => ?_, fun l hl => ?_, fun e he => ?_⟩
 ·have : x = (0, 0) := (List.mem_replicate.1 (List.mem_of_getElem? h1)).2
  subst this; simp
 ·have : l ∈ [([] : Bs), [], []] := hl
  simp at this; subst this; simp
 ·rw [(List.mem_replicate.1 he).2]; exact ⟨by simp [noFl], .inr rfl⟩
section
variable {H0 : Heap} {P F F' : List HP} {Q : HV → List HP → Prop} {D : HV → List HV → M HV}
theorem world_View_e {p vv : Nat} {w : Wd} [fw : Fnd P rWd p w F] (e : w.v = vv) (h : Q (.ptr (some (vv, 0))) P) : Wp H0 P (f_world_World_View D [.ptr (some (p, 0))]) Q := by
 subst e
 exact world_View_v h
end
section
variable {H0 : Heap} {P F F' : List HP} {Q : HV → List HP → Prop} [Sea] [SeaOpen] [SeaOk] [SeaLand] {n : Nat}
theorem alive_v (h : Q (.bool true) P) : Wp H0 P (f_law22_alive (lv (n + 3)) []) Q := by
 refine Wp.cl ?_
 unfold f_law22_alive
 refine go (disk_New_v fun p => ?_)
 refine go (world_Open_e (n := n) fun b vw wi tk va l => ?_)
 refine go ?_
 refine world_View_e (w := ⟨vw, wi, tk, p, va, 0, 0, 0, 0, [], 0, 0⟩) (vv := vw) rfl ?_
 refine go ?_
 refine attempt_New_v (v := vw0) (r := (0, 0, 0, 0)) fun a ac st => ?_
 have t0 : TOk vw0 (tri0 vw0.clock (0, 0, 0, 0)) := tri0_ok vw0P
 refine go (attempt_Store_v (v := vw0) (n := n + 2) t0 ?_)
 have t1 := t0.store (i := 0) (x := 5)
 refine go (commit_New_v (by decide) fun c => ?_)
 refine go ?_
 refine Wp.ent (P' := own rC ac [.sl ⟨none, 0, 0, none⟩, .sl ⟨none, 0, 0, none⟩, .sl ⟨none, 0, 0, none⟩, .sl ⟨none, 0, 0, none⟩] :: own rC c (cmC 0 a 0) :: own rWd b ⟨vw, wi, tk, p, va, 0, 0, 0, 0, [], 0, 0⟩ :: own rC tk (tkC ⟨-1, false, -1⟩) :: own rTry a ⟨vw, ac, st, (storeT (tri0 vw0.clock (0, 0, 0, 0)) 0 5).2⟩ :: own rView vw vw0 :: own rC wi (wiC ⟨[], [], []⟩) :: P)
  (.cons rfl (.cons rfl (.cons rfl (.cons rfl (.cons rfl (.cons rfl (.cons rfl (.weak (.weak (.weak (.weak .refl))))))))))) ?_
 refine Wp.ent Ent.acts ?_
 refine Wp.ent (P' := own rC c (cmC 0 a 0) :: own rWd b ⟨vw, wi, tk, p, va, 0, 0, 0, 0, [], 0, 0⟩ :: own rC tk (tkC ⟨-1, false, -1⟩) :: own rTry a ⟨vw, ac, st, (storeT (tri0 vw0.clock (0, 0, 0, 0)) 0 5).2⟩ :: own rView vw vw0 :: own rC wi (wiC ⟨[], [], []⟩) :: own rActs ac ⟨[], [], [], []⟩ :: P)
  (.cons rfl (.cons rfl (.cons rfl (.cons rfl (.cons rfl (.cons rfl (.cons rfl .refl))))))) ?_
 refine commit_Step_0 (i := 0) (a := a) ?_
 refine commit_check_v (w := ⟨vw, wi, tk, p, va, 0, 0, 0, 0, [], 0, 0⟩) (t := ⟨-1, false, -1⟩) (x := ⟨vw, ac, st, (storeT (tri0 vw0.clock (0, 0, 0, 0)) 0 5).2⟩) (v := vw0) vw0P.ok t1.rk (fun c => Bool.noConfusion (show true = false from c)) (fun _ c => Bool.noConfusion (show true = false from c)) (fun _ _ => ⟨0, rfl, ?_⟩)
 refine Wp.ent (P' := own rC c (cmC 0 a 3) :: own rWd b ⟨vw, wi, tk, p, va, 0, 0, 0, 0, [], 0, 0⟩ :: own rC tk (tkC ⟨-1, false, 0⟩) :: own rC wi (wiC ⟨[], [], []⟩) :: own rTry a ⟨vw, ac, st, (storeT (tri0 vw0.clock (0, 0, 0, 0)) 0 5).2⟩ :: own rActs ac ⟨[], [], [], []⟩ :: own rView vw vw0 :: P)
  (.cons rfl (.cons rfl (.cons rfl (.cons rfl (.cons rfl (.cons rfl (.cons rfl .refl))))))) ?_
 refine go ?_
 refine commit_Phase_v (i := 0) (a := a) ?_
 refine go ?_
 refine commit_Step_3 (i := 0) (a := a) ?_
 refine commit_land_v (n := n + 1) (m := 0) (w := ⟨vw, wi, tk, p, va, 0, 0, 0, 0, [], 0, 0⟩) (t := ⟨-1, false, 0⟩) (x := ⟨vw, ac, st, (storeT (tri0 vw0.clock (0, 0, 0, 0)) 0 5).2⟩) (v := vw0) (wi := ⟨[], [], []⟩) (ac := ⟨[], [], [], []⟩) vw0P t1 ⟨by decide, by decide⟩ ⟨by decide, by decide, by decide⟩ (by decide) (by decide) (Nat.zero_le _) ⟨0, rfl, ?_⟩
 refine go ?_
 refine world_Blocks_v (w := ⟨vw, wi, tk, p, va, 0, 0, 0, 0, [], 1, 0⟩) ?_
 refine go ?_
 exact ⟨_, h, .weak (.weak (.weak (.weak (.weak (.weak (.weak .refl))))))⟩
end
structure TyA where
 s : Sl
 sock : Int
 by_ : UInt8
 la : UInt8
 note : Int
 tally : Int
 delta : Int
abbrev tyC (x : TyA) : List HV := [.sl x.s, I x.sock, .int .u8 (x.by_.toNat : Int), .int .u8 (x.la.toNat : Int), I x.note, I x.tally, I x.delta]
def TyA.great (x : TyA) : Bool := decide ((x.s.len : Int) > 20) || (decide (x.delta > 1099511627776) || decide (x.delta < -1099511627776))
def greatB (xs : List TyA) : Bool := decide (6 < xs.length) || xs.any TyA.great
section
variable {H0 : Heap} {P F : List HP} {Q : HV → List HP → Prop} {D : HV → List HV → M HV}
end
end Go.Proofs.YtbphjihgbenkdaaGreat.HQ
