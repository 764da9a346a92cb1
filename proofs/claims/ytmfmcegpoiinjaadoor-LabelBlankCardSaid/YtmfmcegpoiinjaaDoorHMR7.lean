/- law26: alive: what its fixed program is written as. Conditions: none (plain facts). -/
import Derived.Test.YtmfmcegpoiinjaaDoorHMR4
namespace Go.Proofs.YtmfmcegpoiinjaaDoor.HM
open Go
set_option maxRecDepth 100000

def progA : List Ins := [⟨4, 0, 0, 0⟩, ⟨3, 3, 1, 2⟩, ⟨19, 0, 0, 0⟩, ⟨5, 0, 0, 0⟩]
def textA : Bs := [98, 101, 103, 105, 110, 10, 106, 117, 109, 112, 32, 112, 51, 32, 49, 32, 50, 10, 114, 101, 116, 114, 121, 10, 58, 112, 51, 10, 101, 110, 100, 10]
theorem itoa_small {k : Nat} (h : k < 10) : Lib.itoa (k : Int) = [UInt8.ofNat (48 + k)] := by
  unfold Lib.itoa
  rw [if_neg (by omega), Int.toNat_natCast, dec_small h]
theorem goalP_N : goalP = goalN [112] := rfl
theorem told_progA : ∀ x ∈ progA, toldS x progA.length := by
  intro x hx
  have h0 : 0 ≤ x.op ∧ x.op < 22 := by
    revert x; unfold progA; decide
  rw [told_iff h0.1 h0.2]
  revert x; unfold progA; decide
theorem text_progA : textT goalP progA 5 = textA := by
  have e1 : Lib.itoa 1 = [49] := itoa_small (k := 1) (by omega)
  have e2 : Lib.itoa 2 = [50] := itoa_small (k := 2) (by omega)
  have e3 : Lib.itoa 3 = [51] := itoa_small (k := 3) (by omega)
  have : textT goalP progA 5 = [98, 101, 103, 105, 110, 10, 106, 117, 109, 112, 32, 112] ++ Lib.itoa 3 ++ [32] ++ Lib.itoa 1 ++ [32] ++ Lib.itoa 2 ++ [10, 114, 101, 116, 114, 121, 10, 58, 112] ++ Lib.itoa 3 ++ [10, 101, 110, 100, 10] := by
    simp [textT, lineT, isT, progA, tellS, tellF, goalP, words, shapes, List.range_succ, Ins.f]
  rw [this, e1, e2, e3]; rfl
theorem write_progA : writeS goalP progA = .inl textA := by
  unfold writeS
  rw [if_neg (by decide), if_pos told_progA]
  exact congrArg Sum.inl text_progA
end Go.Proofs.YtmfmcegpoiinjaaDoor.HM
namespace Go.Proofs.YtmfmcegpoiinjaaDoor.HM
open Go
set_option maxRecDepth 100000

def textB : Bs := [101, 108, 115, 101, 32, 120, 10, 58, 120, 10, 104, 97, 108, 116]
theorem nameOk_x : nameOk [120] := by
  refine ⟨by decide, by decide, fun i c h => ?_⟩
  match i, h with
  | 0, h => cases h; left; decide
theorem said_else : said [101, 108, 115, 101, 32, 120] = some (.ins ⟨20, 0, 0, 0⟩ [120]) := by
  unfold said
  rw [if_neg (by decide), show cutAt 32 [101, 108, 115, 101, 32, 120] = [[101, 108, 115, 101], [120]] by decide,
    show words.idxOf? (List.headD [[101, 108, 115, 101], [120]] []) = some 20 by decide]
  have : fieldsS shapes[20]! (List.drop 1 [[101, 108, 115, 101], [120]]) 0 [] [0, 0, 0] = some ([120], [0, 0, 0]) := by
    show fieldsS [103] [[120]] 0 [] [0, 0, 0] = _
    rw [fieldsS, if_pos rfl, if_pos nameOk_x]; rfl
  simp only [this]
  rfl
theorem said_mark : said [58, 120] = some (.mark [120]) := by
  unfold said
  rw [if_pos (by decide), show List.drop 1 [58, 120] = ([120] : Bs) from rfl, if_pos nameOk_x]
theorem said_halt : said [104, 97, 108, 116] = some (.ins ⟨0, 0, 0, 0⟩ []) := by
  unfold said
  rw [if_neg (by decide), show cutAt 32 [104, 97, 108, 116] = [[104, 97, 108, 116]] by decide,
    show words.idxOf? (List.headD [[104, 97, 108, 116]] []) = some 0 by decide]
  have : fieldsS shapes[0]! (List.drop 1 [[104, 97, 108, 116]]) 0 [] [0, 0, 0] = some ([], [0, 0, 0]) := rfl
  simp only [this]
  rfl
theorem read_textB : readS textB = .inl ([⟨20, 1, 0, 0⟩, ⟨0, 0, 0, 0⟩], [⟨[120], 2, 1⟩]) := by
  have t1 : takeS (((0 : Nat) : Int) + 1) [101, 108, 115, 101, 32, 120] ⟨[], [], []⟩ = some ⟨[⟨20, 0, 0, 0⟩], [], [⟨[120], 1, 0⟩]⟩ := by
    unfold takeS; rw [said_else]; simp
  have t2 : takeS (((1 : Nat) : Int) + 1) [58, 120] ⟨[⟨20, 0, 0, 0⟩], [], [⟨[120], 1, 0⟩]⟩ = some ⟨[⟨20, 0, 0, 0⟩], [⟨[120], 2, 1⟩], [⟨[120], 1, 0⟩]⟩ := by
    unfold takeS; rw [said_mark]; simp
  have t3 : takeS (((2 : Nat) : Int) + 1) [104, 97, 108, 116] ⟨[⟨20, 0, 0, 0⟩], [⟨[120], 2, 1⟩], [⟨[120], 1, 0⟩]⟩ = some ⟨[⟨20, 0, 0, 0⟩, ⟨0, 0, 0, 0⟩], [⟨[120], 2, 1⟩], [⟨[120], 1, 0⟩]⟩ := by
    unfold takeS; rw [said_halt]; simp
  unfold readS
  rw [if_neg (by decide), show cutAt 10 textB = [[101, 108, 115, 101, 32, 120], [58, 120], [104, 97, 108, 116]] by decide,
    passS_yes (by simp) t1, passS_yes (by simp) t2, passS_yes (by simp) t3]
  simp [passS, linkS, setA]
end Go.Proofs.YtmfmcegpoiinjaaDoor.HM
namespace Go.Proofs.YtmfmcegpoiinjaaDoor.HM
open Go
set_option maxRecDepth 100000

section
variable {H : Heap} {Q : HV → Heap → Prop}
theorem alive_wp {cl : List (Nat × Clo)} {rn : List (Nat × Rnd)} {D0 : DD} (hc : lkA cl n_label_lines_1 = some f_label_lines_1) (hr : lkA rn 96110293 = some r0_label_read) (hG : Gl H)
    (h : ∀ H', Kp H H' → Q (.bool true) H') : wp (f_law26_alive (stepD cl rn (stepD cl rn D0)) []) Q H := by
  unfold f_law26_alive
  refine step ?_
  refine wp_nwM (Lm.nil H) fun H1 b eb L1 k1 => ?_
  have hs : RProg H1 ⟨some (b, 0), 4, 4, none⟩ progA := ⟨rfl, by decide, Nat.le_refl 4, .inl rfl, by simp [progA], .inr ⟨b, 0, _, false, rfl, L1.lt (i := 0) rfl, L1.get (i := 0) rfl, by simp [progA]⟩⟩
  have hok : ∀ x ∈ progA, x.ok := by
    intro x hx
    have : Int64 x.op ∧ Int64 x.a ∧ Int64 x.b ∧ Int64 x.c := by
      revert x; unfold progA Int64; decide
    exact ⟨this.1, this.2.1, this.2.2.1, this.2.2.2⟩
  have G1 := hG.kp k1
  refine wp_bnd (label_Write_wp G1 hs hok (fun t H2 ht k2 => ?_) (fun e H2 ht k2 => by rw [write_progA] at ht; cases ht))
  rw [write_progA] at ht
  cases ht
  have G2 := G1.kp k2
  refine step (wp_bnd (label_Read_wp (t := textB) hc hr G2 (by decide) (fun p ms H3 sp hrd k3 hp => ?_) (fun n e H3 hrd k3 => by rw [read_textB] at hrd; cases hrd)))
  rw [read_textB] at hrd
  cases hrd
  refine step ?_
  have hlen := hp.lenI
  have K : Kp H H3 := (k1.trans k2).trans k3
  refine wp_jnV [.bool true] ?_ (step (h H3 K))
  have hl2 : (sp.len : Int) = 2 := hlen
  refine step ⟨fun _ => ⟨fun _ => ⟨fun _ => ⟨fun _ => ⟨fun _ => ?_, fun c => absurd hl2 c⟩, fun c => absurd rfl c⟩, fun c => absurd rfl c⟩, fun c => by rw [beq_eq_false_iff_ne] at c; exact absurd rfl c⟩, fun c => absurd rfl c⟩
  refine wp_atF (i := 0) (k := 1) (v := I 1) hp (by decide) rfl fun b o => ?_
  exact step rfl
end
end Go.Proofs.YtmfmcegpoiinjaaDoor.HM
