/-
  The reference's Fold: every text.
-/
import Derived.Test.YtjiheepiobffkaaGreatNames
import Derived.Test.YtjiheepiobffkaaGreatFold
namespace Go.Proofs.YtjiheepiobffkaaGreat.Fr
open Go.RowKit Go.Proofs.YtjiheepiobffkaaGreatW.PrintWords Go.Proofs.YtjiheepiobffkaaGreat.Pr

theorem rValid_calls (s : ByteArray) (w : World) : Calls Tryz.prog 80 #[.string s] w fun e w' => e = .returned (.bool (valid (bl s))) ∧ Below w.heap.size w w' := by
  obtain ⟨k, hk⟩ := (rValid_ev s).rounds
  exact freshetref1_Valid.calls k s _ w hk

set_option maxRecDepth 100000 in
set_option maxHeartbeats 1000000 in
theorem rFold_any (s : ByteArray) (w : World) (hs : s.size ≤ 140737488355328) :
    Calls Tryz.prog 21 #[.string s] w fun e w' => e = .returned (.string (mkB (foldN (bl s)))) ∧ Below w.heap.size w w' := by
  have hv := fun W : World => rValid_calls s W
  by_cases hval : valid (bl s) = true
  · rw [hval] at hv
    have hR : mkB (foldN (bl s)) = foldB s := by unfold foldN; rw [if_pos hval]; rfl
    rw [hR]
    have hconv := fun W : World => Lib.run_convert_string_bytes (P := Tryz.prog) W 9 91 5 s Tryz.underlying9 Tryz.underlying91 Tryz.underlying5
    clear hval hR
    go_enter Tryz.func21, Tryz.ntmps21
    go_wp2_with (go_at_call 80; refine (hv _).mono ?_; rintro e w1 ⟨rfl, hw1⟩)
    have hb0 : Below w.heap.size w (Lib.bytesWorld w1 5 s) := hw1.trans (Below.mono (B := w1.heap.size) ⟨rfl, rfl, rfl, by rw [Lib.bytesWorld_size]; omega, fun k hk => Lib.bytesWorld_at_old w1 5 s k hk⟩ hw1.size)
    have hle : w.heap.size ≤ w1.heap.size := hw1.size
    have hk0 := Lib.hid (BlkBytes.new w1 5 s)
    generalize Lib.bytesWorld w1 5 s = W0 at hb0 hk0 ⊢
    generalize grownCap w1 s.size 0 5 = C0
    generalize w1.heap.size = g at hle hk0 ⊢
    clear hconv hw1 hv
    have hl : s.data.toList.length = s.size := Array.length_toList
    have HL := Lib.hid hl
    clear hl
    go_loopw [4] (fun i wr => ∃ k : Nat, k ≤ s.size ∧ i = .int .i64 k ∧ Hid (BlkBytes wr g (foldUp s.data.toList k)) ∧ Below w.heap.size w wr) (fun i _ => s.size - (intOf i).toNat)
    case atStart => exact ⟨0, Nat.zero_le _, rfl, (by rw [foldUp_zero]; exact hk0), hb0⟩
    case round =>
      obtain ⟨k, hk, rfl, hblk, hb⟩ := hrel
      by_cases hlt : k < s.size
      · have hlen : k < s.data.toList.length := by rw [HL.out]; exact hlt
        have hlen' : k < (foldUp s.data.toList k).length := by rw [foldUp_length]; exact hlen
        have hg := foldUp_get s.data.toList k hlen
        rw [List.getElem?_eq_getElem hlen'] at hg
        injection hg with hg
        have hc := hblk.out.cell k hlen'
        rw [hg] at hc
        have hf := hblk.out.frozen k hlen'
        have HS := Lib.hid (foldUp_succ s.data.toList k hlen)
        have HG := Lib.hid hg
        clear hg
        generalize hcc : s.data.toList[k] = c at hc HS HG
        clear hcc
        have hc255 : c.toNat < 256 := c.toNat_lt
        by_cases h1 : (65 : Int) ≤ (c.toNat : Int)
        · by_cases h2 : (c.toNat : Int) ≤ 90
          · have HF := Lib.hid (foldByte_add c (by omega) (by omega))
            go_wp2
            go_roundw
            case rel =>
              refine ⟨k + 1, by omega, by go_num, ?_, hb.setCell hle _⟩
              have h := hblk.out.set k hlen' (foldByte c)
              rw [HF.out, ← HS.out] at h
              rw [show (c.toNat : Int) + 32 = ((c.toNat + 32 : Nat) : Int) from by omega]
              exact h
            case measure => simp [intOf]; omega
          · have HF := Lib.hid (foldByte_keep c (by omega))
            go_wp2
            go_roundw
            case rel =>
              refine ⟨k + 1, by omega, by go_num, ?_, hb⟩
              show BlkBytes wr g (foldUp s.data.toList (k + 1))
              rw [HS.out, HF.out, ← HG.out, List.set_getElem_self]
              exact hblk.out
            case measure => simp [intOf]; omega
        · have HF := Lib.hid (foldByte_keep c (by omega))
          go_wp2
          go_roundw
          case rel =>
            refine ⟨k + 1, by omega, by go_num, ?_, hb⟩
            show BlkBytes wr g (foldUp s.data.toList (k + 1))
            rw [HS.out, HF.out, ← HG.out, List.set_getElem_self]
            exact hblk.out
          case measure => simp [intOf]; omega
      · obtain rfl : k = s.size := by omega
        have hcv := run_convert_bytes_arg (P := Tryz.prog) wr 91 5 Tryz.underlying91 Tryz.underlying5 g 0 s.size C0 ((foldUp s.data.toList s.size).map fun b => ((b.toNat : Nat) : Int)) (by rw [List.length_map, foldUp_length, HL.out])
          (fun i hi => by
            have hi' : i < (foldUp s.data.toList s.size).length := by rw [foldUp_length, HL.out]; exact hi
            rw [Nat.zero_add, hblk.out.cell i hi']
            simp [List.getD, List.getElem?_eq_getElem hi']) 9 Tryz.underlying9
        rw [str_of_map] at hcv
        have HE : (⟨(foldUp s.data.toList s.size).toArray⟩ : ByteArray) = foldB s := by
          rw [← HL.out, foldUp_all]
          rfl
        rw [HE] at hcv
        clear HE
        obtain ⟨R, hR⟩ : ∃ R, R = foldB s := ⟨_, rfl⟩
        rw [← hR] at hcv
        have HR := Lib.hid hR
        clear hR hlt hk
        go_wp2
        go_ret
        exact ⟨by rw [← HR.out]; rfl, hb⟩
  · rw [Bool.eq_false_iff.2 hval] at hv
    have hR : mkB (foldN (bl s)) = s := by unfold foldN; rw [if_neg hval]; rfl
    rw [hR]
    clear hval hR
    go_enter Tryz.func21, Tryz.ntmps21
    go_wp2_with (go_at_call 80; refine (hv _).mono ?_; rintro e w1 ⟨rfl, hw1⟩)
    go_ret
    exact ⟨rfl, hw1⟩

end Go.Proofs.YtjiheepiobffkaaGreat.Fr

namespace Go.Proofs.YtjiheepiobffkaaGreat.Pr
open Go.RowKit Go.Proofs.YtjiheepiobffkaaGreatW.PrintWords Go.Proofs.YtjiheepiobffkaaGreat.Fr

def name_fold.f (a0 : ByteArray) : Option ByteArray := if a0.size ≤ 140737488355328 then some (mkB (foldL (bl a0))) else none
theorem name_fold.calls (a0 : ByteArray) (r : ByteArray) (w : World) (h : name_fold.f a0 = some r) :
    Calls Tryz.prog 144 #[.string a0] w fun e w' => e = .returned (.string r) ∧ Below w.heap.size w w' := by
  unfold name_fold.f at h
  split at h
  · injection h with h
    subst h
    exact fold_any a0 w (by omega)
  · cases h
def ref1_Fold.f (a0 : ByteArray) : Option ByteArray := if a0.size ≤ 140737488355328 then some (mkB (foldN (bl a0))) else none
theorem ref1_Fold.calls (a0 : ByteArray) (r : ByteArray) (w : World) (h : ref1_Fold.f a0 = some r) :
    Calls Tryz.prog 21 #[.string a0] w fun e w' => e = .returned (.string r) ∧ Below w.heap.size w w' := by
  unfold ref1_Fold.f at h
  split at h
  · injection h with h
    subst h
    exact rFold_any a0 w (by omega)
  · cases h

end Go.Proofs.YtjiheepiobffkaaGreat.Pr
