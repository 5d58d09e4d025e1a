/-
  The law PickMissing's own function that tells addresses: walked.
-/
import Derived.Test.YtjiheepiobffkaaOrderX
namespace Go.Proofs.Ytjiheepiobffkaa.Fr
open Go.RowKit Go.Proofs.YtjiheepiobffkaaW.PrintWords Go.Proofs.YtjiheepiobffkaaW.PrintLast Go.Proofs.YtjiheepiobffkaaW.PrintMore Go.Proofs.Ytjiheepiobffkaa.Pr
open Go.Sort hiding rd
open Go.Lib

/-- The i-th name. -/
def nm (i : Nat) : ByteArray := ⟨#[1, UInt8.ofNat (97 + i), 0]⟩
/-- What is told of a name. -/
def TM (hs : List Bool) (n : ByteArray) : List Int := match (List.range hs.length).find? (fun i => hs.getD i false && decide (n = nm i)) with
  | some i => [(i : Int)]
  | none => []
theorem TM_length (hs : List Bool) (n : ByteArray) : (TM hs n).length ≤ 1000 := by
  unfold TM
  split <;> simp

theorem byte_str (i : Nat) (hi : i < 12) (W : World) : (convert 32 9 (.slice (some ⟨W.heap.size, 0, none⟩) 1 1)).run Try.prog (W.alloc (.cells #[.int .u8 (97 + (i : Int))] 5)) = .ok (.string ⟨#[UInt8.ofNat (97 + i)]⟩) (W.alloc (.cells #[.int .u8 (97 + (i : Int))] 5)) := by
  have h := Kd.C_string (P := Try.prog) (c := 1) Try.underlying32 Try.underlying5 Try.underlying9 (C_lit (Value.int .u8) (fun _ => rfl) W 5 [97 + (i : Int)] (by simp))
  have hs : ∀ i : Nat, i < 12 → strOfNums [97 + (i : Int)] = ⟨#[UInt8.ofNat (97 + i)]⟩ := by decide +kernel
  rw [hs i hi] at h
  exact h

theorem nm_eq : ∀ i : Nat, i < 12 → ((⟨#[1]⟩ : ByteArray) ++ ⟨#[97 + UInt8.ofNat i]⟩ ++ ⟨#[0]⟩) = nm i := by decide +kernel
theorem nm_beq (n : ByteArray) (i : Nat) (hi : i < 12) : (n.toList == ((⟨#[1]⟩ : ByteArray) ++ ⟨#[97 + UInt8.ofNat i]⟩ ++ ⟨#[0]⟩).toList) = decide (n = nm i) := by
  rw [nm_eq i hi, Bool.eq_iff_iff, decide_eq_true_iff, beq_iff_eq, bl_toList, bl_toList]
  exact ⟨bl_inj, fun h => by rw [h]⟩

set_option maxRecDepth 100000 in
set_option maxHeartbeats 4000000 in
theorem missTell_any (hb : Nat) (A : Option Addr) (c : Nat) (hs : List Bool) (n : ByteArray) (w : World) (hlt : hb < w.heap.size) (hbox : w.cell? ⟨hb, 0, none⟩ = some (.slice A hs.length c)) (hC : Kd.C Kd.bool w A hs.length hs) (hl : hs.length ≤ 12) :
    Calls Try.prog 19 #[.string n, .pointer (some ⟨hb, 0, none⟩)] w fun e w' => ∃ v, e = .returned v ∧ Kd.R (Kd.int .i64) 3 w' w.heap.size (fun _ => True) v (TM hs n) ∧ Below w.heap.size w w' := by
  have HC := Aside0.mk hC
  have HX := Aside0.mk hbox
  clear hC hbox
  go_enter Try.func19, Try.ntmps19
  go_wp2
  go_loopg [4] hs.length (fun kq v4 W => ∃ i : Nat, v4 = .int .i64 i ∧ i ≤ hs.length ∧ hs.length - i ≤ kq ∧ Aside0 (∀ j, j < i → (hs.getD j false && decide (n = nm j)) = false) ∧ Aside0 (Below w.heap.size w W))
  case atStart => exact ⟨0, rfl, Nat.zero_le _, by omega, ⟨fun j hj => absurd hj (Nat.not_lt_zero _)⟩, ⟨Below.refl _ _⟩⟩
  case round =>
    obtain ⟨i, rfl, hi, hm, HN, HB⟩ := hrel
    have hbx : wr.cell? ⟨hb, 0, none⟩ = some (.slice A hs.length c) := (HB.out.cell (p := ⟨hb, 0, none⟩) hlt).trans HX.out
    by_cases hlt1 : i < hs.length
    · obtain ⟨ad1, e, hcell⟩ := Kd.at_bool HC.out (i : Int) (by omega) (by omega)
      subst e
      have he : rdOf false hs (i : Int) = hs.getD i false := rfl
      rw [he, Int.toNat_natCast] at hcell
      replace hcell := (HB.out.cell (World.block_lt_of_cell? w _ hcell)).trans hcell
      have hcv := byte_str i (by omega)
      cases hv : hs.getD i false with
      | false =>
        rw [hv] at hcell
        have HSTEP := Aside0.mk (show ∀ j, j < i + 1 → (hs.getD j false && decide (n = nm j)) = false from fun j hj => by
          rcases Nat.lt_or_ge j i with h1 | h1
          · exact HN.out j h1
          · obtain rfl : j = i := by omega
            rw [hv]; rfl)
        clear hv
        go_wp2
        go_roundg (hs.length - (i + 1))
        case measure => omega
        case rel => exact ⟨i + 1, by go_num, by omega, Nat.le_refl _, HSTEP, HB⟩
      | true =>
        rw [hv] at hcell
        have HV := Aside0.mk hv
        clear hv
        have hq := nm_beq n i (by omega)
        by_cases hn : n = nm i
        · rw [decide_eq_true hn] at hq
          have HT := Aside0.mk (show TM hs n = [(i : Int)] from by
            have : (List.range hs.length).find? (fun i => hs.getD i false && decide (n = nm i)) = some i := by
              rw [List.find?_eq_some_iff_getElem]
              refine ⟨by rw [HV.out, decide_eq_true hn]; rfl, i, by simpa using hlt1, by simp, fun j hj => ?_⟩
              rw [List.getElem_range, HN.out j hj]; rfl
            unfold TM
            rw [this])
          clear hn
          go_wp2
          go_ret
          have hb2 := below_alloc HB.out (.cells #[.int .u8 (97 + (i : Int))] 5)
          have hR := R_lit (Value.int .i64) (fun _ => rfl) (wr.alloc (.cells #[.int .u8 (97 + (i : Int))] 5)) 3 [(i : Int)] (by simp)
          have hR2 := Kd.R_lower (base' := w.heap.size) hR hb2.size
          rw [World.size_alloc] at hR2
          refine ⟨_, rfl, ?_, below_alloc hb2 _⟩
          rw [HT.out]
          exact hR2
        · rw [decide_eq_false hn] at hq
          have HSTEP := Aside0.mk (show ∀ j, j < i + 1 → (hs.getD j false && decide (n = nm j)) = false from fun j hj => by
            rcases Nat.lt_or_ge j i with h1 | h1
            · exact HN.out j h1
            · obtain rfl : j = i := by omega
              rw [decide_eq_false hn, Bool.and_false])
          clear hn
          go_wp2
          go_roundg (hs.length - (i + 1))
          case measure => omega
          case rel => exact ⟨i + 1, by go_num, by omega, Nat.le_refl _, HSTEP, ⟨below_alloc HB.out _⟩⟩
    · obtain rfl : i = hs.length := by omega
      have HE := Aside0.mk (show TM hs n = [] from by
        have : (List.range hs.length).find? (fun i => hs.getD i false && decide (n = nm i)) = none := by
          rw [List.find?_eq_none]
          intro x hx
          rw [HN.out x (List.mem_range.1 hx)]; decide
        unfold TM
        rw [this])
      go_wp2
      go_ret
      exact ⟨_, rfl, by rw [HE.out]; exact Kd.R_nil _ _ _ _ _, HB.out⟩
end Go.Proofs.Ytjiheepiobffkaa.Fr
