/-
  The law PickAll's own function that tells addresses: walked.
-/
import Derived.Test.YtjiheepiobffkaaMissTell
import Derived.Test.YtjiheepiobffkaaPickOrder
namespace Go.Proofs.Ytjiheepiobffkaa.Fr
open Go.RowKit Go.Proofs.YtjiheepiobffkaaW.PrintWords Go.Proofs.YtjiheepiobffkaaW.PrintLast Go.Proofs.YtjiheepiobffkaaW.PrintMore Go.Proofs.Ytjiheepiobffkaa.Pr
open Go.Sort hiding rd
open Go.Lib

/-- A whole number, around, below nine. -/
def rn (a : Int) : Int := (freshetalike_Round.f a 9).getD 0
theorem rn_some (a : Int) : freshetalike_Round.f a 9 = some (rn a) := by
  obtain ⟨p, h, _⟩ := round_some a 9 (by omega) (by omega)
  unfold rn
  rw [h]; rfl
theorem rn_bd (a : Int) : 0 ≤ rn a ∧ rn a < 9 := by
  obtain ⟨p, h, hp⟩ := round_some a 9 (by omega) (by omega)
  unfold rn
  rw [h]
  exact ⟨by simp, by simpa using hp⟩
theorem rn_calls (a : Int) (w : World) : Calls Try.prog 13 #[.int .i64 a, .int .i64 9] w fun e w' => e = .returned (.int .i64 (rn a)) ∧ Below w.heap.size w w' := by
  refine (freshetalike_Round.calls a 9 (rn a) w (rn_some a)).mono ?_
  rintro e w' ⟨rfl, ⟨n, rfl⟩⟩
  exact ⟨rfl, pw_below_drewN (Below.refl _ _) n⟩

/-- Does the i-th address belong to a name? -/
def isA (n : Nat) (s : ByteArray) (i : Nat) : Bool := decide (i % n < n - 1) && decide (nm (i % n) = s)
/-- What is told of a name by the first so many. -/
def TAk (l : List Int) (n k : Nat) (s : ByteArray) : List Int := ((List.range k).filter (isA n s)).map fun i => rn (l.getD i 0)
def TA (l : List Int) (n : Nat) (s : ByteArray) : List Int := TAk l n l.length s
theorem TAk_succ (l : List Int) (n k : Nat) (s : ByteArray) : TAk l n (k + 1) s = TAk l n k s ++ (if isA n s k = true then [rn (l.getD k 0)] else []) := by
  unfold TAk
  rw [List.range_succ, List.filter_append, List.map_append]
  congr 1
  rw [List.filter_cons, List.filter_nil]
  cases h : isA n s k with
  | true => rw [if_pos rfl, if_pos rfl]; rfl
  | false => rw [if_neg (by decide), if_neg (by decide)]; rfl
theorem TAk_length (l : List Int) (n k : Nat) (s : ByteArray) : (TAk l n k s).length ≤ k := by
  unfold TAk
  rw [List.length_map]
  have := List.length_filter_le (isA n s) (List.range k)
  simpa using this

set_option maxRecDepth 100000 in
set_option maxHeartbeats 4000000 in
theorem allTell_any (b1 b2 b3 : Nat) (A : Option Addr) (c : Nat) (l : List Int) (n : Nat) (A3 : Option Addr) (c3 : Nat) (s : ByteArray) (w : World) (h1 : b1 < w.heap.size) (h2 : b2 < w.heap.size) (h3 : b3 < w.heap.size)
    (x1 : w.cell? ⟨b1, 0, none⟩ = some (.slice A l.length c)) (x2 : w.cell? ⟨b2, 0, none⟩ = some (.int .i64 n)) (x3 : w.cell? ⟨b3, 0, none⟩ = some (.slice A3 ((List.range n).map nm).length c3))
    (hC : Kd.C (Kd.int .i64) w A l.length l) (hN : Kd.C Kd.string w A3 ((List.range n).map nm).length ((List.range n).map nm)) (hl : l.length ≤ 20) (hn : 1 ≤ n) (hn2 : n ≤ 12) :
    Calls Try.prog 12 #[.string s, .pointer (some ⟨b1, 0, none⟩), .pointer (some ⟨b2, 0, none⟩), .pointer (some ⟨b3, 0, none⟩)] w fun e w' => ∃ v, e = .returned v ∧ Kd.R (Kd.int .i64) 3 w' w.heap.size (fun _ => True) v (TA l n s) ∧ Below w.heap.size w w' := by
  have HC := Aside0.mk hC
  have HN := Aside0.mk hN
  have HX1 := Aside0.mk x1
  have HX2 := Aside0.mk x2
  have HX3 := Aside0.mk x3
  clear hC hN x1 x2 x3
  go_enter Try.func12, Try.ntmps12
  go_wp2
  go_loopg [6, 7] l.length (fun kq v6 v7 W => ∃ i : Nat, v7 = .int .i64 i ∧ i ≤ l.length ∧ l.length - i ≤ kq ∧ Aside0 (Kd.R (Kd.int .i64) 3 W w.heap.size (fun _ => True) v6 (TAk l n i s)) ∧ Aside0 (Below w.heap.size w W))
  case atStart => exact ⟨0, rfl, Nat.zero_le _, by omega, ⟨Kd.R_nil _ _ _ _ _⟩, ⟨Below.refl _ _⟩⟩
  case round =>
    obtain ⟨i, rfl, hi, hm, HR, HB⟩ := hrel
    have hx1 := (HB.out.cell (p := ⟨b1, 0, none⟩) h1).trans HX1.out
    have hx2 := (HB.out.cell (p := ⟨b2, 0, none⟩) h2).trans HX2.out
    have hx3 := (HB.out.cell (p := ⟨b3, 0, none⟩) h3).trans HX3.out
    by_cases hlt : i < l.length
    · have hmod : ((i : Int) % (n : Int)) = ((i % n : Nat) : Int) := (Int.natCast_emod i n).symm
      have hkn : i % n < n := Nat.mod_lt _ (by omega)
      have HSU := Aside0.mk (TAk_succ l n i s)
      have HTL := Aside0.mk (TAk_length l n i s)
      obtain ⟨A6, c6, hv6⟩ := Kd.R_slice HR.out
      subst hv6
      have hisA : isA n s i = (decide (i % n < n - 1) && decide (nm (i % n) = s)) := rfl
      generalize i % n = k at hmod hkn hisA
      by_cases hk : k < n - 1
      · have hkl : k < ((List.range n).map nm).length := by simpa using hkn
        obtain ⟨ad3, e3, hc3⟩ := Kd.at_string HN.out (k : Int) (by omega) (by omega)
        subst e3
        rw [rdOf_nat _ _ _ hkl, Int.toNat_natCast] at hc3
        have hnk : ((List.range n).map nm)[k] = nm k := by simp
        rw [hnk] at hc3
        replace hc3 := (HB.out.cell (World.block_lt_of_cell? w _ hc3)).trans hc3
        have hki : (k : Int) < (n : Int) - 1 := by omega
        rw [decide_eq_true hk, Bool.true_and] at hisA
        have hq : ((nm k).toList == s.toList) = decide (nm k = s) := by
          rw [Bool.eq_iff_iff, decide_eq_true_iff, beq_iff_eq, bl_toList, bl_toList]
          exact ⟨bl_inj, fun h => by rw [h]⟩
        clear hnk
        cases hb : decide (nm k = s) with
        | true =>
          rw [hb] at hq hisA
          have HI := Aside0.mk hisA
          clear hb hisA
          obtain ⟨ad1, e1, hc1⟩ := Kd.at_int HC.out (i : Int) (by omega) (by omega)
          subst e1
          have he : rd l (i : Int) = l.getD i 0 := rfl
          rw [he, Int.toNat_natCast] at hc1
          replace hc1 := (HB.out.cell (World.block_lt_of_cell? w _ hc1)).trans hc1
          clear he
          generalize l.getD i 0 = a at hc1 HSU
          have hrn := fun W : World => rn_calls a W
          generalize nm k = nk at hc3 hq
          go_wp2_with (first
            | (go_at_call 13; refine (hrn _).mono ?_; rintro e w1 ⟨rfl, hb1⟩; have HR1 := Aside0.mk (Kd.R_below HR.out hb1); have HB1 := Aside0.mk (HB.out.trans (hb1.mono HB.out.size)); clear hb1)
            | ((with_reducible refine gate_builtin (b := .append) (xs := #[.tmp 30, .tmp 36]) rfl ?_); at_builtin; refine Kd.R_append (Kd.int .i64) (w0 := w) w.heap.size rfl (.tmp 30) (.tmp 36) 30 3 (.int .i64 0) 8 rfl Try.underlying30 info3 rfl (by decide) (by omega) _ (TAk l n i s) (rn a) [.int .i64 (rn a)] (fun _ => True) (fun _ => False) rfl rfl ?aP (fun _ hk => hk.elim) ?aF ?aO ?aB ?aS ?aL ?_; (case aP => exact rfl); (case aB => exact HB1.out); (case aF => exact (fun _ _ => trivial)); (case aO => exact HR1.out); (case aS => exact HB1.out.size); (case aL => have h9 := HTL.out; omega); intro v6 w6 ho hb hg hat; have HA6 := Aside0.mk ho; have HB6 := Aside0.mk hb; clear ho hb hg hat))
          go_roundg (l.length - (i + 1))
          case measure => omega
          case rel => exact ⟨i + 1, by go_num, by omega, Nat.le_refl _, ⟨by rw [HSU.out, HI.out, if_pos rfl]; exact HA6.out⟩, HB6⟩
        | false =>
          rw [hb] at hq hisA
          have HI := Aside0.mk hisA
          clear hb hisA
          generalize nm k = nk at hc3 hq
          go_wp2
          go_roundg (l.length - (i + 1))
          case measure => omega
          case rel => exact ⟨i + 1, by go_num, by omega, Nat.le_refl _, ⟨by rw [HSU.out, HI.out]; simpa using HR.out⟩, HB⟩
      · have hki : ¬ (k : Int) < (n : Int) - 1 := by omega
        rw [decide_eq_false hk, Bool.false_and] at hisA
        have HI := Aside0.mk hisA
        clear hisA
        go_wp2
        go_roundg (l.length - (i + 1))
        case measure => omega
        case rel => exact ⟨i + 1, by go_num, by omega, Nat.le_refl _, ⟨by rw [HSU.out, HI.out]; simpa using HR.out⟩, HB⟩
    · obtain rfl : i = l.length := by omega
      go_wp2
      go_ret
      exact ⟨_, rfl, HR.out, HB.out⟩
end Go.Proofs.Ytjiheepiobffkaa.Fr
