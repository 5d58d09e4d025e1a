/-
  The law PickAll: the walk.
-/
import Derived.Test.YtjiheepiobffkaaAllP
import Derived.Deep.DeepCutAuto
namespace Go.Proofs.Ytjiheepiobffkaa.Fr
open Go.RowKit Go.Proofs.YtjiheepiobffkaaW.PrintWords Go.Proofs.YtjiheepiobffkaaW.PrintLast Go.Proofs.YtjiheepiobffkaaW.PrintMore Go.Proofs.Ytjiheepiobffkaa.Pr
open Go.Sort hiding rd
open Go.Lib

theorem R_setfar {α : Type} {d : Kd α} {e base : Nat} {w : World} {v : Value} {xs : List α} (h : d.R e w base (fun _ => True) v xs) {b : Nat} (hb : b < base) (u : Value) : d.R e (w.setCell ⟨b, 0, none⟩ u) base (fun _ => True) v xs :=
  Kd.R_mono (Kd.R_step (Kd.R_bound h) (fun k hk _ => Below.heap_setCell w ⟨b, 0, none⟩ u k (by have := hk.2.1; show k ≠ b; omega))) (fun _ _ => trivial)
theorem namesA_succ (n : Nat) : namesA (n + 1) = namesA n ++ [nm n] := by simp [namesA, List.range_succ]
theorem rn_same (a : Int) (w : World) : Calls Try.prog 13 #[.int .i64 a, .int .i64 9] w fun e w' => e = .returned (.int .i64 (rn a)) ∧ w' = w := by
  have h := rn_some a
  unfold freshetalike_Round.f at h
  rw [if_neg (by decide)] at h
  injection h with h
  have HH := Aside0.mk h
  clear h
  go_enter Try.func13, Try.ntmps13
  go_wp2
  go_ret
  exact ⟨by rw [← HH.out]; rfl, rfl⟩

set_option maxRecDepth 100000 in
set_option maxHeartbeats 8000000 in
theorem PickAll_any (A : Option Addr) (c : Nat) (l : List Int) (n : Nat) (w : World) (hC : Kd.C (Kd.int .i64) w A l.length l) (hl : l.length ≤ 20) (hn : 1 ≤ n) (hn2 : n ≤ 12) :
    Calls Try.prog 4 #[.slice A l.length c, .int .i64 n] w fun e w' => e = .returned (.bool true) ∧ Below w.heap.size w w' := by
  have HC0 := Aside0.mk hC
  clear hC
  go_enter Try.func4, Try.ntmps4
  go_wp2
  have HB1 := Aside0.mk (below_alloc (below_alloc (below_alloc (Below.refl w.heap.size w) (.cells #[.slice A l.length c] 30 (0, 0))) (.cells #[.int .i64 n] 3 (0, 0))) (.cells #[.slice none 0 0] 31 (0, 0)))
  have HX1 := Aside0.mk (show (((w.alloc (.cells #[.slice A l.length c] 30 (0, 0))).alloc (.cells #[.int .i64 n] 3 (0, 0))).alloc (.cells #[.slice none 0 0] 31 (0, 0))).heap[w.heap.size]? = some (.cells #[.slice A l.length c] 30 (0, 0)) from heap_alloc_t _ (heap_alloc_t _ (alloc_block w _)))
  have HX2 := Aside0.mk (show (((w.alloc (.cells #[.slice A l.length c] 30 (0, 0))).alloc (.cells #[.int .i64 n] 3 (0, 0))).alloc (.cells #[.slice none 0 0] 31 (0, 0))).heap[w.heap.size + 1]? = some (.cells #[.int .i64 n] 3 (0, 0)) from heap_alloc_t _ (by rw [← World.size_alloc w (.cells #[.slice A l.length c] 30 (0, 0))]; exact alloc_block _ _))
  have HX3 := Aside0.mk (show (((w.alloc (.cells #[.slice A l.length c] 30 (0, 0))).alloc (.cells #[.int .i64 n] 3 (0, 0))).alloc (.cells #[.slice none 0 0] 31 (0, 0))).heap[w.heap.size + 1 + 1]? = some (.cells #[.slice none 0 0] 31 (0, 0)) from by
    have h := alloc_block ((w.alloc (.cells #[.slice A l.length c] 30 (0, 0))).alloc (.cells #[.int .i64 n] 3 (0, 0))) (.cells #[.slice none 0 0] 31 (0, 0))
    rw [World.size_alloc, World.size_alloc] at h
    exact h)
  have hz1 : (((w.alloc (.cells #[.slice A l.length c] 30 (0, 0))).alloc (.cells #[.int .i64 n] 3 (0, 0))).alloc (.cells #[.slice none 0 0] 31 (0, 0))).heap.size = w.heap.size + 1 + 1 + 1 := by rw [World.size_alloc, World.size_alloc, World.size_alloc]
  generalize (((w.alloc (.cells #[.slice A l.length c] 30 (0, 0))).alloc (.cells #[.int .i64 n] 3 (0, 0))).alloc (.cells #[.slice none 0 0] 31 (0, 0))) = w1 at HB1 HX1 HX2 HX3 hz1 ⊢
  have HZ1 := Aside0.mk hz1
  obtain ⟨b, hb⟩ : ∃ b, b = w.heap.size := ⟨_, rfl⟩
  have HB := Aside0.mk hb
  rw [← hb] at HX1 HX2 HX3 HZ1 ⊢
  clear hz1 hb
  -- the names
  go_loopg [7] n (fun kq v7 W => ∃ (i : Nat) (v : Value), v7 = .int .i64 i ∧ i ≤ n ∧ n - i ≤ kq ∧ Aside0 (W.heap[b + 1 + 1]? = some (.cells #[v] 31 (0, 0))) ∧ Aside0 (Kd.R Kd.string 9 W (b + 1 + 1 + 1) (fun _ => True) v (namesA i)) ∧ Aside0 (Below (b + 1 + 1) w1 W))
  case atStart => exact ⟨0, _, rfl, Nat.zero_le _, by omega, HX3, ⟨Kd.R_nil _ _ _ _ _⟩, ⟨Below.refl _ _⟩⟩
  case round =>
    obtain ⟨i, v, rfl, hi, hm, HV, HR, HBW⟩ := hrel
    have hx2 : wr.cell? ⟨b + 1, 0, none⟩ = some (.int .i64 n) := cell_of_heap (i := 0) ((HBW.out.block (b + 1) (by omega)).trans HX2.out) rfl
    have HSZ := Aside0.mk (show b + 1 + 1 + 1 ≤ wr.heap.size from by
      have := HBW.out.size
      have h2 := HV.out
      rcases Nat.lt_or_ge (b + 1 + 1) wr.heap.size with h | h
      · exact h
      · rw [Array.getElem?_eq_none h] at h2; cases h2)
    obtain ⟨A5, c5, hv5⟩ := Kd.R_slice HR.out
    subst hv5
    have HNL := Aside0.mk (namesA_length i)
    rw [HNL.out] at HV HR
    by_cases hlt : i < n
    · have hx3 : wr.cell? ⟨b + 1 + 1, 0, none⟩ = some (.slice A5 i c5) := cell_of_heap (i := 0) HV.out rfl
      have hcv := byte_str i (by omega)
      have hnm := nm_eq i (by omega)
      have HNS := Aside0.mk (namesA_succ i)
      have HRA := Aside0.mk (Kd.R_alloc HR.out (.cells #[.int .u8 (97 + (i : Int))] 5 (0, 0)))
      have HBA := Aside0.mk (show Below (b + 1 + 1 + 1) wr (wr.alloc (.cells #[.int .u8 (97 + (i : Int))] 5 (0, 0))) from (below_alloc (Below.refl wr.heap.size wr) (.cells #[.int .u8 (97 + (i : Int))] 5 (0, 0))).mono HSZ.out)
      have HSA := Aside0.mk (show b + 1 + 1 + 1 ≤ (wr.alloc (.cells #[.int .u8 (97 + (i : Int))] 5 (0, 0))).heap.size from Nat.le_trans HSZ.out (alloc_le _ _))
      go_wp2_with (first | ((with_reducible refine gate_builtin (b := .append) (xs := #[.tmp 42, .tmp 50]) rfl ?_); at_builtin; refine Kd.R_append Kd.string (w0 := wr) (b + 1 + 1 + 1) rfl (.tmp 42) (.tmp 50) 31 9 (.string ⟨#[]⟩) 16 rfl Try.underlying31 info9 rfl (by decide) (by omega) _ (namesA i) (nm i) [.string (nm i)] (fun _ => True) (fun _ => False) rfl (by rw [World.size_alloc]; rfl) ?aP (fun _ hk => hk.elim) ?aF ?aO ?aB ?aS ?aL ?_; (case aP => exact rfl); (case aB => exact HBA.out); (case aF => exact (fun _ _ => trivial)); (case aO => exact HRA.out); (case aS => exact HSA.out); (case aL => have h9 := HNL.out; omega); intro v6 w6 ho hb6 hg hat; obtain ⟨A6, c6, hv6⟩ := Kd.R_slice ho; subst hv6; rw [show (namesA i ++ [nm i]).length = i + 1 from by rw [List.length_append, HNL.out]; rfl] at ho ⊢; have HA6 := Aside0.mk ho; have HB6 := Aside0.mk hb6; have hx6 : w6.cell? ⟨b + 1 + 1, 0, none⟩ = some (.slice A5 i c5) := cell_of_heap (i := 0) ((hb6.block (b + 1 + 1) (by omega)).trans HV.out) rfl; have hf6 := frozen_of_heap (i := 0) ((hb6.block (b + 1 + 1) (by omega)).trans HV.out); clear ho hb6 hg hat))
      go_roundg (n - (i + 1))
      case measure => omega
      case rel => exact ⟨i + 1, _, by go_num, by omega, Nat.le_refl _, ⟨blk_put ((HB6.out.block (b + 1 + 1) (by omega)).trans HV.out) 0 _ rfl⟩, ⟨by rw [HNS.out]; exact R_setfar HA6.out (show b + 1 + 1 < b + 1 + 1 + 1 from by omega) _⟩, ⟨HBW.out.trans ((HB6.out.mono (show b + 1 + 1 ≤ b + 1 + 1 + 1 from by omega)).setCell (Nat.le_refl _) _)⟩⟩
    · obtain rfl : n = i := by omega
      have HBT := Aside0.mk (HB1.out.trans (HBW.out.mono (show w.heap.size ≤ b + 1 + 1 from by have := HB.out; omega)))
      have HY1 := Aside0.mk ((HBW.out.block b (by omega)).trans HX1.out)
      have HY2 := Aside0.mk ((HBW.out.block (b + 1) (by omega)).trans HX2.out)
      have HCA := Aside0.mk (Kd.C_below HC0.out HBT.out)
      have hcn := (Kd.R_reads' HR.out).2.2
      have hcc := (Kd.R_reads' HR.out).2.1
      have HCN := Aside0.mk hcn
      have HCC := Aside0.mk hcc
      have hb1 : b < wr.heap.size := by have := HSZ.out; omega
      have hb2 : b + 1 < wr.heap.size := by have := HSZ.out; omega
      have hb3 : b + 1 + 1 < wr.heap.size := by have := HSZ.out; omega
      clear HX1 HX2 HX3 HZ1 HR HBW hcn hcc HC0 HSZ HB1
      go_wp2
      generalize hw2 : wr = w2 at HBT HY1 HY2 HCA HCN HV hb1 hb2 hb3 hx2 ⊢
      clear hw2 hx2
      -- the unlike addresses
      go_loopg [6, 9] l.length (fun kq v6 v9 W => ∃ i : Nat, v9 = .int .i64 i ∧ i ≤ l.length ∧ l.length - i ≤ kq ∧ Aside0 (Kd.R (Kd.int .i64) 3 W w2.heap.size (fun _ => True) v6 (unl l n i)) ∧ Aside0 (Below w2.heap.size w2 W))
      case atStart => exact ⟨0, rfl, Nat.zero_le _, by omega, ⟨Kd.R_nil _ _ _ _ _⟩, ⟨Below.refl _ _⟩⟩
      case round =>
        obtain ⟨i, rfl, hi, hm, HU, HB2⟩ := hrel
        have hx1 : wr.cell? ⟨b, 0, none⟩ = some (.slice A l.length c) := cell_of_heap (i := 0) ((HB2.out.block _ hb1).trans HY1.out) rfl
        have hx2 : wr.cell? ⟨b + 1, 0, none⟩ = some (.int .i64 n) := cell_of_heap (i := 0) ((HB2.out.block _ hb2).trans HY2.out) rfl
        by_cases hlt : i < l.length
        · have hmod : ((i : Int) % (n : Int)) = ((i % n : Nat) : Int) := (Int.natCast_emod i n).symm
          have HMET := Aside0.mk (show ∀ u, metA l n i u = (decide (i % n = n - 1) || u.any (fun x => x == rn (l.getD i 0))) from fun _ => rfl)
          have HUS := Aside0.mk (show unl l n (i + 1) = if metA l n i (unl l n i) = true then unl l n i else unl l n i ++ [rn (l.getD i 0)] from rfl)
          generalize i % n = k at hmod HMET
          have hlast : (((k : Nat) : Int) == (n : Int) - 1) = decide (k = n - 1) := by
            rw [Bool.eq_iff_iff, beq_iff_eq, decide_eq_true_iff]; omega
          obtain ⟨A6, c6, hv6⟩ := Kd.R_slice HU.out
          subst hv6
          go_upto_region 13 with fail
          go_cut [10] (fun v10 wx => v10 = .bool (decide (k = n - 1)) ∧ Aside0 (Below wr.heap.size wr wx))
          case first =>
            go_quiet (fail)
            all_goals go_wp2_with fail
            all_goals go_meet
            all_goals exact ⟨rfl, ⟨pw_below_drewN (Below.refl _ _) _⟩⟩
          case rest =>
            obtain ⟨rfl, HB3⟩ := hcut
            generalize hwc : wc = w3 at HB3 ⊢
            have HU3 := Aside0.mk (Kd.R_below HU.out HB3.out)
            have HB23 := Aside0.mk (HB2.out.trans (HB3.out.mono HB2.out.size))
            have HUL := Aside0.mk (unl_length l n i)
            clear hwc hx1 hx2 hmod hlast HU HB3 HB2
            generalize hu : unl l n i = u at HUS HU3 HUL ⊢
            have HUE := Aside0.mk hu
            clear hu
            generalize hga : l.getD i 0 = a at HUS HMET
            have HGA := Aside0.mk hga
            clear hga
            go_wp2
            go_loopg [10, 11] u.length (fun kq v10 v11 W => ∃ q : Nat, v11 = .int .i64 q ∧ q ≤ u.length ∧ u.length - q ≤ kq ∧ v10 = .bool (decide (k = n - 1) || (u.take q).any (fun x => x == rn a)) ∧ Aside0 (Below w3.heap.size w3 W))
            case atStart => exact ⟨0, rfl, Nat.zero_le _, by omega, by simp, ⟨Below.refl _ _⟩⟩
            case round =>
              obtain ⟨q, rfl, hq, hmq, rfl, HB4⟩ := hrel
              have HB24 := Aside0.mk (HB23.out.trans (HB4.out.mono HB23.out.size))
              have hx1 : wr.cell? ⟨b, 0, none⟩ = some (.slice A l.length c) := cell_of_heap (i := 0) ((HB24.out.block _ hb1).trans HY1.out) rfl
              have HCA4 := Aside0.mk (Kd.C_below HCA.out HB24.out)
              have HU4 := Aside0.mk (Kd.R_below HU3.out HB4.out)
              obtain ⟨ad1, e1, hc1⟩ := Kd.at_int HCA4.out (i : Int) (by omega) (by omega)
              subst e1
              have he : rd l (i : Int) = l.getD i 0 := rfl
              rw [he, Int.toNat_natCast, HGA.out] at hc1
              clear he
              by_cases hlt2 : q < u.length
              · obtain ⟨ad2, e2, hc2⟩ := Kd.at_int (Kd.R_reads' HU4.out).2.2 (q : Int) (by omega) (by omega)
                subst e2
                have he2 : rd u (q : Int) = u[q] := by simp [rd, List.getElem?_eq_getElem hlt2]
                rw [he2, Int.toNat_natCast] at hc2
                have HTK := Aside0.mk (show (u.take (q + 1)).any (fun x => x == rn a) = ((u.take q).any (fun x => x == rn a) || (u[q] == rn a)) from by rw [List.take_succ_eq_append_getElem hlt2, List.any_append]; simp)
                have HQ1 := Aside0.mk (show q + 1 ≤ u.length from hlt2)
                have hq20 : q ≤ 20 := by have := HUL.out; omega
                clear he2
                generalize u[q] = y at hc2 HTK
                generalize hb0 : (decide (k = n - 1) || (u.take q).any (fun x => x == rn a)) = b0
                have HB0 := Aside0.mk hb0
                clear hb0
                go_upto_region 17 with fail
                cases b0 with
                | true =>
                  go_quiet (fail)
                  all_goals go_wp2_with fail
                  all_goals (
                    go_roundg (u.length - (q + 1))
                    case measure => omega
                    case rel => exact ⟨q + 1, by go_num, HQ1.out, Nat.le_refl _, by rw [HTK.out, ← Bool.or_assoc, HB0.out]; rfl, ⟨pw_below_drewN HB4.out _⟩⟩)
                | false =>
                  have hrn := fun W : World => rn_same a W
                  go_region_held3 (fun w' => w'.cell? ⟨b, 0, none⟩ = some (.slice (some ad1) l.length c) ∧ w'.cell? (ad1.add i) = some (.int .i64 a) ∧ w'.cell? (ad2.add q) = some (.int .i64 y)) (go_keep)
                    (first | (go_at_call 13; refine (hrn _).mono ?_; rintro e w4 ⟨rfl, rfl⟩))
                  all_goals go_wp2_with fail
                  all_goals (
                    go_roundg (u.length - (q + 1))
                    case measure => omega
                    case rel => exact ⟨q + 1, by go_num, HQ1.out, Nat.le_refl _, by rw [HTK.out, ← Bool.or_assoc, HB0.out]; rfl, ⟨below_drew1 HB4.out⟩⟩)
              · obtain rfl : q = u.length := by omega
                have hbq : (decide (k = n - 1) || (u.take u.length).any (fun x => x == rn a)) = metA l n i u := by rw [List.take_length, HMET.out]
                rw [hbq]
                clear hbq
                have HUL20 := Aside0.mk (show u.length ≤ 20 from by have := HUL.out; omega)
                cases hmt : metA l n i u with
                | true =>
                  have HUN := Aside0.mk (HUS.out.trans (if_pos hmt))
                  clear hmt
                  go_wp2
                  go_roundg (l.length - (i + 1))
                  case measure => omega
                  case rel => exact ⟨i + 1, by go_num, by omega, Nat.le_refl _, ⟨by rw [HUN.out]; exact HU4.out⟩, HB24⟩
                | false =>
                  have HUN := Aside0.mk (HUS.out.trans (if_neg (by rw [hmt]; decide)))
                  clear hmt
                  have hrn := fun W : World => rn_calls a W
                  go_wp2_with (first
                    | (go_at_call 13; refine (hrn _).mono ?_; rintro e w5 ⟨rfl, hb5⟩; have HR5 := Aside0.mk (Kd.R_below HU4.out hb5); have HB5 := Aside0.mk (HB24.out.trans (hb5.mono HB24.out.size)); clear hb5)
                    | ((with_reducible refine gate_builtin (b := .append) (xs := #[.tmp 86, .tmp 92]) rfl ?_); at_builtin; refine Kd.R_append (Kd.int .i64) (w0 := w2) w2.heap.size rfl (.tmp 86) (.tmp 92) 30 3 (.int .i64 0) 8 rfl Try.underlying30 info3 rfl (by decide) (by omega) _ u (rn a) [.int .i64 (rn a)] (fun _ => True) (fun _ => False) rfl rfl ?aP (fun _ hk => hk.elim) ?aF ?aO ?aB ?aS ?aL ?_; (case aP => exact rfl); (case aB => exact HB5.out); (case aF => exact (fun _ _ => trivial)); (case aO => exact HR5.out); (case aS => exact HB5.out.size); (case aL => have h9 := HUL20.out; omega); intro v6 w6 ho hb6 hg hat; have HA6 := Aside0.mk ho; have HB6 := Aside0.mk hb6; clear ho hb6 hg hat))
                  go_roundg (l.length - (i + 1))
                  case measure => omega
                  case rel => exact ⟨i + 1, by go_num, by omega, Nat.le_refl _, ⟨by rw [HUN.out]; exact HA6.out⟩, HB6⟩
        · obtain rfl : i = l.length := by omega
          have HTELL := Aside0.mk (fun (W : World) (hb : Below w2.heap.size w2 W) => show TellAt (.func (.func 12) #[] #[.pointer (some ⟨b, 0, none⟩), .pointer (some ⟨b + 1, 0, none⟩), .pointer (some ⟨b + 1 + 1, 0, none⟩)]) (TA l n) W from
            .inr ⟨12, #[.pointer (some ⟨b, 0, none⟩), .pointer (some ⟨b + 1, 0, none⟩), .pointer (some ⟨b + 1 + 1, 0, none⟩)], rfl, enters_of Try.func12 (by kernel_rfl) rfl, fun W2 hbb s _ => by
              have hb3' := hb.trans (hbb.mono hb.size)
              exact allTell_any b (b + 1) (b + 1 + 1) A c l n A5 c5 s W2 (Nat.lt_of_lt_of_le hb1 hb3'.size) (Nat.lt_of_lt_of_le hb2 hb3'.size) (Nat.lt_of_lt_of_le hb3 hb3'.size)
                (cell_of_heap (i := 0) ((hb3'.block _ hb1).trans HY1.out) rfl) (cell_of_heap (i := 0) ((hb3'.block _ hb2).trans HY2.out) rfl) (by rw [show ((List.range n).map nm).length = n from by simp]; exact cell_of_heap (i := 0) ((hb3'.block _ hb3).trans HV.out) rfl)
                (Kd.C_below HCA.out hb3') (Kd.C_below HCN.out hb3') hl hn hn2⟩)
          have hsm : smallSet (setR (namesA n)) := by
            refine ⟨by simp [setR, namesA]; omega, fun r hr => ?_⟩
            obtain ⟨d, hd, rfl⟩ := List.mem_map.1 hr
            obtain ⟨j, hj, rfl⟩ := (namesA_mem n _).1 hd
            have h9 := good_size (nm_good j (by omega))
            show (nm j).size ≤ _
            omega
          have HSM := Aside0.mk hsm
          have HTG := Aside0.mk (targets_A n hn2)
          have HTL := Aside0.mk (fun s => Nat.le_trans (TAk_length l n l.length s) (show l.length ≤ 1000 by omega))
          have hset := fun (W : World) (hb : Below w2.heap.size w2 W) => set_any A5 c5 (namesA n) W (Kd.C_below HCN.out hb) (by rw [namesA_length]; exact HCC.out) (by rw [namesA_length]; omega)
          rw [namesA_length] at hset
          have HSET := Aside0.mk hset
          clear hset hsm hx2
          obtain ⟨A6, c6, hv6⟩ := Kd.R_slice HU.out
          subst hv6
          have HUL := Aside0.mk (unl_length l n l.length)
          have HSTEP := Aside0.mk (fun (t : List S25) (h : AskedA l n t) (hlt : t.length < (unl l n l.length).length) => askedA_step hn h hlt)
          have HEND := Aside0.mk (fun (t : List S25) (h : AskedA l n t) (he : t.length = (unl l n l.length).length) => askedA_end hn h he)
          have hx3 : wr.cell? ⟨b + 1 + 1, 0, none⟩ = some (.slice A5 n c5) := cell_of_heap (i := 0) ((HB2.out.block _ hb3).trans HV.out) rfl
          clear HU
          generalize unl l n l.length = U at HUL HSTEP HEND ⊢
          go_wp2_with fail
          refine (HSET.out _ HB2.out).mono ?_
          rintro e w3 ⟨v8, rfl, hR8, hb8⟩
          obtain ⟨A8, c8, hv8⟩ := Kd.R_slice hR8
          subst hv8
          have HB3 := Aside0.mk (HB2.out.trans (hb8.mono HB2.out.size))
          have hserv := Servers_tell _ (TA l n) HTL.out ⟨#[0]⟩ 2 A8 c8 (setR (namesA n)) 0 ⟨#[0]⟩ w3 (Kd.R_reads' hR8).2.2 (Kd.R_reads' hR8).2.1 (HTELL.out w3 HB3.out) HSM.out
          rw [HTG.out, show serversR (TA l n) (namesA n) = servA l n from rfl] at hserv
          clear hx1 hx3 hR8 hb8 HB2
          go_wp2_with fail
          refine hserv.mono ?_
          clear hserv
          rintro e w4 ⟨v9, rfl, hS, hb4⟩
          obtain ⟨A9, c9, hv9⟩ := Kd.R_slice hS
          subst hv9
          have HS := Aside0.mk (Kd.R_lower (base' := w2.heap.size) hS HB3.out.size)
          have HB4 := Aside0.mk (HB3.out.trans (hb4.mono HB3.out.size))
          clear hS hb4 HB3
          go_wp2
          -- each is asked
          go_loopg [13, 14] U.length (fun kq v13 v14 W => ∃ (j : Nat) (t : List S25), v14 = .int .i64 j ∧ j ≤ U.length ∧ U.length - j ≤ kq ∧ Aside0 (t.length = j ∧ AskedA l n t) ∧ Aside0 (Kd.R k25 25 W w4.heap.size (fun _ => True) v13 t) ∧ Aside0 (Below w4.heap.size w4 W))
          case atStart => exact ⟨0, [], rfl, Nat.zero_le _, by omega, ⟨rfl, askedA_nil l n⟩, ⟨Kd.R_nil _ _ _ _ _⟩, ⟨Below.refl _ _⟩⟩
          case round =>
            obtain ⟨j, t, rfl, hj, hm4, HT, HRT, HB5⟩ := hrel
            have hU20 : U.length ≤ 20 := by have := HUL.out; omega
            obtain ⟨A13, c13, hv13⟩ := Kd.R_slice HRT.out
            subst hv13
            have hnx := Next_any A9 c9 (servA l n) A13 c13 t wr (Kd.C_below (Kd.R_reads' HS.out).2.2 HB5.out) (Kd.R_reads' HRT.out).2.2
            by_cases hlt4 : j < U.length
            · obtain ⟨x, hx, hax⟩ := HSTEP.out t HT.out.2 (by rw [HT.out.1]; exact hlt4)
              rw [hx] at hnx
              have HAX := Aside0.mk hax
              have HTL20 := Aside0.mk (show t.length ≤ 20 from by rw [HT.out.1]; omega)
              clear hx hax
              go_wp2_with fail
              refine hnx.mono ?_
              clear hnx
              rintro e w5 ⟨rfl, hb5⟩
              have HR5 := Aside0.mk (fun o => Kd.R_alloc (Kd.R_below HRT.out hb5) o)
              have HB6 := Aside0.mk (fun o => below_alloc (HB5.out.trans (hb5.mono HB5.out.size)) o)
              have HS6 := Aside0.mk (fun o => Nat.le_trans (Nat.le_trans HB5.out.size hb5.size) (alloc_le w5 o))
              clear hb5
              go_wp2_with (first | ((with_reducible refine gate_builtin (b := .append) (xs := #[.tmp 112, .tmp 114]) rfl ?_); at_builtin; refine Kd.R_append k25 (w0 := w4) w4.heap.size rfl (.tmp 112) (.tmp 114) 22 25 (.agg #[.string ⟨#[]⟩, .int .i64 0]) 24 rfl Try.underlying22 info25 rfl (by decide) (by omega) _ t x [.string x.f0, .int .i64 x.f1] (fun _ => True) (fun _ => False) rfl (by rw [World.size_alloc]; rfl) ?aP (fun _ hk => hk.elim) ?aF ?aO ?aB ?aS ?aL ?_; (case aP => exact k25_mkM _ _ _ _); (case aB => exact HB6.out _); (case aF => exact (fun _ _ => trivial)); (case aO => exact HR5.out _); (case aS => exact HS6.out _); (case aL => have h9 := HTL20.out; omega); intro v7 w7 ho hb7 hg hat; have HA7 := Aside0.mk ho; have HB7 := Aside0.mk hb7; clear ho hb7 hg hat))
              go_roundg (U.length - (j + 1))
              case measure => omega
              case rel => exact ⟨j + 1, t ++ [x], by go_num, by omega, Nat.le_refl _, ⟨by rw [List.length_append, HT.out.1]; rfl, HAX.out⟩, HA7, HB7⟩
            · obtain rfl : j = U.length := by omega
              have hend := HEND.out t HT.out.2 HT.out.1
              rw [hend] at hnx
              clear hend HSTEP HEND
              go_wp2_with fail
              refine hnx.mono ?_
              clear hnx
              rintro e w5 ⟨rfl, hb5⟩
              have HB6 := Aside0.mk (fun o => HB4.out.trans ((below_alloc (HB5.out.trans (hb5.mono HB5.out.size)) o).mono HB4.out.size))
              clear hb5 HB5 HRT HT
              go_wp2
              have HB7 := Aside0.mk (HB6.out (.cells #[.string z25.f0, .int .i64 z25.f1] 25 (0, 0)))
              generalize w5.alloc (.cells #[.string z25.f0, .int .i64 z25.f1] 25 (0, 0)) = w6 at HB7 ⊢
              clear HB6
              have HKN := Aside0.mk (kA_length l n n)
              have HMS := Aside0.mk (fun i => missing_A l n hn2 i)
              have HKS := Aside0.mk (fun k => kA_succ l n k)
              generalize hK : kA l n n = K at HKN HMS
              have HKE := Aside0.mk hK
              clear hK
              -- whose addresses are missing
              go_loopg [19, 20] K.length (fun kq v19 v20 W => ∃ j : Nat, v20 = .int .i64 j ∧ j ≤ K.length ∧ K.length - j ≤ kq ∧ Aside0 (Kd.R Kd.string 9 W w6.heap.size (fun _ => True) v19 ((K.take j).map nm)) ∧ Aside0 (Below w6.heap.size w6 W))
              case atStart => exact ⟨0, rfl, Nat.zero_le _, by omega, ⟨Kd.R_nil _ _ _ _ _⟩, ⟨Below.refl _ _⟩⟩
              case round =>
                obtain ⟨j, rfl, hj5, hm5, HAS, HB8⟩ := hrel
                obtain ⟨A7, c7, hv7⟩ := Kd.R_slice HAS.out
                subst hv7
                have HB9 := Aside0.mk (HB7.out.trans (HB8.out.mono HB7.out.size))
                have hx2 : wr.cell? ⟨b + 1, 0, none⟩ = some (.int .i64 n) := cell_of_heap (i := 0) ((HB9.out.block _ hb2).trans HY2.out) rfl
                have hx3 : wr.cell? ⟨b + 1 + 1, 0, none⟩ = some (.slice A5 n c5) := cell_of_heap (i := 0) ((HB9.out.block _ hb3).trans HV.out) rfl
                have hjn : j ≤ n := by have := HKN.out; omega
                have htr : ∀ x ∈ (K.take j).map nm, x.size ≤ 140737488355328 := fun x hx => by
                  obtain ⟨k, hk, rfl⟩ := List.mem_map.1 hx
                  show 3 ≤ _
                  omega
                have HTR := Aside0.mk htr
                clear htr
                have hmiss := fun (W : World) (hb : Below wr.heap.size wr W) (A8 : Option Addr) (c8 : Nat) (hR : Kd.R k61 61 W wr.heap.size (fun _ => True) (.slice A8 (setR (namesA n)).length c8) (setR (namesA n))) =>
                  Missing_tell _ (TA l n) HTL.out ⟨#[0]⟩ 2 A8 c8 (setR (namesA n)) 0 ⟨#[0]⟩ A7 c7 ((K.take j).map nm) W (Kd.R_reads' hR).2.2 (Kd.R_reads' hR).2.1 (Kd.C_below (Kd.R_reads' HAS.out).2.2 hb) HTR.out (HTELL.out W (HB9.out.trans (hb.mono HB9.out.size))) HSM.out
                have hlenj : ((K.take j).map nm).length = j := by rw [List.length_map, List.length_take]; omega
                simp only [HTG.out, HMS.out j, hlenj] at hmiss
                have hset := HSET.out wr HB9.out
                by_cases hlt5 : j < K.length
                · rw [List.getElem?_eq_getElem hlt5] at hmiss
                  simp only at hmiss
                  have HMISS := Aside0.mk hmiss
                  have HTK := Aside0.mk (show (K.take (j + 1)).map nm = (K.take j).map nm ++ [nm K[j]] from by rw [List.take_succ_eq_append_getElem hlt5, List.map_append]; rfl)
                  have hAS := HAS.out
                  rw [hlenj] at hAS
                  have HAS5 := Aside0.mk hAS
                  have HJL := Aside0.mk (show ((K.take j).map nm).length ≤ 12 from by rw [hlenj]; omega)
                  clear hmiss hlenj hAS HAS
                  generalize nm K[j] = nk at HMISS HTK
                  go_wp2_with fail
                  refine hset.mono ?_
                  clear hset
                  rintro e w7 ⟨v8, rfl, hR8, hb8⟩
                  obtain ⟨A8, c8, hv8⟩ := Kd.R_slice hR8
                  subst hv8
                  have hmiss := HMISS.out w7 hb8 A8 c8 hR8
                  clear hR8 hx2 hx3
                  go_wp2_with fail
                  refine hmiss.mono ?_
                  clear hmiss
                  rintro e w8 ⟨rfl, hb9⟩
                  have HBA := Aside0.mk (HB8.out.trans ((hb8.trans (hb9.mono hb8.size)).mono HB8.out.size))
                  have HASA := Aside0.mk (Kd.R_below HAS5.out (hb8.trans (hb9.mono hb8.size)))
                  clear hb8 hb9
                  go_wp2_with (first | ((with_reducible refine gate_builtin (b := .append) (xs := #[.tmp 137, .tmp 139]) rfl ?_); at_builtin; refine Kd.R_append Kd.string (w0 := w6) w6.heap.size rfl (.tmp 137) (.tmp 139) 31 9 (.string ⟨#[]⟩) 16 rfl Try.underlying31 info9 rfl (by decide) (by omega) _ ((K.take j).map nm) nk [.string nk] (fun _ => True) (fun _ => False) rfl rfl ?aP (fun _ hk => hk.elim) ?aF ?aO ?aB ?aS ?aL ?_; (case aP => exact rfl); (case aB => exact HBA.out); (case aF => exact (fun _ _ => trivial)); (case aO => exact HASA.out); (case aS => exact HBA.out.size); (case aL => have h9 := HJL.out; omega); intro v6 w9 ho hbx hg hat; have HA6 := Aside0.mk ho; have HBB := Aside0.mk hbx; clear ho hbx hg hat))
                  go_roundg (K.length - (j + 1))
                  case measure => omega
                  case rel => exact ⟨j + 1, by go_num, by omega, Nat.le_refl _, ⟨by rw [HTK.out]; exact HA6.out⟩, HBB⟩
                · rw [List.getElem?_eq_none (by omega)] at hmiss
                  simp only at hmiss
                  have HMISS := Aside0.mk hmiss
                  obtain rfl : j = K.length := by omega
                  clear hmiss
                  go_wp2_with fail
                  refine hset.mono ?_
                  clear hset
                  rintro e w7 ⟨v8, rfl, hR8, hb8⟩
                  obtain ⟨A8, c8, hv8⟩ := Kd.R_slice hR8
                  subst hv8
                  have hmiss := HMISS.out w7 hb8 A8 c8 hR8
                  clear hR8 hx2 hx3
                  go_wp2_with fail
                  refine hmiss.mono ?_
                  clear hmiss
                  rintro e w8 ⟨rfl, hb9⟩
                  have HBA := Aside0.mk (HB9.out.trans ((hb8.trans (hb9.mono hb8.size)).mono HB9.out.size))
                  clear hb8 hb9
                  go_wp2
                  -- how many they are
                  go_loopg [23, 24] n (fun kq v23 v24 W => ∃ q : Nat, v24 = .int .i64 q ∧ q ≤ n ∧ n - q ≤ kq ∧ v23 = .int .i64 ((kA l n q).length : Int) ∧ Aside0 (Below w8.heap.size w8 W))
                  case atStart => exact ⟨0, rfl, Nat.zero_le _, by omega, rfl, ⟨Below.refl _ _⟩⟩
                  case round =>
                    obtain ⟨q, rfl, hq6, hm6, rfl, HBC⟩ := hrel
                    have HBD := Aside0.mk (HBA.out.trans (HBC.out.mono HBA.out.size))
                    have hx2 : wr.cell? ⟨b + 1, 0, none⟩ = some (.int .i64 n) := cell_of_heap (i := 0) ((HBD.out.block _ hb2).trans HY2.out) rfl
                    by_cases hlt6 : q < n
                    · have hx3 : wr.cell? ⟨b + 1 + 1, 0, none⟩ = some (.slice A5 n c5) := cell_of_heap (i := 0) ((HBD.out.block _ hb3).trans HV.out) rfl
                      have hnl := namesA_length n
                      obtain ⟨ad3, e3, hc3⟩ := Kd.at_string (Kd.C_below HCN.out HBD.out) (q : Int) (by omega) (by omega)
                      subst e3
                      rw [rdOf_nat _ _ _ (by rw [hnl]; exact hlt6), Int.toNat_natCast, show (namesA n)[q]'(by rw [hnl]; exact hlt6) = nm q from by simp [namesA]] at hc3
                      clear hnl
                      have htell := allTell_any b (b + 1) (b + 1 + 1) A c l n (some ad3) c5 (nm q) wr (Nat.lt_of_lt_of_le hb1 HBD.out.size) (Nat.lt_of_lt_of_le hb2 HBD.out.size) (Nat.lt_of_lt_of_le hb3 HBD.out.size)
                        (cell_of_heap (i := 0) ((HBD.out.block _ hb1).trans HY1.out) rfl) hx2 (by rw [show ((List.range n).map nm).length = n from by simp]; exact hx3) (Kd.C_below HCA.out HBD.out) (Kd.C_below HCN.out HBD.out) hl hn hn2
                      have eg : ∀ args W, (callFunc 12 args).run Try.prog W = .ok (.enter 12 args) W := enters_of Try.func12 (by kernel_rfl) rfl
                      have HKQ := Aside0.mk (HKS.out q)
                      have hkb : (kA l n q).length ≤ 12 := Nat.le_trans (kA_length l n q) (by omega)
                      generalize TA l n (nm q) = ta at htell HKQ
                      generalize nm q = nq at htell hc3
                      generalize (kA l n q).length = m at HKQ hkb ⊢
                      by_cases hz : ta.length = 0
                      · have hz2 : ((ta.length : Int) == 0) = true := by rw [hz]; rfl
                        have HKQ2 := Aside0.mk (HKQ.out.trans (by rw [if_pos hz]))
                        clear hz
                        go_wp2_with (first | (go_at_fn 12; refine htell.mono ?_; rintro e w9 ⟨v9, rfl, hR9, hb9⟩; obtain ⟨A4, c4, hv4⟩ := Kd.R_slice hR9; subst hv4; have HB9 := Aside0.mk (HBC.out.trans (hb9.mono HBC.out.size)); clear hR9 hb9))
                        go_roundg (n - (q + 1))
                        case measure => omega
                        case rel => exact ⟨q + 1, by go_num, by omega, Nat.le_refl _, by rw [HKQ2.out]; go_num, HB9⟩
                      · have hz2 : ((ta.length : Int) == 0) = false := by rw [beq_eq_false_iff_ne]; omega
                        have HKQ2 := Aside0.mk (HKQ.out.trans (by rw [if_neg hz]))
                        clear hz
                        go_wp2_with (first | (go_at_fn 12; refine htell.mono ?_; rintro e w9 ⟨v9, rfl, hR9, hb9⟩; obtain ⟨A4, c4, hv4⟩ := Kd.R_slice hR9; subst hv4; have HB9 := Aside0.mk (HBC.out.trans (hb9.mono HBC.out.size)); clear hR9 hb9))
                        go_roundg (n - (q + 1))
                        case measure => omega
                        case rel => exact ⟨q + 1, by go_num, by omega, Nat.le_refl _, by rw [HKQ2.out]; go_num, HB9⟩
                    · obtain rfl : q = n := by omega
                      rw [HKE.out]
                      have hke : ((K.length : Int) == (K.length : Int)) = true := by simp
                      go_wp2_with (first | (go_at_call 7; refine (awake_any _).mono ?_; rintro e w9 ⟨rfl, hb9⟩))
                      go_ret
                      have hq := HBT.out.trans ((HBD.out.trans (hb9.mono HBD.out.size)).mono HBT.out.size)
                      exact ⟨rfl, hq⟩
end Go.Proofs.Ytjiheepiobffkaa.Fr
