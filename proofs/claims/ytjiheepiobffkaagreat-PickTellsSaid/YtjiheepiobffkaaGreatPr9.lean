-- PRINTED by print.py (a twelfth state) out of the translation. Not trusted: Lean checks it.
import Derived.Test.YtjiheepiobffkaaGreatPr0
import Derived.Test.YtjiheepiobffkaaGreatPr5
import Derived.Test.YtjiheepiobffkaaGreatExtZ
import Derived.Test.YtjiheepiobffkaaGreatTarget
namespace Go.Proofs.YtjiheepiobffkaaGreat.Pr
open Go.RowKit Go.Proofs.YtjiheepiobffkaaGreatW.PrintWords Go.Proofs.YtjiheepiobffkaaGreatW.PrintLast Go.Proofs.YtjiheepiobffkaaGreatW.PrintMore
attribute [local go_sem] max2_int min2_int max_two min_two max_three min_three max_four min_four   -- for this text's walks alone
set_option linter.unusedVariables false
set_option linter.unusedSimpArgs false

/-! ### freshetref1_Less: function 29 -/
mutual
def freshetref1_Less.j0 : Nat → List ByteArray → List ByteArray → Bool → Option (Bool)
 | 0, _, _, _ => none
 | k + 1, x5, x7, x29 => if x29 = true then (some false) else (freshetref1_Less.l0 k x5 x7 1)
def freshetref1_Less.l0 : Nat → List ByteArray → List ByteArray → Int → Option (Bool)
 | 0, _, _, _ => none
 | k + 1, x5, x7, x9 => if x9 ≤ (x5.length : Int) then (freshetref1_Less.j2 k x5 x7 x9 (decide (x9 ≤ (x7.length : Int)))) else (freshetref1_Less.j2 k x5 x7 x9 false)
def freshetref1_Less.j2 : Nat → List ByteArray → List ByteArray → Int → Bool → Option (Bool)
 | 0, _, _, _, _ => none
 | k + 1, x5, x7, x9, x39 => if x39 = true then (if 0 ≤ (wrap64 ((x5.length : Int) - x9)) then (if (wrap64 ((x5.length : Int) - x9)) < (x5.length : Int) then (if 0 ≤ (wrap64 ((x7.length : Int) - x9)) then (if (wrap64 ((x7.length : Int) - x9)) < (x7.length : Int) then (if (rdOf ByteArray.empty x5 (wrap64 ((x5.length : Int) - x9))).toList = (rdOf ByteArray.empty x7 (wrap64 ((x7.length : Int) - x9))).toList then (freshetref1_Less.l0 k x5 x7 (wrap64 (x9 + 1))) else (some (Op.bytesLess ((rdOf ByteArray.empty x5 (wrap64 ((x5.length : Int) - x9))).toList) ((rdOf ByteArray.empty x7 (wrap64 ((x7.length : Int) - x9))).toList)))) else (none)) else (none)) else (none)) else (none)) else (some (decide ((x5.length : Int) < (x7.length : Int))))
end
def freshetref1_Less.f (k : Nat) (a0 : ByteArray) (a1 : ByteArray) : Option (Bool) := (ref1_Fold.f a0).bind fun t278 => ((freshetref1_Labels.f k t278).bind fun bt279 => ((ref1_Fold.f a1).bind fun t283 => ((freshetref1_Labels.f k t283).bind fun bt284 => (if bt279.2 = true then (freshetref1_Less.j0 k bt279.1 bt284.1 (!bt284.2)) else (freshetref1_Less.j0 k bt279.1 bt284.1 true)))))
theorem freshetref1_Less.mono_l : ∀ k, (∀ y0 y1 y2, LeO (freshetref1_Less.j0 k y0 y1 y2) (freshetref1_Less.j0 (k + 1) y0 y1 y2)) ∧ (∀ y0 y1 y2, LeO (freshetref1_Less.l0 k y0 y1 y2) (freshetref1_Less.l0 (k + 1) y0 y1 y2)) ∧ (∀ y0 y1 y2 y3, LeO (freshetref1_Less.j2 k y0 y1 y2 y3) (freshetref1_Less.j2 (k + 1) y0 y1 y2 y3))
 | 0 => ⟨fun _ _ _ r h => by simp [freshetref1_Less.j0] at h, fun _ _ _ r h => by simp [freshetref1_Less.l0] at h, fun _ _ _ _ r h => by simp [freshetref1_Less.j2] at h⟩
 | k + 1 => by
  obtain ⟨ih0, ih1, ih2⟩ := freshetref1_Less.mono_l k
  refine ⟨?_, ?_, ?_⟩
  ·intro y0 y1 y2
   unfold freshetref1_Less.j0
   repeat' first
   | (with_reducible exact ih0 _ _ _)
   | (with_reducible exact ih1 _ _ _)
   | (with_reducible exact ih2 _ _ _ _)
   | (with_reducible exact freshetref1_Labels.mono _ _)
   | (with_reducible exact LeO.refl _)
   | (with_reducible exact LeO.none _)
   | (with_reducible refine LeO.ite ?_ ?_)
   | (with_reducible refine LeO.bind ?_ (fun _ => ?_))
   | exact ih0 _ _ _
   | exact ih1 _ _ _
   | exact ih2 _ _ _ _
   | exact freshetref1_Labels.mono _ _
   | exact LeO.none _
   | refine LeO.ite ?_ ?_
   | refine LeO.bind ?_ (fun _ => ?_)
  ·intro y0 y1 y2
   unfold freshetref1_Less.l0
   repeat' first
   | (with_reducible exact ih0 _ _ _)
   | (with_reducible exact ih1 _ _ _)
   | (with_reducible exact ih2 _ _ _ _)
   | (with_reducible exact freshetref1_Labels.mono _ _)
   | (with_reducible exact LeO.refl _)
   | (with_reducible exact LeO.none _)
   | (with_reducible refine LeO.ite ?_ ?_)
   | (with_reducible refine LeO.bind ?_ (fun _ => ?_))
   | exact ih0 _ _ _
   | exact ih1 _ _ _
   | exact ih2 _ _ _ _
   | exact freshetref1_Labels.mono _ _
   | exact LeO.none _
   | refine LeO.ite ?_ ?_
   | refine LeO.bind ?_ (fun _ => ?_)
  ·intro y0 y1 y2 y3
   unfold freshetref1_Less.j2
   repeat' first
   | (with_reducible exact ih0 _ _ _)
   | (with_reducible exact ih1 _ _ _)
   | (with_reducible exact ih2 _ _ _ _)
   | (with_reducible exact freshetref1_Labels.mono _ _)
   | (with_reducible exact LeO.refl _)
   | (with_reducible exact LeO.none _)
   | (with_reducible refine LeO.ite ?_ ?_)
   | (with_reducible refine LeO.bind ?_ (fun _ => ?_))
   | exact ih0 _ _ _
   | exact ih1 _ _ _
   | exact ih2 _ _ _ _
   | exact freshetref1_Labels.mono _ _
   | exact LeO.none _
   | refine LeO.ite ?_ ?_
   | refine LeO.bind ?_ (fun _ => ?_)
theorem freshetref1_Less.mono : ∀ a0 a1 k, LeO (freshetref1_Less.f k a0 a1) (freshetref1_Less.f (k + 1) a0 a1) := by
 intro a0 a1 k
 obtain ⟨ih0, ih1, ih2⟩ := freshetref1_Less.mono_l k
 unfold freshetref1_Less.f
 repeat' first
   | (with_reducible exact ih0 _ _ _)
   | (with_reducible exact ih1 _ _ _)
   | (with_reducible exact ih2 _ _ _ _)
   | (with_reducible exact freshetref1_Labels.mono _ _)
   | (with_reducible exact LeO.refl _)
   | (with_reducible exact LeO.none _)
   | (with_reducible refine LeO.ite ?_ ?_)
   | (with_reducible refine LeO.bind ?_ (fun _ => ?_))
   | exact ih0 _ _ _
   | exact ih1 _ _ _
   | exact ih2 _ _ _ _
   | exact freshetref1_Labels.mono _ _
   | exact LeO.none _
   | refine LeO.ite ?_ ?_
   | refine LeO.bind ?_ (fun _ => ?_)
set_option maxHeartbeats 8000000 in
set_option maxRecDepth 100000 in
theorem freshetref1_Less.calls (k : Nat) (a0 : ByteArray) (a1 : ByteArray) (r : Bool) (w : World) (h : freshetref1_Less.f k a0 a1 = some r) :
  Calls Tryz.prog 29 #[.string a0, .string a1] w fun e w' => e = .returned (.bool r) ∧ Below w.heap.size w w' := by
 have HB := Aside0.mk (Below.refl w.heap.size w)
 have H : ((ref1_Fold.f a0).bind fun t278 => ((freshetref1_Labels.f k t278).bind fun bt279 => ((ref1_Fold.f a1).bind fun t283 => ((freshetref1_Labels.f k t283).bind fun bt284 => (if bt279.2 = true then (freshetref1_Less.j0 k bt279.1 bt284.1 (!bt284.2)) else (freshetref1_Less.j0 k bt279.1 bt284.1 true)))))) = some r := h
 clear h
 replace H := Option.bind_eq_some_iff.mp H
 obtain ⟨t278, A30, H⟩ := H
 replace H : ((freshetref1_Labels.f k t278).bind fun bt279 => ((ref1_Fold.f a1).bind fun t283 => ((freshetref1_Labels.f k t283).bind fun bt284 => (if bt279.2 = true then (freshetref1_Less.j0 k bt279.1 bt284.1 (!bt284.2)) else (freshetref1_Less.j0 k bt279.1 bt284.1 true))))) = some r := H
 have A3 := Aside0.mk A30
 clear A30
 replace H := Option.bind_eq_some_iff.mp H
 obtain ⟨⟨t279, t280⟩, A40, H⟩ := H
 replace H : ((ref1_Fold.f a1).bind fun t283 => ((freshetref1_Labels.f k t283).bind fun bt284 => (if t280 = true then (freshetref1_Less.j0 k t279 bt284.1 (!bt284.2)) else (freshetref1_Less.j0 k t279 bt284.1 true)))) = some r := H
 have A4 := Aside0.mk A40
 clear A40
 replace H := Option.bind_eq_some_iff.mp H
 obtain ⟨t283, A50, H⟩ := H
 replace H : ((freshetref1_Labels.f k t283).bind fun bt284 => (if t280 = true then (freshetref1_Less.j0 k t279 bt284.1 (!bt284.2)) else (freshetref1_Less.j0 k t279 bt284.1 true))) = some r := H
 have A5 := Aside0.mk A50
 clear A50
 replace H := Option.bind_eq_some_iff.mp H
 obtain ⟨⟨t284, t285⟩, A60, H⟩ := H
 replace H : (if t280 = true then (freshetref1_Less.j0 k t279 t284 (!t285)) else (freshetref1_Less.j0 k t279 t284 true)) = some r := H
 have A6 := Aside0.mk A60
 clear A60
 have HC7 := Aside0.mk H
 clear H
 go_enter Tryz.func29, Tryz.ntmps29
 go_upto_region 3 with (first | (go_at_call 21; (with_reducible refine (ref1_Fold.calls a0 t278 _ A3.out).mono ?_); rintro e w8 ⟨rfl, hb⟩; have n0_ := Aside0.mk (below_step (by repeat (first | (with_reducible first | exact HB.out | apply below_alloc | apply pw_below_drewN | apply below_drew1) | exact HB.out)) hb); clear HB; have HB := n0_; clear n0_; (try clear hb); (try clear hb2); (try clear hk); (try clear hi)) | (go_at_call 79; (with_reducible refine (freshetref1_Labels.calls k t278 t279 t280 _ A4.out).mono ?_); rintro e w9 ⟨v281, rfl, ho0, hb⟩; have n0_ := Aside0.mk (Kd.R_lower ho0 (below_size (by repeat (first | (with_reducible first | exact HB.out | apply below_alloc | apply pw_below_drewN | apply below_drew1) | exact HB.out)))); have n1_ := Aside0.mk (below_step (by repeat (first | (with_reducible first | exact HB.out | apply below_alloc | apply pw_below_drewN | apply below_drew1) | exact HB.out)) hb); clear HB; have HO282 := n0_; have HB := n1_; clear n0_ n1_; (try clear hb); (try clear hb2); (try clear hk); (try clear hi); (try clear ho0)) | (go_at_call 21; (with_reducible refine (ref1_Fold.calls a1 t283 _ A5.out).mono ?_); rintro e w10 ⟨rfl, hb⟩; have n0_ := Aside0.mk (Kd.R_below (by (with_reducible repeat (first | apply Kd.R_alloc | apply Kd.R_drewN | apply Kd.R_drew)); exact HO282.out) hb); have n1_ := Aside0.mk (below_step (by repeat (first | (with_reducible first | exact HB.out | apply below_alloc | apply pw_below_drewN | apply below_drew1) | exact HB.out)) hb); clear HO282; clear HB; have HO282 := n0_; have HB := n1_; clear n0_ n1_; (try clear hb); (try clear hb2); (try clear hk); (try clear hi)) | (go_at_call 79; (with_reducible refine (freshetref1_Labels.calls k t283 t284 t285 _ A6.out).mono ?_); rintro e w11 ⟨v286, rfl, ho0, hb⟩; have n0_ := Aside0.mk (Kd.R_elder' (by (with_reducible repeat (first | apply Kd.R_alloc | apply Kd.R_drewN | apply Kd.R_drew)); exact HO282.out) (Kd.R_base ho0) hb); have n1_ := Aside0.mk (Kd.R_lower (Kd.R_new' ho0 (Kd.R_lt (by (with_reducible repeat (first | apply Kd.R_alloc | apply Kd.R_drewN | apply Kd.R_drew)); exact HO282.out))) (below_size (by repeat (first | (with_reducible first | exact HB.out | apply below_alloc | apply pw_below_drewN | apply below_drew1) | exact HB.out)))); have n2_ := Aside0.mk (below_step (by repeat (first | (with_reducible first | exact HB.out | apply below_alloc | apply pw_below_drewN | apply below_drew1) | exact HB.out)) hb); clear HO282; clear HB; have HO282 := n0_; have HO287 := n1_; have HB := n2_; clear n0_ n1_ n2_; (try clear hb); (try clear hb2); (try clear hk); (try clear hi); (try clear ho0)))
 repeat (go_quiet (first | (go_at_call 21; (with_reducible refine (ref1_Fold.calls a0 t278 _ A3.out).mono ?_); rintro e w8 ⟨rfl, hb⟩; have n0_ := Aside0.mk (below_step (by repeat (first | (with_reducible first | exact HB.out | apply below_alloc | apply pw_below_drewN | apply below_drew1) | exact HB.out)) hb); clear HB; have HB := n0_; clear n0_; (try clear hb); (try clear hb2); (try clear hk); (try clear hi)) | (go_at_call 79; (with_reducible refine (freshetref1_Labels.calls k t278 t279 t280 _ A4.out).mono ?_); rintro e w9 ⟨v281, rfl, ho0, hb⟩; have n0_ := Aside0.mk (Kd.R_lower ho0 (below_size (by repeat (first | (with_reducible first | exact HB.out | apply below_alloc | apply pw_below_drewN | apply below_drew1) | exact HB.out)))); have n1_ := Aside0.mk (below_step (by repeat (first | (with_reducible first | exact HB.out | apply below_alloc | apply pw_below_drewN | apply below_drew1) | exact HB.out)) hb); clear HB; have HO282 := n0_; have HB := n1_; clear n0_ n1_; (try clear hb); (try clear hb2); (try clear hk); (try clear hi); (try clear ho0)) | (go_at_call 21; (with_reducible refine (ref1_Fold.calls a1 t283 _ A5.out).mono ?_); rintro e w10 ⟨rfl, hb⟩; have n0_ := Aside0.mk (Kd.R_below (by (with_reducible repeat (first | apply Kd.R_alloc | apply Kd.R_drewN | apply Kd.R_drew)); exact HO282.out) hb); have n1_ := Aside0.mk (below_step (by repeat (first | (with_reducible first | exact HB.out | apply below_alloc | apply pw_below_drewN | apply below_drew1) | exact HB.out)) hb); clear HO282; clear HB; have HO282 := n0_; have HB := n1_; clear n0_ n1_; (try clear hb); (try clear hb2); (try clear hk); (try clear hi)) | (go_at_call 79; (with_reducible refine (freshetref1_Labels.calls k t283 t284 t285 _ A6.out).mono ?_); rintro e w11 ⟨v286, rfl, ho0, hb⟩; have n0_ := Aside0.mk (Kd.R_elder' (by (with_reducible repeat (first | apply Kd.R_alloc | apply Kd.R_drewN | apply Kd.R_drew)); exact HO282.out) (Kd.R_base ho0) hb); have n1_ := Aside0.mk (Kd.R_lower (Kd.R_new' ho0 (Kd.R_lt (by (with_reducible repeat (first | apply Kd.R_alloc | apply Kd.R_drewN | apply Kd.R_drew)); exact HO282.out))) (below_size (by repeat (first | (with_reducible first | exact HB.out | apply below_alloc | apply pw_below_drewN | apply below_drew1) | exact HB.out)))); have n2_ := Aside0.mk (below_step (by repeat (first | (with_reducible first | exact HB.out | apply below_alloc | apply pw_below_drewN | apply below_drew1) | exact HB.out)) hb); clear HO282; clear HB; have HO282 := n0_; have HO287 := n1_; have HB := n2_; clear n0_ n1_ n2_; (try clear hb); (try clear hb2); (try clear hk); (try clear hi); (try clear ho0))); go_upto_region 3 with (first | (go_at_call 21; (with_reducible refine (ref1_Fold.calls a0 t278 _ A3.out).mono ?_); rintro e w8 ⟨rfl, hb⟩; have n0_ := Aside0.mk (below_step (by repeat (first | (with_reducible first | exact HB.out | apply below_alloc | apply pw_below_drewN | apply below_drew1) | exact HB.out)) hb); clear HB; have HB := n0_; clear n0_; (try clear hb); (try clear hb2); (try clear hk); (try clear hi)) | (go_at_call 79; (with_reducible refine (freshetref1_Labels.calls k t278 t279 t280 _ A4.out).mono ?_); rintro e w9 ⟨v281, rfl, ho0, hb⟩; have n0_ := Aside0.mk (Kd.R_lower ho0 (below_size (by repeat (first | (with_reducible first | exact HB.out | apply below_alloc | apply pw_below_drewN | apply below_drew1) | exact HB.out)))); have n1_ := Aside0.mk (below_step (by repeat (first | (with_reducible first | exact HB.out | apply below_alloc | apply pw_below_drewN | apply below_drew1) | exact HB.out)) hb); clear HB; have HO282 := n0_; have HB := n1_; clear n0_ n1_; (try clear hb); (try clear hb2); (try clear hk); (try clear hi); (try clear ho0)) | (go_at_call 21; (with_reducible refine (ref1_Fold.calls a1 t283 _ A5.out).mono ?_); rintro e w10 ⟨rfl, hb⟩; have n0_ := Aside0.mk (Kd.R_below (by (with_reducible repeat (first | apply Kd.R_alloc | apply Kd.R_drewN | apply Kd.R_drew)); exact HO282.out) hb); have n1_ := Aside0.mk (below_step (by repeat (first | (with_reducible first | exact HB.out | apply below_alloc | apply pw_below_drewN | apply below_drew1) | exact HB.out)) hb); clear HO282; clear HB; have HO282 := n0_; have HB := n1_; clear n0_ n1_; (try clear hb); (try clear hb2); (try clear hk); (try clear hi)) | (go_at_call 79; (with_reducible refine (freshetref1_Labels.calls k t283 t284 t285 _ A6.out).mono ?_); rintro e w11 ⟨v286, rfl, ho0, hb⟩; have n0_ := Aside0.mk (Kd.R_elder' (by (with_reducible repeat (first | apply Kd.R_alloc | apply Kd.R_drewN | apply Kd.R_drew)); exact HO282.out) (Kd.R_base ho0) hb); have n1_ := Aside0.mk (Kd.R_lower (Kd.R_new' ho0 (Kd.R_lt (by (with_reducible repeat (first | apply Kd.R_alloc | apply Kd.R_drewN | apply Kd.R_drew)); exact HO282.out))) (below_size (by repeat (first | (with_reducible first | exact HB.out | apply below_alloc | apply pw_below_drewN | apply below_drew1) | exact HB.out)))); have n2_ := Aside0.mk (below_step (by repeat (first | (with_reducible first | exact HB.out | apply below_alloc | apply pw_below_drewN | apply below_drew1) | exact HB.out)) hb); clear HO282; clear HB; have HO282 := n0_; have HO287 := n1_; have HB := n2_; clear n0_ n1_ n2_; (try clear hb); (try clear hb2); (try clear hk); (try clear hi); (try clear ho0))))
 (try simp only [Act.put, List.setIfInBounds_toArray, List.set_cons_zero, List.set_cons_succ])
 go_cut [29] (fun v29 wc => ∃ (kq : Nat) (x29_6 : Bool), v29 = .bool x29_6 ∧ Aside0 (freshetref1_Less.j0 kq t279 t284 x29_6 = some r) ∧ Aside0 (kq ≤ k) ∧ Aside0 (Kd.R Kd.string 9 wc w.heap.size (fun k_ => some k_ ≠ (v286 : Value).ownBlock) v281 t279) ∧ Aside0 (Kd.R Kd.string 9 wc w.heap.size (fun k_ => some k_ ≠ (v281 : Value).ownBlock) v286 t284) ∧ Aside0 (Below w.heap.size w wc))
 case first =>
  have H := HC7.out
  clear HC7
  by_cases c12 : t280 = true
  ·subst c12
   have H1 : (freshetref1_Less.j0 k t279 t284 (!t285)) = some r := by rw [if_pos rfl] at H; exact H
   clear H
   have H := H1
   clear H1
   have H' := Aside0.mk H
   clear H
   go_wp2
   repeat (go_quiet (fail); try go_wp2)
   go_meet
   case rel => exact ⟨_, (!t285), (by first | rfl | (simp; done) | (simp [*]; done)), H', ⟨by first | omega | exact Nat.le_refl _⟩, ⟨by (with_reducible repeat (first | apply Kd.R_alloc | apply Kd.R_drewN | apply Kd.R_drew)); exact Kd.R_mono HO282.out (fun _ hk => hk.2)⟩, ⟨by (with_reducible repeat (first | apply Kd.R_alloc | apply Kd.R_drewN | apply Kd.R_drew)); exact Kd.R_mono HO287.out (fun _ hk => hk.2)⟩, ⟨by repeat (first | (with_reducible first | exact HB.out | apply below_alloc | apply pw_below_drewN | apply below_drew1) | exact HB.out)⟩⟩
  ·replace c12 := Bool.eq_false_iff.mpr c12
   subst c12
   have H1 : (freshetref1_Less.j0 k t279 t284 true) = some r := by rw [if_neg (show ¬ (false = true) by decide)] at H; exact H
   clear H
   have H := H1
   clear H1
   have H' := Aside0.mk H
   clear H
   go_wp2
   repeat (go_quiet (fail); try go_wp2)
   go_meet
   case rel => exact ⟨_, (true), (by first | rfl | (simp; done) | (simp [*]; done)), H', ⟨by first | omega | exact Nat.le_refl _⟩, ⟨by (with_reducible repeat (first | apply Kd.R_alloc | apply Kd.R_drewN | apply Kd.R_drew)); exact Kd.R_mono HO282.out (fun _ hk => hk.2)⟩, ⟨by (with_reducible repeat (first | apply Kd.R_alloc | apply Kd.R_drewN | apply Kd.R_drew)); exact Kd.R_mono HO287.out (fun _ hk => hk.2)⟩, ⟨by repeat (first | (with_reducible first | exact HB.out | apply below_alloc | apply pw_below_drewN | apply below_drew1) | exact HB.out)⟩⟩
 case rest =>
  clear HC7
  try clear c1
  try clear c2
  try clear p2
  try clear c12
  obtain ⟨kq, x29_6, rfl, HA, HJ6, HO_5, HO_7, HB⟩ := hcut
  cases kq with
  | zero => exact absurd HA.out (by simp [freshetref1_Less.j0])
  | succ kj6 =>
   have H := HA.out
   clear HA
   simp only [freshetref1_Less.j0] at H
   by_cases c13 : x29_6 = true
   ·subst c13
    have H1 : (some false) = some r := by rw [if_pos rfl] at H; exact H
    clear H
    have H := H1
    clear H1
    obtain rfl := Option.some.inj H
    go_wp2
    repeat (go_quiet (fail); try go_wp2)
    go_ret
    exact ⟨by first | rfl | (simp [errW_none, errW_some] <;> rfl) | (simp [*, errW_none, errW_some] <;> rfl), by repeat (first | (with_reducible first | exact HB.out | apply below_alloc | apply pw_below_drewN | apply below_drew1) | exact HB.out)⟩
   ·replace c13 := Bool.eq_false_iff.mpr c13
    subst c13
    have H1 : (freshetref1_Less.l0 kj6 t279 t284 1) = some r := by rw [if_neg (show ¬ (false = true) by decide)] at H; exact H
    clear H
    have H := H1
    clear H1
    have H' := Aside0.mk H
    clear H
    go_wp2
    repeat (go_quiet (fail); try go_wp2)
    go_loopg [9] kj6 (fun kq v9 w' => ∃ (x9_2 : Int), v9 = .int .i64 x9_2 ∧ Aside0 (freshetref1_Less.l0 kq t279 t284 x9_2 = some r) ∧ Aside0 (kq ≤ kj6) ∧ Aside0 (Kd.R Kd.string 9 w' w.heap.size (fun k_ => some k_ ≠ (v286 : Value).ownBlock) v281 t279) ∧ Aside0 (Kd.R Kd.string 9 w' w.heap.size (fun k_ => some k_ ≠ (v281 : Value).ownBlock) v286 t284) ∧ Aside0 (Below w.heap.size w w'))
    case atStart => exact ⟨(1), (by first | rfl | (simp; done) | (simp [*]; done)), H', ⟨Nat.le_refl _⟩, ⟨by (with_reducible repeat (first | apply Kd.R_alloc | apply Kd.R_drewN | apply Kd.R_drew)); exact HO_5.out⟩, ⟨by (with_reducible repeat (first | apply Kd.R_alloc | apply Kd.R_drewN | apply Kd.R_drew)); exact HO_7.out⟩, ⟨by repeat (first | (with_reducible first | exact HB.out | apply below_alloc | apply pw_below_drewN | apply below_drew1) | exact HB.out)⟩⟩
    case round =>
     clear H'
     try clear c1
     try clear c2
     try clear p2
     try clear c12
     try clear c13
     try clear p2
     obtain ⟨x9_2, rfl, HA, HK2, HO_5, HO_7, HB⟩ := hrel
     cases gk with
     | zero => exact absurd HA.out (by simp [freshetref1_Less.l0])
     | succ k2 =>
      have H := HA.out
      clear HA
      simp only [freshetref1_Less.l0] at H
      have HC14 := Aside0.mk H
      clear H
      go_upto_region 6 with (fail)
      repeat (go_quiet (fail); go_upto_region 6 with (fail))
      go_cut [39] (fun v39 wc => ∃ (kq : Nat) (x39_13 : Bool), v39 = .bool x39_13 ∧ Aside0 (freshetref1_Less.j2 kq t279 t284 x9_2 x39_13 = some r) ∧ Aside0 (kq ≤ k2) ∧ Aside0 (Kd.R Kd.string 9 wc w.heap.size (fun k_ => some k_ ≠ (v286 : Value).ownBlock) v281 t279) ∧ Aside0 (Kd.R Kd.string 9 wc w.heap.size (fun k_ => some k_ ≠ (v281 : Value).ownBlock) v286 t284) ∧ Aside0 (Below w.heap.size w wc))
      case first =>
       have H := HC14.out
       clear HC14
       by_cases c15 : x9_2 ≤ (t279.length : Int)
       ·rw [if_pos c15] at H
        have c15b0 : decide (x9_2 ≤ (t279.length : Int)) = true := decide_eq_true c15
        clear c15
        (first | rw [c15b0] | (simp only [i64_w, i32_w]; rw [c15b0]) | skip)
        have H' := Aside0.mk H
        clear H
        obtain ⟨Ao16, co16, eo16⟩ := Kd.R_slice HO_5.out
        subst eo16
        obtain ⟨Ao17, co17, eo17⟩ := Kd.R_slice HO_7.out
        subst eo17
        go_wp2
        repeat (go_quiet (fail); try go_wp2)
        go_meet
        case rel => exact ⟨_, (decide (x9_2 ≤ (t284.length : Int))), (by first | rfl | (simp; done) | (simp [*]; done)), H', ⟨by have := HJ6.out; have := HK2.out; first | omega | exact Nat.le_refl _⟩, ⟨by (with_reducible repeat (first | apply Kd.R_alloc | apply Kd.R_drewN | apply Kd.R_drew)); exact HO_5.out⟩, ⟨by (with_reducible repeat (first | apply Kd.R_alloc | apply Kd.R_drewN | apply Kd.R_drew)); exact HO_7.out⟩, ⟨by repeat (first | (with_reducible first | exact HB.out | apply below_alloc | apply pw_below_drewN | apply below_drew1) | exact HB.out)⟩⟩
       ·rw [if_neg c15] at H
        have c15b0 : decide (x9_2 ≤ (t279.length : Int)) = false := decide_eq_false c15
        clear c15
        (first | rw [c15b0] | (simp only [i64_w, i32_w]; rw [c15b0]) | skip)
        have H' := Aside0.mk H
        clear H
        obtain ⟨Ao18, co18, eo18⟩ := Kd.R_slice HO_5.out
        subst eo18
        go_wp2
        repeat (go_quiet (fail); try go_wp2)
        go_meet
        case rel => exact ⟨_, (false), (by first | rfl | (simp; done) | (simp [*]; done)), H', ⟨by have := HJ6.out; have := HK2.out; first | omega | exact Nat.le_refl _⟩, ⟨by (with_reducible repeat (first | apply Kd.R_alloc | apply Kd.R_drewN | apply Kd.R_drew)); exact HO_5.out⟩, ⟨by (with_reducible repeat (first | apply Kd.R_alloc | apply Kd.R_drewN | apply Kd.R_drew)); exact HO_7.out⟩, ⟨by repeat (first | (with_reducible first | exact HB.out | apply below_alloc | apply pw_below_drewN | apply below_drew1) | exact HB.out)⟩⟩
      case rest =>
       clear HC14
       try clear c1
       try clear c2
       try clear p2
       try clear c12
       try clear c13
       try clear c15
       try clear c15b0
       try clear p2
       obtain ⟨kq, x39_13, rfl, HA, HJ13, HO_5, HO_7, HB⟩ := hcut
       cases kq with
       | zero => exact absurd HA.out (by simp [freshetref1_Less.j2])
       | succ kj13 =>
        have H := HA.out
        clear HA
        simp only [freshetref1_Less.j2] at H
        by_cases c19 : x39_13 = true
        ·subst c19
         have H1 : (if 0 ≤ (wrap64 ((t279.length : Int) - x9_2)) then (if (wrap64 ((t279.length : Int) - x9_2)) < (t279.length : Int) then (if 0 ≤ (wrap64 ((t284.length : Int) - x9_2)) then (if (wrap64 ((t284.length : Int) - x9_2)) < (t284.length : Int) then (if (rdOf ByteArray.empty t279 (wrap64 ((t279.length : Int) - x9_2))).toList = (rdOf ByteArray.empty t284 (wrap64 ((t284.length : Int) - x9_2))).toList then (freshetref1_Less.l0 kj13 t279 t284 (wrap64 (x9_2 + 1))) else (some (Op.bytesLess ((rdOf ByteArray.empty t279 (wrap64 ((t279.length : Int) - x9_2))).toList) ((rdOf ByteArray.empty t284 (wrap64 ((t284.length : Int) - x9_2))).toList)))) else (none)) else (none)) else (none)) else (none)) = some r := by rw [if_pos rfl] at H; exact H
         clear H
         have H := H1
         clear H1
         obtain ⟨ji20, hji20⟩ : ∃ j_ : Int, (wrap64 ((t279.length : Int) - x9_2)) = j_ := ⟨_, rfl⟩
         replace H : (if 0 ≤ (ji20) then (if (ji20) < (t279.length : Int) then (if 0 ≤ (wrap64 ((t284.length : Int) - x9_2)) then (if (wrap64 ((t284.length : Int) - x9_2)) < (t284.length : Int) then (if (rdOf ByteArray.empty t279 (ji20)).toList = (rdOf ByteArray.empty t284 (wrap64 ((t284.length : Int) - x9_2))).toList then (freshetref1_Less.l0 kj13 t279 t284 (wrap64 (x9_2 + 1))) else (some (Op.bytesLess ((rdOf ByteArray.empty t279 (ji20)).toList) ((rdOf ByteArray.empty t284 (wrap64 ((t284.length : Int) - x9_2))).toList)))) else (none)) else (none)) else (none)) else (none)) = some r := by first | (rw [hji20] at H; exact H) | (simp only [hji20] at H ⊢; exact H)
         have hji20w : (IntKind.i64.wrap ((t279.length : Int) - x9_2)) = ji20 := (i64_w _).trans hji20
         by_cases c21 : 0 ≤ (ji20)
         ·rw [if_pos c21] at H
          have c21b0 : decide (0 ≤ (ji20)) = true := decide_eq_true c21
          clear c21
          by_cases c22 : (ji20) < (t279.length : Int)
          ·rw [if_pos c22] at H
           have c22b0 : decide ((ji20) < (t279.length : Int)) = true := decide_eq_true c22
           clear c22
           obtain ⟨ji23, hji23⟩ : ∃ j_ : Int, (wrap64 ((t284.length : Int) - x9_2)) = j_ := ⟨_, rfl⟩
           replace H : (if 0 ≤ (ji23) then (if (ji23) < (t284.length : Int) then (if (rdOf ByteArray.empty t279 (ji20)).toList = (rdOf ByteArray.empty t284 (ji23)).toList then (freshetref1_Less.l0 kj13 t279 t284 (wrap64 (x9_2 + 1))) else (some (Op.bytesLess ((rdOf ByteArray.empty t279 (ji20)).toList) ((rdOf ByteArray.empty t284 (ji23)).toList)))) else (none)) else (none)) = some r := by first | (rw [hji23] at H; exact H) | (simp only [hji23] at H ⊢; exact H)
           have hji23w : (IntKind.i64.wrap ((t284.length : Int) - x9_2)) = ji23 := (i64_w _).trans hji23
           by_cases c24 : 0 ≤ (ji23)
           ·rw [if_pos c24] at H
            have c24b0 : decide (0 ≤ (ji23)) = true := decide_eq_true c24
            clear c24
            by_cases c25 : (ji23) < (t284.length : Int)
            ·rw [if_pos c25] at H
             have c25b0 : decide ((ji23) < (t284.length : Int)) = true := decide_eq_true c25
             clear c25
             by_cases c26 : (rdOf ByteArray.empty t279 (ji20)).toList = (rdOf ByteArray.empty t284 (ji23)).toList
             ·rw [if_pos c26] at H
              have c26b0 : ((rdOf ByteArray.empty t279 (ji20)).toList == (rdOf ByteArray.empty t284 (ji23)).toList) = true := beq_iff_eq.mpr c26
              have c26b1 : ((rdOf ByteArray.empty t279 (ji20)).toList != (rdOf ByteArray.empty t284 (ji23)).toList) = false := bne_eq_false_iff_eq.mpr c26
              clear c26
              have H' := Aside0.mk H
              clear H
              obtain ⟨Ao27, co27, eo27⟩ := Kd.R_slice HO_5.out
              subst eo27
              have p288 : 0 ≤ ((ji20) : Int) := of_decide_eq_true (by first | (with_reducible assumption) | assumption)
              have q288 : (ji20) < (t279.length : Int) := of_decide_eq_true (by first | (with_reducible assumption) | assumption)
              obtain ⟨ad288, e288, hx288_0⟩ := Kd.at_string (Kd.R_reads' HO_5.out).2.2 (ji20) p288 q288
              cases e288
              replace p288 := eq_true p288
              replace q288 := eq_true q288
              obtain ⟨Ao28, co28, eo28⟩ := Kd.R_slice HO_7.out
              subst eo28
              have p289 : 0 ≤ ((ji23) : Int) := of_decide_eq_true (by first | (with_reducible assumption) | assumption)
              have q289 : (ji23) < (t284.length : Int) := of_decide_eq_true (by first | (with_reducible assumption) | assumption)
              obtain ⟨ad289, e289, hx289_0⟩ := Kd.at_string (Kd.R_reads' HO_7.out).2.2 (ji23) p289 q289
              cases e289
              replace p289 := eq_true p289
              replace q289 := eq_true q289
              go_wp2
              repeat (go_quiet (fail); try go_wp2)
              go_roundg kj13
              case measure => have := HJ6.out; have := HK2.out; have := HJ13.out; omega
              case rel => exact ⟨(wrap64 (x9_2 + 1)), (by first | rfl | (simp; done) | (simp [*]; done)), H', ⟨by have := HJ6.out; have := HK2.out; have := HJ13.out; omega⟩, ⟨by (with_reducible repeat (first | apply Kd.R_alloc | apply Kd.R_drewN | apply Kd.R_drew)); exact HO_5.out⟩, ⟨by (with_reducible repeat (first | apply Kd.R_alloc | apply Kd.R_drewN | apply Kd.R_drew)); exact HO_7.out⟩, ⟨by repeat (first | (with_reducible first | exact HB.out | apply below_alloc | apply pw_below_drewN | apply below_drew1) | exact HB.out)⟩⟩
             ·rw [if_neg c26] at H
              have c26b0 : ((rdOf ByteArray.empty t279 (ji20)).toList == (rdOf ByteArray.empty t284 (ji23)).toList) = false := beq_eq_false_iff_ne.mpr c26
              have c26b1 : ((rdOf ByteArray.empty t279 (ji20)).toList != (rdOf ByteArray.empty t284 (ji23)).toList) = true := bne_iff_ne.mpr c26
              obtain rfl := Option.some.inj H
              obtain ⟨Ao29, co29, eo29⟩ := Kd.R_slice HO_5.out
              subst eo29
              have p288 : 0 ≤ ((ji20) : Int) := of_decide_eq_true (by first | (with_reducible assumption) | assumption)
              have q288 : (ji20) < (t279.length : Int) := of_decide_eq_true (by first | (with_reducible assumption) | assumption)
              obtain ⟨ad288, e288, hx288_0⟩ := Kd.at_string (Kd.R_reads' HO_5.out).2.2 (ji20) p288 q288
              cases e288
              replace p288 := eq_true p288
              replace q288 := eq_true q288
              obtain ⟨Ao30, co30, eo30⟩ := Kd.R_slice HO_7.out
              subst eo30
              have p289 : 0 ≤ ((ji23) : Int) := of_decide_eq_true (by first | (with_reducible assumption) | assumption)
              have q289 : (ji23) < (t284.length : Int) := of_decide_eq_true (by first | (with_reducible assumption) | assumption)
              obtain ⟨ad289, e289, hx289_0⟩ := Kd.at_string (Kd.R_reads' HO_7.out).2.2 (ji23) p289 q289
              cases e289
              replace p289 := eq_true p289
              replace q289 := eq_true q289
              go_wp2
              repeat (go_quiet (fail); try go_wp2)
              go_ret
              exact ⟨by first | rfl | (simp [errW_none, errW_some] <;> rfl) | (simp only [← hji20, ← hji23]; first | rfl | (simp [errW_none, errW_some] <;> rfl)) | (simp [*, errW_none, errW_some] <;> rfl), by repeat (first | (with_reducible first | exact HB.out | apply below_alloc | apply pw_below_drewN | apply below_drew1) | exact HB.out)⟩
            ·rw [if_neg c25] at H
             exact absurd H (by simp)
           ·rw [if_neg c24] at H
            exact absurd H (by simp)
          ·rw [if_neg c22] at H
           exact absurd H (by simp)
         ·rw [if_neg c21] at H
          exact absurd H (by simp)
        ·replace c19 := Bool.eq_false_iff.mpr c19
         subst c19
         have H1 : (some (decide ((t279.length : Int) < (t284.length : Int)))) = some r := by rw [if_neg (show ¬ (false = true) by decide)] at H; exact H
         clear H
         have H := H1
         clear H1
         obtain rfl := Option.some.inj H
         obtain ⟨Ao31, co31, eo31⟩ := Kd.R_slice HO_5.out
         subst eo31
         obtain ⟨Ao32, co32, eo32⟩ := Kd.R_slice HO_7.out
         subst eo32
         go_wp2
         repeat (go_quiet (fail); try go_wp2)
         go_ret
         exact ⟨by first | rfl | (simp [errW_none, errW_some] <;> rfl) | (simp [*, errW_none, errW_some] <;> rfl), by repeat (first | (with_reducible first | exact HB.out | apply below_alloc | apply pw_below_drewN | apply below_drew1) | exact HB.out)⟩

end Go.Proofs.YtjiheepiobffkaaGreat.Pr
