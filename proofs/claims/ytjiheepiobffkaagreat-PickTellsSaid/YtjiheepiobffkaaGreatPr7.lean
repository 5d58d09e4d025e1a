-- PRINTED by print.py (a twelfth state) out of the translation. Not trusted: Lean checks it.
import Derived.Test.YtjiheepiobffkaaGreatPr0
import Derived.Test.YtjiheepiobffkaaGreatPr5
import Derived.Test.YtjiheepiobffkaaGreatExtZ
namespace Go.Proofs.YtjiheepiobffkaaGreat.Pr
open Go.RowKit Go.Proofs.YtjiheepiobffkaaGreatW.PrintWords Go.Proofs.YtjiheepiobffkaaGreatW.PrintLast Go.Proofs.YtjiheepiobffkaaGreatW.PrintMore
attribute [local go_sem] max2_int min2_int max_two min_two max_three min_three max_four min_four   -- for this text's walks alone
set_option linter.unusedVariables false
set_option linter.unusedSimpArgs false

/-! ### freshetref1_end: function 217 -/
def freshetref1_end.l0 : Nat → ByteArray → Int → Int → Option (Int × Bool)
 | 0, _, _, _ => none
 | k + 1, x0, x1, x6 => if x6 < (x0.size : Int) then (if 0 ≤ x1 then (if x1 ≤ (wrap64 (x6 + 1)) then (if (wrap64 (x6 + 1)) ≤ (x0.size : Int) then ((freshetref1_Valid.f k (x0.extract (x1 : Int).toNat ((wrap64 (x6 + 1)) : Int).toNat)).bind fun t290 => (if t290 = true then (some (wrap64 (x6 + 1), true)) else (if (wrap64 (x6 - x1)) > 255 then (some (0, false)) else (freshetref1_end.l0 k x0 x1 (wrap64 (x6 + 1)))))) else (none)) else (none)) else (none)) else (some (0, false))
def freshetref1_end.f (k : Nat) (a0 : ByteArray) (a1 : Int) : Option (Int × Bool) := freshetref1_end.l0 k a0 a1 a1
theorem freshetref1_end.mono_l : ∀ k, (∀ y0 y1 y2, LeO (freshetref1_end.l0 k y0 y1 y2) (freshetref1_end.l0 (k + 1) y0 y1 y2))
 | 0 => fun _ _ _ r h => by simp [freshetref1_end.l0] at h
 | k + 1 => by
  have ih0 := freshetref1_end.mono_l k
  ·intro y0 y1 y2
   unfold freshetref1_end.l0
   repeat' first
   | (with_reducible exact ih0 _ _ _)
   | (with_reducible exact freshetref1_Valid.mono _ _)
   | (with_reducible exact LeO.refl _)
   | (with_reducible exact LeO.none _)
   | (with_reducible refine LeO.ite ?_ ?_)
   | (with_reducible refine LeO.bind ?_ (fun _ => ?_))
   | exact ih0 _ _ _
   | exact freshetref1_Valid.mono _ _
   | exact LeO.none _
   | refine LeO.ite ?_ ?_
   | refine LeO.bind ?_ (fun _ => ?_)
theorem freshetref1_end.mono : ∀ a0 a1 k, LeO (freshetref1_end.f k a0 a1) (freshetref1_end.f (k + 1) a0 a1) := by
 intro a0 a1 k
 have ih0 := freshetref1_end.mono_l k
 unfold freshetref1_end.f
 repeat' first
   | (with_reducible exact ih0 _ _ _)
   | (with_reducible exact freshetref1_Valid.mono _ _)
   | (with_reducible exact LeO.refl _)
   | (with_reducible exact LeO.none _)
   | (with_reducible refine LeO.ite ?_ ?_)
   | (with_reducible refine LeO.bind ?_ (fun _ => ?_))
   | exact ih0 _ _ _
   | exact freshetref1_Valid.mono _ _
   | exact LeO.none _
   | refine LeO.ite ?_ ?_
   | refine LeO.bind ?_ (fun _ => ?_)
set_option maxHeartbeats 8000000 in
set_option maxRecDepth 100000 in
theorem freshetref1_end.calls (k : Nat) (a0 : ByteArray) (a1 : Int) (r1 : Int) (r2 : Bool) (w : World) (h : freshetref1_end.f k a0 a1 = some (r1, r2)) :
  Calls Tryz.prog 217 #[.string a0, .int .i64 a1] w fun e w' => e = .returned (.tuple #[.int .i64 r1, .bool r2]) ∧ Below w.heap.size w w' := by
 have HB := Aside0.mk (Below.refl w.heap.size w)
 have H : (freshetref1_end.l0 k a0 a1 a1) = some (r1, r2) := h
 clear h
 have H' := Aside0.mk H
 clear H
 go_enter Tryz.func217, Tryz.ntmps217
 go_wp2
 go_loopg [6] k (fun kq v6 w' => ∃ (x6_1 : Int), v6 = .int .i64 x6_1 ∧ Aside0 (freshetref1_end.l0 kq a0 a1 x6_1 = some (r1, r2)) ∧ Aside0 (kq ≤ k) ∧ Aside0 (Below w.heap.size w w'))
 case atStart => exact ⟨(a1), (by first | rfl | (simp; done) | (simp [*]; done)), H', ⟨Nat.le_refl _⟩, ⟨by repeat (first | (with_reducible first | exact HB.out | apply below_alloc | apply pw_below_drewN | apply below_drew1) | exact HB.out)⟩⟩
 case round =>
  clear H'
  try clear c2
  try clear p2
  obtain ⟨x6_1, rfl, HA, HK1, HB⟩ := hrel
  cases gk with
  | zero => exact absurd HA.out (by simp [freshetref1_end.l0])
  | succ k1 =>
   have H := HA.out
   clear HA
   simp only [freshetref1_end.l0] at H
   by_cases c3 : x6_1 < (a0.size : Int)
   ·rw [if_pos c3] at H
    have c3b0 : decide (x6_1 < (a0.size : Int)) = true := decide_eq_true c3
    clear c3
    by_cases c4 : 0 ≤ a1
    ·rw [if_pos c4] at H
     have c4b0 := eq_true c4
     have c4b1 : decide (0 ≤ a1) = true := decide_eq_true c4
     clear c4
     by_cases c5 : a1 ≤ (wrap64 (x6_1 + 1))
     ·rw [if_pos c5] at H
      have c5b0 := eq_true c5
      have c5b1 : decide (a1 ≤ (wrap64 (x6_1 + 1))) = true := decide_eq_true c5
      by_cases c6 : (wrap64 (x6_1 + 1)) ≤ (a0.size : Int)
      ·rw [if_pos c6] at H
       have c6b0 := eq_true c6
       have c6b1 : decide ((wrap64 (x6_1 + 1)) ≤ (a0.size : Int)) = true := decide_eq_true c6
       replace H := Option.bind_eq_some_iff.mp H
       obtain ⟨t290, A70, H⟩ := H
       replace H : (if t290 = true then (some (wrap64 (x6_1 + 1), true)) else (if (wrap64 (x6_1 - a1)) > 255 then (some (0, false)) else (freshetref1_end.l0 k1 a0 a1 (wrap64 (x6_1 + 1))))) = some (r1, r2) := H
       have A7 := Aside0.mk A70
       clear A70
       by_cases c8 : t290 = true
       ·subst c8
        have H1 : (some (wrap64 (x6_1 + 1), true)) = some (r1, r2) := by rw [if_pos rfl] at H; exact H
        clear H
        have H := H1
        clear H1
        simp only [Option.some.injEq, Prod.mk.injEq] at H
        obtain ⟨rfl, rfl⟩ := H
        go_wp2_with (first | ((with_reducible refine gate_callee (f := 80) rfl ?_); refine goesL_ (some 19) rfl rfl Tryz.func80 (by kernel_rfl) rfl #[.string (a0.extract (a1 : Int).toNat ((wrap64 (x6_1 + 1)) : Int).toNat)] rfl (by (try simp only [List.map_toArray, List.map_cons, List.map_nil]); first | done | rfl | (simp only [List.length_drop, List.length_take]; rfl)) ?_; (with_reducible refine (freshetref1_Valid.calls k1 (a0.extract (a1 : Int).toNat ((wrap64 (x6_1 + 1)) : Int).toNat) true _ A7.out).mono ?_); rintro e w9 ⟨rfl, hb⟩; refine ⟨_, rfl, ?_⟩; have n0_ := Aside0.mk (below_step (by repeat (first | (with_reducible first | exact HB.out | apply below_alloc | apply pw_below_drewN | apply below_drew1) | exact HB.out)) hb); clear HB; have HB := n0_; clear n0_; (try clear hb); (try clear hb2); (try clear hk); (try clear hi)))
        go_ret2
        exact ⟨by first | rfl | (simp [errW_none, errW_some] <;> rfl) | (simp [*, errW_none, errW_some] <;> rfl), by repeat (first | (with_reducible first | exact HB.out | apply below_alloc | apply pw_below_drewN | apply below_drew1) | exact HB.out)⟩
       ·replace c8 := Bool.eq_false_iff.mpr c8
        subst c8
        have H1 : (if (wrap64 (x6_1 - a1)) > 255 then (some (0, false)) else (freshetref1_end.l0 k1 a0 a1 (wrap64 (x6_1 + 1)))) = some (r1, r2) := by rw [if_neg (show ¬ (false = true) by decide)] at H; exact H
        clear H
        have H := H1
        clear H1
        by_cases c10 : (wrap64 (x6_1 - a1)) > 255
        ·rw [if_pos c10] at H
         have c10b0 : decide (255 < (wrap64 (x6_1 - a1))) = true := decide_eq_true c10
         clear c10
         simp only [Option.some.injEq, Prod.mk.injEq] at H
         obtain ⟨rfl, rfl⟩ := H
         go_wp2_with (first | ((with_reducible refine gate_callee (f := 80) rfl ?_); refine goesL_ (some 19) rfl rfl Tryz.func80 (by kernel_rfl) rfl #[.string (a0.extract (a1 : Int).toNat ((wrap64 (x6_1 + 1)) : Int).toNat)] rfl (by (try simp only [List.map_toArray, List.map_cons, List.map_nil]); first | done | rfl | (simp only [List.length_drop, List.length_take]; rfl)) ?_; (with_reducible refine (freshetref1_Valid.calls k1 (a0.extract (a1 : Int).toNat ((wrap64 (x6_1 + 1)) : Int).toNat) false _ A7.out).mono ?_); rintro e w11 ⟨rfl, hb⟩; refine ⟨_, rfl, ?_⟩; have n0_ := Aside0.mk (below_step (by repeat (first | (with_reducible first | exact HB.out | apply below_alloc | apply pw_below_drewN | apply below_drew1) | exact HB.out)) hb); clear HB; have HB := n0_; clear n0_; (try clear hb); (try clear hb2); (try clear hk); (try clear hi)))
         go_ret2
         exact ⟨by first | rfl | (simp [errW_none, errW_some] <;> rfl) | (simp [*, errW_none, errW_some] <;> rfl), by repeat (first | (with_reducible first | exact HB.out | apply below_alloc | apply pw_below_drewN | apply below_drew1) | exact HB.out)⟩
        ·rw [if_neg c10] at H
         have c10b0 : decide (255 < (wrap64 (x6_1 - a1))) = false := decide_eq_false c10
         clear c10
         have H' := Aside0.mk H
         clear H
         go_wp2_with (first | ((with_reducible refine gate_callee (f := 80) rfl ?_); refine goesL_ (some 19) rfl rfl Tryz.func80 (by kernel_rfl) rfl #[.string (a0.extract (a1 : Int).toNat ((wrap64 (x6_1 + 1)) : Int).toNat)] rfl (by (try simp only [List.map_toArray, List.map_cons, List.map_nil]); first | done | rfl | (simp only [List.length_drop, List.length_take]; rfl)) ?_; (with_reducible refine (freshetref1_Valid.calls k1 (a0.extract (a1 : Int).toNat ((wrap64 (x6_1 + 1)) : Int).toNat) false _ A7.out).mono ?_); rintro e w12 ⟨rfl, hb⟩; refine ⟨_, rfl, ?_⟩; have n0_ := Aside0.mk (below_step (by repeat (first | (with_reducible first | exact HB.out | apply below_alloc | apply pw_below_drewN | apply below_drew1) | exact HB.out)) hb); clear HB; have HB := n0_; clear n0_; (try clear hb); (try clear hb2); (try clear hk); (try clear hi)))
         go_roundg k1
         case measure => have := HK1.out; omega
         case rel => exact ⟨(wrap64 (x6_1 + 1)), (by first | rfl | (simp; done) | (simp [*]; done)), H', ⟨by have := HK1.out; omega⟩, ⟨by repeat (first | (with_reducible first | exact HB.out | apply below_alloc | apply pw_below_drewN | apply below_drew1) | exact HB.out)⟩⟩
      ·rw [if_neg c6] at H
       exact absurd H (by simp)
     ·rw [if_neg c5] at H
      exact absurd H (by simp)
    ·rw [if_neg c4] at H
     exact absurd H (by simp)
   ·rw [if_neg c3] at H
    have c3b0 : decide (x6_1 < (a0.size : Int)) = false := decide_eq_false c3
    clear c3
    simp only [Option.some.injEq, Prod.mk.injEq] at H
    obtain ⟨rfl, rfl⟩ := H
    go_wp2
    go_ret2
    exact ⟨by first | rfl | (simp [errW_none, errW_some] <;> rfl) | (simp [*, errW_none, errW_some] <;> rfl), by repeat (first | (with_reducible first | exact HB.out | apply below_alloc | apply pw_below_drewN | apply below_drew1) | exact HB.out)⟩

/-! ### freshetref1_Parts: function 183 -/
mutual
def freshetref1_Parts.j1 : Nat → ByteArray → Int → Int → Int → Option ((List (S241)) × Bool)
 | 0, _, _, _, _ => none
 | k + 1, x1, x6, x7, x8 => freshetref1_Parts.l1 k x1 x7 x8 ([] : List (S241)) x6 0
def freshetref1_Parts.l1 : Nat → ByteArray → Int → Int → List (S241) → Int → Int → Option ((List (S241)) × Bool)
 | 0, _, _, _, _, _, _ => none
 | k + 1, x1, x7, x8, x10, x11, x12 => if x12 < x7 then ((freshetref1_end.f k x1 x11).bind fun bt291 => (if bt291.2 = true then (if x10.length < 8796093022208 then (freshetref1_Parts.l1 k x1 x7 x8 (x10 ++ [(⟨x11, wrap64 (bt291.1 - x11)⟩ : S241)]) bt291.1 (wrap64 (x12 + 1))) else (none)) else (some (([] : List (S241)), false)))) else (if (wrap64 (x11 + x8)) = (x1.size : Int) then (some (x10, true)) else (some (([] : List (S241)), false)))
def freshetref1_Parts.l0 : Nat → ByteArray → Int → Option ((List (S241)) × Bool)
 | 0, _, _ => none
 | k + 1, x1, x9 => if x9 < (x1.size : Int) then (if 0 ≤ x9 then (freshetref1_Parts.l0 k x1 (wrap64 ((wrap64 (x9 + 1)) + (wrap64 (bt x1 x9))))) else (none)) else (if (x1.size : Int) > 0 then (some (([] : List (S241)), (x9 == (x1.size : Int)))) else (some (([] : List (S241)), false)))
end
def freshetref1_Parts.f (k : Nat) (a0 : Int) (a1 : ByteArray) : Option ((List (S241)) × Bool) := if (a1.size : Int) > 1000 then (some (([] : List (S241)), false)) else (if a0 = 1 then (some (([] : List (S241)), ((a1.size : Int) == 4))) else (if a0 = 28 then (some (([] : List (S241)), ((a1.size : Int) == 16))) else (if a0 = 16 then (freshetref1_Parts.l0 k a1 0) else (if a0 = 15 then (freshetref1_Parts.j1 k a1 2 1 0) else (if a0 = 33 then (freshetref1_Parts.j1 k a1 6 1 0) else (if a0 = 6 then (freshetref1_Parts.j1 k a1 0 2 20) else (if a0 = 2 then (freshetref1_Parts.j1 k a1 0 1 0) else (if a0 = 5 then (freshetref1_Parts.j1 k a1 0 1 0) else (if a0 = 12 then (freshetref1_Parts.j1 k a1 0 1 0) else (some (([] : List (S241)), true)))))))))))
theorem freshetref1_Parts.mono_l : ∀ k, (∀ y0 y1 y2 y3, LeO (freshetref1_Parts.j1 k y0 y1 y2 y3) (freshetref1_Parts.j1 (k + 1) y0 y1 y2 y3)) ∧ (∀ y0 y1 y2 y3 y4 y5, LeO (freshetref1_Parts.l1 k y0 y1 y2 y3 y4 y5) (freshetref1_Parts.l1 (k + 1) y0 y1 y2 y3 y4 y5)) ∧ (∀ y0 y1, LeO (freshetref1_Parts.l0 k y0 y1) (freshetref1_Parts.l0 (k + 1) y0 y1))
 | 0 => ⟨fun _ _ _ _ r h => by simp [freshetref1_Parts.j1] at h, fun _ _ _ _ _ _ r h => by simp [freshetref1_Parts.l1] at h, fun _ _ r h => by simp [freshetref1_Parts.l0] at h⟩
 | k + 1 => by
  obtain ⟨ih0, ih1, ih2⟩ := freshetref1_Parts.mono_l k
  refine ⟨?_, ?_, ?_⟩
  ·intro y0 y1 y2 y3
   unfold freshetref1_Parts.j1
   repeat' first
   | (with_reducible exact ih0 _ _ _ _)
   | (with_reducible exact ih1 _ _ _ _ _ _)
   | (with_reducible exact ih2 _ _)
   | (with_reducible exact freshetref1_end.mono _ _ _)
   | (with_reducible exact LeO.refl _)
   | (with_reducible exact LeO.none _)
   | (with_reducible refine LeO.ite ?_ ?_)
   | (with_reducible refine LeO.bind ?_ (fun _ => ?_))
   | exact ih0 _ _ _ _
   | exact ih1 _ _ _ _ _ _
   | exact ih2 _ _
   | exact freshetref1_end.mono _ _ _
   | exact LeO.none _
   | refine LeO.ite ?_ ?_
   | refine LeO.bind ?_ (fun _ => ?_)
  ·intro y0 y1 y2 y3 y4 y5
   unfold freshetref1_Parts.l1
   repeat' first
   | (with_reducible exact ih0 _ _ _ _)
   | (with_reducible exact ih1 _ _ _ _ _ _)
   | (with_reducible exact ih2 _ _)
   | (with_reducible exact freshetref1_end.mono _ _ _)
   | (with_reducible exact LeO.refl _)
   | (with_reducible exact LeO.none _)
   | (with_reducible refine LeO.ite ?_ ?_)
   | (with_reducible refine LeO.bind ?_ (fun _ => ?_))
   | exact ih0 _ _ _ _
   | exact ih1 _ _ _ _ _ _
   | exact ih2 _ _
   | exact freshetref1_end.mono _ _ _
   | exact LeO.none _
   | refine LeO.ite ?_ ?_
   | refine LeO.bind ?_ (fun _ => ?_)
  ·intro y0 y1
   unfold freshetref1_Parts.l0
   repeat' first
   | (with_reducible exact ih0 _ _ _ _)
   | (with_reducible exact ih1 _ _ _ _ _ _)
   | (with_reducible exact ih2 _ _)
   | (with_reducible exact freshetref1_end.mono _ _ _)
   | (with_reducible exact LeO.refl _)
   | (with_reducible exact LeO.none _)
   | (with_reducible refine LeO.ite ?_ ?_)
   | (with_reducible refine LeO.bind ?_ (fun _ => ?_))
   | exact ih0 _ _ _ _
   | exact ih1 _ _ _ _ _ _
   | exact ih2 _ _
   | exact freshetref1_end.mono _ _ _
   | exact LeO.none _
   | refine LeO.ite ?_ ?_
   | refine LeO.bind ?_ (fun _ => ?_)
theorem freshetref1_Parts.mono : ∀ a0 a1 k, LeO (freshetref1_Parts.f k a0 a1) (freshetref1_Parts.f (k + 1) a0 a1) := by
 intro a0 a1 k
 obtain ⟨ih0, ih1, ih2⟩ := freshetref1_Parts.mono_l k
 unfold freshetref1_Parts.f
 repeat' first
   | (with_reducible exact ih0 _ _ _ _)
   | (with_reducible exact ih1 _ _ _ _ _ _)
   | (with_reducible exact ih2 _ _)
   | (with_reducible exact freshetref1_end.mono _ _ _)
   | (with_reducible exact LeO.refl _)
   | (with_reducible exact LeO.none _)
   | (with_reducible refine LeO.ite ?_ ?_)
   | (with_reducible refine LeO.bind ?_ (fun _ => ?_))
   | exact ih0 _ _ _ _
   | exact ih1 _ _ _ _ _ _
   | exact ih2 _ _
   | exact freshetref1_end.mono _ _ _
   | exact LeO.none _
   | refine LeO.ite ?_ ?_
   | refine LeO.bind ?_ (fun _ => ?_)
set_option maxHeartbeats 8000000 in
set_option maxRecDepth 100000 in
theorem freshetref1_Parts.calls (k : Nat) (a0 : Int) (a1 : ByteArray) (r1 : List (S241)) (r2 : Bool) (w : World) (h : freshetref1_Parts.f k a0 a1 = some (r1, r2)) :
  Calls Tryz.prog 183 #[.int .i64 a0, .string a1] w fun e w' => ∃ v0_ : Value, e = .returned (.tuple #[v0_, .bool r2]) ∧ Kd.R k241 241 w' w.heap.size (fun _ => True) v0_ r1 ∧ Below w.heap.size w w' := by
 have hu241 := Tryz.underlying241
 have HB := Aside0.mk (Below.refl w.heap.size w)
 have H : (if (a1.size : Int) > 1000 then (some (([] : List (S241)), false)) else (if a0 = 1 then (some (([] : List (S241)), ((a1.size : Int) == 4))) else (if a0 = 28 then (some (([] : List (S241)), ((a1.size : Int) == 16))) else (if a0 = 16 then (freshetref1_Parts.l0 k a1 0) else (if a0 = 15 then (freshetref1_Parts.j1 k a1 2 1 0) else (if a0 = 33 then (freshetref1_Parts.j1 k a1 6 1 0) else (if a0 = 6 then (freshetref1_Parts.j1 k a1 0 2 20) else (if a0 = 2 then (freshetref1_Parts.j1 k a1 0 1 0) else (if a0 = 5 then (freshetref1_Parts.j1 k a1 0 1 0) else (if a0 = 12 then (freshetref1_Parts.j1 k a1 0 1 0) else (some (([] : List (S241)), true)))))))))))) = some (r1, r2) := h
 clear h
 by_cases c3 : (a1.size : Int) > 1000
 ·rw [if_pos c3] at H
  have c3b0 : decide (1000 < (a1.size : Int)) = true := decide_eq_true c3
  have c3b1 : decide (1000 < a1.size) = true := decide_eq_true (by omega)
  clear c3
  simp only [Option.some.injEq, Prod.mk.injEq] at H
  obtain ⟨rfl, rfl⟩ := H
  go_enter Tryz.func183, Tryz.ntmps183
  go_wp2
  go_ret2
  exact ⟨_, by first | rfl | (simp [errW_none, errW_some] <;> rfl) | (simp [*, errW_none, errW_some] <;> rfl), by first | exact Kd.R_nil _ _ _ _ _ | exact Kd.N_nil _ _ _ _ _ | exact Kd.V_nil _ _ _ _ _ | exact Kd.Q_nil _ _ _ _ _ | exact Kd.S_nil _ _ _ _ _, by repeat (first | (with_reducible first | exact HB.out | apply below_alloc | apply pw_below_drewN | apply below_drew1) | exact HB.out)⟩
 ·rw [if_neg c3] at H
  have c3b0 : decide (1000 < (a1.size : Int)) = false := decide_eq_false c3
  have c3b1 : decide (1000 < a1.size) = false := decide_eq_false (by omega)
  clear c3
  have HC4 := Aside0.mk H
  clear H
  go_enter Tryz.func183, Tryz.ntmps183
  go_upto_block 0 with (fail)
  go_cut [6, 7, 8] (fun v6 v7 v8 wc => ∃ (kq : Nat) (x6_3 : Int) (x7_3 : Int) (x8_3 : Int), v6 = .int .i64 x6_3 ∧ v7 = .int .i64 x7_3 ∧ v8 = .int .i64 x8_3 ∧ Aside0 (freshetref1_Parts.j1 kq a1 x6_3 x7_3 x8_3 = some (r1, r2)) ∧ Aside0 (kq ≤ k) ∧ Aside0 (Below w.heap.size w wc))
  case first =>
   have H := HC4.out
   clear HC4
   by_cases c5 : a0 = 1
   ·rw [if_pos c5] at H
    have c5b0 : (a0 == 1) = true := beq_iff_eq.mpr c5
    have c5b1 : (a0 != 1) = false := bne_eq_false_iff_eq.mpr c5
    clear c5
    (first | rw [c5b0] | (simp only [i64_w, i32_w]; rw [c5b0]) | skip)
    simp only [Option.some.injEq, Prod.mk.injEq] at H
    obtain ⟨rfl, rfl⟩ := H
    go_wp2
    go_ret2
    exact ⟨_, by first | rfl | (simp [errW_none, errW_some] <;> rfl) | (simp [*, errW_none, errW_some] <;> rfl), by first | exact Kd.R_nil _ _ _ _ _ | exact Kd.N_nil _ _ _ _ _ | exact Kd.V_nil _ _ _ _ _ | exact Kd.Q_nil _ _ _ _ _ | exact Kd.S_nil _ _ _ _ _, by repeat (first | (with_reducible first | exact HB.out | apply below_alloc | apply pw_below_drewN | apply below_drew1) | exact HB.out)⟩
   ·rw [if_neg c5] at H
    have c5b0 : (a0 == 1) = false := beq_eq_false_iff_ne.mpr c5
    have c5b1 : (a0 != 1) = true := bne_iff_ne.mpr c5
    (first | rw [c5b0] | (simp only [i64_w, i32_w]; rw [c5b0]) | skip)
    by_cases c6 : a0 = 28
    ·rw [if_pos c6] at H
     have c6b0 : (a0 == 28) = true := beq_iff_eq.mpr c6
     have c6b1 : (a0 != 28) = false := bne_eq_false_iff_eq.mpr c6
     clear c6
     simp only [Option.some.injEq, Prod.mk.injEq] at H
     obtain ⟨rfl, rfl⟩ := H
     go_wp2
     go_ret2
     exact ⟨_, by first | rfl | (simp [errW_none, errW_some] <;> rfl) | (simp [*, errW_none, errW_some] <;> rfl), by first | exact Kd.R_nil _ _ _ _ _ | exact Kd.N_nil _ _ _ _ _ | exact Kd.V_nil _ _ _ _ _ | exact Kd.Q_nil _ _ _ _ _ | exact Kd.S_nil _ _ _ _ _, by repeat (first | (with_reducible first | exact HB.out | apply below_alloc | apply pw_below_drewN | apply below_drew1) | exact HB.out)⟩
    ·rw [if_neg c6] at H
     have c6b0 : (a0 == 28) = false := beq_eq_false_iff_ne.mpr c6
     have c6b1 : (a0 != 28) = true := bne_iff_ne.mpr c6
     by_cases c7 : a0 = 16
     ·rw [if_pos c7] at H
      have c7b0 : (a0 == 16) = true := beq_iff_eq.mpr c7
      have c7b1 : (a0 != 16) = false := bne_eq_false_iff_eq.mpr c7
      clear c7
      have H' := Aside0.mk H
      clear H
      go_wp2
      go_loopg [9] k (fun kq v9 w' => ∃ (x9_1 : Int), v9 = .int .i64 x9_1 ∧ Aside0 (freshetref1_Parts.l0 kq a1 x9_1 = some (r1, r2)) ∧ Aside0 (kq ≤ k) ∧ Aside0 (Below w.heap.size w w'))
      case atStart => exact ⟨(0), (by first | rfl | (simp; done) | (simp [*]; done)), H', ⟨Nat.le_refl _⟩, ⟨by repeat (first | (with_reducible first | exact HB.out | apply below_alloc | apply pw_below_drewN | apply below_drew1) | exact HB.out)⟩⟩
      case round =>
       clear H'
       try clear c1
       try clear p2
       try clear c3
       try clear c3b0
       try clear c3b1
       try clear c5
       try clear c5b0
       try clear c5b1
       try clear c6
       try clear c6b0
       try clear c6b1
       try clear c7
       try clear c7b0
       try clear c7b1
       obtain ⟨x9_1, rfl, HA, HK1, HB⟩ := hrel
       cases gk with
       | zero => exact absurd HA.out (by simp [freshetref1_Parts.l0])
       | succ k1 =>
        have H := HA.out
        clear HA
        simp only [freshetref1_Parts.l0] at H
        by_cases c8 : x9_1 < (a1.size : Int)
        ·rw [if_pos c8] at H
         have c8b0 : decide (x9_1 < (a1.size : Int)) = true := decide_eq_true c8
         clear c8
         by_cases c9 : 0 ≤ x9_1
         ·rw [if_pos c9] at H
          have c9b0 : decide (0 ≤ x9_1) = true := decide_eq_true c9
          clear c9
          have H' := Aside0.mk H
          clear H
          have p10 : 0 ≤ (x9_1 : Int) := of_decide_eq_true (by first | (with_reducible assumption) | assumption)
          have q10 : x9_1 < (a1.size : Int) := of_decide_eq_true (by first | (with_reducible assumption) | assumption)
          have hx10 := bt_at a1 x9_1
          replace p10 := eq_true p10
          replace q10 := eq_true q10
          go_wp2
          go_roundg k1
          case measure => have := HK1.out; omega
          case rel => exact ⟨(wrap64 ((wrap64 (x9_1 + 1)) + (wrap64 (bt a1 x9_1)))), (by first | rfl | (simp; done) | (simp [*]; done)), H', ⟨by have := HK1.out; omega⟩, ⟨by repeat (first | (with_reducible first | exact HB.out | apply below_alloc | apply pw_below_drewN | apply below_drew1) | exact HB.out)⟩⟩
         ·rw [if_neg c9] at H
          exact absurd H (by simp)
        ·rw [if_neg c8] at H
         have c8b0 : decide (x9_1 < (a1.size : Int)) = false := decide_eq_false c8
         clear c8
         by_cases c11 : (a1.size : Int) > 0
         ·rw [if_pos c11] at H
          have c11b0 : decide (0 < (a1.size : Int)) = true := decide_eq_true c11
          have c11b1 : decide (0 < a1.size) = true := decide_eq_true (by omega)
          clear c11
          simp only [Option.some.injEq, Prod.mk.injEq] at H
          obtain ⟨rfl, rfl⟩ := H
          go_wp2
          go_ret2
          exact ⟨_, by first | rfl | (simp [errW_none, errW_some] <;> rfl) | (simp [*, errW_none, errW_some] <;> rfl), by first | exact Kd.R_nil _ _ _ _ _ | exact Kd.N_nil _ _ _ _ _ | exact Kd.V_nil _ _ _ _ _ | exact Kd.Q_nil _ _ _ _ _ | exact Kd.S_nil _ _ _ _ _, by repeat (first | (with_reducible first | exact HB.out | apply below_alloc | apply pw_below_drewN | apply below_drew1) | exact HB.out)⟩
         ·rw [if_neg c11] at H
          have c11b0 : decide (0 < (a1.size : Int)) = false := decide_eq_false c11
          have c11b1 : decide (0 < a1.size) = false := decide_eq_false (by omega)
          clear c11
          simp only [Option.some.injEq, Prod.mk.injEq] at H
          obtain ⟨rfl, rfl⟩ := H
          go_wp2
          go_ret2
          exact ⟨_, by first | rfl | (simp [errW_none, errW_some] <;> rfl) | (simp [*, errW_none, errW_some] <;> rfl), by first | exact Kd.R_nil _ _ _ _ _ | exact Kd.N_nil _ _ _ _ _ | exact Kd.V_nil _ _ _ _ _ | exact Kd.Q_nil _ _ _ _ _ | exact Kd.S_nil _ _ _ _ _, by repeat (first | (with_reducible first | exact HB.out | apply below_alloc | apply pw_below_drewN | apply below_drew1) | exact HB.out)⟩
     ·rw [if_neg c7] at H
      have c7b0 : (a0 == 16) = false := beq_eq_false_iff_ne.mpr c7
      have c7b1 : (a0 != 16) = true := bne_iff_ne.mpr c7
      by_cases c12 : a0 = 15
      ·rw [if_pos c12] at H
       have c12b0 : (a0 == 15) = true := beq_iff_eq.mpr c12
       have c12b1 : (a0 != 15) = false := bne_eq_false_iff_eq.mpr c12
       clear c12
       have H' := Aside0.mk H
       clear H
       go_wp2
       go_meet
       case rel => exact ⟨_, (2), (1), (0), (by first | rfl | (simp; done) | (simp [*]; done)), (by first | rfl | (simp; done) | (simp [*]; done)), (by first | rfl | (simp; done) | (simp [*]; done)), H', ⟨by first | omega | exact Nat.le_refl _⟩, ⟨by repeat (first | (with_reducible first | exact HB.out | apply below_alloc | apply pw_below_drewN | apply below_drew1) | exact HB.out)⟩⟩
      ·rw [if_neg c12] at H
       have c12b0 : (a0 == 15) = false := beq_eq_false_iff_ne.mpr c12
       have c12b1 : (a0 != 15) = true := bne_iff_ne.mpr c12
       by_cases c13 : a0 = 33
       ·rw [if_pos c13] at H
        have c13b0 : (a0 == 33) = true := beq_iff_eq.mpr c13
        have c13b1 : (a0 != 33) = false := bne_eq_false_iff_eq.mpr c13
        clear c13
        have H' := Aside0.mk H
        clear H
        go_wp2
        go_meet
        case rel => exact ⟨_, (6), (1), (0), (by first | rfl | (simp; done) | (simp [*]; done)), (by first | rfl | (simp; done) | (simp [*]; done)), (by first | rfl | (simp; done) | (simp [*]; done)), H', ⟨by first | omega | exact Nat.le_refl _⟩, ⟨by repeat (first | (with_reducible first | exact HB.out | apply below_alloc | apply pw_below_drewN | apply below_drew1) | exact HB.out)⟩⟩
       ·rw [if_neg c13] at H
        have c13b0 : (a0 == 33) = false := beq_eq_false_iff_ne.mpr c13
        have c13b1 : (a0 != 33) = true := bne_iff_ne.mpr c13
        by_cases c14 : a0 = 6
        ·rw [if_pos c14] at H
         have c14b0 : (a0 == 6) = true := beq_iff_eq.mpr c14
         have c14b1 : (a0 != 6) = false := bne_eq_false_iff_eq.mpr c14
         clear c14
         have H' := Aside0.mk H
         clear H
         go_wp2
         go_meet
         case rel => exact ⟨_, (0), (2), (20), (by first | rfl | (simp; done) | (simp [*]; done)), (by first | rfl | (simp; done) | (simp [*]; done)), (by first | rfl | (simp; done) | (simp [*]; done)), H', ⟨by first | omega | exact Nat.le_refl _⟩, ⟨by repeat (first | (with_reducible first | exact HB.out | apply below_alloc | apply pw_below_drewN | apply below_drew1) | exact HB.out)⟩⟩
        ·rw [if_neg c14] at H
         have c14b0 : (a0 == 6) = false := beq_eq_false_iff_ne.mpr c14
         have c14b1 : (a0 != 6) = true := bne_iff_ne.mpr c14
         by_cases c15 : a0 = 2
         ·rw [if_pos c15] at H
          have c15b0 : (a0 == 2) = true := beq_iff_eq.mpr c15
          have c15b1 : (a0 != 2) = false := bne_eq_false_iff_eq.mpr c15
          clear c15
          have H' := Aside0.mk H
          clear H
          go_wp2
          go_meet
          case rel => exact ⟨_, (0), (1), (0), (by first | rfl | (simp; done) | (simp [*]; done)), (by first | rfl | (simp; done) | (simp [*]; done)), (by first | rfl | (simp; done) | (simp [*]; done)), H', ⟨by first | omega | exact Nat.le_refl _⟩, ⟨by repeat (first | (with_reducible first | exact HB.out | apply below_alloc | apply pw_below_drewN | apply below_drew1) | exact HB.out)⟩⟩
         ·rw [if_neg c15] at H
          have c15b0 : (a0 == 2) = false := beq_eq_false_iff_ne.mpr c15
          have c15b1 : (a0 != 2) = true := bne_iff_ne.mpr c15
          by_cases c16 : a0 = 5
          ·rw [if_pos c16] at H
           have c16b0 : (a0 == 5) = true := beq_iff_eq.mpr c16
           have c16b1 : (a0 != 5) = false := bne_eq_false_iff_eq.mpr c16
           clear c16
           have H' := Aside0.mk H
           clear H
           go_wp2
           go_meet
           case rel => exact ⟨_, (0), (1), (0), (by first | rfl | (simp; done) | (simp [*]; done)), (by first | rfl | (simp; done) | (simp [*]; done)), (by first | rfl | (simp; done) | (simp [*]; done)), H', ⟨by first | omega | exact Nat.le_refl _⟩, ⟨by repeat (first | (with_reducible first | exact HB.out | apply below_alloc | apply pw_below_drewN | apply below_drew1) | exact HB.out)⟩⟩
          ·rw [if_neg c16] at H
           have c16b0 : (a0 == 5) = false := beq_eq_false_iff_ne.mpr c16
           have c16b1 : (a0 != 5) = true := bne_iff_ne.mpr c16
           by_cases c17 : a0 = 12
           ·rw [if_pos c17] at H
            have c17b0 : (a0 == 12) = true := beq_iff_eq.mpr c17
            have c17b1 : (a0 != 12) = false := bne_eq_false_iff_eq.mpr c17
            clear c17
            have H' := Aside0.mk H
            clear H
            go_wp2
            go_meet
            case rel => exact ⟨_, (0), (1), (0), (by first | rfl | (simp; done) | (simp [*]; done)), (by first | rfl | (simp; done) | (simp [*]; done)), (by first | rfl | (simp; done) | (simp [*]; done)), H', ⟨by first | omega | exact Nat.le_refl _⟩, ⟨by repeat (first | (with_reducible first | exact HB.out | apply below_alloc | apply pw_below_drewN | apply below_drew1) | exact HB.out)⟩⟩
           ·rw [if_neg c17] at H
            have c17b0 : (a0 == 12) = false := beq_eq_false_iff_ne.mpr c17
            have c17b1 : (a0 != 12) = true := bne_iff_ne.mpr c17
            simp only [Option.some.injEq, Prod.mk.injEq] at H
            obtain ⟨rfl, rfl⟩ := H
            go_wp2
            go_ret2
            exact ⟨_, by first | rfl | (simp [errW_none, errW_some] <;> rfl) | (simp [*, errW_none, errW_some] <;> rfl), by first | exact Kd.R_nil _ _ _ _ _ | exact Kd.N_nil _ _ _ _ _ | exact Kd.V_nil _ _ _ _ _ | exact Kd.Q_nil _ _ _ _ _ | exact Kd.S_nil _ _ _ _ _, by repeat (first | (with_reducible first | exact HB.out | apply below_alloc | apply pw_below_drewN | apply below_drew1) | exact HB.out)⟩
  case rest =>
   clear HC4
   try clear c1
   try clear p1
   try clear q1
   try clear hx1
   try clear p2
   try clear c3
   try clear c3b0
   try clear c3b1
   try clear c5
   try clear c5b0
   try clear c5b1
   try clear c6
   try clear c6b0
   try clear c6b1
   try clear p6
   try clear c7
   try clear c7b0
   try clear c7b1
   try clear c8
   try clear c8b0
   try clear c9
   try clear c9b0
   try clear p10
   try clear q10
   try clear hx10
   try clear c11
   try clear c11b0
   try clear c11b1
   try clear c12
   try clear c12b0
   try clear c12b1
   try clear c13
   try clear c13b0
   try clear c13b1
   try clear c14
   try clear c14b0
   try clear c14b1
   try clear c15
   try clear c15b0
   try clear c15b1
   try clear c16
   try clear c16b0
   try clear c16b1
   try clear c17
   try clear c17b0
   try clear c17b1
   try clear p10
   try clear p2
   try clear q10
   obtain ⟨kq, x6_3, x7_3, x8_3, rfl, rfl, rfl, HA, HJ3, HB⟩ := hcut
   cases kq with
   | zero => exact absurd HA.out (by simp [freshetref1_Parts.j1])
   | succ kj3 =>
    have H := HA.out
    clear HA
    simp only [freshetref1_Parts.j1] at H
    have H' := Aside0.mk H
    clear H
    go_wp2
    go_loopg [10, 11, 12] kj3 (fun kq v10 v11 v12 w' => ∃ (x10_2 : List (S241)) (x11_2 : Int) (x12_2 : Int), v11 = .int .i64 x11_2 ∧ v12 = .int .i64 x12_2 ∧ Aside0 (freshetref1_Parts.l1 kq a1 x7_3 x8_3 x10_2 x11_2 x12_2 = some (r1, r2)) ∧ Aside0 (kq ≤ kj3) ∧ Aside0 (Kd.R k241 241 w' w.heap.size (fun _ => True) v10 x10_2) ∧ Aside0 (Below w.heap.size w w'))
    case atStart => exact ⟨(([] : List (S241))), (x6_3), (0), (by first | rfl | (simp; done) | (simp [*]; done)), (by first | rfl | (simp; done) | (simp [*]; done)), H', ⟨Nat.le_refl _⟩, ⟨by first | exact Kd.R_nil _ _ _ _ _ | exact Kd.N_nil _ _ _ _ _ | exact Kd.V_nil _ _ _ _ _ | exact Kd.Q_nil _ _ _ _ _ | exact Kd.S_nil _ _ _ _ _⟩, ⟨by repeat (first | (with_reducible first | exact HB.out | apply below_alloc | apply pw_below_drewN | apply below_drew1) | exact HB.out)⟩⟩
    case round =>
     clear H'
     try clear c1
     try clear p1
     try clear q1
     try clear hx1
     try clear p2
     try clear c3
     try clear c3b0
     try clear c3b1
     try clear c5
     try clear c5b0
     try clear c5b1
     try clear c6
     try clear c6b0
     try clear c6b1
     try clear p6
     try clear c7
     try clear c7b0
     try clear c7b1
     try clear c8
     try clear c8b0
     try clear c9
     try clear c9b0
     try clear p10
     try clear q10
     try clear hx10
     try clear c11
     try clear c11b0
     try clear c11b1
     try clear c12
     try clear c12b0
     try clear c12b1
     try clear c13
     try clear c13b0
     try clear c13b1
     try clear c14
     try clear c14b0
     try clear c14b1
     try clear c15
     try clear c15b0
     try clear c15b1
     try clear c16
     try clear c16b0
     try clear c16b1
     try clear c17
     try clear c17b0
     try clear c17b1
     try clear p1
     try clear p10
     try clear p2
     try clear p6
     try clear q1
     try clear q10
     obtain ⟨x10_2, x11_2, x12_2, rfl, rfl, HA, HK2, HO_10, HB⟩ := hrel
     cases gk with
     | zero => exact absurd HA.out (by simp [freshetref1_Parts.l1])
     | succ k2 =>
      have H := HA.out
      clear HA
      simp only [freshetref1_Parts.l1] at H
      by_cases c18 : x12_2 < x7_3
      ·rw [if_pos c18] at H
       have c18b0 : decide (x12_2 < x7_3) = true := decide_eq_true c18
       clear c18
       replace H := Option.bind_eq_some_iff.mp H
       obtain ⟨⟨t291, t292⟩, A190, H⟩ := H
       replace H : (if t292 = true then (if x10_2.length < 8796093022208 then (freshetref1_Parts.l1 k2 a1 x7_3 x8_3 (x10_2 ++ [(⟨x11_2, wrap64 (t291 - x11_2)⟩ : S241)]) t291 (wrap64 (x12_2 + 1))) else (none)) else (some (([] : List (S241)), false))) = some (r1, r2) := H
       have A19 := Aside0.mk A190
       clear A190
       by_cases c20 : t292 = true
       ·subst c20
        have H1 : (if x10_2.length < 8796093022208 then (freshetref1_Parts.l1 k2 a1 x7_3 x8_3 (x10_2 ++ [(⟨x11_2, wrap64 (t291 - x11_2)⟩ : S241)]) t291 (wrap64 (x12_2 + 1))) else (none)) = some (r1, r2) := by rw [if_pos rfl] at H; exact H
        clear H
        have H := H1
        clear H1
        by_cases c21 : x10_2.length < 8796093022208
        ·rw [if_pos c21] at H
         have LMc21 := Aside0.mk c21
         clear c21
         obtain ⟨y293, hy293⟩ : ∃ y_ : List (S241), y_ = (x10_2 ++ [(⟨x11_2, wrap64 (t291 - x11_2)⟩ : S241)]) := ⟨_, rfl⟩
         replace H : (freshetref1_Parts.l1 k2 a1 x7_3 x8_3 y293 t291 (wrap64 (x12_2 + 1))) = some (r1, r2) := by first | (rw [hy293]; with_reducible exact H) | (have H2_ := (Option.bind_some _ _).symm.trans H; rw [hy293]; with_reducible exact H2_) | (have H2_ := (Option.bind_some _ _).symm.trans H; with_reducible exact H2_) | with_reducible exact H | (rw [hy293]; exact H) | exact H
         have Ny293 := Aside0.mk hy293
         clear hy293
         have H' := Aside0.mk H
         clear H
         go_wp2_with (first | ((with_reducible refine gate_callee (f := 217) rfl ?_); refine goesL_ (some 70) rfl rfl Tryz.func217 (by kernel_rfl) rfl #[.string a1, .int .i64 x11_2] rfl (by (try simp only [List.map_toArray, List.map_cons, List.map_nil]); first | done | rfl | (simp only [List.length_drop, List.length_take]; rfl)) ?_; (with_reducible refine (freshetref1_end.calls k2 a1 x11_2 t291 true _ A19.out).mono ?_); rintro e w22 ⟨rfl, hb⟩; refine ⟨_, rfl, ?_⟩; have n0_ := Aside0.mk (Kd.R_below (by (with_reducible repeat (first | apply Kd.R_alloc | apply Kd.R_drewN | apply Kd.R_drew)); exact HO_10.out) hb); have n1_ := Aside0.mk (below_step (by repeat (first | (with_reducible first | exact HB.out | apply below_alloc | apply pw_below_drewN | apply below_drew1) | exact HB.out)) hb); clear HO_10; clear HB; have HO_10 := n0_; have HB := n1_; clear n0_ n1_; (try clear hb); (try clear hb2); (try clear hk); (try clear hi)) | ((with_reducible refine gate_builtin (b := .append) (xs := #[.tmp 75, .tmp 81]) rfl ?_); (try (refine gate_guard (by rfl) ?_; dsimp only)); at_builtin; refine Kd.R_append k241 (w0 := w) w.heap.size rfl (.tmp 75) (.tmp 81) 237 241 (.agg #[(.int .i64 0), (.int .i64 0)]) 16 rfl Tryz.underlying237 info241 rfl (by decide) (by omega) u10 x10_2 (⟨x11_2, wrap64 (t291 - x11_2)⟩ : S241) [.int .i64 x11_2, .int .i64 (wrap64 (t291 - x11_2))] (fun _ => True) (fun _ => False) rfl rfl ?aP (fun _ hk => hk.elim) ?aF ?aO ?aB ?aS ?aL ?_; (case aP => exact k241_mkM _ _ _ (⟨x11_2, wrap64 (t291 - x11_2)⟩ : S241)); (case aB => exact (by repeat (first | (with_reducible first | exact HB.out | apply below_alloc | apply pw_below_drewN | apply below_drew1) | exact HB.out))); (case aF => exact (fun _ _ => trivial)); (case aO => exact (by (with_reducible repeat (first | apply Kd.R_alloc | apply Kd.R_drewN | apply Kd.R_drew)); exact HO_10.out)); (case aS => exact (below_size (by repeat (first | (with_reducible first | exact HB.out | apply below_alloc | apply pw_below_drewN | apply below_drew1) | exact HB.out)))); (case aL => have := LMc21.out; omega); intro v294 w23 ho hb hg hat; rw [← Ny293.out] at ho; have n0_ := Aside0.mk (hb); have n1_ := Aside0.mk (ho); clear HB; clear HO_10; have HB := n0_; have HO295 := n1_; clear n0_ n1_; clear ho hb hg hat))
         go_roundg k2
         case measure => have := HJ3.out; have := HK2.out; omega
         case rel => exact ⟨(y293), (t291), (wrap64 (x12_2 + 1)), (by first | rfl | (simp; done) | (simp [*]; done)), (by first | rfl | (simp; done) | (simp [*]; done)), H', ⟨by have := HJ3.out; have := HK2.out; omega⟩, ⟨by (with_reducible repeat (first | apply Kd.R_alloc | apply Kd.R_drewN | apply Kd.R_drew)); exact HO295.out⟩, ⟨by repeat (first | (with_reducible first | exact HB.out | apply below_alloc | apply pw_below_drewN | apply below_drew1) | exact HB.out)⟩⟩
        ·rw [if_neg c21] at H
         exact absurd H (by simp)
       ·replace c20 := Bool.eq_false_iff.mpr c20
        subst c20
        have H1 : (some (([] : List (S241)), false)) = some (r1, r2) := by rw [if_neg (show ¬ (false = true) by decide)] at H; exact H
        clear H
        have H := H1
        clear H1
        simp only [Option.some.injEq, Prod.mk.injEq] at H
        obtain ⟨rfl, rfl⟩ := H
        go_wp2_with (first | ((with_reducible refine gate_callee (f := 217) rfl ?_); refine goesL_ (some 70) rfl rfl Tryz.func217 (by kernel_rfl) rfl #[.string a1, .int .i64 x11_2] rfl (by (try simp only [List.map_toArray, List.map_cons, List.map_nil]); first | done | rfl | (simp only [List.length_drop, List.length_take]; rfl)) ?_; (with_reducible refine (freshetref1_end.calls k2 a1 x11_2 t291 false _ A19.out).mono ?_); rintro e w24 ⟨rfl, hb⟩; refine ⟨_, rfl, ?_⟩; have n0_ := Aside0.mk (Kd.R_below (by (with_reducible repeat (first | apply Kd.R_alloc | apply Kd.R_drewN | apply Kd.R_drew)); exact HO_10.out) hb); have n1_ := Aside0.mk (below_step (by repeat (first | (with_reducible first | exact HB.out | apply below_alloc | apply pw_below_drewN | apply below_drew1) | exact HB.out)) hb); clear HO_10; clear HB; have HO_10 := n0_; have HB := n1_; clear n0_ n1_; (try clear hb); (try clear hb2); (try clear hk); (try clear hi)))
        go_ret2
        exact ⟨_, by first | rfl | (simp [errW_none, errW_some] <;> rfl) | (simp [*, errW_none, errW_some] <;> rfl), by first | exact Kd.R_nil _ _ _ _ _ | exact Kd.N_nil _ _ _ _ _ | exact Kd.V_nil _ _ _ _ _ | exact Kd.Q_nil _ _ _ _ _ | exact Kd.S_nil _ _ _ _ _, by repeat (first | (with_reducible first | exact HB.out | apply below_alloc | apply pw_below_drewN | apply below_drew1) | exact HB.out)⟩
      ·rw [if_neg c18] at H
       have c18b0 : decide (x12_2 < x7_3) = false := decide_eq_false c18
       clear c18
       by_cases c25 : (wrap64 (x11_2 + x8_3)) = (a1.size : Int)
       ·rw [if_pos c25] at H
        have c25b0 : ((wrap64 (x11_2 + x8_3)) == (a1.size : Int)) = true := beq_iff_eq.mpr c25
        have c25b1 : ((wrap64 (x11_2 + x8_3)) != (a1.size : Int)) = false := bne_eq_false_iff_eq.mpr c25
        clear c25
        simp only [Option.some.injEq, Prod.mk.injEq] at H
        obtain ⟨rfl, rfl⟩ := H
        go_wp2
        go_ret2
        exact ⟨_, by first | rfl | (simp [errW_none, errW_some] <;> rfl) | (simp [*, errW_none, errW_some] <;> rfl), by (with_reducible repeat (first | apply Kd.R_alloc | apply Kd.R_drewN | apply Kd.R_drew)); exact HO_10.out, by repeat (first | (with_reducible first | exact HB.out | apply below_alloc | apply pw_below_drewN | apply below_drew1) | exact HB.out)⟩
       ·rw [if_neg c25] at H
        have c25b0 : ((wrap64 (x11_2 + x8_3)) == (a1.size : Int)) = false := beq_eq_false_iff_ne.mpr c25
        have c25b1 : ((wrap64 (x11_2 + x8_3)) != (a1.size : Int)) = true := bne_iff_ne.mpr c25
        simp only [Option.some.injEq, Prod.mk.injEq] at H
        obtain ⟨rfl, rfl⟩ := H
        go_wp2
        go_ret2
        exact ⟨_, by first | rfl | (simp [errW_none, errW_some] <;> rfl) | (simp [*, errW_none, errW_some] <;> rfl), by first | exact Kd.R_nil _ _ _ _ _ | exact Kd.N_nil _ _ _ _ _ | exact Kd.V_nil _ _ _ _ _ | exact Kd.Q_nil _ _ _ _ _ | exact Kd.S_nil _ _ _ _ _, by repeat (first | (with_reducible first | exact HB.out | apply below_alloc | apply pw_below_drewN | apply below_drew1) | exact HB.out)⟩

/-! ### freshetref1_Target: function 161 -/
def freshetref1_Target.f (k : Nat) (a0_0 : ByteArray) (a0_1 : Int) (a0_2 : Int) (a0_3 : Int) (a0_4 : ByteArray) : Option (ByteArray × Bool) := (freshetref1_Parts.f k a0_1 a0_4).bind fun bt297 => (if bt297.2 = true then (if (bt297.1.length : Int) = 1 then (if 0 < (bt297.1.length : Int) then (if 0 ≤ ((rd_T241 bt297.1 0).f0) then (if ((rd_T241 bt297.1 0).f0) ≤ (wrap64 (((rd_T241 bt297.1 0).f0) + ((rd_T241 bt297.1 0).f1))) then (if (wrap64 (((rd_T241 bt297.1 0).f0) + ((rd_T241 bt297.1 0).f1))) ≤ (a0_4.size : Int) then (some (a0_4.extract (((rd_T241 bt297.1 0).f0) : Int).toNat ((wrap64 (((rd_T241 bt297.1 0).f0) + ((rd_T241 bt297.1 0).f1))) : Int).toNat, true)) else (none)) else (none)) else (none)) else (none)) else (some ((⟨#[]⟩ : ByteArray), false))) else (some ((⟨#[]⟩ : ByteArray), false)))
theorem freshetref1_Target.mono : ∀ a0 a1 a2 a3 a4 k, LeO (freshetref1_Target.f k a0 a1 a2 a3 a4) (freshetref1_Target.f (k + 1) a0 a1 a2 a3 a4) := by
 intro a0 a1 a2 a3 a4 k
 unfold freshetref1_Target.f
 repeat' first
   | (with_reducible exact freshetref1_Parts.mono _ _ _)
   | (with_reducible exact LeO.refl _)
   | (with_reducible exact LeO.none _)
   | (with_reducible refine LeO.ite ?_ ?_)
   | (with_reducible refine LeO.bind ?_ (fun _ => ?_))
   | exact freshetref1_Parts.mono _ _ _
   | exact LeO.none _
   | refine LeO.ite ?_ ?_
   | refine LeO.bind ?_ (fun _ => ?_)
set_option maxHeartbeats 8000000 in
set_option maxRecDepth 100000 in
theorem freshetref1_Target.calls (k : Nat) (a0_0 : ByteArray) (a0_1 : Int) (a0_2 : Int) (a0_3 : Int) (a0_4 : ByteArray) (r1 : ByteArray) (r2 : Bool) (w : World) (h : freshetref1_Target.f k a0_0 a0_1 a0_2 a0_3 a0_4 = some (r1, r2)) :
  Calls Tryz.prog 161 #[.agg #[.string a0_0, .int .i64 a0_1, .int .i64 a0_2, .int .i64 a0_3, .string a0_4]] w fun e w' => e = .returned (.tuple #[.string r1, .bool r2]) ∧ Below w.heap.size w w' := by
 have hu43 := Tryz.underlying43
 have HB := Aside0.mk (Below.refl w.heap.size w)
 have H : ((freshetref1_Parts.f k a0_1 a0_4).bind fun bt297 => (if bt297.2 = true then (if (bt297.1.length : Int) = 1 then (if 0 < (bt297.1.length : Int) then (if 0 ≤ ((rd_T241 bt297.1 0).f0) then (if ((rd_T241 bt297.1 0).f0) ≤ (wrap64 (((rd_T241 bt297.1 0).f0) + ((rd_T241 bt297.1 0).f1))) then (if (wrap64 (((rd_T241 bt297.1 0).f0) + ((rd_T241 bt297.1 0).f1))) ≤ (a0_4.size : Int) then (some (a0_4.extract (((rd_T241 bt297.1 0).f0) : Int).toNat ((wrap64 (((rd_T241 bt297.1 0).f0) + ((rd_T241 bt297.1 0).f1))) : Int).toNat, true)) else (none)) else (none)) else (none)) else (none)) else (some ((⟨#[]⟩ : ByteArray), false))) else (some ((⟨#[]⟩ : ByteArray), false)))) = some (r1, r2) := h
 clear h
 replace H := Option.bind_eq_some_iff.mp H
 obtain ⟨⟨t297, t298⟩, A20, H⟩ := H
 replace H : (if t298 = true then (if (t297.length : Int) = 1 then (if 0 < (t297.length : Int) then (if 0 ≤ ((rd_T241 t297 0).f0) then (if ((rd_T241 t297 0).f0) ≤ (wrap64 (((rd_T241 t297 0).f0) + ((rd_T241 t297 0).f1))) then (if (wrap64 (((rd_T241 t297 0).f0) + ((rd_T241 t297 0).f1))) ≤ (a0_4.size : Int) then (some (a0_4.extract (((rd_T241 t297 0).f0) : Int).toNat ((wrap64 (((rd_T241 t297 0).f0) + ((rd_T241 t297 0).f1))) : Int).toNat, true)) else (none)) else (none)) else (none)) else (none)) else (some ((⟨#[]⟩ : ByteArray), false))) else (some ((⟨#[]⟩ : ByteArray), false))) = some (r1, r2) := H
 have A2 := Aside0.mk A20
 clear A20
 by_cases c3 : t298 = true
 ·subst c3
  have H1 : (if (t297.length : Int) = 1 then (if 0 < (t297.length : Int) then (if 0 ≤ ((rd_T241 t297 0).f0) then (if ((rd_T241 t297 0).f0) ≤ (wrap64 (((rd_T241 t297 0).f0) + ((rd_T241 t297 0).f1))) then (if (wrap64 (((rd_T241 t297 0).f0) + ((rd_T241 t297 0).f1))) ≤ (a0_4.size : Int) then (some (a0_4.extract (((rd_T241 t297 0).f0) : Int).toNat ((wrap64 (((rd_T241 t297 0).f0) + ((rd_T241 t297 0).f1))) : Int).toNat, true)) else (none)) else (none)) else (none)) else (none)) else (some ((⟨#[]⟩ : ByteArray), false))) = some (r1, r2) := by rw [if_pos rfl] at H; exact H
  clear H
  have H := H1
  clear H1
  by_cases c4 : (t297.length : Int) = 1
  ·rw [if_pos c4] at H
   have c4b0 : ((t297.length : Int) == 1) = true := beq_iff_eq.mpr c4
   have c4b1 : ((t297.length : Int) != 1) = false := bne_eq_false_iff_eq.mpr c4
   clear c4
   by_cases c5 : 0 < (t297.length : Int)
   ·rw [if_pos c5] at H
    have c5b0 : decide (0 < (t297.length : Int)) = true := decide_eq_true c5
    have c5b1 : decide (0 < t297.length) = true := decide_eq_true (by omega)
    clear c5
    by_cases c6 : 0 ≤ ((rd_T241 t297 0).f0)
    ·rw [if_pos c6] at H
     have c6b0 := eq_true c6
     have c6b1 : decide (0 ≤ ((rd_T241 t297 0).f0)) = true := decide_eq_true c6
     clear c6
     by_cases c7 : ((rd_T241 t297 0).f0) ≤ (wrap64 (((rd_T241 t297 0).f0) + ((rd_T241 t297 0).f1)))
     ·rw [if_pos c7] at H
      have c7b0 := eq_true c7
      have c7b1 : decide (((rd_T241 t297 0).f0) ≤ (wrap64 (((rd_T241 t297 0).f0) + ((rd_T241 t297 0).f1)))) = true := decide_eq_true c7
      by_cases c8 : (wrap64 (((rd_T241 t297 0).f0) + ((rd_T241 t297 0).f1))) ≤ (a0_4.size : Int)
      ·rw [if_pos c8] at H
       have c8b0 := eq_true c8
       have c8b1 : decide ((wrap64 (((rd_T241 t297 0).f0) + ((rd_T241 t297 0).f1))) ≤ (a0_4.size : Int)) = true := decide_eq_true c8
       simp only [Option.some.injEq, Prod.mk.injEq] at H
       obtain ⟨rfl, rfl⟩ := H
       go_enter Tryz.func161, Tryz.ntmps161
       go_wp2_with (first | ((with_reducible refine gate_dst (N := 1) rfl ?_); (try (refine gate_guard (by rfl) ?_; dsimp only)); refine box_event ?hg (N := 1) ?hd (cs := #[.string a0_0, .int .i64 a0_1, .int .i64 a0_2, .int .i64 a0_3, .string a0_4]) (t := 43) ?hr ?_; (case hd => rfl); (case hg => rfl); (case hr => first | (go_simp; done) | (go_simp; rfl)); intro gb296 hg w9 hbox hb; have n0_ := Aside0.mk (below_step (by repeat (first | (with_reducible first | exact HB.out | apply below_alloc | apply pw_below_drewN | apply below_drew1) | exact HB.out)) hb); have n1_ := Aside0.mk (hbox); have n2_ := Aside0.mk ((by rw [hg]; exact (below_size (by repeat (first | (with_reducible first | exact HB.out | apply below_alloc | apply pw_below_drewN | apply below_drew1) | exact HB.out))) : w.heap.size ≤ gb296)); have n3_ := Aside0.mk ((by rw [hg]; exact (below_size (by repeat (first | (with_reducible first | exact HB.out | apply below_alloc | apply pw_below_drewN | apply below_drew1) | exact HB.out))) : w.heap.size ≤ gb296)); clear HB; have HB := n0_; have BK296 := n1_; have GW296 := n2_; have GE296 := n3_; clear n0_ n1_ n2_ n3_; clear hb hbox hg; have hcz10_0 : w9.cell? ⟨gb296, 0, none⟩ = some (.string a0_0) := (blk_cell BK296.out 0).trans rfl; have hcz10_1 : w9.cell? ⟨gb296, 1, none⟩ = some (.int .i64 a0_1) := (blk_cell BK296.out 1).trans rfl; have hcz10_2 : w9.cell? ⟨gb296, 2, none⟩ = some (.int .i64 a0_2) := (blk_cell BK296.out 2).trans rfl; have hcz10_3 : w9.cell? ⟨gb296, 3, none⟩ = some (.int .i64 a0_3) := (blk_cell BK296.out 3).trans rfl; have hcz10_4 : w9.cell? ⟨gb296, 4, none⟩ = some (.string a0_4) := (blk_cell BK296.out 4).trans rfl; have hfz10_0 := blk_frozen BK296.out 0; have hfz10_1 := blk_frozen BK296.out 1; have hfz10_2 := blk_frozen BK296.out 2; have hfz10_3 := blk_frozen BK296.out 3; have hfz10_4 := blk_frozen BK296.out 4) | (go_at_call 183; (with_reducible refine (freshetref1_Parts.calls k a0_1 a0_4 t297 true _ A2.out).mono ?_); rintro e w11 ⟨v299, rfl, ho0, hb⟩; have n0_ := Aside0.mk (Kd.R_lower ho0 (below_size (by repeat (first | (with_reducible first | exact HB.out | apply below_alloc | apply pw_below_drewN | apply below_drew1 | refine below_set ?_ GE296.out) | exact HB.out)))); have n1_ := Aside0.mk (blk_below (g := gb296) (o := .cells #[.string a0_0, .int .i64 a0_1, .int .i64 a0_2, .int .i64 a0_3, .string a0_4] 43 (0, 0)) (by (with_reducible repeat (first | refine blk_drewN ?_ _ | refine blk_drew ?_ | refine blk_alloc ?_ _)); exact BK296.out) hb); have n2_ := Aside0.mk (below_step (by repeat (first | (with_reducible first | exact HB.out | apply below_alloc | apply pw_below_drewN | apply below_drew1 | refine below_set ?_ GE296.out) | exact HB.out)) hb); clear BK296; clear HB; have HO300 := n0_; have BK296 := n1_; have HB := n2_; clear n0_ n1_ n2_; (try clear hb); (try clear hb2); (try clear hk); (try clear hi); (try clear ho0); obtain ⟨Ao12, co12, eo12⟩ := Kd.R_slice HO300.out; subst eo12; have hcz13_0 : w11.cell? ⟨gb296, 0, none⟩ = some (.string a0_0) := (blk_cell BK296.out 0).trans rfl; have hcz13_1 : w11.cell? ⟨gb296, 1, none⟩ = some (.int .i64 a0_1) := (blk_cell BK296.out 1).trans rfl; have hcz13_2 : w11.cell? ⟨gb296, 2, none⟩ = some (.int .i64 a0_2) := (blk_cell BK296.out 2).trans rfl; have hcz13_3 : w11.cell? ⟨gb296, 3, none⟩ = some (.int .i64 a0_3) := (blk_cell BK296.out 3).trans rfl; have hcz13_4 : w11.cell? ⟨gb296, 4, none⟩ = some (.string a0_4) := (blk_cell BK296.out 4).trans rfl; have hfz13_0 := blk_frozen BK296.out 0; have hfz13_1 := blk_frozen BK296.out 1; have hfz13_2 := blk_frozen BK296.out 2; have hfz13_3 := blk_frozen BK296.out 3; have hfz13_4 := blk_frozen BK296.out 4; have p301 : 0 ≤ (0 : Int) := (by omega); have q301 : 0 < (t297.length : Int) := of_decide_eq_true (by first | (with_reducible assumption) | assumption); obtain ⟨ad301, e301, hx301_0, hx301_1⟩ := at_T241 (Kd.R_reads' HO300.out).2.2 0 p301 q301; cases e301; have qi301 : (0 < t297.length) = True := eq_true (by omega); (try rw [show ((0 : Int)).toNat = 0 from rfl] at hx301_0); (try rw [show 0 * 2 = 0 from rfl] at hx301_0); (try rw [Addr.add_zero'] at hx301_0); (try rw [show ((0 : Int)).toNat = 0 from rfl] at hx301_1); (try rw [show 0 * 2 = 0 from rfl] at hx301_1); (try rw [Addr.add_zero'] at hx301_1); replace p301 := eq_true p301; replace q301 := eq_true q301; have p302 : 0 ≤ (0 : Int) := (by omega); have q302 : 0 < (t297.length : Int) := of_decide_eq_true (by first | (with_reducible assumption) | assumption); obtain ⟨ad302, e302, hx302_0, hx302_1⟩ := at_T241 (Kd.R_reads' HO300.out).2.2 0 p302 q302; obtain rfl : ad301 = ad302 := (by injection e302); have qi302 : (0 < t297.length) = True := eq_true (by omega); (try rw [show ((0 : Int)).toNat = 0 from rfl] at hx302_0); (try rw [show 0 * 2 = 0 from rfl] at hx302_0); (try rw [Addr.add_zero'] at hx302_0); (try rw [show ((0 : Int)).toNat = 0 from rfl] at hx302_1); (try rw [show 0 * 2 = 0 from rfl] at hx302_1); (try rw [Addr.add_zero'] at hx302_1); replace p302 := eq_true p302; replace q302 := eq_true q302; have p303 : 0 ≤ (0 : Int) := (by omega); have q303 : 0 < (t297.length : Int) := of_decide_eq_true (by first | (with_reducible assumption) | assumption); obtain ⟨ad303, e303, hx303_0, hx303_1⟩ := at_T241 (Kd.R_reads' HO300.out).2.2 0 p303 q303; obtain rfl : ad301 = ad303 := (by injection e303); have qi303 : (0 < t297.length) = True := eq_true (by omega); (try rw [show ((0 : Int)).toNat = 0 from rfl] at hx303_0); (try rw [show 0 * 2 = 0 from rfl] at hx303_0); (try rw [Addr.add_zero'] at hx303_0); (try rw [show ((0 : Int)).toNat = 0 from rfl] at hx303_1); (try rw [show 0 * 2 = 0 from rfl] at hx303_1); (try rw [Addr.add_zero'] at hx303_1); replace p303 := eq_true p303; replace q303 := eq_true q303))
       repeat (go_quiet (first | ((with_reducible refine gate_dst (N := 1) rfl ?_); (try (refine gate_guard (by rfl) ?_; dsimp only)); refine box_event ?hg (N := 1) ?hd (cs := #[.string a0_0, .int .i64 a0_1, .int .i64 a0_2, .int .i64 a0_3, .string a0_4]) (t := 43) ?hr ?_; (case hd => rfl); (case hg => rfl); (case hr => first | (go_simp; done) | (go_simp; rfl)); intro gb296 hg w9 hbox hb; have n0_ := Aside0.mk (below_step (by repeat (first | (with_reducible first | exact HB.out | apply below_alloc | apply pw_below_drewN | apply below_drew1) | exact HB.out)) hb); have n1_ := Aside0.mk (hbox); have n2_ := Aside0.mk ((by rw [hg]; exact (below_size (by repeat (first | (with_reducible first | exact HB.out | apply below_alloc | apply pw_below_drewN | apply below_drew1) | exact HB.out))) : w.heap.size ≤ gb296)); have n3_ := Aside0.mk ((by rw [hg]; exact (below_size (by repeat (first | (with_reducible first | exact HB.out | apply below_alloc | apply pw_below_drewN | apply below_drew1) | exact HB.out))) : w.heap.size ≤ gb296)); clear HB; have HB := n0_; have BK296 := n1_; have GW296 := n2_; have GE296 := n3_; clear n0_ n1_ n2_ n3_; clear hb hbox hg; have hcz10_0 : w9.cell? ⟨gb296, 0, none⟩ = some (.string a0_0) := (blk_cell BK296.out 0).trans rfl; have hcz10_1 : w9.cell? ⟨gb296, 1, none⟩ = some (.int .i64 a0_1) := (blk_cell BK296.out 1).trans rfl; have hcz10_2 : w9.cell? ⟨gb296, 2, none⟩ = some (.int .i64 a0_2) := (blk_cell BK296.out 2).trans rfl; have hcz10_3 : w9.cell? ⟨gb296, 3, none⟩ = some (.int .i64 a0_3) := (blk_cell BK296.out 3).trans rfl; have hcz10_4 : w9.cell? ⟨gb296, 4, none⟩ = some (.string a0_4) := (blk_cell BK296.out 4).trans rfl; have hfz10_0 := blk_frozen BK296.out 0; have hfz10_1 := blk_frozen BK296.out 1; have hfz10_2 := blk_frozen BK296.out 2; have hfz10_3 := blk_frozen BK296.out 3; have hfz10_4 := blk_frozen BK296.out 4) | (go_at_call 183; (with_reducible refine (freshetref1_Parts.calls k a0_1 a0_4 t297 true _ A2.out).mono ?_); rintro e w11 ⟨v299, rfl, ho0, hb⟩; have n0_ := Aside0.mk (Kd.R_lower ho0 (below_size (by repeat (first | (with_reducible first | exact HB.out | apply below_alloc | apply pw_below_drewN | apply below_drew1 | refine below_set ?_ GE296.out) | exact HB.out)))); have n1_ := Aside0.mk (blk_below (g := gb296) (o := .cells #[.string a0_0, .int .i64 a0_1, .int .i64 a0_2, .int .i64 a0_3, .string a0_4] 43 (0, 0)) (by (with_reducible repeat (first | refine blk_drewN ?_ _ | refine blk_drew ?_ | refine blk_alloc ?_ _)); exact BK296.out) hb); have n2_ := Aside0.mk (below_step (by repeat (first | (with_reducible first | exact HB.out | apply below_alloc | apply pw_below_drewN | apply below_drew1 | refine below_set ?_ GE296.out) | exact HB.out)) hb); clear BK296; clear HB; have HO300 := n0_; have BK296 := n1_; have HB := n2_; clear n0_ n1_ n2_; (try clear hb); (try clear hb2); (try clear hk); (try clear hi); (try clear ho0); obtain ⟨Ao12, co12, eo12⟩ := Kd.R_slice HO300.out; subst eo12; have hcz13_0 : w11.cell? ⟨gb296, 0, none⟩ = some (.string a0_0) := (blk_cell BK296.out 0).trans rfl; have hcz13_1 : w11.cell? ⟨gb296, 1, none⟩ = some (.int .i64 a0_1) := (blk_cell BK296.out 1).trans rfl; have hcz13_2 : w11.cell? ⟨gb296, 2, none⟩ = some (.int .i64 a0_2) := (blk_cell BK296.out 2).trans rfl; have hcz13_3 : w11.cell? ⟨gb296, 3, none⟩ = some (.int .i64 a0_3) := (blk_cell BK296.out 3).trans rfl; have hcz13_4 : w11.cell? ⟨gb296, 4, none⟩ = some (.string a0_4) := (blk_cell BK296.out 4).trans rfl; have hfz13_0 := blk_frozen BK296.out 0; have hfz13_1 := blk_frozen BK296.out 1; have hfz13_2 := blk_frozen BK296.out 2; have hfz13_3 := blk_frozen BK296.out 3; have hfz13_4 := blk_frozen BK296.out 4; have p301 : 0 ≤ (0 : Int) := (by omega); have q301 : 0 < (t297.length : Int) := of_decide_eq_true (by first | (with_reducible assumption) | assumption); obtain ⟨ad301, e301, hx301_0, hx301_1⟩ := at_T241 (Kd.R_reads' HO300.out).2.2 0 p301 q301; cases e301; have qi301 : (0 < t297.length) = True := eq_true (by omega); (try rw [show ((0 : Int)).toNat = 0 from rfl] at hx301_0); (try rw [show 0 * 2 = 0 from rfl] at hx301_0); (try rw [Addr.add_zero'] at hx301_0); (try rw [show ((0 : Int)).toNat = 0 from rfl] at hx301_1); (try rw [show 0 * 2 = 0 from rfl] at hx301_1); (try rw [Addr.add_zero'] at hx301_1); replace p301 := eq_true p301; replace q301 := eq_true q301; have p302 : 0 ≤ (0 : Int) := (by omega); have q302 : 0 < (t297.length : Int) := of_decide_eq_true (by first | (with_reducible assumption) | assumption); obtain ⟨ad302, e302, hx302_0, hx302_1⟩ := at_T241 (Kd.R_reads' HO300.out).2.2 0 p302 q302; obtain rfl : ad301 = ad302 := (by injection e302); have qi302 : (0 < t297.length) = True := eq_true (by omega); (try rw [show ((0 : Int)).toNat = 0 from rfl] at hx302_0); (try rw [show 0 * 2 = 0 from rfl] at hx302_0); (try rw [Addr.add_zero'] at hx302_0); (try rw [show ((0 : Int)).toNat = 0 from rfl] at hx302_1); (try rw [show 0 * 2 = 0 from rfl] at hx302_1); (try rw [Addr.add_zero'] at hx302_1); replace p302 := eq_true p302; replace q302 := eq_true q302; have p303 : 0 ≤ (0 : Int) := (by omega); have q303 : 0 < (t297.length : Int) := of_decide_eq_true (by first | (with_reducible assumption) | assumption); obtain ⟨ad303, e303, hx303_0, hx303_1⟩ := at_T241 (Kd.R_reads' HO300.out).2.2 0 p303 q303; obtain rfl : ad301 = ad303 := (by injection e303); have qi303 : (0 < t297.length) = True := eq_true (by omega); (try rw [show ((0 : Int)).toNat = 0 from rfl] at hx303_0); (try rw [show 0 * 2 = 0 from rfl] at hx303_0); (try rw [Addr.add_zero'] at hx303_0); (try rw [show ((0 : Int)).toNat = 0 from rfl] at hx303_1); (try rw [show 0 * 2 = 0 from rfl] at hx303_1); (try rw [Addr.add_zero'] at hx303_1); replace p303 := eq_true p303; replace q303 := eq_true q303)); try go_wp2_with (first | ((with_reducible refine gate_dst (N := 1) rfl ?_); (try (refine gate_guard (by rfl) ?_; dsimp only)); refine box_event ?hg (N := 1) ?hd (cs := #[.string a0_0, .int .i64 a0_1, .int .i64 a0_2, .int .i64 a0_3, .string a0_4]) (t := 43) ?hr ?_; (case hd => rfl); (case hg => rfl); (case hr => first | (go_simp; done) | (go_simp; rfl)); intro gb296 hg w9 hbox hb; have n0_ := Aside0.mk (below_step (by repeat (first | (with_reducible first | exact HB.out | apply below_alloc | apply pw_below_drewN | apply below_drew1) | exact HB.out)) hb); have n1_ := Aside0.mk (hbox); have n2_ := Aside0.mk ((by rw [hg]; exact (below_size (by repeat (first | (with_reducible first | exact HB.out | apply below_alloc | apply pw_below_drewN | apply below_drew1) | exact HB.out))) : w.heap.size ≤ gb296)); have n3_ := Aside0.mk ((by rw [hg]; exact (below_size (by repeat (first | (with_reducible first | exact HB.out | apply below_alloc | apply pw_below_drewN | apply below_drew1) | exact HB.out))) : w.heap.size ≤ gb296)); clear HB; have HB := n0_; have BK296 := n1_; have GW296 := n2_; have GE296 := n3_; clear n0_ n1_ n2_ n3_; clear hb hbox hg; have hcz10_0 : w9.cell? ⟨gb296, 0, none⟩ = some (.string a0_0) := (blk_cell BK296.out 0).trans rfl; have hcz10_1 : w9.cell? ⟨gb296, 1, none⟩ = some (.int .i64 a0_1) := (blk_cell BK296.out 1).trans rfl; have hcz10_2 : w9.cell? ⟨gb296, 2, none⟩ = some (.int .i64 a0_2) := (blk_cell BK296.out 2).trans rfl; have hcz10_3 : w9.cell? ⟨gb296, 3, none⟩ = some (.int .i64 a0_3) := (blk_cell BK296.out 3).trans rfl; have hcz10_4 : w9.cell? ⟨gb296, 4, none⟩ = some (.string a0_4) := (blk_cell BK296.out 4).trans rfl; have hfz10_0 := blk_frozen BK296.out 0; have hfz10_1 := blk_frozen BK296.out 1; have hfz10_2 := blk_frozen BK296.out 2; have hfz10_3 := blk_frozen BK296.out 3; have hfz10_4 := blk_frozen BK296.out 4) | (go_at_call 183; (with_reducible refine (freshetref1_Parts.calls k a0_1 a0_4 t297 true _ A2.out).mono ?_); rintro e w11 ⟨v299, rfl, ho0, hb⟩; have n0_ := Aside0.mk (Kd.R_lower ho0 (below_size (by repeat (first | (with_reducible first | exact HB.out | apply below_alloc | apply pw_below_drewN | apply below_drew1 | refine below_set ?_ GE296.out) | exact HB.out)))); have n1_ := Aside0.mk (blk_below (g := gb296) (o := .cells #[.string a0_0, .int .i64 a0_1, .int .i64 a0_2, .int .i64 a0_3, .string a0_4] 43 (0, 0)) (by (with_reducible repeat (first | refine blk_drewN ?_ _ | refine blk_drew ?_ | refine blk_alloc ?_ _)); exact BK296.out) hb); have n2_ := Aside0.mk (below_step (by repeat (first | (with_reducible first | exact HB.out | apply below_alloc | apply pw_below_drewN | apply below_drew1 | refine below_set ?_ GE296.out) | exact HB.out)) hb); clear BK296; clear HB; have HO300 := n0_; have BK296 := n1_; have HB := n2_; clear n0_ n1_ n2_; (try clear hb); (try clear hb2); (try clear hk); (try clear hi); (try clear ho0); obtain ⟨Ao12, co12, eo12⟩ := Kd.R_slice HO300.out; subst eo12; have hcz13_0 : w11.cell? ⟨gb296, 0, none⟩ = some (.string a0_0) := (blk_cell BK296.out 0).trans rfl; have hcz13_1 : w11.cell? ⟨gb296, 1, none⟩ = some (.int .i64 a0_1) := (blk_cell BK296.out 1).trans rfl; have hcz13_2 : w11.cell? ⟨gb296, 2, none⟩ = some (.int .i64 a0_2) := (blk_cell BK296.out 2).trans rfl; have hcz13_3 : w11.cell? ⟨gb296, 3, none⟩ = some (.int .i64 a0_3) := (blk_cell BK296.out 3).trans rfl; have hcz13_4 : w11.cell? ⟨gb296, 4, none⟩ = some (.string a0_4) := (blk_cell BK296.out 4).trans rfl; have hfz13_0 := blk_frozen BK296.out 0; have hfz13_1 := blk_frozen BK296.out 1; have hfz13_2 := blk_frozen BK296.out 2; have hfz13_3 := blk_frozen BK296.out 3; have hfz13_4 := blk_frozen BK296.out 4; have p301 : 0 ≤ (0 : Int) := (by omega); have q301 : 0 < (t297.length : Int) := of_decide_eq_true (by first | (with_reducible assumption) | assumption); obtain ⟨ad301, e301, hx301_0, hx301_1⟩ := at_T241 (Kd.R_reads' HO300.out).2.2 0 p301 q301; cases e301; have qi301 : (0 < t297.length) = True := eq_true (by omega); (try rw [show ((0 : Int)).toNat = 0 from rfl] at hx301_0); (try rw [show 0 * 2 = 0 from rfl] at hx301_0); (try rw [Addr.add_zero'] at hx301_0); (try rw [show ((0 : Int)).toNat = 0 from rfl] at hx301_1); (try rw [show 0 * 2 = 0 from rfl] at hx301_1); (try rw [Addr.add_zero'] at hx301_1); replace p301 := eq_true p301; replace q301 := eq_true q301; have p302 : 0 ≤ (0 : Int) := (by omega); have q302 : 0 < (t297.length : Int) := of_decide_eq_true (by first | (with_reducible assumption) | assumption); obtain ⟨ad302, e302, hx302_0, hx302_1⟩ := at_T241 (Kd.R_reads' HO300.out).2.2 0 p302 q302; obtain rfl : ad301 = ad302 := (by injection e302); have qi302 : (0 < t297.length) = True := eq_true (by omega); (try rw [show ((0 : Int)).toNat = 0 from rfl] at hx302_0); (try rw [show 0 * 2 = 0 from rfl] at hx302_0); (try rw [Addr.add_zero'] at hx302_0); (try rw [show ((0 : Int)).toNat = 0 from rfl] at hx302_1); (try rw [show 0 * 2 = 0 from rfl] at hx302_1); (try rw [Addr.add_zero'] at hx302_1); replace p302 := eq_true p302; replace q302 := eq_true q302; have p303 : 0 ≤ (0 : Int) := (by omega); have q303 : 0 < (t297.length : Int) := of_decide_eq_true (by first | (with_reducible assumption) | assumption); obtain ⟨ad303, e303, hx303_0, hx303_1⟩ := at_T241 (Kd.R_reads' HO300.out).2.2 0 p303 q303; obtain rfl : ad301 = ad303 := (by injection e303); have qi303 : (0 < t297.length) = True := eq_true (by omega); (try rw [show ((0 : Int)).toNat = 0 from rfl] at hx303_0); (try rw [show 0 * 2 = 0 from rfl] at hx303_0); (try rw [Addr.add_zero'] at hx303_0); (try rw [show ((0 : Int)).toNat = 0 from rfl] at hx303_1); (try rw [show 0 * 2 = 0 from rfl] at hx303_1); (try rw [Addr.add_zero'] at hx303_1); replace p303 := eq_true p303; replace q303 := eq_true q303)))
       go_ret2
       exact ⟨by first | rfl | (simp [errW_none, errW_some] <;> rfl) | (simp [*, errW_none, errW_some] <;> rfl), by repeat (first | (with_reducible first | exact HB.out | apply below_alloc | apply pw_below_drewN | apply below_drew1 | refine below_set ?_ GE296.out) | exact HB.out)⟩
      ·rw [if_neg c8] at H
       exact absurd H (by simp)
     ·rw [if_neg c7] at H
      exact absurd H (by simp)
    ·rw [if_neg c6] at H
     exact absurd H (by simp)
   ·rw [if_neg c5] at H
    exact absurd H (by simp)
  ·rw [if_neg c4] at H
   have c4b0 : ((t297.length : Int) == 1) = false := beq_eq_false_iff_ne.mpr c4
   have c4b1 : ((t297.length : Int) != 1) = true := bne_iff_ne.mpr c4
   simp only [Option.some.injEq, Prod.mk.injEq] at H
   obtain ⟨rfl, rfl⟩ := H
   go_enter Tryz.func161, Tryz.ntmps161
   go_wp2_with (first | ((with_reducible refine gate_dst (N := 1) rfl ?_); (try (refine gate_guard (by rfl) ?_; dsimp only)); refine box_event ?hg (N := 1) ?hd (cs := #[.string a0_0, .int .i64 a0_1, .int .i64 a0_2, .int .i64 a0_3, .string a0_4]) (t := 43) ?hr ?_; (case hd => rfl); (case hg => rfl); (case hr => first | (go_simp; done) | (go_simp; rfl)); intro gb296 hg w14 hbox hb; have n0_ := Aside0.mk (below_step (by repeat (first | (with_reducible first | exact HB.out | apply below_alloc | apply pw_below_drewN | apply below_drew1) | exact HB.out)) hb); have n1_ := Aside0.mk (hbox); have n2_ := Aside0.mk ((by rw [hg]; exact (below_size (by repeat (first | (with_reducible first | exact HB.out | apply below_alloc | apply pw_below_drewN | apply below_drew1) | exact HB.out))) : w.heap.size ≤ gb296)); have n3_ := Aside0.mk ((by rw [hg]; exact (below_size (by repeat (first | (with_reducible first | exact HB.out | apply below_alloc | apply pw_below_drewN | apply below_drew1) | exact HB.out))) : w.heap.size ≤ gb296)); clear HB; have HB := n0_; have BK296 := n1_; have GW296 := n2_; have GE296 := n3_; clear n0_ n1_ n2_ n3_; clear hb hbox hg; have hcz15_0 : w14.cell? ⟨gb296, 0, none⟩ = some (.string a0_0) := (blk_cell BK296.out 0).trans rfl; have hcz15_1 : w14.cell? ⟨gb296, 1, none⟩ = some (.int .i64 a0_1) := (blk_cell BK296.out 1).trans rfl; have hcz15_2 : w14.cell? ⟨gb296, 2, none⟩ = some (.int .i64 a0_2) := (blk_cell BK296.out 2).trans rfl; have hcz15_3 : w14.cell? ⟨gb296, 3, none⟩ = some (.int .i64 a0_3) := (blk_cell BK296.out 3).trans rfl; have hcz15_4 : w14.cell? ⟨gb296, 4, none⟩ = some (.string a0_4) := (blk_cell BK296.out 4).trans rfl; have hfz15_0 := blk_frozen BK296.out 0; have hfz15_1 := blk_frozen BK296.out 1; have hfz15_2 := blk_frozen BK296.out 2; have hfz15_3 := blk_frozen BK296.out 3; have hfz15_4 := blk_frozen BK296.out 4) | (go_at_call 183; (with_reducible refine (freshetref1_Parts.calls k a0_1 a0_4 t297 true _ A2.out).mono ?_); rintro e w16 ⟨v299, rfl, ho0, hb⟩; have n0_ := Aside0.mk (Kd.R_lower ho0 (below_size (by repeat (first | (with_reducible first | exact HB.out | apply below_alloc | apply pw_below_drewN | apply below_drew1 | refine below_set ?_ GE296.out) | exact HB.out)))); have n1_ := Aside0.mk (blk_below (g := gb296) (o := .cells #[.string a0_0, .int .i64 a0_1, .int .i64 a0_2, .int .i64 a0_3, .string a0_4] 43 (0, 0)) (by (with_reducible repeat (first | refine blk_drewN ?_ _ | refine blk_drew ?_ | refine blk_alloc ?_ _)); exact BK296.out) hb); have n2_ := Aside0.mk (below_step (by repeat (first | (with_reducible first | exact HB.out | apply below_alloc | apply pw_below_drewN | apply below_drew1 | refine below_set ?_ GE296.out) | exact HB.out)) hb); clear BK296; clear HB; have HO300 := n0_; have BK296 := n1_; have HB := n2_; clear n0_ n1_ n2_; (try clear hb); (try clear hb2); (try clear hk); (try clear hi); (try clear ho0); obtain ⟨Ao17, co17, eo17⟩ := Kd.R_slice HO300.out; subst eo17))
   repeat (go_quiet (first | ((with_reducible refine gate_dst (N := 1) rfl ?_); (try (refine gate_guard (by rfl) ?_; dsimp only)); refine box_event ?hg (N := 1) ?hd (cs := #[.string a0_0, .int .i64 a0_1, .int .i64 a0_2, .int .i64 a0_3, .string a0_4]) (t := 43) ?hr ?_; (case hd => rfl); (case hg => rfl); (case hr => first | (go_simp; done) | (go_simp; rfl)); intro gb296 hg w14 hbox hb; have n0_ := Aside0.mk (below_step (by repeat (first | (with_reducible first | exact HB.out | apply below_alloc | apply pw_below_drewN | apply below_drew1) | exact HB.out)) hb); have n1_ := Aside0.mk (hbox); have n2_ := Aside0.mk ((by rw [hg]; exact (below_size (by repeat (first | (with_reducible first | exact HB.out | apply below_alloc | apply pw_below_drewN | apply below_drew1) | exact HB.out))) : w.heap.size ≤ gb296)); have n3_ := Aside0.mk ((by rw [hg]; exact (below_size (by repeat (first | (with_reducible first | exact HB.out | apply below_alloc | apply pw_below_drewN | apply below_drew1) | exact HB.out))) : w.heap.size ≤ gb296)); clear HB; have HB := n0_; have BK296 := n1_; have GW296 := n2_; have GE296 := n3_; clear n0_ n1_ n2_ n3_; clear hb hbox hg; have hcz15_0 : w14.cell? ⟨gb296, 0, none⟩ = some (.string a0_0) := (blk_cell BK296.out 0).trans rfl; have hcz15_1 : w14.cell? ⟨gb296, 1, none⟩ = some (.int .i64 a0_1) := (blk_cell BK296.out 1).trans rfl; have hcz15_2 : w14.cell? ⟨gb296, 2, none⟩ = some (.int .i64 a0_2) := (blk_cell BK296.out 2).trans rfl; have hcz15_3 : w14.cell? ⟨gb296, 3, none⟩ = some (.int .i64 a0_3) := (blk_cell BK296.out 3).trans rfl; have hcz15_4 : w14.cell? ⟨gb296, 4, none⟩ = some (.string a0_4) := (blk_cell BK296.out 4).trans rfl; have hfz15_0 := blk_frozen BK296.out 0; have hfz15_1 := blk_frozen BK296.out 1; have hfz15_2 := blk_frozen BK296.out 2; have hfz15_3 := blk_frozen BK296.out 3; have hfz15_4 := blk_frozen BK296.out 4) | (go_at_call 183; (with_reducible refine (freshetref1_Parts.calls k a0_1 a0_4 t297 true _ A2.out).mono ?_); rintro e w16 ⟨v299, rfl, ho0, hb⟩; have n0_ := Aside0.mk (Kd.R_lower ho0 (below_size (by repeat (first | (with_reducible first | exact HB.out | apply below_alloc | apply pw_below_drewN | apply below_drew1 | refine below_set ?_ GE296.out) | exact HB.out)))); have n1_ := Aside0.mk (blk_below (g := gb296) (o := .cells #[.string a0_0, .int .i64 a0_1, .int .i64 a0_2, .int .i64 a0_3, .string a0_4] 43 (0, 0)) (by (with_reducible repeat (first | refine blk_drewN ?_ _ | refine blk_drew ?_ | refine blk_alloc ?_ _)); exact BK296.out) hb); have n2_ := Aside0.mk (below_step (by repeat (first | (with_reducible first | exact HB.out | apply below_alloc | apply pw_below_drewN | apply below_drew1 | refine below_set ?_ GE296.out) | exact HB.out)) hb); clear BK296; clear HB; have HO300 := n0_; have BK296 := n1_; have HB := n2_; clear n0_ n1_ n2_; (try clear hb); (try clear hb2); (try clear hk); (try clear hi); (try clear ho0); obtain ⟨Ao17, co17, eo17⟩ := Kd.R_slice HO300.out; subst eo17)); try go_wp2_with (first | ((with_reducible refine gate_dst (N := 1) rfl ?_); (try (refine gate_guard (by rfl) ?_; dsimp only)); refine box_event ?hg (N := 1) ?hd (cs := #[.string a0_0, .int .i64 a0_1, .int .i64 a0_2, .int .i64 a0_3, .string a0_4]) (t := 43) ?hr ?_; (case hd => rfl); (case hg => rfl); (case hr => first | (go_simp; done) | (go_simp; rfl)); intro gb296 hg w14 hbox hb; have n0_ := Aside0.mk (below_step (by repeat (first | (with_reducible first | exact HB.out | apply below_alloc | apply pw_below_drewN | apply below_drew1) | exact HB.out)) hb); have n1_ := Aside0.mk (hbox); have n2_ := Aside0.mk ((by rw [hg]; exact (below_size (by repeat (first | (with_reducible first | exact HB.out | apply below_alloc | apply pw_below_drewN | apply below_drew1) | exact HB.out))) : w.heap.size ≤ gb296)); have n3_ := Aside0.mk ((by rw [hg]; exact (below_size (by repeat (first | (with_reducible first | exact HB.out | apply below_alloc | apply pw_below_drewN | apply below_drew1) | exact HB.out))) : w.heap.size ≤ gb296)); clear HB; have HB := n0_; have BK296 := n1_; have GW296 := n2_; have GE296 := n3_; clear n0_ n1_ n2_ n3_; clear hb hbox hg; have hcz15_0 : w14.cell? ⟨gb296, 0, none⟩ = some (.string a0_0) := (blk_cell BK296.out 0).trans rfl; have hcz15_1 : w14.cell? ⟨gb296, 1, none⟩ = some (.int .i64 a0_1) := (blk_cell BK296.out 1).trans rfl; have hcz15_2 : w14.cell? ⟨gb296, 2, none⟩ = some (.int .i64 a0_2) := (blk_cell BK296.out 2).trans rfl; have hcz15_3 : w14.cell? ⟨gb296, 3, none⟩ = some (.int .i64 a0_3) := (blk_cell BK296.out 3).trans rfl; have hcz15_4 : w14.cell? ⟨gb296, 4, none⟩ = some (.string a0_4) := (blk_cell BK296.out 4).trans rfl; have hfz15_0 := blk_frozen BK296.out 0; have hfz15_1 := blk_frozen BK296.out 1; have hfz15_2 := blk_frozen BK296.out 2; have hfz15_3 := blk_frozen BK296.out 3; have hfz15_4 := blk_frozen BK296.out 4) | (go_at_call 183; (with_reducible refine (freshetref1_Parts.calls k a0_1 a0_4 t297 true _ A2.out).mono ?_); rintro e w16 ⟨v299, rfl, ho0, hb⟩; have n0_ := Aside0.mk (Kd.R_lower ho0 (below_size (by repeat (first | (with_reducible first | exact HB.out | apply below_alloc | apply pw_below_drewN | apply below_drew1 | refine below_set ?_ GE296.out) | exact HB.out)))); have n1_ := Aside0.mk (blk_below (g := gb296) (o := .cells #[.string a0_0, .int .i64 a0_1, .int .i64 a0_2, .int .i64 a0_3, .string a0_4] 43 (0, 0)) (by (with_reducible repeat (first | refine blk_drewN ?_ _ | refine blk_drew ?_ | refine blk_alloc ?_ _)); exact BK296.out) hb); have n2_ := Aside0.mk (below_step (by repeat (first | (with_reducible first | exact HB.out | apply below_alloc | apply pw_below_drewN | apply below_drew1 | refine below_set ?_ GE296.out) | exact HB.out)) hb); clear BK296; clear HB; have HO300 := n0_; have BK296 := n1_; have HB := n2_; clear n0_ n1_ n2_; (try clear hb); (try clear hb2); (try clear hk); (try clear hi); (try clear ho0); obtain ⟨Ao17, co17, eo17⟩ := Kd.R_slice HO300.out; subst eo17)))
   go_ret2
   exact ⟨by first | rfl | (simp [errW_none, errW_some] <;> rfl) | (simp [*, errW_none, errW_some] <;> rfl), by repeat (first | (with_reducible first | exact HB.out | apply below_alloc | apply pw_below_drewN | apply below_drew1 | refine below_set ?_ GE296.out) | exact HB.out)⟩
 ·replace c3 := Bool.eq_false_iff.mpr c3
  subst c3
  have H1 : (some ((⟨#[]⟩ : ByteArray), false)) = some (r1, r2) := by rw [if_neg (show ¬ (false = true) by decide)] at H; exact H
  clear H
  have H := H1
  clear H1
  simp only [Option.some.injEq, Prod.mk.injEq] at H
  obtain ⟨rfl, rfl⟩ := H
  go_enter Tryz.func161, Tryz.ntmps161
  go_wp2_with (first | ((with_reducible refine gate_dst (N := 1) rfl ?_); (try (refine gate_guard (by rfl) ?_; dsimp only)); refine box_event ?hg (N := 1) ?hd (cs := #[.string a0_0, .int .i64 a0_1, .int .i64 a0_2, .int .i64 a0_3, .string a0_4]) (t := 43) ?hr ?_; (case hd => rfl); (case hg => rfl); (case hr => first | (go_simp; done) | (go_simp; rfl)); intro gb296 hg w18 hbox hb; have n0_ := Aside0.mk (below_step (by repeat (first | (with_reducible first | exact HB.out | apply below_alloc | apply pw_below_drewN | apply below_drew1) | exact HB.out)) hb); have n1_ := Aside0.mk (hbox); have n2_ := Aside0.mk ((by rw [hg]; exact (below_size (by repeat (first | (with_reducible first | exact HB.out | apply below_alloc | apply pw_below_drewN | apply below_drew1) | exact HB.out))) : w.heap.size ≤ gb296)); have n3_ := Aside0.mk ((by rw [hg]; exact (below_size (by repeat (first | (with_reducible first | exact HB.out | apply below_alloc | apply pw_below_drewN | apply below_drew1) | exact HB.out))) : w.heap.size ≤ gb296)); clear HB; have HB := n0_; have BK296 := n1_; have GW296 := n2_; have GE296 := n3_; clear n0_ n1_ n2_ n3_; clear hb hbox hg; have hcz19_0 : w18.cell? ⟨gb296, 0, none⟩ = some (.string a0_0) := (blk_cell BK296.out 0).trans rfl; have hcz19_1 : w18.cell? ⟨gb296, 1, none⟩ = some (.int .i64 a0_1) := (blk_cell BK296.out 1).trans rfl; have hcz19_2 : w18.cell? ⟨gb296, 2, none⟩ = some (.int .i64 a0_2) := (blk_cell BK296.out 2).trans rfl; have hcz19_3 : w18.cell? ⟨gb296, 3, none⟩ = some (.int .i64 a0_3) := (blk_cell BK296.out 3).trans rfl; have hcz19_4 : w18.cell? ⟨gb296, 4, none⟩ = some (.string a0_4) := (blk_cell BK296.out 4).trans rfl; have hfz19_0 := blk_frozen BK296.out 0; have hfz19_1 := blk_frozen BK296.out 1; have hfz19_2 := blk_frozen BK296.out 2; have hfz19_3 := blk_frozen BK296.out 3; have hfz19_4 := blk_frozen BK296.out 4) | (go_at_call 183; (with_reducible refine (freshetref1_Parts.calls k a0_1 a0_4 t297 false _ A2.out).mono ?_); rintro e w20 ⟨v299, rfl, ho0, hb⟩; have n0_ := Aside0.mk (Kd.R_lower ho0 (below_size (by repeat (first | (with_reducible first | exact HB.out | apply below_alloc | apply pw_below_drewN | apply below_drew1 | refine below_set ?_ GE296.out) | exact HB.out)))); have n1_ := Aside0.mk (blk_below (g := gb296) (o := .cells #[.string a0_0, .int .i64 a0_1, .int .i64 a0_2, .int .i64 a0_3, .string a0_4] 43 (0, 0)) (by (with_reducible repeat (first | refine blk_drewN ?_ _ | refine blk_drew ?_ | refine blk_alloc ?_ _)); exact BK296.out) hb); have n2_ := Aside0.mk (below_step (by repeat (first | (with_reducible first | exact HB.out | apply below_alloc | apply pw_below_drewN | apply below_drew1 | refine below_set ?_ GE296.out) | exact HB.out)) hb); clear BK296; clear HB; have HO300 := n0_; have BK296 := n1_; have HB := n2_; clear n0_ n1_ n2_; (try clear hb); (try clear hb2); (try clear hk); (try clear hi); (try clear ho0)))
  repeat (go_quiet (first | ((with_reducible refine gate_dst (N := 1) rfl ?_); (try (refine gate_guard (by rfl) ?_; dsimp only)); refine box_event ?hg (N := 1) ?hd (cs := #[.string a0_0, .int .i64 a0_1, .int .i64 a0_2, .int .i64 a0_3, .string a0_4]) (t := 43) ?hr ?_; (case hd => rfl); (case hg => rfl); (case hr => first | (go_simp; done) | (go_simp; rfl)); intro gb296 hg w18 hbox hb; have n0_ := Aside0.mk (below_step (by repeat (first | (with_reducible first | exact HB.out | apply below_alloc | apply pw_below_drewN | apply below_drew1) | exact HB.out)) hb); have n1_ := Aside0.mk (hbox); have n2_ := Aside0.mk ((by rw [hg]; exact (below_size (by repeat (first | (with_reducible first | exact HB.out | apply below_alloc | apply pw_below_drewN | apply below_drew1) | exact HB.out))) : w.heap.size ≤ gb296)); have n3_ := Aside0.mk ((by rw [hg]; exact (below_size (by repeat (first | (with_reducible first | exact HB.out | apply below_alloc | apply pw_below_drewN | apply below_drew1) | exact HB.out))) : w.heap.size ≤ gb296)); clear HB; have HB := n0_; have BK296 := n1_; have GW296 := n2_; have GE296 := n3_; clear n0_ n1_ n2_ n3_; clear hb hbox hg; have hcz19_0 : w18.cell? ⟨gb296, 0, none⟩ = some (.string a0_0) := (blk_cell BK296.out 0).trans rfl; have hcz19_1 : w18.cell? ⟨gb296, 1, none⟩ = some (.int .i64 a0_1) := (blk_cell BK296.out 1).trans rfl; have hcz19_2 : w18.cell? ⟨gb296, 2, none⟩ = some (.int .i64 a0_2) := (blk_cell BK296.out 2).trans rfl; have hcz19_3 : w18.cell? ⟨gb296, 3, none⟩ = some (.int .i64 a0_3) := (blk_cell BK296.out 3).trans rfl; have hcz19_4 : w18.cell? ⟨gb296, 4, none⟩ = some (.string a0_4) := (blk_cell BK296.out 4).trans rfl; have hfz19_0 := blk_frozen BK296.out 0; have hfz19_1 := blk_frozen BK296.out 1; have hfz19_2 := blk_frozen BK296.out 2; have hfz19_3 := blk_frozen BK296.out 3; have hfz19_4 := blk_frozen BK296.out 4) | (go_at_call 183; (with_reducible refine (freshetref1_Parts.calls k a0_1 a0_4 t297 false _ A2.out).mono ?_); rintro e w20 ⟨v299, rfl, ho0, hb⟩; have n0_ := Aside0.mk (Kd.R_lower ho0 (below_size (by repeat (first | (with_reducible first | exact HB.out | apply below_alloc | apply pw_below_drewN | apply below_drew1 | refine below_set ?_ GE296.out) | exact HB.out)))); have n1_ := Aside0.mk (blk_below (g := gb296) (o := .cells #[.string a0_0, .int .i64 a0_1, .int .i64 a0_2, .int .i64 a0_3, .string a0_4] 43 (0, 0)) (by (with_reducible repeat (first | refine blk_drewN ?_ _ | refine blk_drew ?_ | refine blk_alloc ?_ _)); exact BK296.out) hb); have n2_ := Aside0.mk (below_step (by repeat (first | (with_reducible first | exact HB.out | apply below_alloc | apply pw_below_drewN | apply below_drew1 | refine below_set ?_ GE296.out) | exact HB.out)) hb); clear BK296; clear HB; have HO300 := n0_; have BK296 := n1_; have HB := n2_; clear n0_ n1_ n2_; (try clear hb); (try clear hb2); (try clear hk); (try clear hi); (try clear ho0))); try go_wp2_with (first | ((with_reducible refine gate_dst (N := 1) rfl ?_); (try (refine gate_guard (by rfl) ?_; dsimp only)); refine box_event ?hg (N := 1) ?hd (cs := #[.string a0_0, .int .i64 a0_1, .int .i64 a0_2, .int .i64 a0_3, .string a0_4]) (t := 43) ?hr ?_; (case hd => rfl); (case hg => rfl); (case hr => first | (go_simp; done) | (go_simp; rfl)); intro gb296 hg w18 hbox hb; have n0_ := Aside0.mk (below_step (by repeat (first | (with_reducible first | exact HB.out | apply below_alloc | apply pw_below_drewN | apply below_drew1) | exact HB.out)) hb); have n1_ := Aside0.mk (hbox); have n2_ := Aside0.mk ((by rw [hg]; exact (below_size (by repeat (first | (with_reducible first | exact HB.out | apply below_alloc | apply pw_below_drewN | apply below_drew1) | exact HB.out))) : w.heap.size ≤ gb296)); have n3_ := Aside0.mk ((by rw [hg]; exact (below_size (by repeat (first | (with_reducible first | exact HB.out | apply below_alloc | apply pw_below_drewN | apply below_drew1) | exact HB.out))) : w.heap.size ≤ gb296)); clear HB; have HB := n0_; have BK296 := n1_; have GW296 := n2_; have GE296 := n3_; clear n0_ n1_ n2_ n3_; clear hb hbox hg; have hcz19_0 : w18.cell? ⟨gb296, 0, none⟩ = some (.string a0_0) := (blk_cell BK296.out 0).trans rfl; have hcz19_1 : w18.cell? ⟨gb296, 1, none⟩ = some (.int .i64 a0_1) := (blk_cell BK296.out 1).trans rfl; have hcz19_2 : w18.cell? ⟨gb296, 2, none⟩ = some (.int .i64 a0_2) := (blk_cell BK296.out 2).trans rfl; have hcz19_3 : w18.cell? ⟨gb296, 3, none⟩ = some (.int .i64 a0_3) := (blk_cell BK296.out 3).trans rfl; have hcz19_4 : w18.cell? ⟨gb296, 4, none⟩ = some (.string a0_4) := (blk_cell BK296.out 4).trans rfl; have hfz19_0 := blk_frozen BK296.out 0; have hfz19_1 := blk_frozen BK296.out 1; have hfz19_2 := blk_frozen BK296.out 2; have hfz19_3 := blk_frozen BK296.out 3; have hfz19_4 := blk_frozen BK296.out 4) | (go_at_call 183; (with_reducible refine (freshetref1_Parts.calls k a0_1 a0_4 t297 false _ A2.out).mono ?_); rintro e w20 ⟨v299, rfl, ho0, hb⟩; have n0_ := Aside0.mk (Kd.R_lower ho0 (below_size (by repeat (first | (with_reducible first | exact HB.out | apply below_alloc | apply pw_below_drewN | apply below_drew1 | refine below_set ?_ GE296.out) | exact HB.out)))); have n1_ := Aside0.mk (blk_below (g := gb296) (o := .cells #[.string a0_0, .int .i64 a0_1, .int .i64 a0_2, .int .i64 a0_3, .string a0_4] 43 (0, 0)) (by (with_reducible repeat (first | refine blk_drewN ?_ _ | refine blk_drew ?_ | refine blk_alloc ?_ _)); exact BK296.out) hb); have n2_ := Aside0.mk (below_step (by repeat (first | (with_reducible first | exact HB.out | apply below_alloc | apply pw_below_drewN | apply below_drew1 | refine below_set ?_ GE296.out) | exact HB.out)) hb); clear BK296; clear HB; have HO300 := n0_; have BK296 := n1_; have HB := n2_; clear n0_ n1_ n2_; (try clear hb); (try clear hb2); (try clear hk); (try clear hi); (try clear ho0))))
  go_ret2
  exact ⟨by first | rfl | (simp [errW_none, errW_some] <;> rfl) | (simp [*, errW_none, errW_some] <;> rfl), by repeat (first | (with_reducible first | exact HB.out | apply below_alloc | apply pw_below_drewN | apply below_drew1 | refine below_set ?_ GE296.out) | exact HB.out)⟩

end Go.Proofs.YtjiheepiobffkaaGreat.Pr
