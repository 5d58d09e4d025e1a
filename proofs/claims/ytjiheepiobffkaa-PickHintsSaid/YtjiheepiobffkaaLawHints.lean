/-
  The row of PickHints: whatever the list of servers, the law answers true, and the list reads behind the call as it did. No condition.
-/
import Derived.Test.YtjiheepiobffkaaRows
import Derived.Test.YtjiheepiobffkaaHintsP
import Derived.Deep.SlicePairs
import Derived.WalkKit
import Derived.ProofKit
import Derived.OpenShut
import Derived.ShutString
import Derived.ChangeOld
import Derived.Below
import Derived.SizedLaws
namespace Go.Proofs.Ytjiheepiobffkaa.pickHints
open Go.ChangeShapes Go.WideShapes Go.ChangeAt Go.RowKit
open Go.ChangeMaps (open_string shut_string)
open Go.Proofs.YtjiheepiobffkaaW.PrintWords Go.Proofs.Ytjiheepiobffkaa.Fr
theorem own : ownKnob Try.prog.godebug = none := by kernel_rfl
theorem laidOut : laidOutB Try.prog = true := by kernel_rfl
def IsRow (w : World) (a : Option Addr) (len cap : Nat) (zs : List Pr.S25) : Prop :=
  (a = none ∧ len = 0 ∧ cap = 0 ∧ zs = []) ∨
  ∃ x, a = some x ∧ len ≤ cap ∧ cap ≤ maxLen ∧ zs.length = len ∧ (∀ i (hi : i < zs.length), w.cell? (x.add (i * 2)) = some (.string zs[i].f0) ∧ w.cell? (x.add (i * 2 + 1)) = some (.int .i64 zs[i].f1))
theorem walk (a : Option Addr) (len cap : Nat) (zs : List Pr.S25) (w : World) (h : IsRow w a len cap zs) : Calls Try.prog 3 #[.slice a len cap] w fun e w' => e = .returned (.bool true) ∧ Below w.heap.size w w' := by
  rcases h with ⟨rfl, rfl, rfl, rfl⟩ | ⟨x, rfl, hl, hm, rfl, hc⟩
  · exact PickHints_calls none 0 [] w (Kd.C_nil _ _) (Nat.le_refl _)
  · refine PickHints_calls (some x) cap zs w ?_ hl
    refine ⟨rfl, by simp only [maxLen] at hm; omega, fun _ => ⟨x, rfl, fun j p hj => ⟨[.string p.f0, .int .i64 p.f1], rfl, Pr.k25_mk _ p, fun i u hu => ?_⟩⟩⟩
    obtain ⟨hlt, rfl⟩ := List.getElem?_eq_some_iff.1 hj
    have h1 := hc j hlt
    match i, hu with
    | 0, hu =>
      simp only [List.getElem?_cons_zero, Option.some.injEq] at hu
      subst hu
      exact h1.1
    | 1, hu =>
      simp only [List.getElem?_cons_succ, List.getElem?_cons_zero, Option.some.injEq] at hu
      subst hu
      exact h1.2
    | i + 2, hu => simp at hu
set_option maxRecDepth 100000 in
theorem lifted (os : Os) (started : os.Started) (H : Type) (enc : TypeId × Value → H) :
    ReturnsInHanded {} Try.checked os 3 .any (Rows.pickHintsSpec.pre6 enc Try.prog Try.f3 Rows.pickHintsRow.domain false) (Rows.pickHintsSpec.post enc Try.prog Try.f3 false true false false) := by
  refine returnsInHanded_of_change_sized (C := Try.checked) own started (by kernel_rfl) Try.func3
    (ChangeSpec.witness6 (enc := enc) (C := Try.checked) false ⟨#[], #[.slice none 0 0], []⟩ 8 (by kernel_rfl) (by kernel_rfl) (by kernel_rfl) (by kernel_rfl)) ?_
  intro W base args ds gs before hval0 hW hcnd hsz0 _
  have hval : ∀ (j : Nat) t v, Try.f3.params[j]? = some t → args[j]? = some v → Value.okWide Try.prog W .any base t v := hval0
  have hW' := hW
  obtain ⟨p, q, hA0, hV, rfl, hfz, hnd⟩ := hW
  have hA : DataW.TrodAll enc Try.prog W 0 (fun _ => true) true Try.f3.params.toList args.toList ds p := hA0
  rw [Try.params3] at hA hval
  obtain ⟨v0, vs0, d0, ds0, p0, q0, hargs, rfl, rfl, h0, r0⟩ := trodAll_cons hA
  obtain ⟨rfl, rfl, rfl⟩ := trodAll_nil r0
  obtain rfl : args = #[v0] := by cases args; simp_all
  obtain ⟨rfl, rfl⟩ := trodVars_none hV
  obtain ⟨a0, len0, cap0, rfl⟩ := okWide_slice Try.underlying22 (hval 0 22 v0 rfl rfl)
  have k0 := h0
  have lt0 : ∀ x ∈ p0, x.block < W.heap.size := by obtain ⟨m, hm⟩ := k0; exact DataW.trod_lt m _ _ _ hm
  obtain ⟨z0, w0⟩ : ∃ zs, IsRow W a0 len0 cap0 zs := by
    obtain ⟨fuel, hf⟩ := h0
    rcases Go.Deep.open_slice_pairs Try.underlying22 Try.underlying25 (by kernel_rfl) rfl rfl (by kernel_rfl) (by kernel_rfl) hf with ⟨hcs, _⟩ | ⟨x, l, c, m, n, V0, V1, D0, D1, P0, P1, hcs, _, hl, hm, hmm, _, hcell⟩
    · simp [Value.cells] at hcs
      obtain ⟨rfl, rfl, rfl⟩ := hcs
      exact ⟨[], .inl ⟨rfl, rfl, rfl, rfl⟩⟩
    · simp [Value.cells] at hcs
      obtain ⟨rfl, rfl, rfl⟩ := hcs
      have hlm : len0 ≤ m := by rw [hmm]; split <;> omega
      have each : ∀ i, ∃ q : Pr.S25, i < len0 → W.cell? (x.add (i * 2)) = some (.string q.f0) ∧ W.cell? (x.add (i * 2 + 1)) = some (.int .i64 q.f1) := by
        intro i
        by_cases hi : i < len0
        · obtain ⟨hc0, hc1, ht0, ht1⟩ := hcell i (by omega)
          obtain ⟨s, hs, _, _⟩ := DataW.trod_string Try.underlying9 ht0
          obtain ⟨k, hk, _, _⟩ := DataW.trod_int Try.underlying3 ht1
          simp only [List.cons.injEq, and_true] at hs hk
          exact ⟨⟨s, k⟩, fun _ => ⟨by rw [hc0, hs], by rw [hc1, hk]⟩⟩
        · exact ⟨⟨⟨#[]⟩, 0⟩, fun h => absurd h hi⟩
      obtain ⟨q, hq⟩ := Classical.axiomOfChoice each
      refine ⟨(List.range len0).map q, .inr ⟨_, rfl, hl, hm, by simp, fun i hi => ?_⟩⟩
      have hi' : i < len0 := by simpa using hi
      have := hq i hi'
      simpa using this
  clear hA0 hval0 hsz0
  refine (walk a0 len0 cap0 z0 W w0).mono fun e W' ⟨he, bel⟩ => ?_
  subst he
  exact ⟨_, rfl, _, _, _, [], _, [], hW', trodAll_mk1 (shut_bool Try.underlying4 _), (trodAll_cons_mk (Below.trod laidOut (by kernel_rfl) (of_decide_eq_true (by kernel_rfl)) k0 bel lt0) trodAll_mk0), rfl, bel.frame _, fun h => by cases h⟩
theorem over : Rows.pickHintsRow.holds Try.pinned (OpenSpec.ofChange Rows.pickHintsSpec) :=
  OpenClaim.holds_of_wide 3 Try.f3 rfl rfl rfl rfl rfl rfl rfl ⟨rfl, rfl, rfl, rfl, rfl⟩ rfl rfl rfl rfl rfl (by kernel_rfl) Try.func3 (by kernel_rfl)
    (of_decide_eq_true (by kernel_rfl)) (by unfold Func.isWrapper; first | (rw [if_pos (by decide +kernel)]; kernel_rfl) | (rw [if_neg (by decide +kernel)]; exact ⟨rfl, rfl⟩))
    (fun os started H enc _ => lifted os started H enc)
theorem proved : Rows.PickHintsSaid := over
end Go.Proofs.Ytjiheepiobffkaa.pickHints
namespace Go.Proofs.Ytjiheepiobffkaa
/-- The row, under a short name, for the claim. -/
theorem pickHints_holds : Rows.PickHintsSaid := pickHints.proved
#print axioms pickHints_holds
end Go.Proofs.Ytjiheepiobffkaa
