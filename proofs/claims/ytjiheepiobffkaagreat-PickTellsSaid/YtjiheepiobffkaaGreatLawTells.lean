/-
  The row of PickTells: whatever the set, the known addresses, who was tried and who was asked for, the law answers true, and all of them read behind the call as they did. No condition.
-/
import Derived.Test.YtjiheepiobffkaaGreatRows
import Derived.Test.YtjiheepiobffkaaGreatOpen
import Derived.WalkKit
import Derived.ProofKit
import Derived.OpenShut
import Derived.ShutString
import Derived.ChangeOld
import Derived.Below
import Derived.SizedLaws
namespace Go.Proofs.YtjiheepiobffkaaGreat.pickTells
open Go.ChangeShapes Go.WideShapes Go.ChangeAt Go.RowKit
open Go.ChangeMaps (open_string shut_string)
open Go.Proofs.YtjiheepiobffkaaGreatW.PrintWords Go.Proofs.YtjiheepiobffkaaGreat.Fr
theorem own : ownKnob Tryz.prog.godebug = none := by kernel_rfl
theorem laidOut : laidOutB Tryz.prog = true := by kernel_rfl
set_option maxRecDepth 100000 in
set_option maxHeartbeats 1600000 in
open Go.Proofs.YtjiheepiobffkaaGreat.Open in
theorem reads_set {H : Type} {enc : TypeId × Value → H} {w : World} {base : Nat} {spare : Nat → Bool} {held : Bool} {r : Reach} {b0 : Nat} {v : Value} {d : DataW H} {p : List MemPlace} (hv : Value.okWide Tryz.prog w r b0 63 v) (h : DataW.Trod enc Tryz.prog w base spare held 63 v d p) :
    ∃ (a0 : ByteArray) (a1 : Int) (A2 : Option Addr) (c2 : Nat) (rs : List Pr.S43) (a3 : Int) (a4 : ByteArray), v = .agg #[.string a0, .int .i64 a1, .slice A2 rs.length c2, .int .i64 a3, .string a4] ∧ rs.length ≤ c2 ∧ Kd.C Pr.k43 w A2 rs.length rs := by
  have hC : Tryz.prog.cellsOf 63 = 5 := by kernel_rfl
  have k0 : Tryz.prog.cellsOf 61 = 2 := by kernel_rfl
  have k1 : Tryz.prog.cellsOf 32 = 1 := by kernel_rfl
  have k2 : Tryz.prog.cellsOf 3 = 1 := by kernel_rfl
  have k3 : Tryz.prog.cellsOf 9 = 1 := by kernel_rfl
  obtain ⟨cs, rfl, hsz⟩ := okWide_struct Tryz.underlying63 hv
  obtain ⟨l⟩ := cs
  match l, hsz.trans hC with
  | [c0, c1, c2, c3, c4], _ =>
    obtain ⟨fuel, hf⟩ := h
    obtain ⟨xs, n, _, hx, _, hlen, hg⟩ := DataW.trod_struct Tryz.underlying63 hf
    match xs, hlen with
    | [y0, y1, y2, y3], _ =>
      have g0 : DataW.trod enc Tryz.prog w base spare held n 61 [c0, c1] = some y0 := by simpa [Value.cells, k0] using hg 0 _ rfl
      have g1 : DataW.trod enc Tryz.prog w base spare held n 32 [c2] = some y1 := by simpa [Value.cells, k1] using hg 1 _ rfl
      have g2 : DataW.trod enc Tryz.prog w base spare held n 3 [c3] = some y2 := by simpa [Value.cells, k2] using hg 2 _ rfl
      have g3 : DataW.trod enc Tryz.prog w base spare held n 9 [c4] = some y3 := by simpa [Value.cells, k3] using hg 3 _ rfl
      obtain ⟨zs, m, _, _, _, hlen2, hg2⟩ := DataW.trod_struct Tryz.underlying61 g0
      match zs, hlen2 with
      | [z0, z1], _ =>
        have f0 : DataW.trod enc Tryz.prog w base spare held m 9 [c0] = some z0 := by simpa [k3] using hg2 0 _ rfl
        have f1 : DataW.trod enc Tryz.prog w base spare held m 3 [c1] = some z1 := by simpa [k2] using hg2 1 _ rfl
        obtain ⟨s0, e0, _, _⟩ := DataW.trod_string Tryz.underlying9 f0
        obtain ⟨n1, e1, _, _⟩ := DataW.trod_int Tryz.underlying3 f1
        obtain ⟨A2, k, rs, e2, hk, hC2⟩ := reads_records g1
        obtain ⟨n3, e3, _, _⟩ := DataW.trod_int Tryz.underlying3 g2
        obtain ⟨s4, e4, _, _⟩ := DataW.trod_string Tryz.underlying9 g3
        simp only [List.cons.injEq, and_true] at e0 e1 e3 e4
        subst e0 e1 e2 e3 e4
        exact ⟨s0, n1, A2, k, rs, n3, s4, rfl, hk, hC2⟩
set_option maxRecDepth 100000 in
theorem lifted (os : Os) (started : os.Started) (H : Type) (enc : TypeId × Value → H) :
    ReturnsInHanded {} Tryz.checked os 7 .any (Rows.pickTellsSpec.pre6 enc Tryz.prog Tryz.f7 Rows.pickTellsRow.domain false) (Rows.pickTellsSpec.post enc Tryz.prog Tryz.f7 false true false false) := by
  refine returnsInHanded_of_change_sized (C := Tryz.checked) own started (by kernel_rfl) Tryz.func7
    (ChangeSpec.witness6 (enc := enc) (C := Tryz.checked) false ⟨#[], #[.agg #[.string ByteArray.empty, .int .i64 0, .slice none 0 0, .int .i64 0, .string ByteArray.empty], .slice none 0 0, .slice none 0 0, .slice none 0 0], []⟩ 8 (by kernel_rfl) (by kernel_rfl) (by kernel_rfl) (by kernel_rfl)) ?_
  intro W base args ds gs before hval0 hW hcnd hsz0 _
  have hval : ∀ (j : Nat) t v, Tryz.f7.params[j]? = some t → args[j]? = some v → Value.okWide Tryz.prog W .any base t v := hval0
  have hW' := hW
  obtain ⟨p, q, hA0, hV, rfl, hfz, hnd⟩ := hW
  have hA : DataW.TrodAll enc Tryz.prog W 0 (fun _ => true) true Tryz.f7.params.toList args.toList ds p := hA0
  rw [Tryz.params7] at hA hval
  obtain ⟨v0, vs0, d0, ds0, p0, q0, hargs, rfl, rfl, h0, r0⟩ := trodAll_cons hA
  obtain ⟨v1, vs1, d1, ds1, p1, q1, rfl, rfl, rfl, h1, r1⟩ := trodAll_cons r0
  obtain ⟨v2, vs2, d2, ds2, p2, q2, rfl, rfl, rfl, h2, r2⟩ := trodAll_cons r1
  obtain ⟨v3, vs3, d3, ds3, p3, q3, rfl, rfl, rfl, h3, r3⟩ := trodAll_cons r2
  obtain ⟨rfl, rfl, rfl⟩ := trodAll_nil r3
  obtain rfl : args = #[v0, v1, v2, v3] := by cases args; simp_all
  obtain ⟨rfl, rfl⟩ := trodVars_none hV
  obtain ⟨a1, len1, cap1, rfl⟩ := okWide_slice Tryz.underlying64 (hval 1 64 v1 rfl rfl)
  obtain ⟨a2, len2, cap2, rfl⟩ := okWide_slice Tryz.underlying48 (hval 2 48 v2 rfl rfl)
  obtain ⟨a3, len3, cap3, rfl⟩ := okWide_slice Tryz.underlying56 (hval 3 56 v3 rfl rfl)
  obtain ⟨s0, n1, A2, k2, rs, n3, s4, rfl, hk2, hC2⟩ := reads_set (hval 0 63 v0 rfl rfl) h0
  have lt0 : ∀ x ∈ p0, x.block < W.heap.size := by obtain ⟨m, hm⟩ := h0; exact DataW.trod_lt m _ _ _ hm
  have lt1 : ∀ x ∈ p1, x.block < W.heap.size := by obtain ⟨m, hm⟩ := h1; exact DataW.trod_lt m _ _ _ hm
  have lt2 : ∀ x ∈ p2, x.block < W.heap.size := by obtain ⟨m, hm⟩ := h2; exact DataW.trod_lt m _ _ _ hm
  have lt3 : ∀ x ∈ p3, x.block < W.heap.size := by obtain ⟨m, hm⟩ := h3; exact DataW.trod_lt m _ _ _ hm
  obtain ⟨B1, c1, l1, e1, hc1, hK1⟩ : Open.Reads Pr.k143 W (.slice a1 len1 cap1) := by obtain ⟨f, hf⟩ := h1; exact Open.reads_known hf
  obtain ⟨B2, c2, l2, e2, hc2, hK2⟩ : Open.Reads Pr.k55 W (.slice a2 len2 cap2) := by obtain ⟨f, hf⟩ := h2; exact Open.reads_servers hf
  obtain ⟨B3, c3, l3, e3, hc3, hK3⟩ : Open.Reads Kd.string W (.slice a3 len3 cap3) := by obtain ⟨f, hf⟩ := h3; exact Open.reads_strings hf
  injection e1 with e11 e12 e13
  injection e2 with e21 e22 e23
  injection e3 with e31 e32 e33
  subst e11 e12 e13 e21 e22 e23 e31 e32 e33
  clear hA0 hval0 hsz0
  refine (PickTells_any s0 n1 A2 k2 rs n3 s4 a1 cap1 l1 a2 cap2 l2 a3 cap3 l3 W hC2 hk2 hK1 hc1 hK2 hc2 hK3 hc3).mono fun e W' ⟨he, bel⟩ => ?_
  subst he
  exact ⟨_, rfl, _, _, _, [], _, [], hW', trodAll_mk1 (shut_bool Tryz.underlying4 _), (trodAll_cons_mk (Below.trod laidOut (by kernel_rfl) (of_decide_eq_true (by kernel_rfl)) h0 bel lt0) (trodAll_cons_mk (Below.trod laidOut (by kernel_rfl) (of_decide_eq_true (by kernel_rfl)) h1 bel lt1) (trodAll_cons_mk (Below.trod laidOut (by kernel_rfl) (of_decide_eq_true (by kernel_rfl)) h2 bel lt2) (trodAll_cons_mk (Below.trod laidOut (by kernel_rfl) (of_decide_eq_true (by kernel_rfl)) h3 bel lt3) trodAll_mk0)))), rfl, bel.frame _, fun h => by cases h⟩
theorem over : Rows.pickTellsRow.holds Tryz.pinned (OpenSpec.ofChange Rows.pickTellsSpec) :=
  OpenClaim.holds_of_wide 7 Tryz.f7 rfl rfl rfl rfl rfl rfl rfl ⟨rfl, rfl, rfl, rfl, rfl⟩ rfl rfl rfl rfl rfl (by kernel_rfl) Tryz.func7 (by kernel_rfl)
    (of_decide_eq_true (by kernel_rfl)) (by unfold Func.isWrapper; first | (rw [if_pos (by decide +kernel)]; kernel_rfl) | (rw [if_neg (by decide +kernel)]; exact ⟨rfl, rfl⟩))
    (fun os started H enc _ => lifted os started H enc)
theorem proved : Rows.PickTellsSaid := over
end Go.Proofs.YtjiheepiobffkaaGreat.pickTells
namespace Go.Proofs.YtjiheepiobffkaaGreat
/-- The row, under a short name, for the claim. -/
theorem pickTells_holds : Rows.PickTellsSaid := pickTells.proved
#print axioms pickTells_holds
end Go.Proofs.YtjiheepiobffkaaGreat
