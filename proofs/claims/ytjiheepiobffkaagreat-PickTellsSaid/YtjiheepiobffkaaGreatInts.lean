/-
  slices.Clone, slices.Sort, slices.Compact at whole numbers; pick.told.
-/
import Derived.Test.YtjiheepiobffkaaGreatExt3
namespace Go.Proofs.YtjiheepiobffkaaGreat.Fr
open Go.RowKit Go.Proofs.YtjiheepiobffkaaGreatW.PrintWords Go.Proofs.YtjiheepiobffkaaGreatW.PrintLast Go.Proofs.YtjiheepiobffkaaGreatW.PrintMore Go.Proofs.YtjiheepiobffkaaGreat.Pr
open Go.Sort hiding rd
open Go.Lib

theorem compI_few (A : Option Addr) (n c : Nat) (hn : n < 2) (w : World) : Calls Tryz.prog 160 #[.slice A n c] w fun e w' => e = .returned (.slice A n c) ∧ w' = w := by
  go_enter Tryz.func160, Tryz.ntmps160
  go_wp2
  go_ret
  exact ⟨rfl, rfl⟩

theorem cloneI_any (v : Value) (xs : List Int) (base : Nat) (ok : Nat → Prop) (w : World) (hR : Kd.R (Kd.int .i64) 3 w base ok v xs) (hl : xs.length ≤ 1000000) :
    Calls Tryz.prog 158 #[v] w fun e w' => ∃ v', e = .returned v' ∧ Kd.R (Kd.int .i64) 3 w' w.heap.size (fun _ => True) v' xs ∧ Below w.heap.size w w' := by
  have own := Kd.own_of_R hR
  rcases own.2 with ⟨rfl, hz⟩ | ⟨g, cap, cur, rfl, hb, hh, hc, hm, hs, ht⟩
  · refine (AnyE.slices_Clone_nil Tryz.cloneI 0 0 w).mono ?_
    rintro e w' ⟨rfl, rfl⟩
    have hz := List.eq_nil_of_length_eq_zero hz
    subst hz
    exact ⟨_, rfl, Kd.R_nil _ _ _ _ _, Below.refl _ _⟩
  · obtain ⟨i0, hi, hzz⟩ := Option.map_eq_some_iff.1 info3
    simp only [Prod.mk.injEq] at hzz
    obtain ⟨hz0, hz1, hz2⟩ := hzz
    refine (AnyE.slices_Clone Tryz.cloneI i0 (.int .i64 0) 1 8 hi hz0 hz1 hz2 rfl (by omega) Tryz.sizeOf3 g 0 xs.length cap (encs (Value.int .i64) xs) w (by simp [encs]) (by simp only [maxLen]; omega) (by omega) (fun j u hu => ?_) (fun u hu => ?_)).mono ?_
    · have hj : j < xs.length := by
        rcases Nat.lt_or_ge j xs.length with hj | hj
        · exact hj
        · rw [List.getElem?_eq_none (by simpa [encs] using hj)] at hu; cases hu
      have := cell_take ht (j := j) (by simpa [encs] using hj)
      simp only [World.cell?, hh, Nat.zero_add, Option.isSome_none, Bool.false_eq_true, if_false]
      rw [this, hu]
    · simp only [encs, List.mem_map] at hu
      obtain ⟨x, _, rfl⟩ := hu
      rfl
    · rintro e w' ⟨v', rfl, o, _, hb'⟩
      exact ⟨v', rfl, Kd.R_of_own o (fun _ _ => trivial), hb'⟩

def sortI (xs : List Int) : List Int := xs.mergeSort fun x y => decide (x ≤ y)
set_option maxHeartbeats 1000000 in
theorem sortI_any (v : Value) (xs : List Int) (base : Nat) (ok : Nat → Prop) (w0 w : World) (hB : Below base w0 w) (hbase : base ≤ w.heap.size) (hR : Kd.R (Kd.int .i64) 3 w base ok v xs) (hl : xs.length ≤ 1000000) :
    Calls Tryz.prog 159 #[v] w fun e w' => e = .returned (.tuple #[]) ∧ Kd.R (Kd.int .i64) 3 w' base ok v (sortI xs) ∧ Below base w0 w' := by
  have own := Kd.own_of_R hR
  rcases Nat.eq_zero_or_pos xs.length with hz | hp
  · have hz' := List.eq_nil_of_length_eq_zero hz
    subst hz'
    obtain ⟨A, c, rfl⟩ := Kd.R_slice hR
    refine (Any.slices_Sort_int_none Tryz.sortI A c w).mono ?_
    rintro e w' ⟨rfl, rfl⟩
    exact ⟨rfl, by simpa [sortI] using hR, hB⟩
  · obtain ⟨g, cap, cur, rfl, hb, hh, _⟩ := own_slice own hp
    have hlt : g < w.heap.size := by
      rcases Nat.lt_or_ge g w.heap.size with hlt | hlt
      · exact hlt
      · rw [Array.getElem?_eq_none hlt] at hh; cases hh
    have hH : Holds (Value.int .i64) w g 0 xs.toArray := holds_enc _ _ _ _ _ (own_holds own _ (by simp [encs]))
    refine (Any.slices_Sort_int Tryz.sortI g 0 cap xs w hH hlt (by omega)).mono ?_
    rintro e w' ⟨rfl, n, os, rfl⟩
    have hlen : (sortI xs).length = xs.length := List.length_mergeSort _
    rw [putRow_enc]
    obtain ⟨o1, o2⟩ := own_put own ((sortI xs).toArray.map (Value.int .i64)) (by simp [hlen]) n os
    have hF : ((sortI xs).toArray.map (Value.int .i64)).toList = encs (Value.int .i64) (sortI xs) := by simp [encs]
    rw [hF] at o1
    exact ⟨rfl, Kd.R_of_own (by rw [hlen]; exact o1) hR.1, hB.grown o2 hbase (fun k hk => by injection hk with hk; omega)⟩

set_option maxHeartbeats 1000000 in
theorem compI_any (v : Value) (xs : List Int) (base : Nat) (ok : Nat → Prop) (w0 w : World) (hB : Below base w0 w) (hbase : base ≤ w.heap.size) (hR : Kd.R (Kd.int .i64) 3 w base ok v xs) (hl : xs.length ≤ 1000000) :
    Calls Tryz.prog 160 #[v] w fun e w' => ∃ v', e = .returned v' ∧ Kd.R (Kd.int .i64) 3 w' base ok v' (compact xs) ∧ Below base w0 w' := by
  have own := Kd.own_of_R hR
  by_cases hp : xs.length < 2
  · rw [compact_few xs hp]
    obtain ⟨A, c, rfl⟩ := Kd.R_slice hR
    refine (compI_few A _ c hp w).mono ?_
    rintro e w' ⟨rfl, rfl⟩
    exact ⟨_, rfl, hR, hB⟩
  · obtain ⟨g, cap, cur, rfl, hb, hh, hcap, _⟩ := own_slice own (by omega)
    have hH : Holds (Value.int .i64) w g 0 xs.toArray := holds_enc _ _ _ _ _ (own_holds own _ (by simp [encs]))
    have hcon := AnyE.slices_Compact Tryz.compI (Value.int .i64) (fun _ => rfl) (EqlAt.intD _ _ _) (NeqAt.intD _ _ _) 0 Tryz.zeroValue3 g 0 cap xs.toArray w hH (by simp; omega) (by simpa using hcap)
    refine hcon.mono ?_
    rintro e w' ⟨rfl, q, rfl⟩
    have hcl : (compact xs).length ≤ xs.length := compact_le xs
    have hc : compactUpTo xs.toArray xs.toArray.size = compact xs := rfl
    rw [hc, putRow_enc]
    obtain ⟨o1, o2⟩ := own_put own ((compact xs ++ List.replicate (xs.toArray.size - (compact xs).length) (0 : Int)).toArray.map (Value.int .i64)) (by simp; omega) q #[]
    rw [grow_empty] at o1 o2
    have o3 := own_shrink o1 hcl
    have ht : ((compact xs ++ List.replicate (xs.toArray.size - (compact xs).length) (0 : Int)).toArray.map (Value.int .i64)).toList.take ((compact xs).length * 1) = encs (Value.int .i64) (compact xs) := by
      rw [Nat.mul_one, Array.toList_map, ← List.map_take, List.take_append_of_le_length (Nat.le_refl _), List.take_of_length_le (Nat.le_refl _)]
      rfl
    rw [ht] at o3
    exact ⟨_, rfl, Kd.R_of_own o3 (fun k hk => hR.1 k hk), hB.grown o2 hbase (fun k hk => by injection hk with hk; omega)⟩

/-! ### a function that tells addresses -/
def TellAt (fv : Value) (T : ByteArray → List Int) (w : World) : Prop :=
  (fv = .nilFunc ∧ ∀ n, T n = []) ∨ ∃ g cb, fv = .func (.func g) #[] cb ∧ (∀ args W, (callFunc g args).run Tryz.prog W = .ok (.enter g args) W) ∧
    ∀ W, Below w.heap.size w W → ∀ n : ByteArray, good n → Calls Tryz.prog g (#[.string n] ++ cb) W fun e w' => ∃ v, e = .returned v ∧ Kd.R (Kd.int .i64) 3 w' W.heap.size (fun _ => True) v (T n) ∧ Below W.heap.size W w'
theorem TellAt.below {fv : Value} {T : ByteArray → List Int} {w W : World} (h : TellAt fv T w) (hb : Below w.heap.size w W) : TellAt fv T W := by
  rcases h with h | ⟨g, cb, rfl, he, h⟩
  · exact .inl h
  · exact .inr ⟨g, cb, rfl, he, fun W2 h2 n hn => h W2 (hb.trans (h2.mono hb.size)) n hn⟩

theorem eql_nil (W : World) : (binOp .eql 71 .nilFunc .nilFunc).run Tryz.prog W = .ok (.bool true) W := by
  have hu := Tryz.underlying71
  simp only [binOp, Op.equal]
  rw [show Op.maxDepth = 9999 + 1 from rfl]
  generalize 9999 = m
  simp [Op.equalIn, run_underlying hu, go_sem]
theorem eql_func (W : World) (g : Nat) (cb : Array Value) : (binOp .eql 71 (.func (.func g) #[] cb) .nilFunc).run Tryz.prog W = .ok (.bool false) W := by
  have hu := Tryz.underlying71
  simp only [binOp, Op.equal]
  rw [show Op.maxDepth = 9999 + 1 from rfl]
  generalize 9999 = m
  simp [Op.equalIn, run_underlying hu, go_sem]
def uniq (xs : List Int) : List Int := compact (sortI xs)
theorem uniq_nil : uniq [] = [] := by simp [uniq, sortI, compact, compactUpTo]
set_option maxRecDepth 100000 in
set_option maxHeartbeats 1000000 in
theorem told_any (fv : Value) (T : ByteArray → List Int) (n : ByteArray) (w : World) (h : TellAt fv T w) (hn : good n) (hl : (T n).length ≤ 1000000) :
    Calls Tryz.prog 95 #[fv, .string n] w fun e w' => ∃ v, e = .returned v ∧ Kd.R (Kd.int .i64) 3 w' w.heap.size (fun _ => True) v (uniq (T n)) ∧ Below w.heap.size w w' := by
  rcases h with ⟨rfl, h⟩ | ⟨g, cb, rfl, he, h⟩
  · rw [h n, uniq_nil]
    clear h
    have hq := eql_nil
    go_enter Tryz.func95, Tryz.ntmps95
    go_wp2
    go_ret
    exact ⟨_, rfl, Kd.R_nil _ _ _ _ _, Below.refl _ _⟩
  · have hT := fun W hb => h W hb n hn
    clear h
    have HL := Aside0.mk hl
    have HB := Aside0.mk (Below.refl w.heap.size w)
    clear hl hn
    have hq := eql_func
    go_enter Tryz.func95, Tryz.ntmps95
    go_wp2_with (first
      | (go_at_fn g; refine (hT _ HB.out).mono ?_; rintro e w1 ⟨v1, rfl, hR1, hb1⟩)
      | (go_at_call 158; refine (cloneI_any _ _ _ _ _ hR1 HL.out).mono ?_; rintro e w2 ⟨v2, rfl, hR2, hb2⟩; have HB2 := Aside0.mk (hb1.trans (hb2.mono hb1.size)); have HR2 := Aside0.mk (Kd.R_lower hR2 hb1.size); clear hR2 hR1)
      | (go_at_call 159; refine (sortI_any _ _ w.heap.size _ w _ HB2.out HB2.out.size HR2.out HL.out).mono ?_; rintro e w3 ⟨rfl, hR3, hb3⟩; have HB3 := Aside0.mk hb3; have HR3 := Aside0.mk hR3; clear hb3 hR3)
      | (go_at_call 160; refine (compI_any _ _ w.heap.size _ w _ HB3.out HB3.out.size HR3.out (by have hl3 := HL.out; simpa [sortI] using hl3)).mono ?_; rintro e w4 ⟨v4, rfl, hR4, hb4⟩; have HB4 := Aside0.mk hb4; have HR4 := Aside0.mk hR4; clear hb4 hR4))
    go_ret
    exact ⟨_, rfl, HR4.out, HB4.out⟩
end Go.Proofs.YtjiheepiobffkaaGreat.Fr
