/-
  slices.SortFunc at the names and at the servers, slices.Compact at the names: contracts in the printer's form.
-/
import Derived.Test.YtjiheepiobffkaaGreatGrow
import Derived.Test.YtjiheepiobffkaaGreatPr8
import Derived.Test.YtjiheepiobffkaaGreatLays
namespace Go.Proofs.YtjiheepiobffkaaGreat.Fr
open Go.RowKit Go.Proofs.YtjiheepiobffkaaGreatW.PrintWords Go.Proofs.YtjiheepiobffkaaGreat.Pr
open Go.Sort hiding rd

/-! ### the servers' order -/
def cmpI (a b : Int) : Int := if a < b then -1 else if a > b then 1 else 0
theorem cmpI_ev (a b : Int) : cmp_Compare_int.f a b = some (cmpI a b) := by
  have h : ∀ x, cmp_isNaN_int.f x = some false := fun x => by simp [cmp_isNaN_int.f]
  unfold cmp_Compare_int.f cmpI
  simp only [h, Option.bind_some]
  simp
  split
  · rfl
  · split <;> rfl
def orS (x y : S55) : Int := if ordP (bl x.f0) (bl y.f0) = 0 then cmpI x.f1 y.f1 else ordP (bl x.f0) (bl y.f0)
theorem Or_ev (a b : Int) : Ev (fun k => cmp_Or_int.f k [a, b]) (if a = 0 then b else a) := by
  unfold cmp_Or_int.f
  by_cases ha : a = 0
  · rw [if_pos ha]
    refine ⟨3, fun k hk => ?_⟩
    obtain ⟨k, rfl⟩ : ∃ j, k = j + 3 := ⟨k - 3, by omega⟩
    by_cases hb : b = 0
    · simp [cmp_Or_int.l0, rd, ha, hb, show wrap64 1 = 1 from w64 (by omega) (by omega), show wrap64 2 = 2 from w64 (by omega) (by omega)]
    · simp [cmp_Or_int.l0, rd, ha, hb, show wrap64 1 = 1 from w64 (by omega) (by omega)]
  · rw [if_neg ha]
    refine ⟨3, fun k hk => ?_⟩
    obtain ⟨k, rfl⟩ : ∃ j, k = j + 3 := ⟨k - 3, by omega⟩
    simp [cmp_Or_int.l0, rd, ha]
theorem Hints_1_ev (x y : S55) (hx : x.f0.size ≤ 140737488355328) (hy : y.f0.size ≤ 140737488355328) : Ev (fun k => pick_Hints_1.f k x.f0 x.f1 y.f0 y.f1) (orS x y) := by
  unfold pick_Hints_1.f
  refine Ev.bind (f := fun k t310 => ((cmp_Compare_int.f x.f1 y.f1).bind fun t311 => ((cmp_Or_int.f k (([t310, t311] : List Int))).bind fun t315 => (some t315)))) (pick_order_ev x.f0 y.f0 hx hy) ?_
  refine Ev.congr (f := fun k => (cmp_Or_int.f k (([ordP (bl x.f0) (bl y.f0), cmpI x.f1 y.f1] : List Int))).bind fun t315 => (some t315)) (fun k => by rw [cmpI_ev]; rfl) ?_
  exact Ev.bind (f := fun _ t315 => some t315) (Or_ev _ _) (Ev.now _)

instance (s : ByteArray) : Decidable (good s) := by unfold good; infer_instance
abbrev GServ := {x : S55 // good x.f0}
instance : Inhabited GServ := ⟨⟨⟨mkB [0], 0⟩, good_root⟩⟩
def cfS (x y : GServ) : Int := orS x.1 y.1
def ltS (x y : S55) : Bool := lessN (bl x.f0) (bl y.f0) || (decide (x.f0 = y.f0) && decide (x.f1 < y.f1))
theorem ordP_zero {a b : ByteArray} (ha : good a) (hb : good b) (h : ordP (bl a) (bl b) = 0) : a = b := by
  unfold ordP at h
  cases h1 : lessN (bl a) (bl b) with
  | true => rw [h1] at h; cases h
  | false =>
    cases h2 : lessN (bl b) (bl a) with
    | true => rw [h1, h2] at h; cases h
    | false =>
      rcases Classical.em (a = b) with e | e
      · exact e
      · rw [lessN_total ha hb e h1] at h2; cases h2
theorem ordP_self (a : List UInt8) : ordP a a = 0 := by simp [ordP, lessN_irrefl]
theorem cfS_lt (x y : GServ) : ltOf cfS x y = ltS x.1 y.1 := by
  unfold ltOf cfS orS ltS
  by_cases h : x.1.f0 = y.1.f0
  · have e : ordP (bl x.1.f0) (bl y.1.f0) = 0 := by rw [h]; exact ordP_self _
    rw [if_pos e, h, lessN_irrefl]
    rw [decide_eq_true (rfl : y.1.f0 = y.1.f0)]
    unfold cmpI
    split
    · simp [*]
    · split <;> simp [*]
  · have e : ordP (bl x.1.f0) (bl y.1.f0) ≠ 0 := fun e => h (ordP_zero x.2 y.2 e)
    rw [if_neg e]
    rw [decide_eq_false h]
    have := cfN_lt ⟨x.1.f0, x.2⟩ ⟨y.1.f0, y.2⟩
    unfold ltOf cfN at this
    rw [this]
    simp
theorem cfS_total : ∀ x y : GServ, ltOf cfS x y = false → ltOf cfS y x = false → x = y := by
  intro x y h1 h2
  rw [cfS_lt] at h1 h2
  simp only [ltS, Bool.or_eq_false_iff, Bool.and_eq_false_iff, decide_eq_false_iff_not] at h1 h2
  have e : x.1.f0 = y.1.f0 := by
    rcases Classical.em (x.1.f0 = y.1.f0) with e | e
    · exact e
    · have := lessN_total x.2 y.2 e h1.1
      rw [h2.1] at this; cases this
  have e2 : x.1.f1 = y.1.f1 := by
    rcases h1.2 with h | h
    · simp [e] at h
    · rcases h2.2 with h' | h'
      · simp [e] at h'
      · omega
  obtain ⟨⟨a, b⟩, h⟩ := x
  obtain ⟨⟨c, d⟩, h'⟩ := y
  simp only at e e2
  subst e e2
  rfl
theorem ltS_irrefl (x : S55) : ltS x x = false := by simp [ltS, lessN_irrefl]
theorem ltS_trans {x y z : S55} (h1 : ltS x y = true) (h2 : ltS y z = true) : ltS x z = true := by
  simp only [ltS, Bool.or_eq_true, Bool.and_eq_true, decide_eq_true_eq] at *
  rcases h1 with h1 | ⟨e1, h1⟩
  · rcases h2 with h2 | ⟨e2, h2⟩
    · exact .inl (lessN_trans h1 h2)
    · exact .inl (by rw [← e2]; exact h1)
  · rcases h2 with h2 | ⟨e2, h2⟩
    · exact .inl (by rw [e1]; exact h2)
    · exact .inr ⟨e1.trans e2, by omega⟩
theorem cfS_swo : SWO (ltOf cfS) where
  irrefl x := by rw [cfS_lt]; exact ltS_irrefl _
  trans x y z h1 h2 := by rw [cfS_lt] at *; exact ltS_trans h1 h2
  ntrans x y z h1 h2 := by
    rw [Bool.eq_false_iff]
    intro h
    rcases Classical.em (x = y) with e | e
    · rw [e, h2] at h; cases h
    · have h3 : ltOf cfS y x = true := by
        cases hc : ltOf cfS y x with
        | true => rfl
        | false => exact absurd (cfS_total x y h1 hc) e
      rw [cfS_lt] at h2 h h3
      rw [ltS_trans h3 h] at h2; cases h2

theorem good_size {s : ByteArray} (h : good s) : s.size ≤ 255 := by rw [← bl_length]; exact valid_length h.1

/-! ### the comparisons -/
theorem order_at (x y : GName) (w : World) : Calls Tryz.prog 154 #[.string x.1, .string y.1] w fun e w' => e = .returned (.int .i64 (cfN x y)) ∧ ∃ q os, w' = grow (w.drewN q) os := by
  obtain ⟨K, hK⟩ := pick_order_ev x.1 y.1 (by have := good_size x.2; omega) (by have := good_size y.2; omega)
  exact calls_grow (pick_order.calls K x.1 y.1 _ w (hK K (Nat.le_refl _)))
theorem hints_at (x y : GServ) (w : World) : Calls Tryz.prog 152 #[.agg #[.string x.1.f0, .int .i64 x.1.f1], .agg #[.string y.1.f0, .int .i64 y.1.f1]] w fun e w' => e = .returned (.int .i64 (cfS x y)) ∧ ∃ q os, w' = grow (w.drewN q) os := by
  obtain ⟨K, hK⟩ := Hints_1_ev x.1 y.1 (by have := good_size x.2; omega) (by have := good_size y.2; omega)
  exact calls_grow (pick_Hints_1.calls K x.1.f0 x.1.f1 y.1.f0 y.1.f1 _ w (hK K (Nat.le_refl _)))

/-! ### a sorted list of those -/
def leN (x y : ByteArray) : Bool := !lessN (bl y) (bl x)
def leS (x y : S55) : Bool := !ltS y x
theorem map_attach {α : Type} {P : α → Prop} (l : List α) (h : ∀ x ∈ l, P x) : (l.attachWith P h).map Subtype.val = l := by simp

end Go.Proofs.YtjiheepiobffkaaGreat.Fr

namespace Go.Proofs.YtjiheepiobffkaaGreat.Pr
open Go.RowKit Go.Proofs.YtjiheepiobffkaaGreatW.PrintWords Go.Proofs.YtjiheepiobffkaaGreat.Fr
open Go.Sort hiding rd
def sort_strings.f (l0 : List ByteArray) (_ : Unit) : Option (List ByteArray) := if (∀ x ∈ l0, good x) ∧ l0.length < 4611686018427387904 then some (l0.mergeSort leN) else none
set_option maxHeartbeats 1000000 in
theorem sort_strings.calls (P0_ : Nat → Prop) (u9000_ : Value) (l0 : List ByteArray) (a1 : Unit) (r : List ByteArray) (w0 w : World) (hB : Below w0.heap.size w0 w) (ho0 : Kd.R Kd.string 9 w w0.heap.size P0_ u9000_ l0) (h : sort_strings.f l0 a1 = some r) :
    Calls Tryz.prog 148 #[u9000_, .func (.func 154) #[] #[]] w fun e w' => e = .returned (.tuple #[]) ∧ Kd.R Kd.string 9 w' w0.heap.size (fun k_ => (P0_ k_ ∨ w.heap.size ≤ k_)) u9000_ r ∧ Below w0.heap.size w0 w' ∧ Kept w w' (fun k_ => P0_ k_) := by
  unfold sort_strings.f at h
  split at h
  · rename_i hg
    injection h with h
    subst h
    obtain ⟨hg, hl⟩ := hg
    have own := Kd.own_of_R ho0
    rcases Nat.eq_zero_or_pos l0.length with hz | hp
    · have hz' := List.eq_nil_of_length_eq_zero hz
      subst hz'
      obtain ⟨A, c, rfl⟩ := Kd.R_slice ho0
      refine (AnyF.slices_SortFunc_none { Tryz.sortS with } A c (.func (.func 154) #[] #[]) w).mono ?_
      rintro e w' ⟨rfl, rfl⟩
      exact ⟨rfl, Kd.R_mono (by simpa using ho0) (fun k hk => .inl hk), hB, Kept.refl _ _⟩
    · obtain ⟨g, cap, cur, rfl, hb, hh, _⟩ := own_slice own hp
      have hlt : g < w.heap.size := by
        rcases Nat.lt_or_ge g w.heap.size with hlt | hlt
        · exact hlt
        · rw [Array.getElem?_eq_none hlt] at hh; cases hh
      let la := l0.attachWith good hg
      have hla : la.map Subtype.val = l0 := map_attach l0 hg
      have hls : la.toArray.size = l0.length := by simp [la]
      have he : (la.toArray.map (fun x : GName => Value.string x.1)).toList = encs Value.string l0 := by
        rw [Array.toList_map]
        show la.map (Value.string ∘ Subtype.val) = _
        rw [← List.map_map, hla]
        rfl
      have hH : Holds (fun x : GName => Value.string x.1) w g 0 la.toArray := holds_enc _ _ _ _ _ (own_holds own _ he)
      have hcon := Any.slices_SortFunc_total Tryz.sortS (fun x : GName => Value.string x.1) (fun _ => rfl) cfN cfN_swo 154 #[] g 0 cap la.toArray w (enters_of Tryz.func154 (by kernel_rfl) rfl)
        (fun m os dk _ x y => order_at x y _) hH hlt (by rw [hls]; exact hl) cfN_total
      rw [hls] at hcon
      refine hcon.mono ?_
      rintro e w' ⟨rfl, n, os, rfl⟩
      have hperm : (la.mergeSort fun x y => !(ltOf cfN) y x).map Subtype.val = l0.mergeSort leN := by
        rw [← hla]
        refine List.map_mergeSort (fun a _ b _ => ?_)
        rw [cfN_lt]
        rfl
      unfold sortWorld
      rw [putRow_enc]
      have hF : ((la.mergeSort fun x y => !(ltOf cfN) y x).toArray.map (fun x : GName => Value.string x.1)).toList = encs Value.string (l0.mergeSort leN) := by
        rw [← hperm]
        simp [encs]
      obtain ⟨o1, o2⟩ := own_put own ((la.mergeSort fun x y => !(ltOf cfN) y x).toArray.map (fun x : GName => Value.string x.1)) (by simp [la]) n os
      have hlen : (l0.mergeSort leN).length = l0.length := List.length_mergeSort _
      rw [hF] at o1
      refine ⟨rfl, Kd.R_of_own (by rw [hlen]; exact o1) (fun k hk => .inl (ho0.1 k hk)), hB.grown o2 hB.size (fun k hk => by injection hk with hk; omega), Kept.of_grown o2 (Kept.refl _ _) (fun k hk => .inl (ho0.1 k (by rw [← hk]; rfl)))⟩
  · cases h

end Go.Proofs.YtjiheepiobffkaaGreat.Pr
