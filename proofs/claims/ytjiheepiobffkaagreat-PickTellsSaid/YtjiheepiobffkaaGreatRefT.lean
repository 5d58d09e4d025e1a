/-
  The document's record.Target: freshetref1.Target comes to targetR, as the program's does.
-/
import Derived.Test.YtjiheepiobffkaaGreatLessR
import Derived.Test.YtjiheepiobffkaaGreatPrR
namespace Go.Proofs.YtjiheepiobffkaaGreat.Fr
open Go.RowKit Go.Proofs.YtjiheepiobffkaaGreatW.PrintWords Go.Proofs.YtjiheepiobffkaaGreat.Pr
open Go.Sort hiding rd

/-! ### a name that leads, and what stands behind it -/
theorem leadF_app : ∀ (f : Nat) (l r : List UInt8) (i n : Nat), leadF f l i = some n → leadF f (l ++ r) i = some n
  | 0, _, _, _, _, h => by simp [leadF] at h
  | _ + 1, [], _, _, _, h => by simp [leadF] at h
  | f + 1, c :: l, r, i, n, h => by
    unfold leadF at h
    rw [List.cons_append]
    unfold leadF
    split at h
    · rename_i hi
      rw [if_pos hi]
      split at h
      · rename_i h0
        rw [if_pos h0]; exact h
      · rename_i h0
        rw [if_neg h0]
        split at h
        · cases h
        · rename_i h6
          rw [if_neg h6]
          have hlt : c.toNat ≤ l.length := by
            rcases Nat.lt_or_ge l.length c.toNat with hc | hc
            · rw [List.drop_eq_nil_of_le (by omega)] at h
              cases f <;> simp [leadF] at h
            · exact hc
          rw [List.drop_append_of_le_length hlt]
          exact leadF_app f _ r _ n h
    · cases h
theorem lead_le {l : List UInt8} {n : Nat} (h : lead l = some n) : n ≤ 255 ∧ n ≤ l.length := by
  have := leadF_le _ _ _ _ h
  omega
theorem valid_take (l : List UInt8) (m : Nat) (hm : m ≤ l.length) : valid (l.take m) = decide (lead l = some m) := by
  rw [Bool.eq_iff_iff, decide_eq_true_iff]
  constructor
  · intro h
    rw [← lead_valid, beq_iff_eq, List.length_take, Nat.min_eq_left hm] at h
    have h2 := leadF_app _ _ (l.drop m) _ _ h
    rw [List.take_append_drop] at h2
    exact h2
  · intro h; exact lead_name h

/-! ### where a name ends -/
def endP (d : List UInt8) (at_ : Nat) : Int × Bool := match lead (d.drop at_) with
  | some n => (((at_ + n : Nat) : Int), true)
  | none => (0, false)
theorem end_l0 (d : ByteArray) (hd : d.size ≤ 1000) (a : Nat) : ∀ (f k : Nat), d.size - k = f → a ≤ k → (∀ m, m ≤ k - a → lead ((bl d).drop a) ≠ some m) →
    Ev (fun K => freshetref1_end.l0 K d (a : Int) (k : Int)) (endP (bl d) a)
  | f, k, hf, hk, hno => by
    have hbl := bl_length d
    by_cases hlt : k < d.size
    · have hw : wrap64 ((k : Int) + 1) = ((k + 1 : Nat) : Int) := by rw [w64 (by omega) (by omega)]; rfl
      have hex : bl (d.extract a (k + 1)) = ((bl d).drop a).take (k + 1 - a) := bl_extract d a (k + 1)
      have hv := rValid_ev (d.extract a (k + 1))
      rw [hex, valid_take _ _ (by rw [List.length_drop]; omega)] at hv
      refine Ev.step (f := fun K => ((freshetref1_Valid.f K (d.extract a (k + 1))).bind fun t => (if t = true then (some (((k + 1 : Nat) : Int), true)) else (if (wrap64 ((k : Int) - (a : Int))) > 255 then (some (0, false)) else (freshetref1_end.l0 K d (a : Int) ((k + 1 : Nat) : Int)))))) (fun K => ?_) ?_
      · simp only [freshetref1_end.l0]
        rw [if_pos (by omega), if_pos (by omega), hw, if_pos (by omega), if_pos (by omega), Int.toNat_natCast, Int.toNat_natCast]
      · refine Ev.bind (f := fun K t => (if t = true then (some (((k + 1 : Nat) : Int), true)) else (if (wrap64 ((k : Int) - (a : Int))) > 255 then (some (0, false)) else (freshetref1_end.l0 K d (a : Int) ((k + 1 : Nat) : Int))))) hv ?_
        by_cases hl : lead ((bl d).drop a) = some (k + 1 - a)
        · refine Ev.congr (f := fun _ => some (((k + 1 : Nat) : Int), true)) (fun K => by rw [if_pos (decide_eq_true hl)]) ?_
          have : endP (bl d) a = (((k + 1 : Nat) : Int), true) := by unfold endP; rw [hl]; simp only; congr 2; omega
          rw [this]
          exact Ev.now _
        · by_cases hbig : k - a > 255
          · refine Ev.congr (f := fun _ => some (0, false)) (fun K => by rw [if_neg (by simpa using hl), if_pos (by rw [w64 (by omega) (by omega)]; omega)]) ?_
            have : endP (bl d) a = (0, false) := by
              unfold endP
              cases hc : lead ((bl d).drop a) with
              | none => rfl
              | some n => exact absurd hc (hno n (by have := lead_le hc; omega))
            rw [this]
            exact Ev.now _
          · cases f with
            | zero => omega
            | succ f =>
              have ih := end_l0 d hd a f (k + 1) (by omega) (by omega) (fun m hm => by
                rcases Nat.lt_or_ge (k - a) m with h1 | h1
                · obtain rfl : m = k + 1 - a := by omega
                  exact hl
                · exact hno m h1)
              exact Ev.congr (fun K => by rw [if_neg (by simpa using hl), if_neg (by rw [w64 (by omega) (by omega)]; omega)]) ih
    · refine Ev.step (f := fun _ => some (0, false)) (fun K => ?_) ?_
      · simp only [freshetref1_end.l0]
        rw [if_neg (by omega)]
      · have : endP (bl d) a = (0, false) := by
          unfold endP
          cases hc : lead ((bl d).drop a) with
          | none => rfl
          | some n =>
            have h1 := lead_le hc
            rw [List.length_drop] at h1
            exact absurd hc (hno n (by omega))
        rw [this]
        exact Ev.now _
theorem lead_pos {l : List UInt8} {n : Nat} (h : lead l = some n) : 0 < n := by
  have := leadF_le _ _ _ _ h
  omega
theorem end_ev (d : ByteArray) (hd : d.size ≤ 1000) (a : Nat) : Ev (fun K => freshetref1_end.f K d (a : Int)) (endP (bl d) a) :=
  end_l0 d hd a _ a rfl (Nat.le_refl _) (fun m hm h => by have := lead_pos h; omega)

/-! ### a type with one name -/
def oneP (d : List UInt8) (a : Nat) : List S241 × Bool := match lead (d.drop a) with
  | some n => if a + n = d.length then ([⟨(a : Int), (n : Int)⟩], true) else ([], false)
  | none => ([], false)
theorem one_ev (d : ByteArray) (hd : d.size ≤ 1000) (a : Nat) (ha : a ≤ 6) : Ev (fun K => freshetref1_Parts.j1 K d (a : Int) 1 0) (oneP (bl d) a) := by
  have hbl := bl_length d
  have he := end_ev d hd a
  refine Ev.step (f := fun K => freshetref1_Parts.l1 K d 1 0 [] (a : Int) 0) (fun K => ?_) ?_
  · simp only [freshetref1_Parts.j1]
  · refine Ev.step (f := fun K => ((freshetref1_end.f K d (a : Int)).bind fun bt => (if bt.2 = true then (freshetref1_Parts.l1 K d 1 0 ([] ++ [(⟨(a : Int), wrap64 (bt.1 - (a : Int))⟩ : S241)]) bt.1 1) else (some (([] : List S241), false))))) (fun K => ?_) ?_
    · simp only [freshetref1_Parts.l1]
      rw [if_pos (by decide), show wrap64 (0 + 1) = 1 from by rw [w64 (by decide) (by decide)]; rfl]
      congr 1
    · refine Ev.bind (f := fun K bt => (if bt.2 = true then (freshetref1_Parts.l1 K d 1 0 ([] ++ [(⟨(a : Int), wrap64 (bt.1 - (a : Int))⟩ : S241)]) bt.1 1) else (some (([] : List S241), false)))) he ?_
      unfold endP oneP
      cases hl : lead ((bl d).drop a) with
      | none => exact Ev.congr (f := fun _ => some ([], false)) (fun K => by simp only; rw [if_neg (by decide)]) (Ev.now _)
      | some n =>
        have h1 := lead_le hl
        simp only [if_true]
        have hw : wrap64 (((a + n : Nat) : Int) - (a : Int)) = (n : Int) := by rw [w64 (by omega) (by omega)]; omega
        rw [hw]
        refine Ev.step (f := fun _ => some (if a + n = (bl d).length then ([⟨(a : Int), (n : Int)⟩], true) else ([], false))) (fun K => ?_) (Ev.now _)
        simp only [freshetref1_Parts.l1]
        rw [if_neg (by decide), w64 (by omega) (by omega)]
        by_cases hs : a + n = (bl d).length
        · rw [if_pos (by omega), if_pos hs]; rfl
        · rw [if_neg (by omega), if_neg hs]

/-! ### two names; texts -/
theorem two_ev (d : ByteArray) (hd : d.size ≤ 1000) : ∃ r, Ev (fun K => freshetref1_Parts.j1 K d 0 2 20) r ∧ (r.2 = true → (r.1.length : Int) ≠ 1) := by
  have hbl := bl_length d
  have he := end_ev d hd 0
  have fin : ∀ (l : List S241) (x : Int), l.length = 2 → ∃ r, Ev (fun K => freshetref1_Parts.l1 K d 2 20 l x 2) r ∧ (r.2 = true → (r.1.length : Int) ≠ 1) := by
    intro l x h2
    by_cases hs : (wrap64 (x + 20)) = (d.size : Int)
    · refine ⟨(l, true), Ev.step (f := fun _ => some (l, true)) (fun K => ?_) (Ev.now _), fun _ => by rw [h2]; decide⟩
      simp only [freshetref1_Parts.l1]
      rw [if_neg (by decide), if_pos hs]
    · refine ⟨([], false), Ev.step (f := fun _ => some ([], false)) (fun K => ?_) (Ev.now _), fun h => by cases h⟩
      simp only [freshetref1_Parts.l1]
      rw [if_neg (by decide), if_neg hs]
  have step : ∀ (l : List S241) (x : Nat) (i : Nat), l.length = i → i < 2 → (∀ l2 (x2 : Nat), l2.length = i + 1 → x2 ≤ d.size + 1 → ∃ r, Ev (fun K => freshetref1_Parts.l1 K d 2 20 l2 (x2 : Int) ((i + 1 : Nat) : Int)) r ∧ (r.2 = true → (r.1.length : Int) ≠ 1)) → ∃ r, Ev (fun K => freshetref1_Parts.l1 K d 2 20 l (x : Int) (i : Int)) r ∧ (r.2 = true → (r.1.length : Int) ≠ 1) := by
    intro l x i hl hi hnext
    have he := end_ev d hd x
    have hw : wrap64 ((i : Int) + 1) = ((i + 1 : Nat) : Int) := by rw [w64 (by omega) (by omega)]; rfl
    cases hle : lead ((bl d).drop x) with
    | none =>
      refine ⟨([], false), ?_, fun h => by cases h⟩
      have he2 : endP (bl d) x = (0, false) := by unfold endP; rw [hle]
      rw [he2] at he
      refine Ev.step (f := fun K => ((freshetref1_end.f K d (x : Int)).bind fun bt => (if bt.2 = true then (freshetref1_Parts.l1 K d 2 20 (l ++ [(⟨(x : Int), wrap64 (bt.1 - (x : Int))⟩ : S241)]) bt.1 ((i + 1 : Nat) : Int)) else (some (([] : List S241), false))))) (fun K => ?_) ?_
      · simp only [freshetref1_Parts.l1]
        rw [if_pos (by omega), hw]
        have hll : l.length < 8796093022208 := by omega
        simp only [hll, if_true]
      · exact Ev.bind (f := fun K bt => (if bt.2 = true then (freshetref1_Parts.l1 K d 2 20 (l ++ [(⟨(x : Int), wrap64 (bt.1 - (x : Int))⟩ : S241)]) bt.1 ((i + 1 : Nat) : Int)) else (some (([] : List S241), false)))) he (Ev.congr (f := fun _ => some ([], false)) (fun K => by rw [if_neg (by decide)]) (Ev.now _))
    | some n =>
      have h1 := lead_le hle
      rw [List.length_drop] at h1
      have he2 : endP (bl d) x = (((x + n : Nat) : Int), true) := by unfold endP; rw [hle]
      rw [he2] at he
      have hpos := lead_pos hle
      obtain ⟨r, hr, hr2⟩ := hnext (l ++ [(⟨(x : Int), wrap64 (((x + n : Nat) : Int) - (x : Int))⟩ : S241)]) (x + n) (by simp [hl]) (by omega)
      refine ⟨r, ?_, hr2⟩
      refine Ev.step (f := fun K => ((freshetref1_end.f K d (x : Int)).bind fun bt => (if bt.2 = true then (freshetref1_Parts.l1 K d 2 20 (l ++ [(⟨(x : Int), wrap64 (bt.1 - (x : Int))⟩ : S241)]) bt.1 ((i + 1 : Nat) : Int)) else (some (([] : List S241), false))))) (fun K => ?_) ?_
      · simp only [freshetref1_Parts.l1]
        rw [if_pos (by omega), hw]
        have hll : l.length < 8796093022208 := by omega
        simp only [hll, if_true]
      · exact Ev.bind (f := fun K bt => (if bt.2 = true then (freshetref1_Parts.l1 K d 2 20 (l ++ [(⟨(x : Int), wrap64 (bt.1 - (x : Int))⟩ : S241)]) bt.1 ((i + 1 : Nat) : Int)) else (some (([] : List S241), false)))) he (Ev.congr (fun K => by rw [if_pos rfl]) hr)
  obtain ⟨r, hr, hr2⟩ := step [] 0 0 rfl (by omega) (fun l2 x2 h2 _ => step l2 x2 1 h2 (by omega) (fun l3 x3 h3 _ => fin l3 x3 h3))
  refine ⟨r, Ev.step (f := fun K => freshetref1_Parts.l1 K d 2 20 [] ((0 : Nat) : Int) ((0 : Nat) : Int)) (fun K => ?_) hr, hr2⟩
  simp only [freshetref1_Parts.j1]
  rfl
theorem texts_ev (d : ByteArray) (hd : d.size ≤ 1000) : ∀ (f k : Nat), d.size - k = f → k ≤ 100000 → ∃ b, Ev (fun K => freshetref1_Parts.l0 K d (k : Int)) (([] : List S241), b)
  | f, k, hf, hk => by
    by_cases hlt : k < d.size
    · obtain ⟨m, hm, hb⟩ : ∃ m : Nat, m ≤ 255 ∧ bt d (k : Int) = (m : Int) := by
        refine ⟨(d[k]'hlt).toNat, ?_, ?_⟩
        · have := (d[k]'hlt).toNat_lt; omega
        · unfold bt; simp [hlt]
      cases f with
      | zero => omega
      | succ f =>
        obtain ⟨b, ih⟩ := texts_ev d hd (d.size - (k + 1 + m)) (k + 1 + m) rfl (by omega)
        refine ⟨b, Ev.step (f := fun K => freshetref1_Parts.l0 K d ((k + 1 + m : Nat) : Int)) (fun K => ?_) ih⟩
        simp only [freshetref1_Parts.l0]
        rw [if_pos (by omega), if_pos (by omega), hb, w64 (x := (m : Int)) (by omega) (by omega), w64 (x := (k : Int) + 1) (by omega) (by omega), w64 (by omega) (by omega)]
        rfl
    · by_cases h0 : (d.size : Int) > 0
      · refine ⟨_, Ev.step (f := fun _ => some (([] : List S241), ((k : Int) == (d.size : Int)))) (fun K => ?_) (Ev.now _)⟩
        simp only [freshetref1_Parts.l0]
        rw [if_neg (by omega), if_pos h0]
      · refine ⟨false, Ev.step (f := fun _ => some (([] : List S241), false)) (fun K => ?_) (Ev.now _)⟩
        simp only [freshetref1_Parts.l0]
        rw [if_neg (by omega), if_neg h0]
termination_by f => f
decreasing_by omega

/-! ### Target -/
theorem targetR_one (t : Int) (d : ByteArray) (a : Nat) (hd : d.size ≤ 1000) (hs : shapeP t = some (a, 1, 0)) (ht : t ≠ 1 ∧ t ≠ 28 ∧ t ≠ 16 ∧ t ≠ 6) :
    targetR t d = match lead ((bl d).drop a) with
      | some n => if a + n = (bl d).length then (mkB (((bl d).drop a).take n), true) else (mkB [], false)
      | none => (mkB [], false) := by
  have hbl := bl_length d
  have hp : placesR t (bl d) = match lead ((bl d).drop a) with
      | some n => ([(a, n)], decide (a + n = (bl d).length))
      | none => ([], false) := by
    unfold placesR
    rw [hs]
    simp only
    by_cases hlt : (bl d).length < a
    · rw [if_pos hlt, List.drop_eq_nil_of_le (by omega)]
      rfl
    · rw [if_neg hlt]
      unfold placesL
      cases lead ((bl d).drop a) with
      | none => rfl
      | some n =>
        simp only [placesL, Option.map_some]
        congr 1
        exact decide_eq_decide.2 (by omega)
  have hdp : dataP t (bl d) = (placesR t (bl d)).2 := by
    unfold dataP
    rw [if_neg (by omega), if_neg ht.1, if_neg ht.2.1, if_neg ht.2.2.1]
  unfold targetR targetP namesP
  rw [if_neg ht.2.2.2, hdp, hp]
  cases lead ((bl d).drop a) with
  | none => rfl
  | some n =>
    simp only
    by_cases h : a + n = (bl d).length
    · rw [if_pos (decide_eq_true h), if_pos h]; rfl
    · rw [if_neg (by simpa using h), if_neg h]; rfl
theorem targetR_no1 (t : Int) (d : ByteArray) (hs : shapeP t = none ∨ t = 6 ∨ 1000 < d.size) : targetR t d = (mkB [], false) := by
  have hbl := bl_length d
  unfold targetR targetP
  by_cases h6 : t = 6
  · rw [if_pos h6]
  · rw [if_neg h6]
    have : namesP t (bl d) = [] := by
      unfold namesP
      rcases hs with hs | hs | hs
      · unfold placesR
        rw [hs]
        simp
      · exact absurd hs h6
      · have hdp : dataP t (bl d) = false := by unfold dataP; rw [if_pos (by omega)]
        rw [hdp]
        rfl
    rw [this]
    rfl
theorem Target_one (a0 : ByteArray) (t a2 a3 : Int) (d : ByteArray) (a : Nat) (hd : d.size ≤ 1000) (hs : shapeP t = some (a, 1, 0)) (ht : t ≠ 1 ∧ t ≠ 28 ∧ t ≠ 16 ∧ t ≠ 6) (hp : Ev (fun K => freshetref1_Parts.f K t d) (oneP (bl d) a)) : Ev (fun K => freshetref1_Target.f K a0 t a2 a3 d) (targetR t d) := by
  have hbl := bl_length d
  rw [targetR_one t d a hd hs ht]
  unfold freshetref1_Target.f
  refine Ev.bind hp ?_
  unfold oneP
  cases hl : lead ((bl d).drop a) with
  | none => exact Ev.congr (f := fun _ => some (⟨#[]⟩, false)) (fun K => by simp only; rw [if_neg (by decide)]) (Ev.now _)
  | some n =>
    have h1 := lead_le hl
    rw [List.length_drop] at h1
    simp only
    by_cases h : a + n = (bl d).length
    · rw [if_pos h, if_pos h]
      refine Ev.congr (f := fun _ => some (mkB (((bl d).drop a).take n), true)) (fun K => ?_) (Ev.now _)
      have hr : rd_T241 [(⟨(a : Int), (n : Int)⟩ : S241)] 0 = ⟨(a : Int), (n : Int)⟩ := rfl
      simp only [hr]
      have hw : wrap64 ((a : Int) + (n : Int)) = ((a + n : Nat) : Int) := by rw [w64 (by omega) (by omega)]; rfl
      rw [if_pos trivial, if_pos (by rfl), if_pos (by simp), if_pos (by omega), hw, if_pos (by omega), if_pos (by omega), Int.toNat_natCast, Int.toNat_natCast]
      congr 2
      refine bl_inj ?_
      rw [bl_extract, bl_mkB, Nat.add_sub_cancel_left]
    · rw [if_neg h, if_neg h]
      exact Ev.congr (f := fun _ => some (⟨#[]⟩, false)) (fun K => by simp only; rw [if_neg (by decide)]) (Ev.now _)
theorem Target_no (a0 : ByteArray) (t a2 a3 : Int) (d : ByteArray) (r : List S241 × Bool) (hr : r.2 = true → (r.1.length : Int) ≠ 1) (hs : shapeP t = none ∨ t = 6 ∨ 1000 < d.size) (hp : Ev (fun K => freshetref1_Parts.f K t d) r) : Ev (fun K => freshetref1_Target.f K a0 t a2 a3 d) (targetR t d) := by
  rw [targetR_no1 t d hs]
  unfold freshetref1_Target.f
  refine Ev.bind hp ?_
  refine Ev.congr (f := fun _ => some (⟨#[]⟩, false)) (fun K => ?_) (Ev.now _)
  cases h2 : r.2 with
  | false => rw [if_neg (by decide)]
  | true => rw [if_pos rfl, if_neg (hr h2)]
theorem rTarget_ev (a0 : ByteArray) (t a2 a3 : Int) (d : ByteArray) (hsz : d.size ≤ 140737488355328) : Ev (fun K => freshetref1_Target.f K a0 t a2 a3 d) (targetR t d) := by
  by_cases hbig : (d.size : Int) > 1000
  · refine Target_no a0 t a2 a3 d ([], false) (fun h => by cases h) (.inr (.inr (by omega))) ?_
    unfold freshetref1_Parts.f
    exact Ev.congr (f := fun _ => some ([], false)) (fun K => by rw [if_pos hbig]) (Ev.now _)
  · have hd : d.size ≤ 1000 := by omega
    by_cases h1 : t = 1
    · refine Target_no a0 t a2 a3 d ([], (d.size : Int) == 4) (fun _ => by simp) (.inl (by subst h1; rfl)) ?_
      unfold freshetref1_Parts.f
      exact Ev.congr (f := fun _ => some ([], (d.size : Int) == 4)) (fun K => by rw [if_neg hbig, if_pos h1]) (Ev.now _)
    · by_cases h28 : t = 28
      · refine Target_no a0 t a2 a3 d ([], (d.size : Int) == 16) (fun _ => by simp) (.inl (by subst h28; rfl)) ?_
        unfold freshetref1_Parts.f
        exact Ev.congr (f := fun _ => some ([], (d.size : Int) == 16)) (fun K => by rw [if_neg hbig, if_neg h1, if_pos h28]) (Ev.now _)
      · by_cases h16 : t = 16
        · obtain ⟨b, hb⟩ := texts_ev d hd d.size 0 (by omega) (by omega)
          refine Target_no a0 t a2 a3 d ([], b) (fun _ => by simp) (.inl (by subst h16; rfl)) ?_
          unfold freshetref1_Parts.f
          exact Ev.congr (fun K => by rw [if_neg hbig, if_neg h1, if_neg h28, if_pos h16]; rfl) hb
        · by_cases h15 : t = 15
          · refine Target_one a0 t a2 a3 d 2 hd (by subst h15; rfl) (by omega) ?_
            unfold freshetref1_Parts.f
            exact Ev.congr (fun K => by rw [if_neg hbig, if_neg h1, if_neg h28, if_neg h16, if_pos h15]; rfl) (one_ev d hd 2 (by omega))
          · by_cases h33 : t = 33
            · refine Target_one a0 t a2 a3 d 6 hd (by subst h33; rfl) (by omega) ?_
              unfold freshetref1_Parts.f
              exact Ev.congr (fun K => by rw [if_neg hbig, if_neg h1, if_neg h28, if_neg h16, if_neg h15, if_pos h33]; rfl) (one_ev d hd 6 (by omega))
            · by_cases h6 : t = 6
              · obtain ⟨r, hr, hr2⟩ := two_ev d hd
                refine Target_no a0 t a2 a3 d r hr2 (.inr (.inl h6)) ?_
                unfold freshetref1_Parts.f
                exact Ev.congr (fun K => by rw [if_neg hbig, if_neg h1, if_neg h28, if_neg h16, if_neg h15, if_neg h33, if_pos h6]) hr
              · by_cases h2 : t = 2
                · refine Target_one a0 t a2 a3 d 0 hd (by subst h2; rfl) (by omega) ?_
                  unfold freshetref1_Parts.f
                  exact Ev.congr (fun K => by rw [if_neg hbig, if_neg h1, if_neg h28, if_neg h16, if_neg h15, if_neg h33, if_neg h6, if_pos h2]; rfl) (one_ev d hd 0 (by omega))
                · by_cases h5 : t = 5
                  · refine Target_one a0 t a2 a3 d 0 hd (by subst h5; rfl) (by omega) ?_
                    unfold freshetref1_Parts.f
                    exact Ev.congr (fun K => by rw [if_neg hbig, if_neg h1, if_neg h28, if_neg h16, if_neg h15, if_neg h33, if_neg h6, if_neg h2, if_pos h5]; rfl) (one_ev d hd 0 (by omega))
                  · by_cases h12 : t = 12
                    · refine Target_one a0 t a2 a3 d 0 hd (by subst h12; rfl) (by omega) ?_
                      unfold freshetref1_Parts.f
                      exact Ev.congr (fun K => by rw [if_neg hbig, if_neg h1, if_neg h28, if_neg h16, if_neg h15, if_neg h33, if_neg h6, if_neg h2, if_neg h5, if_pos h12]; rfl) (one_ev d hd 0 (by omega))
                    · refine Target_no a0 t a2 a3 d ([], true) (fun _ => by simp) (.inl (by unfold shapeP; rw [if_neg (by omega), if_neg h15, if_neg h33, if_neg h6])) ?_
                      unfold freshetref1_Parts.f
                      exact Ev.congr (f := fun _ => some ([], true)) (fun K => by rw [if_neg hbig, if_neg h1, if_neg h28, if_neg h16, if_neg h15, if_neg h33, if_neg h6, if_neg h2, if_neg h5, if_neg h12]) (Ev.now _)
end Go.Proofs.YtjiheepiobffkaaGreat.Fr
