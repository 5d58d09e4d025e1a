/-
  The order of names, in plain words; and that the printed functions (Fold, order, Less, Same; the reference's Less) come to it.
-/
import Derived.Test.YtjiheepiobffkaaGreatPr8
import Derived.Test.YtjiheepiobffkaaGreatPr9
namespace Go.Proofs.YtjiheepiobffkaaGreat.Fr
open Go.RowKit Go.Proofs.YtjiheepiobffkaaGreatW.PrintWords Go.Proofs.YtjiheepiobffkaaGreat.Pr

/-! ### texts' order -/
theorem bytesLess_irrefl : ∀ a : List UInt8, Op.bytesLess a a = false
  | [] => rfl
  | c :: r => by
    simp only [Op.bytesLess, bytesLess_irrefl r]
    simp
theorem bytesLess_trans : ∀ a b c : List UInt8, Op.bytesLess a b = true → Op.bytesLess b c = true → Op.bytesLess a c = true
  | _, _, [], _, h => by simp [Op.bytesLess] at h
  | _, [], _ :: _, h, _ => by simp [Op.bytesLess] at h
  | [], _ :: _, _ :: _, _, _ => rfl
  | a :: x, b :: y, c :: z, h1, h2 => by
    simp only [Op.bytesLess, Bool.or_eq_true, Bool.and_eq_true, decide_eq_true_eq, beq_iff_eq] at h1 h2 ⊢
    rcases h1 with h1 | ⟨rfl, h1⟩
    · rcases h2 with h2 | ⟨rfl, h2⟩
      · exact .inl (UInt8.lt_trans h1 h2)
      · exact .inl h1
    · rcases h2 with h2 | ⟨rfl, h2⟩
      · exact .inl h2
      · exact .inr ⟨rfl, bytesLess_trans x y z h1 h2⟩
theorem bytesLess_total : ∀ a b : List UInt8, a ≠ b → Op.bytesLess a b = false → Op.bytesLess b a = true
  | [], [], h, _ => absurd rfl h
  | [], _ :: _, _, h => by simp [Op.bytesLess] at h
  | _ :: _, [], _, _ => rfl
  | a :: x, b :: y, hne, h => by
    simp only [Op.bytesLess, Bool.or_eq_false_iff, Bool.and_eq_false_iff, decide_eq_false_iff_not, beq_eq_false_iff_ne] at h
    simp only [Op.bytesLess, Bool.or_eq_true, Bool.and_eq_true, decide_eq_true_eq, beq_iff_eq]
    by_cases hab : a = b
    · subst hab
      rcases h.2 with h2 | h2
      · exact absurd rfl h2
      · exact .inr ⟨rfl, bytesLess_total x y (fun e => hne (by rw [e])) h2⟩
    · refine .inl ?_
      rcases UInt8.lt_or_lt_of_ne hab with h1 | h1
      · exact absurd h1 h.1
      · exact h1

theorem lexLess_irrefl : ∀ a : List (List UInt8), lexLess a a = false
  | [] => rfl
  | c :: r => by simp [lexLess, lexLess_irrefl r]
theorem lexLess_trans : ∀ a b c : List (List UInt8), lexLess a b = true → lexLess b c = true → lexLess a c = true
  | _, _, [], _, h => by simp [lexLess] at h
  | _, [], _ :: _, h, _ => by simp [lexLess] at h
  | [], _ :: _, _ :: _, _, _ => rfl
  | a :: x, b :: y, c :: z, h1, h2 => by
    simp only [lexLess] at h1 h2 ⊢
    by_cases hab : a = b
    · subst hab
      rw [if_pos rfl] at h1
      by_cases hac : a = c
      · subst hac
        rw [if_pos rfl] at h2 ⊢
        exact lexLess_trans x y z h1 h2
      · rw [if_neg hac] at h2 ⊢
        exact h2
    · rw [if_neg hab] at h1
      by_cases hbc : b = c
      · subst hbc
        rw [if_neg hab]
        exact h1
      · rw [if_neg hbc] at h2
        have h3 := bytesLess_trans _ _ _ h1 h2
        have hac : a ≠ c := by
          rintro rfl
          rw [bytesLess_irrefl] at h3
          cases h3
        rw [if_neg hac]
        exact h3
theorem lexLess_total : ∀ a b : List (List UInt8), a ≠ b → lexLess a b = false → lexLess b a = true
  | [], [], h, _ => absurd rfl h
  | [], _ :: _, _, h => by simp [lexLess] at h
  | _ :: _, [], _, _ => rfl
  | a :: x, b :: y, hne, h => by
    simp only [lexLess] at h ⊢
    by_cases hab : a = b
    · subst hab
      rw [if_pos rfl] at h ⊢
      exact lexLess_total x y (fun e => hne (by rw [e])) h
    · rw [if_neg hab] at h
      rw [if_neg (fun e => hab e.symm)]
      exact bytesLess_total a b hab h

/-- The order of two lists of texts, as a number. -/
def cmpL : List ByteArray → List ByteArray → Int
  | [], [] => 0
  | [], _ :: _ => -1
  | _ :: _, [] => 1
  | a :: x, b :: y => if cmpB a b = 0 then cmpL x y else cmpB a b
theorem cmpB_less (a b : ByteArray) : cmpB a b < 0 ↔ Op.bytesLess (bl a) (bl b) = true := by
  unfold cmpB
  rw [bl_toList, bl_toList]
  split
  · simp [*]
  · split <;> simp [*]
theorem cmpB_zero (a b : ByteArray) : cmpB a b = 0 ↔ bl a = bl b := by
  unfold cmpB
  rw [bl_toList, bl_toList]
  by_cases h : bl a = bl b
  · rw [h, bytesLess_irrefl]; simp
  · split
    · simp [h]
    · rw [if_neg (by simpa using h)]; simp [h]
theorem cmpL_less : ∀ x y : List ByteArray, cmpL x y < 0 ↔ lexLess (x.map bl) (y.map bl) = true
  | [], [] => by simp [cmpL, lexLess]
  | [], _ :: _ => by simp [cmpL, lexLess]
  | _ :: _, [] => by simp [cmpL, lexLess]
  | a :: x, b :: y => by
    simp only [cmpL, List.map_cons, lexLess]
    by_cases h : bl a = bl b
    · rw [if_pos ((cmpB_zero a b).2 h), if_pos h]; exact cmpL_less x y
    · rw [if_neg (fun e => h ((cmpB_zero a b).1 e)), if_neg h]; exact cmpB_less a b

/-! ### slices.Compare, slices.Reverse -/
theorem rdOf_nat (d : ByteArray) (xs : List ByteArray) (i : Nat) (h : i < xs.length) : rdOf d xs (i : Int) = xs[i] := by
  unfold rdOf
  rw [Int.toNat_natCast, List.getD_eq_getElem?_getD, List.getElem?_eq_getElem h]
  rfl
theorem Compare_l0 (l0 l1 : List ByteArray) (h0 : l0.length ≤ 1000000) (h1 : l1.length ≤ 1000000) : ∀ (d i : Nat), l0.length - i = d → i ≤ l0.length → i ≤ l1.length → Ev (fun k => slices_Compare_string_string.l0 k l0 l1 l0 (l0.length : Int) (i : Int)) (cmpL (l0.drop i) (l1.drop i))
  | 0, i, hd, hi, hj => by
    obtain rfl : i = l0.length := by omega
    rw [List.drop_length]
    cases hy : l1.drop l0.length with
    | nil =>
      have := List.drop_eq_nil_iff.1 hy
      refine Ev.step (f := fun _ => some 0) (fun k => ?_) (Ev.now _)
      simp only [slices_Compare_string_string.l0]
      rw [if_neg (by omega), if_neg (by omega)]
    | cons b y =>
      have : l0.length < l1.length := by
        rcases Nat.lt_or_ge l0.length l1.length with h | h
        · exact h
        · rw [List.drop_eq_nil_of_le h] at hy; cases hy
      refine Ev.step (f := fun _ => some (-1)) (fun k => ?_) (Ev.now _)
      simp only [slices_Compare_string_string.l0]
      rw [if_neg (by omega), if_pos (by omega)]
  | d + 1, i, hd, hi, hj => by
    have hlt : i < l0.length := by omega
    rw [List.drop_eq_getElem_cons hlt]
    by_cases hlt1 : i < l1.length
    · rw [List.drop_eq_getElem_cons hlt1]
      have ih := Compare_l0 l0 l1 h0 h1 d (i + 1) (by omega) (by omega) (by omega)
      simp only [cmpL]
      refine Ev.step (f := fun k => (cmp_Compare_string.f l0[i] l1[i]).bind fun t => if t = 0 then slices_Compare_string_string.l0 k l0 l1 l0 (l0.length : Int) (wrap64 ((i : Int) + 1)) else some t) (fun k => ?_) ?_
      · simp only [slices_Compare_string_string.l0]
        rw [if_pos (by omega), if_pos (by omega), if_pos (by omega), if_neg (by omega), if_pos (by omega), rdOf_nat _ _ _ hlt, rdOf_nat _ _ _ hlt1]
      · unfold cmp_Compare_string.f
        rw [w64 (by omega) (by omega)]
        simp only [Option.bind_some]
        by_cases hc : cmpB l0[i] l1[i] = 0
        · rw [if_pos hc]
          exact Ev.congr (f := fun k => slices_Compare_string_string.l0 k l0 l1 l0 (l0.length : Int) ((i + 1 : Nat) : Int)) (fun k => by rw [if_pos hc]; rfl) ih
        · rw [if_neg hc]
          exact Ev.congr (f := fun k => some (cmpB l0[i] l1[i])) (fun k => by rw [if_neg hc]) (Ev.now _)
    · obtain rfl : i = l1.length := by omega
      rw [List.drop_length]
      refine Ev.step (f := fun _ => some 1) (fun k => ?_) (Ev.now _)
      simp only [slices_Compare_string_string.l0]
      rw [if_pos (by omega), if_pos (by omega), if_pos (by omega), if_pos (by omega)]
theorem Compare_ev (l0 l1 : List ByteArray) (h0 : l0.length ≤ 1000000) (h1 : l1.length ≤ 1000000) : Ev (fun k => slices_Compare_string_string.f k l0 l1) (cmpL l0 l1) := by
  have h := Compare_l0 l0 l1 h0 h1 l0.length 0 (by omega) (by omega) (by omega)
  rw [List.drop_zero, List.drop_zero] at h
  exact h

/-- When i at either end have been exchanged. -/
def revUp (l : List ByteArray) (i : Nat) (xs : List ByteArray) : Prop :=
  xs.length = l.length ∧ ∀ j, j < l.length → xs[j]? = if j < i ∨ l.length - 1 - j < i then l[l.length - 1 - j]? else l[j]?
theorem revUp_done {l xs : List ByteArray} {i : Nat} (h : revUp l i xs) (hi : l.length ≤ 2 * i + 1) : xs = l.reverse := by
  apply List.ext_getElem?
  intro j
  by_cases hj : j < l.length
  · rw [h.2 j hj, List.getElem?_reverse hj]
    split
    · rfl
    · rename_i hn
      have : j = l.length - 1 - j := by omega
      rw [← this]
  · rw [List.getElem?_eq_none (by rw [h.1]; omega), List.getElem?_eq_none (by rw [List.length_reverse]; omega)]
theorem revUp_step {l xs : List ByteArray} {i : Nat} (h : revUp l i xs) (hi : 2 * i + 1 < l.length) (hx : i < xs.length) (hy : l.length - 1 - i < xs.length) :
    revUp l (i + 1) ((xs.set i xs[l.length - 1 - i]).set (l.length - 1 - i) xs[i]) := by
  refine ⟨by simp [h.1], fun j hj => ?_⟩
  have e1 : xs[l.length - 1 - i]? = l[l.length - 1 - i]? := by rw [h.2 _ (by omega), if_neg (by omega)]
  have e2 : xs[i]? = l[i]? := by rw [h.2 _ (by omega), if_neg (by omega)]
  rw [List.getElem?_set]
  by_cases h1 : l.length - 1 - i = j
  · subst h1
    rw [if_pos rfl, if_pos (by simp; omega), if_pos (by omega), ← List.getElem?_eq_getElem hx, e2]
    congr 1; omega
  · rw [if_neg h1, List.getElem?_set]
    by_cases h2 : i = j
    · subst h2
      rw [if_pos rfl, if_pos hx, if_pos (by omega), ← List.getElem?_eq_getElem hy, e1]
    · rw [if_neg h2, h.2 j hj]
      by_cases h3 : j < i ∨ l.length - 1 - j < i
      · rw [if_pos h3, if_pos (by omega)]
      · rw [if_neg h3, if_neg (by omega)]
theorem Reverse_l0 (l : List ByteArray) (hl : l.length ≤ 1000000) : ∀ (d i : Nat) (xs : List ByteArray), l.length - 2 * i ≤ d → 2 * i ≤ l.length + 1 → revUp l i xs → Ev (fun k => slices_Reverse_string_string.l0 k xs (i : Int) ((l.length : Int) - 1 - (i : Int))) l.reverse
  | d, i, xs, hd, hi, hr => by
    by_cases hc : 2 * i + 1 < l.length
    · have hx : i < xs.length := by rw [hr.1]; omega
      have hy : l.length - 1 - i < xs.length := by rw [hr.1]; omega
      cases d with
      | zero => omega
      | succ d =>
        have ih := Reverse_l0 l hl d (i + 1) _ (by omega) (by omega) (revUp_step hr hc hx hy)
        refine Ev.step (f := fun k => slices_Reverse_string_string.l0 k ((xs.set i xs[l.length - 1 - i]).set (l.length - 1 - i) xs[i]) ((i + 1 : Nat) : Int) ((l.length : Int) - 1 - ((i + 1 : Nat) : Int))) (fun k => ?_) ih
        have hr1 := hr.1
        simp only [slices_Reverse_string_string.l0]
        rw [if_pos (by omega), if_pos (by omega), if_pos (by omega), if_pos (by omega), if_pos (by omega), w64 (by omega) (by omega), w64 (by omega) (by omega)]
        rw [show (l.length : Int) - 1 - (i : Int) = ((l.length - 1 - i : Nat) : Int) from by omega, rdOf_nat _ _ _ hx, rdOf_nat _ _ _ hy, Int.toNat_natCast, Int.toNat_natCast]
        congr 1
        omega
    · rw [← revUp_done hr (by omega)]
      refine Ev.step (f := fun _ => some xs) (fun k => ?_) (Ev.now _)
      simp only [slices_Reverse_string_string.l0]
      rw [if_neg (by omega)]
theorem Reverse_ev (l : List ByteArray) (hl : l.length ≤ 1000000) : Ev (fun k => slices_Reverse_string_string.f k l) l.reverse := by
  have h := Reverse_l0 l hl l.length 0 l (by omega) (by omega) ⟨rfl, fun j hj => by rw [if_neg (by omega)]⟩
  unfold slices_Reverse_string_string.f
  rw [w64 (by omega) (by omega)]
  simpa using h

/-! ### Fold, order, Less, Same -/
theorem Fold_ev (s : ByteArray) (hs : s.size ≤ 140737488355328) : Ev (fun k => name_Fold.f k s) (mkB (foldN (bl s))) := by
  unfold name_Fold.f
  refine Ev.bind (f := fun k t => (if t = true then ((name_fold.f s).bind fun t104 => (some t104)) else (some s))) (Valid_ev s hs) ?_
  unfold foldN
  by_cases h : valid (bl s) = true
  · rw [h, if_pos rfl]
    refine Ev.congr (f := fun _ => some (mkB (foldL (bl s)))) (fun k => ?_) (Ev.now _)
    unfold name_fold.f
    rw [if_pos hs]
    rfl
  · rw [if_neg h, Bool.eq_false_iff.2 h]
    exact Ev.now _

theorem labF_sizes : ∀ (f : Nat) (l : List UInt8) (ls : List (List UInt8)), labF f l = some ls → ls.length ≤ l.length ∧ ∀ x ∈ ls, x.length ≤ l.length
  | 0, _, _, h => by simp [labF] at h
  | _ + 1, [], _, h => by simp [labF] at h
  | f + 1, c :: r, ls, h => by
    unfold labF at h
    split at h
    · split at h
      · injection h with h; subst h; simp
      · cases h
    · split at h
      · cases h
      · split at h
        · cases h
        · obtain ⟨ls', h1, rfl⟩ := Option.map_eq_some_iff.1 h
          obtain ⟨i1, i2⟩ := labF_sizes f _ _ h1
          rw [List.length_drop] at i1 i2
          refine ⟨by simp; omega, fun x hx => ?_⟩
          rcases List.mem_cons.1 hx with rfl | hx
          · simp; omega
          · have := i2 x hx; simp; omega
theorem labs_sizes (l : List UInt8) : ((labs l).getD []).length ≤ 255 ∧ ∀ x ∈ (labs l).getD [], x.length ≤ 255 := by
  cases h : labs l with
  | none => simp
  | some ls =>
    unfold labs at h
    split at h
    · obtain ⟨h1, h2⟩ := labF_sizes _ _ _ h
      exact ⟨by simp; omega, fun x hx => Nat.le_trans (h2 x hx) (by assumption)⟩
    · cases h
theorem order_l0 (ls : List (List UInt8)) (h1 : ls.length ≤ 255) (h2 : ∀ x ∈ ls, x.length ≤ 255) : ∀ (d i : Nat) (acc : List ByteArray), ls.length - i = d → i ≤ ls.length → acc = bas ((ls.take i).map foldL) → Ev (fun k => name_order.l0 k acc (bas ls) ((bas ls).length : Int) (i : Int)) (bas (ls.reverse.map foldL))
  | 0, i, acc, hd, hi, ha => by
    obtain rfl : i = ls.length := by omega
    rw [List.take_length] at ha
    have hr := Reverse_ev acc (by rw [ha]; simp [bas]; omega)
    refine Ev.step (f := fun k => (slices_Reverse_string_string.f k acc).bind fun t137 => (some t137)) (fun k => ?_) ?_
    · simp only [name_order.l0]
      rw [if_neg (by simp [bas])]
    · refine Ev.bind (f := fun _ t137 => some t137) hr ?_
      rw [ha]
      simp only [bas, List.map_map, List.map_reverse]
      exact Ev.now _
  | d + 1, i, acc, hd, hi, ha => by
    have hlt : i < ls.length := by omega
    have hlt' : i < (bas ls).length := by simp [bas]; omega
    have ih := order_l0 ls h1 h2 d (i + 1) (acc ++ [mkB (foldL ls[i])]) (by omega) (by omega) (by rw [ha, List.take_succ_eq_append_getElem hlt, List.map_append]; simp only [bas, List.map_append]; rfl)
    have hal : acc.length ≤ 255 := by rw [ha]; simp [bas]; omega
    have hsz := h2 ls[i] (List.getElem_mem hlt)
    refine Ev.step (f := fun k => name_order.l0 k (acc ++ [mkB (foldL ls[i])]) (bas ls) ((bas ls).length : Int) ((i + 1 : Nat) : Int)) (fun k => ?_) ih
    simp only [name_order.l0]
    rw [if_pos (by omega), if_pos (by omega), if_pos (by omega), rdOf_nat _ _ _ hlt']
    have hg : (bas ls)[i] = mkB ls[i] := by simp [bas]
    rw [hg]
    unfold name_fold.f
    rw [if_pos (by rw [← bl_length, bl_mkB]; omega), bl_mkB]
    simp only [Option.bind_some]
    rw [if_pos (by omega), w64 (by omega) (by omega)]
    rfl
theorem order_ev (s : ByteArray) (hs : s.size ≤ 140737488355328) : Ev (fun k => name_order.f k s) (bas (keyOf (bl s))) := by
  unfold name_order.f
  refine Ev.bind (f := fun k t129 => name_order.l0 k ([] : List ByteArray) t129 (t129.length : Int) 0) (labels_ev s hs) ?_
  obtain ⟨h1, h2⟩ := labs_sizes (bl s)
  exact order_l0 _ h1 h2 _ 0 [] rfl (by omega) rfl
theorem bl_bas (ls : List (List UInt8)) : (bas ls).map bl = ls := by
  simp only [bas, List.map_map]
  exact (List.map_congr_left (fun x _ => bl_mkB x)).trans (List.map_id _)
theorem bas_length (ls : List (List UInt8)) : (bas ls).length = ls.length := by simp [bas]
theorem keyOf_length (l : List UInt8) : (keyOf l).length ≤ 255 := by
  have := (labs_sizes l).1
  simp [keyOf]; omega
theorem Less_ev (a b : ByteArray) (ha : a.size ≤ 140737488355328) (hb : b.size ≤ 140737488355328) : Ev (fun k => name_Less.f k a b) (lessN (bl a) (bl b)) := by
  unfold name_Less.f lessN
  refine Ev.bind (f := fun k t138 => (if t138 = true then ((name_Valid.f k b).bind fun t139 => (if t139 = true then ((name_order.f k a).bind fun t140 => ((name_order.f k b).bind fun t143 => ((slices_Compare_string_string.f k t140 t143).bind fun t146 => (some (decide (t146 < 0)))))) else (some false))) else (some false))) (Valid_ev a ha) ?_
  cases valid (bl a) with
  | false => exact Ev.congr (f := fun _ => some false) (fun k => if_neg (by decide)) (Ev.now _)
  | true =>
    refine Ev.congr (f := fun k => (name_Valid.f k b).bind fun t139 => (if t139 = true then ((name_order.f k a).bind fun t140 => ((name_order.f k b).bind fun t143 => ((slices_Compare_string_string.f k t140 t143).bind fun t146 => (some (decide (t146 < 0)))))) else (some false))) (fun k => if_pos rfl) ?_
    refine Ev.bind (f := fun k t139 => (if t139 = true then ((name_order.f k a).bind fun t140 => ((name_order.f k b).bind fun t143 => ((slices_Compare_string_string.f k t140 t143).bind fun t146 => (some (decide (t146 < 0)))))) else (some false))) (Valid_ev b hb) ?_
    cases valid (bl b) with
    | false => exact Ev.congr (f := fun _ => some false) (fun k => if_neg (by decide)) (Ev.now _)
    | true =>
      refine Ev.congr (f := fun k => (name_order.f k a).bind fun t140 => ((name_order.f k b).bind fun t143 => ((slices_Compare_string_string.f k t140 t143).bind fun t146 => (some (decide (t146 < 0)))))) (fun k => if_pos rfl) ?_
      refine Ev.bind (f := fun k t140 => ((name_order.f k b).bind fun t143 => ((slices_Compare_string_string.f k t140 t143).bind fun t146 => (some (decide (t146 < 0)))))) (order_ev a ha) ?_
      refine Ev.bind (f := fun k t143 => ((slices_Compare_string_string.f k (bas (keyOf (bl a))) t143).bind fun t146 => (some (decide (t146 < 0))))) (order_ev b hb) ?_
      have k1 := keyOf_length (bl a)
      have k2 := keyOf_length (bl b)
      refine Ev.bind (f := fun _ t146 => some (decide (t146 < 0))) (Compare_ev _ _ (by rw [bas_length]; omega) (by rw [bas_length]; omega)) ?_
      have : decide (cmpL (bas (keyOf (bl a))) (bas (keyOf (bl b))) < 0) = (true && true && lexLess (keyOf (bl a)) (keyOf (bl b))) := by
        rw [Bool.eq_iff_iff, decide_eq_true_iff, cmpL_less, bl_bas, bl_bas]
        simp
      rw [← this]
      exact Ev.now _
def ordP (a b : List UInt8) : Int := if lessN a b then -1 else if lessN b a then 1 else 0
theorem pick_order_ev (a b : ByteArray) (ha : a.size ≤ 140737488355328) (hb : b.size ≤ 140737488355328) : Ev (fun k => pick_order.f k a b) (ordP (bl a) (bl b)) := by
  unfold pick_order.f ordP
  refine Ev.bind (f := fun k t147 => (if t147 = true then (some (-1)) else ((name_Less.f k b a).bind fun t148 => (if t148 = true then (some 1) else (some 0))))) (Less_ev a b ha hb) ?_
  cases lessN (bl a) (bl b) with
  | true => exact Ev.congr (f := fun _ => some (-1)) (fun k => if_pos rfl) (Ev.now _)
  | false =>
    refine Ev.congr (f := fun k => (name_Less.f k b a).bind fun t148 => (if t148 = true then (some 1) else (some 0))) (fun k => if_neg (by decide)) ?_
    refine Ev.bind (f := fun _ t148 => (if t148 = true then (some (1 : Int)) else (some 0))) (Less_ev b a hb ha) ?_
    cases lessN (bl b) (bl a) with
    | true => exact Ev.now _
    | false => exact Ev.now _
theorem Same_ev (a b : ByteArray) (ha : a.size ≤ 140737488355328) (hb : b.size ≤ 140737488355328) : Ev (fun k => name_Same.f k a b) (sameN (bl a) (bl b)) := by
  unfold name_Same.f sameN
  refine Ev.bind (f := fun k t301 => (if t301 = true then ((name_Valid.f k b).bind fun t302 => (if t302 = true then ((name_fold.f a).bind fun t303 => ((name_fold.f b).bind fun t304 => (some (t303.toList == t304.toList)))) else (some false))) else (some false))) (Valid_ev a ha) ?_
  cases valid (bl a) with
  | false => exact Ev.congr (f := fun _ => some false) (fun k => if_neg (by decide)) (Ev.now _)
  | true =>
    refine Ev.congr (f := fun k => (name_Valid.f k b).bind fun t302 => (if t302 = true then ((name_fold.f a).bind fun t303 => ((name_fold.f b).bind fun t304 => (some (t303.toList == t304.toList)))) else (some false))) (fun k => if_pos rfl) ?_
    refine Ev.bind (f := fun k t302 => (if t302 = true then ((name_fold.f a).bind fun t303 => ((name_fold.f b).bind fun t304 => (some (t303.toList == t304.toList)))) else (some false))) (Valid_ev b hb) ?_
    cases valid (bl b) with
    | false => exact Ev.congr (f := fun _ => some false) (fun k => if_neg (by decide)) (Ev.now _)
    | true =>
      refine Ev.congr (f := fun _ => some (true && true && (foldL (bl a) == foldL (bl b)))) (fun k => ?_) (Ev.now _)
      rw [if_pos rfl]
      unfold name_fold.f
      rw [if_pos ha, if_pos hb]
      simp only [Option.bind_some, bl_toList, bl_mkB]
      rfl

end Go.Proofs.YtjiheepiobffkaaGreat.Fr
