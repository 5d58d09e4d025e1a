/-
  A list sorted and each once, one after another: what is put in its place.
-/
import Derived.Test.YtjiheepiobffkaaGreatPickQ
namespace Go.Proofs.YtjiheepiobffkaaGreat.Fr

theorem allU_snoc {α : Type} [DecidableEq α] (lt : α → α → Bool) (l : List α) (x : α) : allU lt (l ++ [x]) = insU lt x (allU lt l) := by
  unfold allU
  rw [List.foldl_append]
  rfl
theorem insU_length {α : Type} [DecidableEq α] (lt : α → α → Bool) (x : α) : ∀ l : List α, (insU lt x l).length ≤ l.length + 1
  | [] => by simp [insU]
  | y :: r => by
    have := insU_length lt x r
    unfold insU
    split
    · simp only [List.length_cons]; omega
    · split <;> simp
theorem allU_length {α : Type} [DecidableEq α] (lt : α → α → Bool) (l : List α) : (allU lt l).length ≤ l.length := by
  unfold allU
  have : ∀ (l acc : List α), (l.foldl (fun acc x => insU lt x acc) acc).length ≤ l.length + acc.length := by
    intro l
    induction l with
    | nil => intro acc; simp
    | cons x l ih =>
      intro acc
      have h1 := ih (insU lt x acc)
      have h2 := insU_length lt x acc
      simp only [List.foldl_cons, List.length_cons]
      omega
  have := this l []
  simpa using this
theorem allU_sub {α : Type} [DecidableEq α] (lt : α → α → Bool) (l : List α) (z : α) : z ∈ allU lt l ↔ z ∈ l := by
  unfold allU
  have : ∀ (l acc : List α), z ∈ l.foldl (fun acc x => insU lt x acc) acc ↔ z ∈ l ∨ z ∈ acc := by
    intro l
    induction l with
    | nil => intro acc; simp
    | cons x l ih =>
      intro acc
      rw [List.foldl_cons, ih, insU_mem, List.mem_cons]
      constructor
      · rintro (h | h | h)
        · exact .inl (.inr h)
        · exact .inl (.inl h)
        · exact .inr h
      · rintro ((h | h) | h)
        · exact .inr (.inl h)
        · exact .inl h
        · exact .inr (.inr h)
  have := this l []
  simpa using this
/-- Where the loop over what is there ends. -/
theorem insU_at {α : Type} [DecidableEq α] (lt : α → α → Bool) (x : α) : ∀ (l : List α) (k : Nat), k ≤ l.length → (∀ j (hj : j < l.length), j < k → lt l[j] x = true) → (∀ h : k < l.length, lt l[k] x = false) →
    insU lt x l = if h : k < l.length then (if l[k] = x then l else l.take k ++ x :: l.drop k) else l.take k ++ x :: l.drop k
  | [], k, hk, _, _ => by
    obtain rfl : k = 0 := by simpa using hk
    rfl
  | y :: r, 0, _, _, h => by
    have := h (by simp)
    simp only [List.getElem_cons_zero] at this
    simp [insU, this]
  | y :: r, k + 1, hk, h1, h2 => by
    have h0 := h1 0 (by simp) (by omega)
    simp only [List.getElem_cons_zero] at h0
    have ih := insU_at lt x r k (by simpa using hk) (fun j hj hjk => by have := h1 (j + 1) (by simpa using hj) (by omega); simpa using this) (fun h => by have := h2 (by simpa using h); simpa using this)
    simp only [insU, h0, if_true, ih, List.length_cons, Nat.add_lt_add_iff_right, List.getElem_cons_succ]
    by_cases h : k < r.length
    · rw [dif_pos h, dif_pos h]
      by_cases he : r[k] = x
      · rw [if_pos he, if_pos he]
      · rw [if_neg he, if_neg he]; rfl
    · rw [dif_neg h, dif_neg h]; rfl

end Go.Proofs.YtjiheepiobffkaaGreat.Fr
