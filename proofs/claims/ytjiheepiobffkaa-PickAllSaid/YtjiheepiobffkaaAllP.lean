/-
  The law PickAll in plain words: each address is asked once, and in the end nobody is left; whose addresses are not known is told, one after another.
-/
import Derived.Test.YtjiheepiobffkaaAllTell
import Derived.Test.YtjiheepiobffkaaMissing
namespace Go.Proofs.Ytjiheepiobffkaa.Fr
open Go.RowKit Go.Proofs.YtjiheepiobffkaaW.PrintWords Go.Proofs.Ytjiheepiobffkaa.Pr
open Go.Sort hiding rd
open Go.Lib

def namesA (n : Nat) : List ByteArray := (List.range n).map nm
theorem namesA_length (n : Nat) : (namesA n).length = n := by simp [namesA]
theorem namesA_mem (n : Nat) (x : ByteArray) : x ∈ namesA n ↔ ∃ j, j < n ∧ x = nm j := by
  unfold namesA
  rw [List.mem_map]
  constructor
  · rintro ⟨j, hj, rfl⟩; exact ⟨j, List.mem_range.1 hj, rfl⟩
  · rintro ⟨j, hj, rfl⟩; exact ⟨j, List.mem_range.2 hj, rfl⟩
theorem targets_A (n : Nat) (hn : n ≤ 12) : targetsR (setR (namesA n)) = namesA n := by
  have hg : ∀ x ∈ namesA n, good x := fun x hx => by
    obtain ⟨j, hj, rfl⟩ := (namesA_mem n x).1 hx
    exact nm_good j (by omega)
  rw [set_once _ hg]
  refine good_once _ hg _ ?_ hg (fun z => Iff.rfl)
  unfold namesA
  rw [List.pairwise_map]
  refine List.Pairwise.imp_of_mem ?_ (List.pairwise_lt_range (n := n))
  intro i j hi hj hij
  have := List.mem_range.1 hi
  have := List.mem_range.1 hj
  exact nm_lt i (by omega) j (by omega) hij

/-! ### the unlike addresses -/
def metA (l : List Int) (n i : Nat) (u : List Int) : Bool := decide (i % n = n - 1) || u.any (fun x => x == rn (l.getD i 0))
def unl (l : List Int) (n : Nat) : Nat → List Int
  | 0 => []
  | i + 1 => if metA l n i (unl l n i) = true then unl l n i else unl l n i ++ [rn (l.getD i 0)]
theorem unl_length (l : List Int) (n : Nat) : ∀ k, (unl l n k).length ≤ k
  | 0 => Nat.le_refl _
  | k + 1 => by
    have := unl_length l n k
    unfold unl
    split
    · omega
    · rw [List.length_append, List.length_singleton]; omega
theorem unl_mem (l : List Int) (n : Nat) (a : Int) : ∀ k, a ∈ unl l n k ↔ ∃ i, i < k ∧ i % n ≠ n - 1 ∧ a = rn (l.getD i 0)
  | 0 => by simp [unl]
  | k + 1 => by
    have ih := unl_mem l n a k
    unfold unl
    split
    · rename_i h
      rw [ih]
      constructor
      · rintro ⟨i, h1, h2, h3⟩; exact ⟨i, by omega, h2, h3⟩
      · rintro ⟨i, h1, h2, h3⟩
        rcases Nat.lt_or_ge i k with hik | hik
        · exact ⟨i, hik, h2, h3⟩
        · obtain rfl : i = k := by omega
          simp only [metA, Bool.or_eq_true, decide_eq_true_eq, List.any_eq_true, beq_iff_eq] at h
          rcases h with h | ⟨x, hx, rfl⟩
          · exact absurd h h2
          · rw [← h3] at hx
            exact ih.1 hx
    · rename_i h
      simp only [metA, Bool.or_eq_true, decide_eq_true_eq, not_or] at h
      rw [List.mem_append, List.mem_singleton, ih]
      constructor
      · rintro (⟨i, h1, h2, h3⟩ | rfl)
        · exact ⟨i, by omega, h2, h3⟩
        · exact ⟨k, by omega, h.1, rfl⟩
      · rintro ⟨i, h1, h2, h3⟩
        rcases Nat.lt_or_ge i k with hik | hik
        · exact .inl ⟨i, hik, h2, h3⟩
        · obtain rfl : i = k := by omega
          exact .inr h3
theorem unl_nodup (l : List Int) (n : Nat) : ∀ k, (unl l n k).Nodup
  | 0 => List.nodup_nil
  | k + 1 => by
    have ih := unl_nodup l n k
    unfold unl
    split
    · exact ih
    · rename_i h
      simp only [metA, Bool.or_eq_true, decide_eq_true_eq, not_or, List.any_eq_true, beq_iff_eq, not_exists, not_and] at h
      refine List.nodup_append.2 ⟨ih, by simp, ?_⟩
      intro a ha b hb e
      rw [List.mem_singleton] at hb
      exact h.2 a ha (by rw [e, hb])

theorem nodup_sub {α : Type} [DecidableEq α] : ∀ (u v : List α), u.Nodup → (∀ x ∈ u, x ∈ v) → u.length ≤ v.length
  | [], _, _, _ => Nat.zero_le _
  | x :: u, v, hn, h => by
    obtain ⟨h1, h2⟩ := List.nodup_cons.1 hn
    have hx := h x List.mem_cons_self
    have ih := nodup_sub u (v.erase x) h2 (fun y hy => (List.mem_erase_of_ne (fun e => h1 (by rw [← e]; exact hy))).2 (h y (List.mem_cons_of_mem _ hy)))
    rw [List.length_erase_of_mem hx] at ih
    have : 0 < v.length := List.length_pos_of_mem hx
    rw [List.length_cons]; omega

/-! ### who is asked -/
def servA (l : List Int) (n : Nat) : List S25 := serversR (TA l n) (namesA n)
theorem uniq_mem (l : List Int) (a : Int) : a ∈ uniq l ↔ a ∈ l := by
  rw [uniq_eq]; exact allU_mem total_ints l a
theorem TA_mem (l : List Int) (n : Nat) (s : ByteArray) (a : Int) : a ∈ TA l n s ↔ ∃ i, i < l.length ∧ isA n s i = true ∧ a = rn (l.getD i 0) := by
  unfold TA TAk
  rw [List.mem_map]
  constructor
  · rintro ⟨i, hi, rfl⟩
    obtain ⟨h1, h2⟩ := List.mem_filter.1 hi
    exact ⟨i, List.mem_range.1 h1, h2, rfl⟩
  · rintro ⟨i, h1, h2, rfl⟩
    exact ⟨i, List.mem_filter.2 ⟨List.mem_range.2 h1, h2⟩, rfl⟩
theorem servA_mem (l : List Int) (n : Nat) (hn : 1 ≤ n) (a : Int) : (∃ s ∈ servA l n, s.f1 = a) ↔ a ∈ unl l n l.length := by
  rw [unl_mem]
  unfold servA serversR
  constructor
  · rintro ⟨s, hs, rfl⟩
    obtain ⟨m, hm, hs⟩ := List.mem_flatMap.1 hs
    obtain ⟨b, hb, rfl⟩ := List.mem_map.1 hs
    rw [uniq_mem, TA_mem] at hb
    obtain ⟨i, h1, h2, rfl⟩ := hb
    simp only [isA, Bool.and_eq_true, decide_eq_true_eq] at h2
    exact ⟨i, h1, by omega, rfl⟩
  · rintro ⟨i, h1, h2, rfl⟩
    have hlt : i % n < n := Nat.mod_lt _ (by omega)
    refine ⟨⟨nm (i % n), rn (l.getD i 0)⟩, List.mem_flatMap.2 ⟨nm (i % n), (namesA_mem n _).2 ⟨_, hlt, rfl⟩, List.mem_map.2 ⟨_, ?_, rfl⟩⟩, rfl⟩
    rw [uniq_mem, TA_mem]
    exact ⟨i, h1, by simp only [isA, Bool.and_eq_true, decide_eq_true_eq]; exact ⟨by omega, trivial⟩, rfl⟩
/-- What holds of those that were asked. -/
structure AskedA (l : List Int) (n : Nat) (t : List S25) : Prop where
  nodup : (t.map (·.f1)).Nodup
  sub : ∀ s ∈ t, s ∈ servA l n
theorem askedA_step {l : List Int} {n : Nat} (hn : 1 ≤ n) {t : List S25} (h : AskedA l n t) (hlt : t.length < (unl l n l.length).length) : ∃ x, nextR (servA l n) t = (x, true) ∧ AskedA l n (t ++ [x]) := by
  have hex : ∃ s ∈ servA l n, s.f1 ∉ t.map (·.f1) := by
    apply Classical.byContradiction
    intro hc
    have hall : ∀ a ∈ unl l n l.length, a ∈ t.map (·.f1) := by
      intro a ha
      obtain ⟨s, hs, rfl⟩ := (servA_mem l n hn a).2 ha
      apply Classical.byContradiction
      intro hn'
      exact hc ⟨s, hs, hn'⟩
    have := nodup_sub _ _ (unl_nodup l n l.length) hall
    rw [List.length_map] at this
    omega
  obtain ⟨s, hs, hna⟩ := hex
  have hany : ∀ s : S25, t.any (fun x => x.f1 == s.f1) = decide (s.f1 ∈ t.map (·.f1)) := by
    intro s
    rw [Bool.eq_iff_iff, decide_eq_true_iff, List.any_eq_true, List.mem_map]
    constructor
    · rintro ⟨x, hx, he⟩; exact ⟨x, hx, beq_iff_eq.1 he⟩
    · rintro ⟨x, hx, he⟩; exact ⟨x, hx, beq_iff_eq.2 he⟩
  cases hf : (servA l n).find? (fun s => !t.any (fun x => x.f1 == s.f1)) with
  | none =>
    rw [List.find?_eq_none] at hf
    have := hf s hs
    rw [hany, decide_eq_false hna] at this
    simp at this
  | some x =>
    have hx := List.mem_of_find?_eq_some hf
    have hp := List.find?_some hf
    simp only [hany] at hp
    refine ⟨x, by unfold nextR; rw [hf], ⟨?_, ?_⟩⟩
    · rw [List.map_append, List.map_singleton]
      refine List.nodup_append.2 ⟨h.nodup, by simp, ?_⟩
      intro a ha b hb e
      rw [List.mem_singleton] at hb
      rw [e, hb] at ha
      rw [decide_eq_true ha] at hp
      cases hp
    · intro y hy
      rcases List.mem_append.1 hy with hy | hy
      · exact h.sub y hy
      · rw [List.mem_singleton.1 hy]; exact hx
theorem askedA_end {l : List Int} {n : Nat} (hn : 1 ≤ n) {t : List S25} (h : AskedA l n t) (he : t.length = (unl l n l.length).length) : nextR (servA l n) t = (z25, false) := by
  have hsub : ∀ a ∈ t.map (·.f1), a ∈ unl l n l.length := by
    intro a ha
    obtain ⟨s, hs, rfl⟩ := List.mem_map.1 ha
    exact (servA_mem l n hn _).1 ⟨s, h.sub s hs, rfl⟩
  have hall : ∀ s ∈ servA l n, s.f1 ∈ t.map (·.f1) := by
    intro s hs
    apply Classical.byContradiction
    intro hna
    have hu := (servA_mem l n hn _).1 ⟨s, hs, rfl⟩
    have := nodup_sub (s.f1 :: t.map (·.f1)) _ (List.nodup_cons.2 ⟨hna, h.nodup⟩) (fun x hx => by
      rcases List.mem_cons.1 hx with rfl | hx
      · exact hu
      · exact hsub x hx)
    rw [List.length_cons, List.length_map] at this
    omega
  have hf : (servA l n).find? (fun s => !t.any (fun x => x.f1 == s.f1)) = none := by
    rw [List.find?_eq_none]
    intro s hs
    obtain ⟨x, hx, hxe⟩ := List.mem_map.1 (hall s hs)
    have : t.any (fun x => x.f1 == s.f1) = true := List.any_eq_true.2 ⟨x, hx, beq_iff_eq.2 hxe⟩
    rw [this]; simp
  unfold nextR
  rw [hf]
theorem askedA_nil (l : List Int) (n : Nat) : AskedA l n [] := ⟨List.nodup_nil, fun s hs => absurd hs (by simp)⟩

/-! ### whose addresses are missing -/
def kA (l : List Int) (n k : Nat) : List Nat := (List.range k).filter fun j => (TA l n (nm j)).length == 0
theorem kA_succ (l : List Int) (n k : Nat) : (kA l n (k + 1)).length = (kA l n k).length + (if (TA l n (nm k)).length = 0 then 1 else 0) := by
  unfold kA
  rw [List.range_succ, List.filter_append, List.length_append, List.filter_cons, List.filter_nil]
  by_cases h : (TA l n (nm k)).length = 0
  · rw [if_pos (by simpa using h), if_pos h]; rfl
  · rw [if_neg (by simpa using h), if_neg h]; rfl
theorem kA_length (l : List Int) (n k : Nat) : (kA l n k).length ≤ k := by
  have := List.length_filter_le (fun j => (TA l n (nm j)).length == 0) (List.range k)
  simpa [kA] using this
theorem uniq_zero (l : List Int) : ((uniq l).length == 0) = (l.length == 0) := by
  cases l with
  | nil => rw [uniq_nil]
  | cons x r =>
    have hx : x ∈ uniq (x :: r) := (uniq_mem _ _).2 List.mem_cons_self
    cases hu : uniq (x :: r) with
    | nil => rw [hu] at hx; cases hx
    | cons y q => rfl
theorem missing_A (l : List Int) (n : Nat) (hn : n ≤ 12) (i : Nat) :
    missingR (TA l n) (namesA n) (((kA l n n).take i).map nm) = match (kA l n n)[i]? with
      | some k => (nm k, true)
      | none => (⟨#[]⟩, false) := by
  have hk : ∀ k ∈ kA l n n, k < n := fun k h => List.mem_range.1 (List.mem_filter.1 h).1
  have hnd : (kA l n n).Nodup := (List.nodup_range (n := n)).filter _
  have hsm : ∀ k, k < 12 → ∀ j, j < 12 → sameN (bl (nm k)) (bl (nm j)) = decide (k = j) := ask_same false
  have hP : ∀ j, j < n → missP (TA l n) (((kA l n n).take i).map nm) (nm j) = (((TA l n (nm j)).length == 0) && decide (j ∉ (kA l n n).take i)) := by
    intro j hj
    unfold missP
    rw [uniq_zero]
    congr 1
    rw [Bool.eq_iff_iff, decide_eq_true_iff, Bool.not_eq_true', ← Bool.not_eq_true, List.any_eq_true]
    refine not_congr ⟨?_, ?_⟩
    · rintro ⟨x, hx, hs'⟩
      obtain ⟨k, hkm, rfl⟩ := List.mem_map.1 hx
      have hk12 := hk k (List.mem_of_mem_take hkm)
      rw [hsm k (by omega) j (by omega), decide_eq_true_iff] at hs'
      subst hs'
      exact hkm
    · intro hjm
      exact ⟨nm j, List.mem_map.2 ⟨j, hjm, rfl⟩, by rw [hsm j (by omega) j (by omega)]; simp⟩
  have hfind : (namesA n).find? (missP (TA l n) (((kA l n n).take i).map nm)) = ((kA l n n)[i]?).map nm := by
    unfold namesA
    rw [List.find?_map]
    congr 1
    have h1 : (List.range n).find? (missP (TA l n) (((kA l n n).take i).map nm) ∘ nm) = (List.range n).find? (fun j => ((TA l n (nm j)).length == 0) && decide (j ∉ (kA l n n).take i)) := by
      have : ∀ m : List Nat, (∀ j ∈ m, j < n) → m.find? (missP (TA l n) (((kA l n n).take i).map nm) ∘ nm) = m.find? (fun j => ((TA l n (nm j)).length == 0) && decide (j ∉ (kA l n n).take i)) := by
        intro m
        induction m with
        | nil => intro _; rfl
        | cons j m ih =>
          intro h
          rw [List.find?_cons, List.find?_cons, Function.comp_apply, hP j (h j List.mem_cons_self), ih (fun x hx => h x (List.mem_cons_of_mem _ hx))]
      exact this _ (fun j hj => List.mem_range.1 hj)
    rw [h1]
    have h2 := List.find?_filter (xs := List.range n) (p := fun j => (TA l n (nm j)).length == 0) (q := fun j => decide (j ∉ (kA l n n).take i))
    have h3 : ((List.range n).filter fun j => (TA l n (nm j)).length == 0) = kA l n n := rfl
    rw [h3] at h2
    have h4 : (List.range n).find? (fun j => ((TA l n (nm j)).length == 0) && decide (j ∉ (kA l n n).take i)) = (kA l n n).find? (fun j => decide (j ∉ (kA l n n).take i)) := by
      rw [h2]
      congr 1
      funext j
      rw [Bool.decide_and, Bool.decide_eq_true, Bool.decide_eq_true]
    rw [h4]
    generalize kA l n n = K at hnd
    conv => lhs; arg 2; rw [← List.take_append_drop i K]
    rw [List.find?_append]
    have h5 : (K.take i).find? (fun j => decide (j ∉ K.take i)) = none := by
      rw [List.find?_eq_none]
      intro x hx
      simp [hx]
    rw [h5, Option.none_or]
    cases hd : K.drop i with
    | nil =>
      have := List.drop_eq_nil_iff.1 hd
      rw [List.getElem?_eq_none this]
      rfl
    | cons x r =>
      have hx : K[i]? = some x := by
        have := congrArg List.head? hd
        rw [List.head?_drop] at this
        simpa using this
      rw [hx, List.find?_cons]
      have hxn : x ∉ K.take i := by
        intro hm
        have hnd2 := hnd
        rw [← List.take_append_drop i K, hd] at hnd2
        exact (List.nodup_append.1 hnd2).2.2 x hm x List.mem_cons_self rfl
      rw [decide_eq_true hxn]
  unfold missingR
  rw [hfind]
  cases (kA l n n)[i]? with
  | none => rfl
  | some k => rfl
end Go.Proofs.Ytjiheepiobffkaa.Fr
