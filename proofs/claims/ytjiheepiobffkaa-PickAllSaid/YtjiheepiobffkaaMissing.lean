/-
  The law PickMissing: walked, and in plain words.
-/
import Derived.Test.YtjiheepiobffkaaMissTell
import Derived.Test.YtjiheepiobffkaaPickOrder
namespace Go.Proofs.Ytjiheepiobffkaa.Fr
open Go.RowKit Go.Proofs.YtjiheepiobffkaaW.PrintWords Go.Proofs.YtjiheepiobffkaaW.PrintLast Go.Proofs.YtjiheepiobffkaaW.PrintMore Go.Proofs.Ytjiheepiobffkaa.Pr
open Go.Sort hiding rd
open Go.Lib

/-! ### in plain words -/
def lM : Nat → List ByteArray
  | 0 => []
  | i + 1 => nm i :: nm i :: lM i
def kM (hs : List Bool) (i : Nat) : List Nat := (List.range i).filter fun j => !hs.getD j false
def wM (hs : List Bool) (i : Nat) : List ByteArray := (kM hs i).map nm
/-- In great letters. -/
def nmU (i : Nat) : ByteArray := ⟨#[1, UInt8.ofNat (65 + i), 0]⟩
def askM (up : Bool) (i : Nat) : ByteArray := if up then nmU i else nm i

theorem nm_good : ∀ i, i < 12 → good (nm i) := by decide +kernel
theorem nm_inj : ∀ i, i < 12 → ∀ j, j < 12 → nm i = nm j → i = j := by decide +kernel
theorem nm_lt : ∀ i, i < 12 → ∀ j, j < 12 → i < j → ltN (nm i) (nm j) = true := by decide +kernel
theorem ask_same : ∀ up : Bool, ∀ i, i < 12 → ∀ j, j < 12 → sameN (bl (askM up i)) (bl (nm j)) = decide (i = j) := by decide +kernel
theorem ask_size : ∀ up : Bool, ∀ i, i < 12 → (askM up i).size = 3 := by decide +kernel

theorem lM_mem (i : Nat) (x : ByteArray) : x ∈ lM i ↔ ∃ j, j < i ∧ x = nm j := by
  induction i with
  | zero => simp [lM]
  | succ i ih =>
    simp only [lM, List.mem_cons, ih]
    constructor
    · rintro (h | h | ⟨j, h1, h2⟩)
      · exact ⟨i, by omega, h⟩
      · exact ⟨i, by omega, h⟩
      · exact ⟨j, by omega, h2⟩
    · rintro ⟨j, h1, h2⟩
      rcases Nat.lt_or_ge j i with h | h
      · exact .inr (.inr ⟨j, h, h2⟩)
      · obtain rfl : j = i := by omega
        exact .inl h2
theorem lM_length (i : Nat) : (lM i).length = 2 * i := by
  induction i with
  | zero => rfl
  | succ i ih => simp only [lM, List.length_cons, ih]; omega
theorem targets_M (n : Nat) (hn : n ≤ 12) : targetsR (setR (lM n)) = (List.range n).map nm := by
  have hg : ∀ x ∈ lM n, good x := fun x hx => by
    obtain ⟨j, hj, rfl⟩ := (lM_mem n x).1 hx
    exact nm_good j (by omega)
  rw [set_once _ hg]
  refine good_once _ hg _ ?_ (fun x hx => ?_) (fun z => ?_)
  · rw [List.pairwise_map]
    refine List.Pairwise.imp_of_mem ?_ (List.pairwise_lt_range (n := n))
    intro i j hi hj hij
    have := List.mem_range.1 hi
    have := List.mem_range.1 hj
    exact nm_lt i (by omega) j (by omega) hij
  · obtain ⟨j, hj, rfl⟩ := List.mem_map.1 hx
    exact nm_good j (by have := List.mem_range.1 hj; omega)
  · rw [lM_mem, List.mem_map]
    constructor
    · rintro ⟨j, hj, rfl⟩
      exact ⟨j, List.mem_range.1 hj, rfl⟩
    · rintro ⟨j, hj, rfl⟩
      exact ⟨j, List.mem_range.2 hj, rfl⟩
theorem TM_nm (hs : List Bool) (hl : hs.length ≤ 12) (j : Nat) (hj : j < hs.length) : TM hs (nm j) = if hs.getD j false = true then [(j : Int)] else [] := by
  unfold TM
  cases hv : hs.getD j false with
  | true =>
    have : (List.range hs.length).find? (fun i => hs.getD i false && decide (nm j = nm i)) = some j := by
      rw [List.find?_eq_some_iff_getElem]
      refine ⟨by rw [hv, decide_eq_true rfl]; rfl, j, by simpa using hj, by simp, fun i hi => ?_⟩
      rw [List.getElem_range, decide_eq_false (fun e => by have := nm_inj j (by omega) i (by omega) e; omega), Bool.and_false]
      rfl
    rw [this]
    rfl
  | false =>
    have : (List.range hs.length).find? (fun i => hs.getD i false && decide (nm j = nm i)) = none := by
      rw [List.find?_eq_none]
      intro i hi
      have hi := List.mem_range.1 hi
      by_cases h : i = j
      · subst h; rw [hv]; simp
      · rw [decide_eq_false (fun e => by have := nm_inj j (by omega) i (by omega) e; omega), Bool.and_false]; simp
    rw [this]
    rfl
theorem missing_M (hs : List Bool) (hl : hs.length ≤ 12) (up : Bool) (i : Nat) :
    missingR (TM hs) ((List.range hs.length).map nm) (((kM hs hs.length).take i).map (askM up)) = match (kM hs hs.length)[i]? with
      | some k => (nm k, true)
      | none => (⟨#[]⟩, false) := by
  have hk : ∀ k ∈ kM hs hs.length, k < hs.length := fun k h => List.mem_range.1 (List.mem_filter.1 h).1
  have hnd : (kM hs hs.length).Nodup := (List.nodup_range (n := hs.length)).filter _
  have hP : ∀ j, j < hs.length → missP (TM hs) (((kM hs hs.length).take i).map (askM up)) (nm j) = ((!hs.getD j false) && decide (j ∉ (kM hs hs.length).take i)) := by
    intro j hj
    unfold missP
    have h1 : ((uniq (TM hs (nm j))).length == 0) = !hs.getD j false := by
      rw [TM_nm hs hl j hj]
      cases hs.getD j false with
      | true => rw [if_pos rfl, uniq_eq]; rfl
      | false => rw [if_neg (by decide), uniq_nil]; rfl
    rw [h1]
    congr 1
    rw [Bool.eq_iff_iff, decide_eq_true_iff, Bool.not_eq_true', ← Bool.not_eq_true, List.any_eq_true]
    refine not_congr ⟨?_, ?_⟩
    · rintro ⟨x, hx, hs'⟩
      obtain ⟨k, hkm, rfl⟩ := List.mem_map.1 hx
      have hk12 := hk k (List.mem_of_mem_take hkm)
      rw [ask_same up k (by omega) j (by omega), decide_eq_true_iff] at hs'
      subst hs'
      exact hkm
    · intro hjm
      exact ⟨askM up j, List.mem_map.2 ⟨j, hjm, rfl⟩, by rw [ask_same up j (by omega) j (by omega)]; simp⟩
  have hfind : ((List.range hs.length).map nm).find? (missP (TM hs) (((kM hs hs.length).take i).map (askM up))) = ((kM hs hs.length)[i]?).map nm := by
    rw [List.find?_map]
    congr 1
    have h1 : (List.range hs.length).find? (missP (TM hs) (((kM hs hs.length).take i).map (askM up)) ∘ nm) = (List.range hs.length).find? (fun j => (!hs.getD j false) && decide (j ∉ (kM hs hs.length).take i)) := by
      have : ∀ l : List Nat, (∀ j ∈ l, j < hs.length) → l.find? (missP (TM hs) (((kM hs hs.length).take i).map (askM up)) ∘ nm) = l.find? (fun j => (!hs.getD j false) && decide (j ∉ (kM hs hs.length).take i)) := by
        intro l
        induction l with
        | nil => intro _; rfl
        | cons j l ih =>
          intro h
          rw [List.find?_cons, List.find?_cons, Function.comp_apply, hP j (h j List.mem_cons_self), ih (fun x hx => h x (List.mem_cons_of_mem _ hx))]
      exact this _ (fun j hj => List.mem_range.1 hj)
    rw [h1]
    have h2 := List.find?_filter (xs := List.range hs.length) (p := fun j => !hs.getD j false) (q := fun j => decide (j ∉ (kM hs hs.length).take i))
    have h3 : ((List.range hs.length).filter fun j => !hs.getD j false) = kM hs hs.length := rfl
    rw [h3] at h2
    have h4 : (List.range hs.length).find? (fun j => (!hs.getD j false) && decide (j ∉ (kM hs hs.length).take i)) = (kM hs hs.length).find? (fun j => decide (j ∉ (kM hs hs.length).take i)) := by
      rw [h2]
      congr 1
      funext j
      simp
    rw [h4]
    generalize kM hs hs.length = K at hnd
    conv => lhs; arg 2; rw [← List.take_append_drop i K]
    rw [List.find?_append]
    have h5 : (K.take i).find? (fun j => decide (j ∉ K.take i)) = none := by
      rw [List.find?_eq_none]
      intro x hx
      simp [hx]
    rw [h5, Option.none_or]
    cases hd : K.drop i with
    | nil =>
      have := List.drop_eq_nil_iff.1 hd
      rw [List.getElem?_eq_none this]
      rfl
    | cons x r =>
      have hx : K[i]? = some x := by
        have := congrArg List.head? hd
        rw [List.head?_drop] at this
        simpa using this
      rw [hx, List.find?_cons]
      have hxn : x ∉ K.take i := by
        intro hm
        have hnd2 := hnd
        rw [← List.take_append_drop i K, hd] at hnd2
        exact (List.nodup_append.1 hnd2).2.2 x hm x List.mem_cons_self rfl
      rw [decide_eq_true hxn]
  unfold missingR
  rw [hfind]
  cases (kM hs hs.length)[i]? with
  | none => rfl
  | some k => rfl

end Go.Proofs.Ytjiheepiobffkaa.Fr
