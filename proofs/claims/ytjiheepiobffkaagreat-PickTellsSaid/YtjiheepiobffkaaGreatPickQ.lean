/-
  What pick.Targets and pick.Hints come to, in plain words.
  A list sorted and each once: the library's way (sort, then compact) and the document's (one after another, put in its place) come to one.
  The law's sets of targets, and its comparison of servers.
-/
import Derived.Test.YtjiheepiobffkaaGreatPr10
import Derived.Test.YtjiheepiobffkaaGreatPickF
namespace Go.Proofs.YtjiheepiobffkaaGreat.Fr
open Go.RowKit Go.Proofs.YtjiheepiobffkaaGreatW.PrintWords Go.Proofs.YtjiheepiobffkaaGreat.Pr
open Go.Sort hiding rd
open Go.Lib

theorem good_fold {s : ByteArray} (h : valid (bl s) = true) : good (mkB (foldN (bl s))) := by
  unfold good foldN
  rw [if_pos h, bl_mkB, valid_fold, foldL_idem]
  exact ⟨h, rfl⟩

theorem placesL_valid : ∀ (n : Nat) (l : List UInt8) (i : Nat) (d : List UInt8), l = d.drop i → ∀ r, placesL n l i = some r → ∀ x ∈ r.1, valid ((d.drop x.1).take x.2) = true
  | 0, l, i, d, _, r, h, x, hx => by
    simp only [placesL, Option.some.injEq] at h
    subst h
    simp at hx
  | n + 1, l, i, d, hl, r, h, x, hx => by
    unfold placesL at h
    split at h
    · cases h
    · rename_i k hk
      obtain ⟨r', h', rfl⟩ := Option.map_eq_some_iff.1 h
      rcases List.mem_cons.1 hx with rfl | hx
      · rw [← hl]; exact lead_name hk
      · exact placesL_valid n (l.drop k) (i + k) d (by rw [hl, List.drop_drop]) r' h' x hx
theorem targetR_valid {t : Int} {d : ByteArray} (h : (targetR t d).2 = true) : valid (bl (targetR t d).1) = true := by
  unfold targetR at h ⊢
  split at h
  · rename_i n hn
    show valid n = true
    unfold targetP at hn
    split at hn
    · cases hn
    · obtain ⟨x, hx, rfl⟩ := Option.map_eq_some_iff.1 hn
      have hm := List.mem_of_mem_head? hx
      unfold namesP at hm
      split at hm
      · unfold placesR at hm
        split at hm
        · simp at hm
        · split at hm
          · simp at hm
          · split at hm
            · simp at hm
            · rename_i hp
              exact placesL_valid _ _ _ (bl d) rfl _ hp x hm
      · simp at hm
  · cases h
theorem targetR_size (t : Int) (d : ByteArray) : (targetR t d).1.size ≤ d.size := by
  rw [← bl_length, ← bl_length]
  unfold targetR
  split
  · rename_i n hn
    rw [bl_mkB]
    unfold targetP at hn
    split at hn
    · cases hn
    · obtain ⟨x, _, rfl⟩ := Option.map_eq_some_iff.1 hn
      simp; omega
  · simp [bl_mkB]

/-! ### Targets -/
def toR (r : S43) : Option ByteArray := if (targetR r.f1 r.f4).2 = true then some (mkB (foldN (bl (targetR r.f1 r.f4).1))) else none
def colR (rs : List S43) : List ByteArray := rs.filterMap toR
def targetsR (rs : List S43) : List ByteArray := compact ((colR rs).mergeSort leN)
theorem colR_good (rs : List S43) : ∀ x ∈ colR rs, good x := by
  intro x hx
  obtain ⟨r, _, hr⟩ := List.mem_filterMap.1 hx
  unfold toR at hr
  split at hr
  · rename_i h
    injection hr with hr
    subst hr
    exact good_fold (targetR_valid h)
  · cases hr
theorem rd_RR (l : List S43) (i : Nat) (h : i < l.length) : rd_T43 l (i : Int) = l[i] := by simp [rd_T43, List.getElem?_eq_getElem h]
theorem rd_Sv (l : List S55) (i : Nat) (h : i < l.length) : rd_T55 l (i : Int) = l[i] := by simp [rd_T55, List.getElem?_eq_getElem h]

theorem Targets_l0 (rs : List S43) (hl : rs.length ≤ 100000) (hs : ∀ r ∈ rs, r.f4.size ≤ 140737488351232) : ∀ (d i : Nat), rs.length - i = d → i ≤ rs.length → Ev (fun k => pick_Targets.l0 k (colR (rs.take i)) rs (rs.length : Int) (i : Int)) (targetsR rs)
  | 0, i, hd, hi => by
    obtain rfl : i = rs.length := by omega
    rw [List.take_length]
    have hc : (colR rs).length ≤ 100000 := Nat.le_trans (List.length_filterMap_le _ _) hl
    refine Ev.step (f := fun _ => some (targetsR rs)) (fun k => ?_) (Ev.now _)
    simp only [pick_Targets.l0]
    rw [if_neg (by omega)]
    unfold sort_strings.f
    rw [if_pos ⟨colR_good rs, by omega⟩]
    simp only [Option.bind_some]
    unfold compact_strings.f
    rw [if_pos (by rw [List.length_mergeSort]; omega)]
    rfl
  | d + 1, i, hd, hi => by
    have hlt : i < rs.length := by omega
    have ih := Targets_l0 rs hl hs d (i + 1) (by omega) (by omega)
    have hsz := hs rs[i] (List.getElem_mem hlt)
    have hts := targetR_size rs[i].f1 rs[i].f4
    have hc : (colR (rs.take i)).length ≤ 100000 := Nat.le_trans (List.length_filterMap_le _ _) (by rw [List.length_take]; omega)
    have htk : colR (rs.take (i + 1)) = colR (rs.take i) ++ (toR rs[i]).toList := by
      unfold colR
      rw [List.take_succ_eq_append_getElem hlt, List.filterMap_append]
      rfl
    rw [htk] at ih
    refine Ev.step (f := fun k => if (targetR rs[i].f1 rs[i].f4).2 = true then ((name_Fold.f k (targetR rs[i].f1 rs[i].f4).1).bind fun t158 => (if (colR (rs.take i)).length < 8796093022208 then (pick_Targets.l0 k (colR (rs.take i) ++ [t158]) rs (rs.length : Int) (wrap64 ((i : Int) + 1))) else (none))) else (pick_Targets.l0 k (colR (rs.take i)) rs (rs.length : Int) (wrap64 ((i : Int) + 1)))) (fun k => ?_) ?_
    · simp only [pick_Targets.l0]
      rw [if_pos (by omega), if_pos (by omega), if_pos (by omega), rd_RR rs i hlt]
      unfold record_Target.f
      rw [if_pos hsz]
      rfl
    · rw [w64 (by omega) (by omega)]
      unfold toR at ih
      by_cases h : (targetR rs[i].f1 rs[i].f4).2 = true
      · rw [if_pos h] at ih
        refine Ev.congr (f := fun k => ((name_Fold.f k (targetR rs[i].f1 rs[i].f4).1).bind fun t158 => (if (colR (rs.take i)).length < 8796093022208 then (pick_Targets.l0 k (colR (rs.take i) ++ [t158]) rs (rs.length : Int) ((i : Int) + 1)) else (none)))) (fun k => by rw [if_pos h]) ?_
        refine Ev.bind (f := fun k t158 => (if (colR (rs.take i)).length < 8796093022208 then (pick_Targets.l0 k (colR (rs.take i) ++ [t158]) rs (rs.length : Int) ((i : Int) + 1)) else (none))) (Fold_ev _ (by omega)) ?_
        exact Ev.congr (fun k => by rw [if_pos (by omega)]; rfl) ih
      · rw [if_neg h] at ih
        exact Ev.congr (fun k => by rw [if_neg h]; simp) ih
theorem Targets_ev (a0_0 : ByteArray) (a0_1 : Int) (rs : List S43) (a0_3 : Int) (a0_4 : ByteArray) (hl : rs.length ≤ 100000) (hs : ∀ r ∈ rs, r.f4.size ≤ 140737488351232) : Ev (fun k => pick_Targets.f k a0_0 a0_1 rs a0_3 a0_4) (targetsR rs) :=
  Targets_l0 rs hl hs rs.length 0 (by omega) (by omega)

/-! ### Hints -/
def okH (s : S55) : Bool := valid (bl s.f0) && decide (0 ≤ s.f1) && decide (s.f1 ≤ 4294967295)
def toH (s : S55) : Option S55 := if okH s = true then some ⟨mkB (foldN (bl s.f0)), s.f1⟩ else none
def colH (l : List S55) : List S55 := l.filterMap toH
def hintsR (l : List S55) : List S55 := compact ((colH l).mergeSort leS)
theorem colH_good (l : List S55) : ∀ x ∈ colH l, good x.f0 := by
  intro x hx
  obtain ⟨r, _, hr⟩ := List.mem_filterMap.1 hx
  unfold toH at hr
  split at hr
  · rename_i h
    injection hr with hr
    subst hr
    simp only [okH, Bool.and_eq_true] at h
    exact good_fold h.1.1
  · cases hr
theorem Hints_l0 (l : List S55) (hl : l.length ≤ 100000) (hs : ∀ r ∈ l, r.f0.size ≤ 140737488355328) : ∀ (d i : Nat), l.length - i = d → i ≤ l.length → Ev (fun k => pick_Hints.l0 k (colH (l.take i)) l (l.length : Int) (i : Int)) (hintsR l)
  | 0, i, hd, hi => by
    obtain rfl : i = l.length := by omega
    rw [List.take_length]
    have hc : (colH l).length ≤ 100000 := Nat.le_trans (List.length_filterMap_le _ _) hl
    refine Ev.step (f := fun _ => some (hintsR l)) (fun k => ?_) (Ev.now _)
    simp only [pick_Hints.l0]
    rw [if_neg (by omega)]
    unfold sort_Servers.f
    rw [if_pos ⟨colH_good l, by omega⟩]
    simp only [Option.bind_some]
    unfold compact_Servers.f
    rw [if_pos (by rw [List.length_mergeSort]; omega)]
    rfl
  | d + 1, i, hd, hi => by
    have hlt : i < l.length := by omega
    have ih := Hints_l0 l hl hs d (i + 1) (by omega) (by omega)
    have hsz := hs l[i] (List.getElem_mem hlt)
    have hc : (colH (l.take i)).length ≤ 100000 := Nat.le_trans (List.length_filterMap_le _ _) (by rw [List.length_take]; omega)
    have htk : colH (l.take (i + 1)) = colH (l.take i) ++ (toH l[i]).toList := by
      unfold colH
      rw [List.take_succ_eq_append_getElem hlt, List.filterMap_append]
      rfl
    rw [htk] at ih
    have hv := Valid_ev l[i].f0 hsz
    refine Ev.step (f := fun k => (name_Valid.f k l[i].f0).bind fun t111 => (if t111 = true then (if l[i].f1 ≥ 0 then (if l[i].f1 ≤ 4294967295 then ((name_Fold.f k l[i].f0).bind fun t112 => (if (colH (l.take i)).length < 5864062014805 then (pick_Hints.l0 k (colH (l.take i) ++ [(⟨t112, l[i].f1⟩ : S55)]) l (l.length : Int) (wrap64 ((i : Int) + 1))) else (none))) else (pick_Hints.l0 k (colH (l.take i)) l (l.length : Int) (wrap64 ((i : Int) + 1)))) else (pick_Hints.l0 k (colH (l.take i)) l (l.length : Int) (wrap64 ((i : Int) + 1)))) else (pick_Hints.l0 k (colH (l.take i)) l (l.length : Int) (wrap64 ((i : Int) + 1))))) (fun k => ?_) ?_
    · simp only [pick_Hints.l0]
      rw [if_pos (by omega), if_pos (by omega), if_pos (by omega), rd_Sv l i hlt]
    · rw [w64 (by omega) (by omega)]
      refine Ev.bind (f := fun k t111 => (if t111 = true then (if l[i].f1 ≥ 0 then (if l[i].f1 ≤ 4294967295 then ((name_Fold.f k l[i].f0).bind fun t112 => (if (colH (l.take i)).length < 5864062014805 then (pick_Hints.l0 k (colH (l.take i) ++ [(⟨t112, l[i].f1⟩ : S55)]) l (l.length : Int) ((i : Int) + 1)) else (none))) else (pick_Hints.l0 k (colH (l.take i)) l (l.length : Int) ((i : Int) + 1))) else (pick_Hints.l0 k (colH (l.take i)) l (l.length : Int) ((i : Int) + 1))) else (pick_Hints.l0 k (colH (l.take i)) l (l.length : Int) ((i : Int) + 1)))) hv ?_
      unfold toH okH at ih
      by_cases h1 : valid (bl l[i].f0) = true
      · rw [h1] at ih ⊢
        by_cases h2 : l[i].f1 ≥ 0
        · by_cases h3 : l[i].f1 ≤ 4294967295
          · rw [if_pos (by rw [decide_eq_true h3]; simpa using h2)] at ih
            refine Ev.congr (f := fun k => ((name_Fold.f k l[i].f0).bind fun t112 => (if (colH (l.take i)).length < 5864062014805 then (pick_Hints.l0 k (colH (l.take i) ++ [(⟨t112, l[i].f1⟩ : S55)]) l (l.length : Int) ((i : Int) + 1)) else (none)))) (fun k => by rw [if_pos rfl, if_pos h2, if_pos h3]) ?_
            refine Ev.bind (f := fun k t112 => (if (colH (l.take i)).length < 5864062014805 then (pick_Hints.l0 k (colH (l.take i) ++ [(⟨t112, l[i].f1⟩ : S55)]) l (l.length : Int) ((i : Int) + 1)) else (none))) (Fold_ev _ hsz) ?_
            exact Ev.congr (fun k => by rw [if_pos (by omega)]; rfl) ih
          · rw [if_neg (by rw [decide_eq_false h3]; simp)] at ih
            exact Ev.congr (fun k => by rw [if_pos rfl, if_pos h2, if_neg h3]; simp) ih
        · rw [if_neg (by rw [decide_eq_false h2]; simp)] at ih
          exact Ev.congr (fun k => by rw [if_pos rfl, if_neg h2]; simp) ih
      · rw [Bool.eq_false_iff.2 h1] at ih ⊢
        rw [if_neg (by simp)] at ih
        exact Ev.congr (fun k => by rw [if_neg (by decide)]; simp) ih
theorem Hints_ev (l : List S55) (hl : l.length ≤ 100000) (hs : ∀ r ∈ l, r.f0.size ≤ 140737488355328) : Ev (fun k => pick_Hints.f k l) (hintsR l) :=
  Hints_l0 l hl hs l.length 0 (by omega) (by omega)

end Go.Proofs.YtjiheepiobffkaaGreat.Fr

namespace Go.Proofs.YtjiheepiobffkaaGreat.Fr
open Go.RowKit Go.Proofs.YtjiheepiobffkaaGreat.Pr
open Go.Lib

section
variable {α : Type} [Inhabited α] [DecidableEq α] (lt : α → α → Bool)

/-- Put in its place, once. -/
def insU (x : α) : List α → List α
  | [] => [x]
  | y :: r => if lt y x = true then y :: insU x r else if y = x then y :: r else x :: y :: r
def allU (l : List α) : List α := l.foldl (fun acc x => insU lt x acc) []

structure Total : Prop where
  irrefl : ∀ x, lt x x = false
  trans : ∀ x y z, lt x y = true → lt y z = true → lt x z = true
  total : ∀ x y, lt x y = false → lt y x = false → x = y

variable {lt}
omit [Inhabited α] in
theorem insU_mem (x z : α) : ∀ l : List α, z ∈ insU lt x l ↔ z = x ∨ z ∈ l
  | [] => by simp [insU]
  | y :: r => by
    unfold insU
    split
    · rw [List.mem_cons, List.mem_cons, insU_mem x z r]
      constructor
      · rintro (h | h | h)
        · exact .inr (.inl h)
        · exact .inl h
        · exact .inr (.inr h)
      · rintro (h | h | h)
        · exact .inr (.inl h)
        · exact .inl h
        · exact .inr (.inr h)
    · split
      · rename_i h
        subst h
        simp
      · simp
omit [Inhabited α] in
theorem insU_sorted (H : Total lt) (x : α) : ∀ l : List α, l.Pairwise (fun a b => lt a b = true) → (insU lt x l).Pairwise (fun a b => lt a b = true)
  | [], _ => by simp [insU]
  | y :: r, h => by
    obtain ⟨h1, h2⟩ := List.pairwise_cons.1 h
    unfold insU
    split
    · rename_i hy
      refine List.pairwise_cons.2 ⟨fun z hz => ?_, insU_sorted H x r h2⟩
      rcases (insU_mem x z r).1 hz with rfl | hz
      · exact hy
      · exact h1 z hz
    · rename_i hy
      split
      · exact h
      · rename_i hne
        have hxy : lt x y = true := by
          cases hc : lt x y with
          | true => rfl
          | false => exact absurd (H.total y x (by simpa using hy) hc) hne
        refine List.pairwise_cons.2 ⟨fun z hz => ?_, h⟩
        rcases List.mem_cons.1 hz with rfl | hz
        · exact hxy
        · exact H.trans _ _ _ hxy (h1 z hz)
omit [Inhabited α] in
theorem foldU (H : Total lt) : ∀ (l acc : List α), acc.Pairwise (fun a b => lt a b = true) → (l.foldl (fun acc x => insU lt x acc) acc).Pairwise (fun a b => lt a b = true) ∧ ∀ z, z ∈ l.foldl (fun acc x => insU lt x acc) acc ↔ z ∈ l ∨ z ∈ acc
  | [], acc, h => ⟨h, fun z => by simp⟩
  | x :: l, acc, h => by
    obtain ⟨h1, h2⟩ := foldU H l (insU lt x acc) (insU_sorted H x acc h)
    refine ⟨h1, fun z => ?_⟩
    rw [List.foldl_cons, h2, insU_mem, List.mem_cons]
    constructor
    · rintro (h | h | h)
      · exact .inl (.inr h)
      · exact .inl (.inl h)
      · exact .inr h
    · rintro ((h | h) | h)
      · exact .inr (.inl h)
      · exact .inl h
      · exact .inr (.inr h)
omit [Inhabited α] in
theorem allU_sorted (H : Total lt) (l : List α) : (allU lt l).Pairwise (fun a b => lt a b = true) := (foldU H l [] List.Pairwise.nil).1
omit [Inhabited α] in
theorem allU_mem (H : Total lt) (l : List α) (z : α) : z ∈ allU lt l ↔ z ∈ l := by
  have := (foldU H l [] List.Pairwise.nil).2 z
  unfold allU
  rw [this]
  simp

omit [Inhabited α] [DecidableEq α] in
theorem sorted_unique (H : Total lt) : ∀ (a b : List α), a.Pairwise (fun a b => lt a b = true) → b.Pairwise (fun a b => lt a b = true) → (∀ z, z ∈ a ↔ z ∈ b) → a = b
  | [], [], _, _, _ => rfl
  | [], y :: b, _, _, h => absurd ((h y).2 List.mem_cons_self) (by simp)
  | x :: a, [], _, _, h => absurd ((h x).1 List.mem_cons_self) (by simp)
  | x :: a, y :: b, ha, hb, h => by
    obtain ⟨a1, a2⟩ := List.pairwise_cons.1 ha
    obtain ⟨b1, b2⟩ := List.pairwise_cons.1 hb
    have asym : ∀ p q, lt p q = true → lt q p = true → False := fun p q h1 h2 => by have := H.trans _ _ _ h1 h2; rw [H.irrefl] at this; cases this
    have hxy : x = y := by
      rcases List.mem_cons.1 ((h x).1 List.mem_cons_self) with e | hx
      · exact e
      · rcases List.mem_cons.1 ((h y).2 List.mem_cons_self) with e | hy
        · exact e.symm
        · exact (asym _ _ (a1 y hy) (b1 x hx)).elim
    subst hxy
    congr 1
    refine sorted_unique H a b a2 b2 (fun z => ?_)
    constructor
    · intro hz
      rcases List.mem_cons.1 ((h z).1 (List.mem_cons_of_mem _ hz)) with e | hz'
      · subst e
        have := a1 z hz
        rw [H.irrefl] at this; cases this
      · exact hz'
    · intro hz
      rcases List.mem_cons.1 ((h z).2 (List.mem_cons_of_mem _ hz)) with e | hz'
      · subst e
        have := b1 z hz
        rw [H.irrefl] at this; cases this
      · exact hz'

/-! ### compact -/
theorem compact_mem (l : List α) (z : α) : z ∈ compact l ↔ z ∈ l := by
  have key : ∀ j, j < l.length → l.toArray[j]! ∈ compact l := by
    intro j
    induction j with
    | zero =>
      intro hj
      refine List.mem_map.2 ⟨0, List.mem_filter.2 ⟨List.mem_range.2 hj, keeps_lt_one _ 0 (by omega)⟩, rfl⟩
    | succ j ih =>
      intro hj
      by_cases hk : l.toArray[j + 1]! = l.toArray[j]!
      · rw [hk]; exact ih (by omega)
      · exact List.mem_map.2 ⟨j + 1, List.mem_filter.2 ⟨List.mem_range.2 hj, keeps_pos hk⟩, rfl⟩
  constructor
  · intro h
    obtain ⟨j, hj, rfl⟩ := List.mem_map.1 h
    have hj' := List.mem_range.1 (List.mem_filter.1 hj).1
    rw [getElem!_pos l.toArray j (by simpa using hj')]
    simp
  · intro h
    obtain ⟨j, hj, rfl⟩ := List.mem_iff_getElem.1 h
    have := key j hj
    rw [getElem!_pos l.toArray j (by simpa using hj)] at this
    simpa using this
theorem compact_sorted (H : Total lt) (l : List α) (h : l.Pairwise (fun a b => lt b a = false)) : (compact l).Pairwise (fun a b => lt a b = true) := by
  have hle : ∀ i j, i ≤ j → j < l.length → lt l.toArray[j]! l.toArray[i]! = false := by
    intro i j hij hj
    rw [getElem!_pos l.toArray j (by simpa using hj), getElem!_pos l.toArray i (by simp; omega)]
    rcases Nat.lt_or_ge i j with hlt | hge
    · have := List.pairwise_iff_getElem.1 h i j (by omega) hj hlt
      simpa using this
    · obtain rfl : i = j := by omega
      exact H.irrefl _
  unfold compact compactUpTo
  rw [List.pairwise_map]
  refine List.Pairwise.imp_of_mem ?_ ((List.pairwise_lt_range (n := l.length)).filter _)
  intro i j hi hj hij
  have hjl := List.mem_range.1 (List.mem_filter.1 hj).1
  have hk := (List.mem_filter.1 hj).2
  have hne : l.toArray[j]! ≠ l.toArray[j - 1]! := by
    simp only [keeps, decide_eq_true_eq] at hk
    rcases hk with h0 | h1
    · omega
    · exact h1
  have h1 : lt l.toArray[j - 1]! l.toArray[j]! = true := by
    cases hc : lt l.toArray[j - 1]! l.toArray[j]! with
    | true => rfl
    | false => exact absurd (H.total _ _ (hle (j - 1) j (by omega) hjl) hc) hne
  have h2 := hle i (j - 1) (by omega) (by omega)
  rcases Classical.em (l.toArray[i]! = l.toArray[j - 1]!) with e | e
  · rw [e]; exact h1
  · have h3 : lt l.toArray[i]! l.toArray[j - 1]! = true := by
      cases hc : lt l.toArray[i]! l.toArray[j - 1]! with
      | true => rfl
      | false => exact absurd (H.total _ _ hc h2) e
    exact H.trans _ _ _ h3 h1

theorem sort_compact (H : Total lt) (l : List α) : compact (l.mergeSort fun x y => !lt y x) = allU lt l := by
  refine sorted_unique H _ _ (compact_sorted H _ ?_) (allU_sorted H l) (fun z => ?_)
  · have := List.pairwise_mergeSort (le := fun x y => !lt y x) (fun a b c h1 h2 => by
      simp only [Bool.not_eq_eq_eq_not, Bool.not_true] at *
      cases hc : lt c a with
      | false => rfl
      | true =>
        rcases Classical.em (b = c) with e | e
        · subst e; rw [h1] at hc; cases hc
        · have hbc : lt b c = true := by
            cases hd : lt b c with
            | true => rfl
            | false => exact absurd (H.total _ _ hd h2) e
          rw [H.trans _ _ _ hbc hc] at h1; cases h1) (fun a b => by
      cases h1 : lt b a with
      | false => simp
      | true =>
        cases h2 : lt a b with
        | false => simp
        | true => have := H.trans _ _ _ h1 h2; rw [H.irrefl] at this; cases this) l
    exact this.imp (fun h => by simpa using h)
  · rw [compact_mem, allU_mem H, List.mem_mergeSort]
end

/-! ### carried over to what the names are -/
theorem compact_map {α β : Type} [Inhabited α] [DecidableEq α] [Inhabited β] [DecidableEq β] (f : α → β) (hf : ∀ x y, f x = f y → x = y) (l : List α) : compact (l.map f) = (compact l).map f := by
  unfold compact compactUpTo
  rw [List.length_map, List.map_map]
  have hg : ∀ j, j < l.length → (l.map f).toArray[j]! = f l.toArray[j]! := by
    intro j hj
    rw [getElem!_pos (l.map f).toArray j (by simpa using hj), getElem!_pos l.toArray j (by simpa using hj)]
    simp
  have hk : (List.range l.length).filter (keeps (l.map f).toArray) = (List.range l.length).filter (keeps l.toArray) := by
    refine List.filter_congr (fun j hj => ?_)
    have hj := List.mem_range.1 hj
    unfold keeps
    rw [hg j hj, hg (j - 1) (by omega)]
    rw [Bool.eq_iff_iff, decide_eq_true_iff, decide_eq_true_iff]
    constructor
    · rintro (h | h)
      · exact .inl h
      · exact .inr (fun e => h (by rw [e]))
    · rintro (h | h)
      · exact .inl h
      · exact .inr (fun e => h (hf _ _ e))
  rw [hk]
  refine List.map_congr_left (fun j hj => ?_)
  exact hg j (List.mem_range.1 (List.mem_filter.1 hj).1)
theorem insU_map {α β : Type} [DecidableEq α] [DecidableEq β] (f : α → β) (hf : ∀ x y, f x = f y → x = y) (lt : α → α → Bool) (lt' : β → β → Bool) (hl : ∀ x y, lt' (f x) (f y) = lt x y) (x : α) : ∀ l : List α, insU lt' (f x) (l.map f) = (insU lt x l).map f
  | [] => rfl
  | y :: r => by
    simp only [List.map_cons, insU, hl]
    by_cases h1 : lt y x = true
    · rw [if_pos h1, if_pos h1, insU_map f hf lt lt' hl x r]; rfl
    · rw [if_neg h1, if_neg h1]
      by_cases h2 : y = x
      · rw [if_pos h2, if_pos (by rw [h2])]; rfl
      · rw [if_neg h2, if_neg (fun e => h2 (hf _ _ e))]; rfl
theorem allU_map {α β : Type} [DecidableEq α] [DecidableEq β] (f : α → β) (hf : ∀ x y, f x = f y → x = y) (lt : α → α → Bool) (lt' : β → β → Bool) (hl : ∀ x y, lt' (f x) (f y) = lt x y) (l : List α) : allU lt' (l.map f) = (allU lt l).map f := by
  have : ∀ (l acc : List α), (l.map f).foldl (fun acc x => insU lt' x acc) (acc.map f) = (l.foldl (fun acc x => insU lt x acc) acc).map f := by
    intro l
    induction l with
    | nil => intro acc; rfl
    | cons x l ih =>
      intro acc
      rw [List.map_cons, List.foldl_cons, insU_map f hf lt lt' hl, ih]
      rfl
  exact this l []

def ltN (x y : ByteArray) : Bool := lessN (bl x) (bl y)
theorem total_names : Total (fun x y : GName => ltN x.1 y.1) where
  irrefl x := lessN_irrefl _
  trans x y z h1 h2 := lessN_trans h1 h2
  total x y h1 h2 := by
    rcases Classical.em (x.1 = y.1) with e | e
    · exact Subtype.ext e
    · rw [show ltN y.1 x.1 = true from lessN_total x.2 y.2 e h1] at h2; cases h2
theorem total_servers : Total (fun x y : GServ => ltS x.1 y.1) where
  irrefl x := ltS_irrefl _
  trans x y z h1 h2 := ltS_trans h1 h2
  total x y h1 h2 := cfS_total x y (by rw [cfS_lt]; exact h1) (by rw [cfS_lt]; exact h2)
theorem total_ints : Total (fun x y : Int => decide (x < y)) where
  irrefl x := by simp
  trans x y z h1 h2 := by simp at *; omega
  total x y h1 h2 := by simp at *; omega

theorem names_once (l : List ByteArray) (h : ∀ x ∈ l, good x) : compact (l.mergeSort leN) = allU ltN l := by
  let la : List GName := l.attachWith good h
  have hla : la.map Subtype.val = l := map_attach l h
  have e1 : l.mergeSort leN = (la.mergeSort fun x y => !ltN y.1 x.1).map Subtype.val := by
    rw [← hla]
    exact (List.map_mergeSort (r := fun x y : GName => !ltN y.1 x.1) (s := leN) (f := Subtype.val) (fun a _ b _ => rfl)).symm
  rw [e1, compact_map _ (fun x y e => Subtype.ext e), sort_compact total_names, ← allU_map Subtype.val (fun x y e => Subtype.ext e) _ ltN (fun x y => rfl), hla]
theorem servers_once (l : List S55) (h : ∀ x ∈ l, good x.f0) : compact (l.mergeSort leS) = allU ltS l := by
  let la : List GServ := l.attachWith (fun x => good x.f0) h
  have hla : la.map Subtype.val = l := map_attach (P := fun x : S55 => good x.f0) l h
  have e1 : l.mergeSort leS = (la.mergeSort fun x y => !ltS y.1 x.1).map Subtype.val := by
    rw [← hla]
    exact (List.map_mergeSort (r := fun x y : GServ => !ltS y.1 x.1) (s := leS) (f := Subtype.val) (fun a _ b _ => rfl)).symm
  rw [e1, compact_map _ (fun x y e => Subtype.ext e), sort_compact total_servers, ← allU_map Subtype.val (fun x y e => Subtype.ext e) _ ltS (fun x y => rfl), hla]
theorem ints_once (l : List Int) : compact (l.mergeSort fun x y => decide (x ≤ y)) = allU (fun x y : Int => decide (x < y)) l := by
  rw [← sort_compact total_ints]
  congr 2
  funext x y
  rw [Bool.eq_iff_iff]
  simp
theorem targetsR_eq (rs : List S43) : targetsR rs = allU ltN (colR rs) := names_once _ (colR_good rs)
theorem hintsR_eq (l : List S55) : hintsR l = allU ltS (colH l) := servers_once _ (colH_good l)

end Go.Proofs.YtjiheepiobffkaaGreat.Fr

namespace Go.Proofs.YtjiheepiobffkaaGreat.Fr
open Go.RowKit Go.Proofs.YtjiheepiobffkaaGreatW.PrintWords Go.Proofs.YtjiheepiobffkaaGreat.Pr
open Go.Sort hiding rd
open Go.Lib

def rrN (d : ByteArray) : S43 := ⟨⟨#[0]⟩, 2, 1, 0, d⟩
def setR (l : List ByteArray) : List S43 := l.map rrN
theorem set_l0 (l : List ByteArray) (hl : l.length ≤ 100000) : ∀ (d i : Nat), l.length - i = d → i ≤ l.length → Ev (fun k => freshetlaw15_set.l0 k l (i : Int) ⟨#[0]⟩ 2 (setR (l.take i)) 0 ⟨#[0]⟩) (⟨#[0]⟩, 2, setR l, 0, ⟨#[0]⟩)
  | 0, i, hd, hi => by
    obtain rfl : i = l.length := by omega
    rw [List.take_length]
    refine Ev.step (f := fun _ => some (⟨#[0]⟩, 2, setR l, 0, ⟨#[0]⟩)) (fun k => ?_) (Ev.now _)
    simp only [freshetlaw15_set.l0]
    rw [if_neg (by omega)]
  | d + 1, i, hd, hi => by
    have hlt : i < l.length := by omega
    have ih := set_l0 l hl d (i + 1) (by omega) (by omega)
    have htk : setR (l.take (i + 1)) = setR (l.take i) ++ [rrN l[i]] := by
      unfold setR
      rw [List.take_succ_eq_append_getElem hlt, List.map_append]
      rfl
    have hc : (setR (l.take i)).length ≤ 100000 := by simp [setR]; omega
    rw [htk] at ih
    refine Ev.step (f := fun k => freshetlaw15_set.l0 k l ((i + 1 : Nat) : Int) ⟨#[0]⟩ 2 (setR (l.take i) ++ [rrN l[i]]) 0 ⟨#[0]⟩) (fun k => ?_) ih
    simp only [freshetlaw15_set.l0]
    rw [if_pos (by omega), if_pos (by omega), if_pos (by omega), rdOf_nat _ _ _ hlt, w64 (by omega) (by omega)]
    rfl
theorem set_any (A : Option Addr) (c : Nat) (l : List ByteArray) (w : World) (hC : Kd.C Kd.string w A l.length l) (hc : l.length ≤ c) (hl : l.length ≤ 100000) :
    Calls Tryz.prog 90 #[.slice A l.length c] w fun e w' => ∃ v2, e = .returned (.agg #[.string ⟨#[0]⟩, .int .i64 2, v2, .int .i64 0, .string ⟨#[0]⟩]) ∧ Kd.R k43 43 w' w.heap.size (fun _ => True) v2 (setR l) ∧ Below w.heap.size w w' := by
  obtain ⟨K, hK⟩ := set_l0 l hl l.length 0 (by omega) (by omega)
  exact freshetlaw15_set.calls K A c l _ _ _ _ _ w hC hc (hK K (Nat.le_refl _))

/-! ### the comparison -/
theorem alike_l0 (a b : List S55) (hl : a.length = b.length) (hn : a.length ≤ 1000000) : ∀ (d i : Nat), a.length - i = d → i ≤ a.length → Ev (fun k => freshetalike_Servers.l0 k a b (i : Int)) (decide (a.drop i = b.drop i))
  | 0, i, hd, hi => by
    obtain rfl : i = a.length := by omega
    rw [List.drop_length, hl, List.drop_length]
    refine Ev.step (f := fun _ => some true) (fun k => ?_) (Ev.now _)
    simp only [freshetalike_Servers.l0]
    rw [if_neg (by omega)]
  | d + 1, i, hd, hi => by
    have hlt : i < a.length := by omega
    have hlt' : i < b.length := by omega
    have ih := alike_l0 a b hl hn d (i + 1) (by omega) (by omega)
    have hcond : ((!((a[i].f0.toList) == (b[i].f0.toList)) || (!(a[i].f1 == b[i].f1)))) = !decide (a[i] = b[i]) := by
      rw [← Bool.not_and]
      congr 1
      rw [Bool.eq_iff_iff, decide_eq_true_iff, Bool.and_eq_true, beq_iff_eq, beq_iff_eq, bl_toList, bl_toList]
      generalize a[i] = x
      generalize b[i] = y
      constructor
      · rintro ⟨h1, h2⟩
        obtain ⟨p, q⟩ := x
        obtain ⟨r, s⟩ := y
        simp only at h1 h2
        rw [bl_inj h1, h2]
      · rintro rfl
        exact ⟨rfl, rfl⟩
    rw [List.drop_eq_getElem_cons hlt, List.drop_eq_getElem_cons hlt']
    refine Ev.step (f := fun k => if a[i] = b[i] then freshetalike_Servers.l0 k a b ((i + 1 : Nat) : Int) else some false) (fun k => ?_) ?_
    · simp only [freshetalike_Servers.l0]
      rw [if_pos (by omega), if_pos (by omega), if_pos (by omega), rd_Sv a i hlt, rd_Sv b i hlt', hcond, w64 (by omega) (by omega)]
      by_cases h : a[i] = b[i]
      · rw [if_neg (by rw [decide_eq_true h]; decide), if_pos h]; rfl
      · rw [if_pos (by rw [decide_eq_false h]; rfl), if_neg h]
    · by_cases h : a[i] = b[i]
      · refine Ev.congr (fun k => by rw [if_pos h]) ?_
        have he : (a[i] :: a.drop (i + 1) = b[i] :: b.drop (i + 1)) ↔ (a.drop (i + 1) = b.drop (i + 1)) := by
          rw [h]
          exact ⟨fun e => (List.cons.inj e).2, fun e => by rw [e]⟩
        rw [decide_eq_decide.2 he]
        exact ih
      · refine Ev.congr (f := fun _ => some false) (fun k => by rw [if_neg h]) ?_
        rw [decide_eq_false (fun e => h (List.cons.inj e).1)]
        exact Ev.now _
theorem alike_ev (a b : List S55) (hn : a.length ≤ 1000000) : Ev (fun k => freshetalike_Servers.f k a b) (decide (a = b)) := by
  unfold freshetalike_Servers.f
  by_cases hl : a.length = b.length
  · refine Ev.congr (f := fun k => freshetalike_Servers.l0 k a b 0) (fun k => by rw [if_pos (by omega)]) ?_
    have := alike_l0 a b hl hn a.length 0 (by omega) (by omega)
    simpa using this
  · refine Ev.congr (f := fun _ => some false) (fun k => by rw [if_neg (by omega)]) ?_
    rw [decide_eq_false (fun e => hl (by rw [e]))]
    exact Ev.now _
theorem alike_any (A0 : Option Addr) (c0 : Nat) (a : List S55) (A1 : Option Addr) (c1 : Nat) (b : List S55) (w : World) (h0 : Kd.C k55 w A0 a.length a) (hc0 : a.length ≤ c0) (h1 : Kd.C k55 w A1 b.length b) (hc1 : b.length ≤ c1) (hn : a.length ≤ 1000000) :
    Calls Tryz.prog 42 #[.slice A0 a.length c0, .slice A1 b.length c1] w fun e w' => e = .returned (.bool (decide (a = b))) ∧ Below w.heap.size w w' := by
  obtain ⟨K, hK⟩ := alike_ev a b hn
  refine (freshetalike_Servers.calls K A0 c0 a A1 c1 b _ w h0 hc0 h1 hc1 (hK K (Nat.le_refl _))).mono ?_
  rintro e w' ⟨rfl, ⟨n, rfl⟩⟩
  exact ⟨rfl, pw_below_drewN (Below.refl _ _) n⟩

/-! ### what such a set leads to -/
theorem targetR_ns (d : ByteArray) : targetR 2 d = if valid (bl d) then (d, true) else (mkB [], false) := by
  have hd : dataP 2 (bl d) = valid (bl d) := by
    unfold dataP
    by_cases h : 1000 < (bl d).length
    · rw [if_pos h]
      cases hv : valid (bl d) with
      | false => rfl
      | true => have := valid_length hv; omega
    · rw [if_neg h, if_neg (by decide), if_neg (by decide), if_neg (by decide)]
      rw [← lead_valid]
      simp only [placesR, shapeP, true_or, if_true, Nat.not_lt_zero, if_false, List.drop_zero]
      simp only [placesL]
      cases lead (bl d) with
      | none => rfl
      | some k =>
        simp only [Option.map_some, Nat.zero_add, Nat.add_zero]
        rw [Bool.eq_iff_iff, decide_eq_true_iff, beq_iff_eq, Option.some.injEq]
        exact ⟨fun h => h.symm, fun h => h.symm⟩
  unfold targetR targetP namesP
  rw [if_neg (by decide), hd]
  cases hv : valid (bl d) with
  | false => rfl
  | true =>
    have hl : lead (bl d) = some (bl d).length := by rw [← lead_valid] at hv; exact beq_iff_eq.1 hv
    simp only [placesR, shapeP, true_or, if_true, Nat.not_lt_zero, if_false, List.drop_zero, placesL, hl, Option.map_some, List.head?_cons, List.take_length]
    rfl
theorem toR_ns (d : ByteArray) : toR (rrN d) = if valid (bl d) = true then some (mkB (foldN (bl d))) else none := by
  unfold toR rrN
  simp only [targetR_ns]
  cases hv : valid (bl d) with
  | false => rfl
  | true => rfl
theorem targetsR_set (l : List ByteArray) : targetsR (setR l) = allU ltN ((l.filter fun d => valid (bl d)).map fun d => mkB (foldN (bl d))) := by
  rw [targetsR_eq]
  congr 1
  unfold colR setR
  rw [List.filterMap_map]
  induction l with
  | nil => rfl
  | cons d l ih =>
    rw [List.filterMap_cons, List.filter_cons]
    simp only [Function.comp_apply, toR_ns]
    cases hv : valid (bl d) with
    | false => simpa using ih
    | true => simpa using ih

/-! ### rows that are written out -/
theorem C_lit {α : Type} (enc : α → Value) (h1 : ∀ x, (enc x).oneCell' = true) (w : World) (e : TypeId) (xs : List α) (hl : xs.length ≤ 1000000) : (Kd.scalar enc h1).C (w.alloc (.cells (xs.map enc).toArray e)) (some ⟨w.heap.size, 0, none⟩) xs.length xs := by
  refine ⟨rfl, by omega, fun _ => ⟨_, rfl, fun j p hj => ⟨[enc p], rfl, rfl, fun i u hu => ?_⟩⟩⟩
  cases i with
  | zero =>
    simp only [List.getElem?_cons_zero, Option.some.injEq] at hu
    subst hu
    rw [Addr.add_lit, cell_new_t, Nat.zero_add, show j * (Kd.scalar enc h1).sz + 0 = j from Nat.mul_one j, List.getElem?_toArray, List.getElem?_map, hj]
    rfl
  | succ i => simp at hu
theorem CQ_lit (w : World) (e : TypeId) (xs : List S55) (hl : xs.length ≤ 1000000) : Kd.C k55 (w.alloc (.cells (xs.flatMap encQ).toArray e)) (some ⟨w.heap.size, 0, none⟩) xs.length xs := by
  refine ⟨rfl, by omega, fun _ => ⟨_, rfl, fun j p hj => ⟨encQ p, rfl, k55_mk _ p, fun i u hu => ?_⟩⟩⟩
  have hi : i < 2 := by
    have := (List.getElem?_eq_some_iff.1 hu).1
    simpa [encQ] using this
  rw [Addr.add_lit, cell_new_t, Nat.zero_add, show k55.sz = 2 from rfl, List.getElem?_toArray, pairs_get encQ encQ_length xs (j * 2 + i) p (by rw [show (j * 2 + i) / 2 = j by omega]; exact hj), show (j * 2 + i) % 2 = i by omega]
  exact hu

end Go.Proofs.YtjiheepiobffkaaGreat.Fr
