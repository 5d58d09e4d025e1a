/-
  The document's order of names: freshetref1.Less comes to lessN.
-/
import Derived.Test.YtjiheepiobffkaaGreatPickQ
namespace Go.Proofs.YtjiheepiobffkaaGreat.Fr
open Go.RowKit Go.Proofs.YtjiheepiobffkaaGreatW.PrintWords Go.Proofs.YtjiheepiobffkaaGreat.Pr
open Go.Sort hiding rd

theorem bas_get (ls : List (List UInt8)) (i : Nat) (h : i < ls.length) : rdOf ByteArray.empty (bas ls) (i : Int) = mkB ls[i] := by
  rw [rdOf_nat _ _ _ (by rw [bas_length]; exact h)]
  simp [bas]
theorem LessR_l0 (la lb : List (List UInt8)) (ha : la.length ≤ 255) (hb : lb.length ≤ 255) : ∀ (d i : Nat), la.length - i = d → i ≤ la.length → i ≤ lb.length → Ev (fun k => freshetref1_Less.l0 k (bas la) (bas lb) ((i : Int) + 1)) (lexLess (la.reverse.drop i) (lb.reverse.drop i))
  | d, i, hd, hi, hj => by
    have e1 := bas_length la
    have e2 := bas_length lb
    by_cases h1 : i < la.length
    · by_cases h2 : i < lb.length
      · cases d with
        | zero => omega
        | succ d =>
          have ih := LessR_l0 la lb ha hb d (i + 1) (by omega) (by omega) (by omega)
          have g1 : la.reverse.drop i = la[la.length - 1 - i] :: la.reverse.drop (i + 1) := by
            rw [List.drop_eq_getElem_cons (by simpa using h1), List.getElem_reverse]
          have g2 : lb.reverse.drop i = lb[lb.length - 1 - i] :: lb.reverse.drop (i + 1) := by
            rw [List.drop_eq_getElem_cons (by simpa using h2), List.getElem_reverse]
          rw [g1, g2]
          refine Ev.step (f := fun k => freshetref1_Less.j2 k (bas la) (bas lb) ((i : Int) + 1) true) (fun k => ?_) ?_
          · simp only [freshetref1_Less.l0]
            rw [if_pos (by omega), decide_eq_true (by omega)]
          · refine Ev.step (f := fun k => if la[la.length - 1 - i] = lb[lb.length - 1 - i] then freshetref1_Less.l0 k (bas la) (bas lb) (((i + 1 : Nat) : Int) + 1) else some (Op.bytesLess la[la.length - 1 - i] lb[lb.length - 1 - i])) (fun k => ?_) ?_
            · simp only [freshetref1_Less.j2]
              rw [if_pos trivial, w64 (x := ((bas la).length : Int) - ((i : Int) + 1)) (by omega) (by omega), w64 (x := ((bas lb).length : Int) - ((i : Int) + 1)) (by omega) (by omega), if_pos (by omega), if_pos (by omega), if_pos (by omega), if_pos (by omega)]
              rw [show ((bas la).length : Int) - ((i : Int) + 1) = ((la.length - 1 - i : Nat) : Int) from by omega, show ((bas lb).length : Int) - ((i : Int) + 1) = ((lb.length - 1 - i : Nat) : Int) from by omega]
              rw [bas_get la _ (by omega), bas_get lb _ (by omega), bl_toList, bl_toList, bl_mkB, bl_mkB, w64 (by omega) (by omega)]
              rfl
            · simp only [lexLess]
              by_cases h : la[la.length - 1 - i] = lb[lb.length - 1 - i]
              · rw [if_pos h]
                exact Ev.congr (fun k => by rw [if_pos h]) ih
              · rw [if_neg h]
                exact Ev.congr (f := fun _ => some (Op.bytesLess la[la.length - 1 - i] lb[lb.length - 1 - i])) (fun k => by rw [if_neg h]) (Ev.now _)
      · have hb0 : lb.reverse.drop i = [] := List.drop_eq_nil_of_le (by simp; omega)
        have g1 : la.reverse.drop i = la[la.length - 1 - i] :: la.reverse.drop (i + 1) := by
          rw [List.drop_eq_getElem_cons (by simpa using h1), List.getElem_reverse]
        rw [hb0, g1]
        refine Ev.step (f := fun k => freshetref1_Less.j2 k (bas la) (bas lb) ((i : Int) + 1) false) (fun k => ?_) ?_
        · simp only [freshetref1_Less.l0]
          rw [if_pos (by omega), decide_eq_false (by omega)]
        · refine Ev.step (f := fun _ => some false) (fun k => ?_) (Ev.now _)
          simp only [freshetref1_Less.j2]
          rw [if_neg (by decide), decide_eq_false (by omega)]
    · have ha0 : la.reverse.drop i = [] := List.drop_eq_nil_of_le (by simp; omega)
      rw [ha0]
      refine Ev.step (f := fun k => freshetref1_Less.j2 k (bas la) (bas lb) ((i : Int) + 1) false) (fun k => ?_) ?_
      · simp only [freshetref1_Less.l0]
        rw [if_neg (by omega)]
      · have hr : lexLess [] (lb.reverse.drop i) = decide (((bas la).length : Int) < ((bas lb).length : Int)) := by
          cases hc : lb.reverse.drop i with
          | nil =>
            have := List.drop_eq_nil_iff.1 hc
            rw [List.length_reverse] at this
            rw [decide_eq_false (by omega)]; rfl
          | cons x r =>
            have hl : i < lb.length := by
              rcases Nat.lt_or_ge i lb.length with h | h
              · exact h
              · rw [List.drop_eq_nil_of_le (by simpa using h)] at hc; cases hc
            rw [decide_eq_true (by omega)]; rfl
        rw [hr]
        refine Ev.step (f := fun _ => some (decide (((bas la).length : Int) < ((bas lb).length : Int)))) (fun k => ?_) (Ev.now _)
        simp only [freshetref1_Less.j2]
        rw [if_neg (by decide)]

theorem labs_foldN {l : List UInt8} {la : List (List UInt8)} (h : labs l = some la) : labs (foldN l) = some (la.map foldL) := by
  unfold foldN
  rw [if_pos (by unfold valid; rw [h]; rfl), labs_fold, h]
  rfl
theorem LessR_ev (a b : ByteArray) (ha : a.size ≤ 140737488355328) (hb : b.size ≤ 140737488355328) : Ev (fun k => freshetref1_Less.f k a b) (lessN (bl a) (bl b)) := by
  obtain ⟨xa, e1, l1⟩ := rLabels_ev (mkB (foldN (bl a)))
  obtain ⟨xb, e2, l2⟩ := rLabels_ev (mkB (foldN (bl b)))
  rw [bl_mkB] at e1 e2 l1 l2
  rw [foldN_valid] at e1 e2
  unfold freshetref1_Less.f
  refine Ev.congr (f := fun k => ((freshetref1_Labels.f k (mkB (foldN (bl a)))).bind fun bt189 => ((freshetref1_Labels.f k (mkB (foldN (bl b)))).bind fun bt194 => (if bt189.2 = true then (freshetref1_Less.j0 k bt189.1 bt194.1 (!bt194.2)) else (freshetref1_Less.j0 k bt189.1 bt194.1 true))))) (fun k => ?_) ?_
  · unfold ref1_Fold.f
    rw [if_pos ha, if_pos hb]
    rfl
  · refine Ev.bind (f := fun k bt189 => ((freshetref1_Labels.f k (mkB (foldN (bl b)))).bind fun bt194 => (if bt189.2 = true then (freshetref1_Less.j0 k bt189.1 bt194.1 (!bt194.2)) else (freshetref1_Less.j0 k bt189.1 bt194.1 true)))) e1 ?_
    refine Ev.bind (f := fun k bt194 => (if valid (bl a) = true then (freshetref1_Less.j0 k xa bt194.1 (!bt194.2)) else (freshetref1_Less.j0 k xa bt194.1 true))) e2 ?_
    have hno : Ev (fun k => freshetref1_Less.j0 k xa xb true) false := by
      refine Ev.step (f := fun _ => some false) (fun k => ?_) (Ev.now _)
      simp only [freshetref1_Less.j0]
      rw [if_pos trivial]
    unfold lessN
    cases hva : valid (bl a) with
    | false => exact Ev.congr (fun k => by rw [if_neg (by decide)]) hno
    | true =>
      cases hvb : valid (bl b) with
      | false => exact Ev.congr (fun k => by rw [if_pos rfl]; rfl) hno
      | true =>
        obtain ⟨la, ea⟩ := Option.isSome_iff_exists.1 hva
        obtain ⟨lb, eb⟩ := Option.isSome_iff_exists.1 hvb
        have ga := l1 _ (labs_foldN ea)
        have gb := l2 _ (labs_foldN eb)
        have s1 := (labs_sizes (bl a)).1
        have s2 := (labs_sizes (bl b)).1
        rw [ea] at s1
        rw [eb] at s2
        have hl := LessR_l0 (la.map foldL) (lb.map foldL) (by simpa using s1) (by simpa using s2) (la.map foldL).length 0 (by omega) (by omega) (by omega)
        rw [List.drop_zero, List.drop_zero, ← List.map_reverse, ← List.map_reverse] at hl
        have k1 : keyOf (bl a) = la.reverse.map foldL := by simp [keyOf, ea]
        have k2 : keyOf (bl b) = lb.reverse.map foldL := by simp [keyOf, eb]
        rw [k1, k2, ga, gb]
        refine Ev.congr (f := fun k => freshetref1_Less.j0 k (bas (la.map foldL)) (bas (lb.map foldL)) false) (fun k => by rw [if_pos rfl]; rfl) ?_
        refine Ev.step (f := fun k => freshetref1_Less.l0 k (bas (la.map foldL)) (bas (lb.map foldL)) 1) (fun k => ?_) ?_
        · simp only [freshetref1_Less.j0]
          rw [if_neg (by decide)]
        · simpa using hl
end Go.Proofs.YtjiheepiobffkaaGreat.Fr
