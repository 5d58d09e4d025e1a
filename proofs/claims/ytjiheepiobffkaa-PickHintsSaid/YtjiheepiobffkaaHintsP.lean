/-
  PickHints in plain words: what the document's hints come to, and the law.
-/
import Derived.Test.YtjiheepiobffkaaLessR
import Derived.Test.YtjiheepiobffkaaPlHints
namespace Go.Proofs.Ytjiheepiobffkaa.Fr
open Go.RowKit Go.Proofs.YtjiheepiobffkaaW.PrintWords Go.Proofs.Ytjiheepiobffkaa.Pr
open Go.Sort hiding rd
open Go.Lib

theorem colH_take (l : List S25) (i : Nat) (h : i < l.length) : colH (l.take (i + 1)) = colH (l.take i) ++ (toH l[i]).toList := by
  unfold colH
  rw [List.take_succ_eq_append_getElem h, List.filterMap_append]
  rfl
theorem allU_snoc {α : Type} [DecidableEq α] (lt : α → α → Bool) (l : List α) (x : α) : allU lt (l ++ [x]) = insU lt x (allU lt l) := by
  unfold allU
  rw [List.foldl_append]
  rfl
theorem insU_length {α : Type} [DecidableEq α] (lt : α → α → Bool) (x : α) : ∀ l : List α, (insU lt x l).length ≤ l.length + 1
  | [] => by simp [insU]
  | y :: r => by
    have := insU_length lt x r
    unfold insU
    split
    · simp only [List.length_cons]; omega
    · split <;> simp
theorem allU_length {α : Type} [DecidableEq α] (lt : α → α → Bool) (l : List α) : (allU lt l).length ≤ l.length := by
  unfold allU
  have : ∀ (l acc : List α), (l.foldl (fun acc x => insU lt x acc) acc).length ≤ l.length + acc.length := by
    intro l
    induction l with
    | nil => intro acc; simp
    | cons x l ih =>
      intro acc
      have h1 := ih (insU lt x acc)
      have h2 := insU_length lt x acc
      simp only [List.foldl_cons, List.length_cons]
      omega
  have := this l []
  simpa using this
theorem allU_sub {α : Type} [DecidableEq α] (lt : α → α → Bool) (l : List α) (z : α) : z ∈ allU lt l ↔ z ∈ l := by
  unfold allU
  have : ∀ (l acc : List α), z ∈ l.foldl (fun acc x => insU lt x acc) acc ↔ z ∈ l ∨ z ∈ acc := by
    intro l
    induction l with
    | nil => intro acc; simp
    | cons x l ih =>
      intro acc
      rw [List.foldl_cons, ih, insU_mem, List.mem_cons]
      constructor
      · rintro (h | h | h)
        · exact .inl (.inr h)
        · exact .inl (.inl h)
        · exact .inr h
      · rintro ((h | h) | h)
        · exact .inr (.inl h)
        · exact .inl h
        · exact .inr (.inr h)
  have := this l []
  simpa using this
/-- Where the loop over what is there ends. -/
theorem insU_at {α : Type} [DecidableEq α] (lt : α → α → Bool) (x : α) : ∀ (l : List α) (k : Nat), k ≤ l.length → (∀ j (hj : j < l.length), j < k → lt l[j] x = true) → (∀ h : k < l.length, lt l[k] x = false) →
    insU lt x l = if h : k < l.length then (if l[k] = x then l else l.take k ++ x :: l.drop k) else l.take k ++ x :: l.drop k
  | [], k, hk, _, _ => by
    obtain rfl : k = 0 := by simpa using hk
    rfl
  | y :: r, 0, _, _, h => by
    have := h (by simp)
    simp only [List.getElem_cons_zero] at this
    simp [insU, this]
  | y :: r, k + 1, hk, h1, h2 => by
    have h0 := h1 0 (by simp) (by omega)
    simp only [List.getElem_cons_zero] at h0
    have ih := insU_at lt x r k (by simpa using hk) (fun j hj hjk => by have := h1 (j + 1) (by simpa using hj) (by omega); simpa using this) (fun h => by have := h2 (by simpa using h); simpa using this)
    simp only [insU, h0, if_true, ih, List.length_cons, Nat.add_lt_add_iff_right, List.getElem_cons_succ]
    by_cases h : k < r.length
    · rw [dif_pos h, dif_pos h]
      by_cases he : r[k] = x
      · rw [if_pos he, if_pos he]
      · rw [if_neg he, if_neg he]; rfl
    · rw [dif_neg h, dif_neg h]; rfl

theorem beq_dec (a b : ByteArray) : (a.toList == b.toList) = decide (a = b) := by
  rw [Bool.eq_iff_iff, decide_eq_true_iff, beq_iff_eq, bl_toList, bl_toList]
  exact ⟨bl_inj, fun h => by rw [h]⟩
theorem toH_no {s : S25} (h : okH s = false) : toH s = none := by unfold toH; rw [h]; rfl
theorem toH_yes {s : S25} (h : okH s = true) : toH s = some ⟨mkB (foldN (bl s.f0)), s.f1⟩ := by unfold toH; rw [if_pos h]

theorem Hin_j4 (l out : List S25) (i : Int) (x : S25) (R : List S25) (hl : out.length ≤ 1000000)
    (hnext : Ev (fun k => freshetref11_Hints.l0 k l (insU ltS x out) (wrap64 (i + 1))) R) (k : Nat) (hk : k ≤ out.length) (hb : ∀ j (hj : j < out.length), j < k → ltS out[j] x = true) (hf : ∀ h : k < out.length, ltS out[k] x = false) :
    Ev (fun K => freshetref11_Hints.j4 K l out i (k : Int) (if h : k < out.length then decide (out[k] = x) else false) x.f0 x.f1) R := by
  have hi := insU_at ltS x out k hk hb hf
  by_cases heq : (if h : k < out.length then decide (out[k] = x) else false) = true
  · rw [heq]
    have hie : insU ltS x out = out := by
      rw [hi]
      by_cases h : k < out.length
      · rw [dif_pos h] at heq ⊢
        rw [if_pos (of_decide_eq_true heq)]
      · rw [dif_neg h] at heq; cases heq
    rw [hie] at hnext
    refine Ev.step (f := fun K => freshetref11_Hints.l0 K l out (wrap64 (i + 1))) (fun K => ?_) hnext
    simp only [freshetref11_Hints.j4]
    rw [if_pos trivial]
  · rw [Bool.eq_false_iff.2 heq]
    have hie : insU ltS x out = out.take k ++ x :: out.drop k := by
      rw [hi]
      by_cases h : k < out.length
      · rw [dif_pos h] at heq ⊢
        rw [if_neg (fun e => heq (decide_eq_true e))]
      · rw [dif_neg h]
    rw [hie] at hnext
    refine Ev.step (f := fun K => freshetref11_Hints.l0 K l (out.take k ++ x :: out.drop k) (wrap64 (i + 1))) (fun K => ?_) hnext
    simp only [freshetref11_Hints.j4]
    have h1 : (out.take k).length = k := by rw [List.length_take]; omega
    simp only [Option.bind_some, Int.toNat_natCast, List.length_append, List.length_nil, List.length_singleton, List.nil_append, h1]
    have h2 : (out.drop k).length = out.length - k := List.length_drop
    rw [if_neg (by decide), if_pos (by omega), if_pos (by omega), if_pos (by omega), if_pos (by omega), if_pos (by omega), List.append_assoc]
    rfl

theorem Hin_l1 (l out : List S25) (i : Int) (x : S25) (R : List S25) (hl : out.length ≤ 1000000) (hgx : good x.f0) (hgo : ∀ y ∈ out, good y.f0)
    (hnext : Ev (fun k => freshetref11_Hints.l0 k l (insU ltS x out) (wrap64 (i + 1))) R) : ∀ (d k : Nat), out.length - k = d → k ≤ out.length → (∀ j (hj : j < out.length), j < k → ltS out[j] x = true) →
    Ev (fun K => freshetref11_Hints.l1 K l out i (k : Int) x.f0 x.f1) R
  | d, k, hd, hk, hb => by
    by_cases hlt : k < out.length
    · have hgy := hgo out[k] (List.getElem_mem hlt)
      have hLs := LessR_ev out[k].f0 x.f0 (by have := good_size hgy; omega) (by have := good_size hgx; omega)
      have hdef : ltS out[k] x = (lessN (bl out[k].f0) (bl x.f0) || (decide (out[k].f0 = x.f0) && decide (out[k].f1 < x.f1))) := rfl
      have hj3 : Ev (fun K => freshetref11_Hints.j3 K l out i (k : Int) (ltS out[k] x) x.f0 x.f1) R := by
        cases hlx : ltS out[k] x with
        | true =>
          cases d with
          | zero => omega
          | succ d =>
            have ih := Hin_l1 l out i x R hl hgx hgo hnext d (k + 1) (by omega) (by omega) (fun j hj hjk => by
              rcases Nat.lt_or_ge j k with h1 | h1
              · exact hb j hj h1
              · obtain rfl : j = k := by omega
                exact hlx)
            refine Ev.step (f := fun K => freshetref11_Hints.l1 K l out i ((k + 1 : Nat) : Int) x.f0 x.f1) (fun K => ?_) ih
            simp only [freshetref11_Hints.j3]
            rw [if_pos trivial, w64 (by omega) (by omega)]
            rfl
        | false =>
          have h4 := Hin_j4 l out i x R hl hnext k hk hb (fun _ => hlx)
          rw [dif_pos hlt] at h4
          refine Ev.step (f := fun K => freshetref11_Hints.j4 K l out i (k : Int) (decide (out[k] = x)) x.f0 x.f1) (fun K => ?_) h4
          simp only [freshetref11_Hints.j3]
          rw [if_neg (by decide), if_pos (by omega), if_pos (by omega), rd_Sv out k hlt]
          congr 1
          rw [Bool.eq_iff_iff, decide_eq_true_iff, Bool.and_eq_true, beq_iff_eq, beq_iff_eq, bl_toList, bl_toList]
          generalize out[k] = y
          constructor
          · rintro ⟨h1, h2⟩
            obtain ⟨p, q⟩ := x
            obtain ⟨r, s⟩ := y
            simp only at h1 h2
            rw [bl_inj h1, h2]
          · rintro rfl
            exact ⟨rfl, rfl⟩
      refine Ev.step (f := fun K => ((freshetref1_Less.f K out[k].f0 x.f0).bind fun t110 => (if t110 = true then (freshetref11_Hints.j3 K l out i (k : Int) true x.f0 x.f1) else (if out[k].f0.toList = x.f0.toList then (freshetref11_Hints.j3 K l out i (k : Int) (decide (out[k].f1 < x.f1)) x.f0 x.f1) else (freshetref11_Hints.j3 K l out i (k : Int) false x.f0 x.f1))))) (fun K => ?_) ?_
      · simp only [freshetref11_Hints.l1]
        rw [if_pos (by omega), if_pos (by omega), rd_Sv out k hlt]
      · refine Ev.bind (f := fun K t110 => (if t110 = true then (freshetref11_Hints.j3 K l out i (k : Int) true x.f0 x.f1) else (if out[k].f0.toList = x.f0.toList then (freshetref11_Hints.j3 K l out i (k : Int) (decide (out[k].f1 < x.f1)) x.f0 x.f1) else (freshetref11_Hints.j3 K l out i (k : Int) false x.f0 x.f1)))) hLs ?_
        rw [hdef] at hj3
        cases h1 : lessN (bl out[k].f0) (bl x.f0) with
        | true =>
          rw [h1] at hj3
          exact Ev.congr (fun K => by rw [if_pos rfl]; rfl) hj3
        | false =>
          rw [h1] at hj3
          by_cases h2 : out[k].f0 = x.f0
          · rw [decide_eq_true h2] at hj3
            exact Ev.congr (fun K => by rw [if_neg (by decide), if_pos (by rw [h2])]; simp) hj3
          · rw [decide_eq_false h2] at hj3
            exact Ev.congr (fun K => by rw [if_neg (by decide), if_neg (fun e => h2 (by rw [bl_toList, bl_toList] at e; exact bl_inj e))]; simp) hj3
    · have h4 := Hin_j4 l out i x R hl hnext k hk hb (fun h => absurd h hlt)
      rw [dif_neg hlt] at h4
      refine Ev.step (f := fun K => freshetref11_Hints.j3 K l out i (k : Int) false x.f0 x.f1) (fun K => ?_) ?_
      · simp only [freshetref11_Hints.l1]
        rw [if_neg (by omega)]
      · refine Ev.step (f := fun K => freshetref11_Hints.j4 K l out i (k : Int) false x.f0 x.f1) (fun K => ?_) h4
        simp only [freshetref11_Hints.j3]
        rw [if_neg (by decide), if_neg (by omega)]

theorem Hin_l0 (l : List S25) (hl : l.length ≤ 100000) (hs : ∀ s ∈ l, s.f0.size ≤ 140737488355328) : ∀ (d i : Nat), l.length - i = d → i ≤ l.length → Ev (fun k => freshetref11_Hints.l0 k l (allU ltS (colH (l.take i))) (i : Int)) (allU ltS (colH l))
  | 0, i, hd, hi => by
    obtain rfl : i = l.length := by omega
    rw [List.take_length]
    refine Ev.step (f := fun _ => some (allU ltS (colH l))) (fun k => ?_) (Ev.now _)
    simp only [freshetref11_Hints.l0]
    rw [if_neg (by omega)]
  | d + 1, i, hd, hi => by
    have hlt : i < l.length := by omega
    have ih := Hin_l0 l hl hs d (i + 1) (by omega) (by omega)
    rw [colH_take l i hlt] at ih
    have hsz := hs l[i] (List.getElem_mem hlt)
    have hV := rValid_ev l[i].f0
    have hw : wrap64 ((i : Int) + 1) = ((i + 1 : Nat) : Int) := by rw [w64 (by omega) (by omega)]; rfl
    have hj1 : Ev (fun k => freshetref11_Hints.j1 k l (allU ltS (colH (l.take i))) (i : Int) (!okH l[i])) (allU ltS (colH l)) := by
      cases hok : okH l[i] with
      | false =>
        rw [toH_no hok, Option.toList_none, List.append_nil] at ih
        refine Ev.step (f := fun k => freshetref11_Hints.l0 k l (allU ltS (colH (l.take i))) ((i + 1 : Nat) : Int)) (fun k => ?_) ih
        simp only [freshetref11_Hints.j1]
        rw [if_pos (by rfl), hw]
      | true =>
        rw [toH_yes hok, Option.toList_some, allU_snoc] at ih
        rw [← hw] at ih
        have hva : valid (bl l[i].f0) = true := by simp only [okH, Bool.and_eq_true] at hok; exact hok.1.1
        have h1 := Hin_l1 l (allU ltS (colH (l.take i))) (i : Int) ⟨mkB (foldN (bl l[i].f0)), l[i].f1⟩ _ (by
            have h1 := allU_length ltS (colH (l.take i))
            have h2 : (colH (l.take i)).length ≤ (l.take i).length := List.length_filterMap_le _ _
            rw [List.length_take] at h2
            omega) (good_fold hva) (fun y hy => colH_good _ y ((allU_sub _ _ y).1 hy)) ih _ 0 rfl (Nat.zero_le _) (fun j hj h0 => absurd h0 (Nat.not_lt_zero _))
        refine Ev.step (f := fun k => freshetref11_Hints.l1 k l (allU ltS (colH (l.take i))) (i : Int) ((0 : Nat) : Int) (mkB (foldN (bl l[i].f0))) l[i].f1) (fun k => ?_) h1
        simp only [freshetref11_Hints.j1]
        rw [if_neg (by decide), if_pos (by omega), if_pos (by omega), rd_Sv l i hlt]
        unfold ref1_Fold.f
        rw [if_pos hsz]
        rfl
    refine Ev.step (f := fun k => ((freshetref1_Valid.f k l[i].f0).bind fun t102 => (if t102 = true then (if l[i].f1 < 0 then (freshetref11_Hints.j1 k l (allU ltS (colH (l.take i))) (i : Int) true) else (freshetref11_Hints.j1 k l (allU ltS (colH (l.take i))) (i : Int) (decide (l[i].f1 ≥ 4294967296)))) else (freshetref11_Hints.j1 k l (allU ltS (colH (l.take i))) (i : Int) true)))) (fun k => ?_) ?_
    · simp only [freshetref11_Hints.l0]
      rw [if_pos (by omega), if_pos (by omega), rd_Sv l i hlt]
    · refine Ev.bind (f := fun k t102 => (if t102 = true then (if l[i].f1 < 0 then (freshetref11_Hints.j1 k l (allU ltS (colH (l.take i))) (i : Int) true) else (freshetref11_Hints.j1 k l (allU ltS (colH (l.take i))) (i : Int) (decide (l[i].f1 ≥ 4294967296)))) else (freshetref11_Hints.j1 k l (allU ltS (colH (l.take i))) (i : Int) true))) hV ?_
      unfold okH at hj1
      cases hva : valid (bl l[i].f0) with
      | false =>
        rw [hva] at hj1
        exact Ev.congr (fun k => by rw [if_neg (by decide)]; rfl) hj1
      | true =>
        rw [hva] at hj1
        by_cases h0 : l[i].f1 < 0
        · rw [decide_eq_false (show ¬ 0 ≤ l[i].f1 by omega)] at hj1
          exact Ev.congr (fun k => by rw [if_pos rfl, if_pos h0]; rfl) hj1
        · rw [decide_eq_true (show 0 ≤ l[i].f1 by omega)] at hj1
          refine Ev.congr (fun k => ?_) hj1
          rw [if_pos rfl, if_neg h0]
          congr 1
          rw [Bool.true_and, Bool.true_and, ← decide_not]
          exact decide_eq_decide.2 (by omega)
theorem HintsD_ev (l : List S25) (hl : l.length ≤ 100000) (hs : ∀ s ∈ l, s.f0.size ≤ 140737488355328) : Ev (fun k => freshetref11_Hints.f k l) (allU ltS (colH l)) :=
  Hin_l0 l hl hs l.length 0 (by omega) (by omega)

/-! ### the law -/
theorem servs_sorted (l : List S25) (h : ∀ x ∈ l, good x.f0) : (allU ltS l).Pairwise (fun a b => ltS a b = true) := by
  let la : List GServ := l.attachWith (fun x => good x.f0) h
  have hla : la.map Subtype.val = l := map_attach (P := fun x : S25 => good x.f0) l h
  rw [← hla, allU_map Subtype.val (fun x y e => Subtype.ext e) (fun x y : GServ => ltS x.1 y.1) ltS (fun x y => rfl), List.pairwise_map]
  exact allU_sorted total_servers la
theorem servs_same (l : List S25) (h : ∀ x ∈ l, good x.f0) (hs : l.Pairwise (fun a b => ltS a b = true)) : allU ltS l = l := by
  let la : List GServ := l.attachWith (fun x => good x.f0) h
  have hla : la.map Subtype.val = l := map_attach (P := fun x : S25 => good x.f0) l h
  have h1 : allU ltS l = (allU (fun x y : GServ => ltS x.1 y.1) la).map Subtype.val := by
    rw [← hla, allU_map Subtype.val (fun x y e => Subtype.ext e) (fun x y : GServ => ltS x.1 y.1) ltS (fun x y => rfl)]
  rw [h1]
  have h2 : allU (fun x y : GServ => ltS x.1 y.1) la = la := by
    refine sorted_unique total_servers _ _ (allU_sorted total_servers la) ?_ (fun z => allU_mem total_servers la z)
    have := hs
    rw [← hla, List.pairwise_map] at this
    exact this
  rw [h2, hla]
theorem colH_ok (l : List S25) : ∀ x ∈ colH l, toH x = some x := by
  intro x hx
  obtain ⟨r, _, hr⟩ := List.mem_filterMap.1 hx
  have hg := colH_good l x hx
  unfold toH at hr
  split at hr
  · rename_i h
    injection hr with hr
    have h1 : x.f1 = r.f1 := by rw [← hr]
    simp only [okH, Bool.and_eq_true] at h
    unfold toH
    rw [if_pos (by unfold okH; rw [hg.1, h1, h.1.2, h.2]; rfl)]
    congr 1
    have h2 : mkB (foldN (bl x.f0)) = x.f0 := by
      unfold foldN
      rw [if_pos hg.1, hg.2]
      rfl
    rw [h2]
  · cases hr
theorem filterMap_same {α : Type} (f : α → Option α) : ∀ l : List α, (∀ x ∈ l, f x = some x) → l.filterMap f = l
  | [], _ => rfl
  | x :: l, h => by rw [List.filterMap_cons, h x List.mem_cons_self, filterMap_same f l (fun y hy => h y (List.mem_cons_of_mem _ hy))]
def hR (l : List S25) : List S25 := allU ltS (colH l)
theorem hR_good (l : List S25) : ∀ x ∈ hR l, good x.f0 := fun x hx => colH_good l x ((allU_sub _ _ x).1 hx)
theorem hR_twice (l : List S25) : hR (hR l) = hR l := by
  have h1 : colH (hR l) = hR l := filterMap_same toH _ (fun x hx => colH_ok l x ((allU_sub _ _ x).1 hx))
  unfold hR at h1 ⊢
  rw [h1]
  exact servs_same _ (hR_good l) (servs_sorted _ (colH_good l))
theorem hR_length (l : List S25) : (hR l).length ≤ l.length := Nat.le_trans (allU_length _ _) (List.length_filterMap_le _ _)
theorem hR_next (l : List S25) (i : Nat) (h : i + 1 < (hR l).length) : lessN (bl (hR l)[i + 1].f0) (bl (hR l)[i].f0) = false ∧ (hR l)[i + 1] ≠ (hR l)[i] := by
  have hs := List.pairwise_iff_getElem.1 (servs_sorted _ (colH_good l)) i (i + 1) (by exact Nat.lt_of_succ_lt h) h (by omega)
  change ltS (hR l)[i] (hR l)[i + 1] = true at hs
  constructor
  · cases hc : lessN (bl (hR l)[i + 1].f0) (bl (hR l)[i].f0) with
    | false => rfl
    | true =>
      have h2 : ltS (hR l)[i + 1] (hR l)[i] = true := by unfold ltS; rw [hc]; rfl
      have := ltS_trans hs h2
      rw [ltS_irrefl] at this; cases this
  · intro e
    rw [e, ltS_irrefl] at hs; cases hs
theorem pHints_ev (l : List S25) (hl : l.length ≤ 100000) (hs : ∀ r ∈ l, r.f0.size ≤ 140737488355328) : Ev (fun k => pick_Hints.f k l) (hR l) := by
  have := Hints_ev l hl hs
  rw [hintsR_eq] at this
  exact this

theorem PH_l1 (l : List S25) (hl : l.length ≤ 40) (hs : ∀ r ∈ l, r.f0.size ≤ 300) : ∀ (d i : Nat), (hR l).length - i = d → i ≤ (hR l).length → Ev (fun k => freshetlaw15_PickHints.l1 k l (hR l) (i : Int)) true
  | 0, i, hd, hi => by
    obtain rfl : i = (hR l).length := by omega
    have hlen := hR_length l
    have e1 := HintsD_ev l (by omega) (fun r hr => by have := hs r hr; omega)
    have e2 := alike_ev (hR l) (hR l) (by omega)
    have e3 := pHints_ev (hR l) (by omega) (fun r hr => by have := good_size (hR_good l r hr); omega)
    rw [hR_twice] at e3
    rw [decide_eq_true rfl] at e2
    refine Ev.step (f := fun k => ((freshetref11_Hints.f k l).bind fun t112 => ((freshetalike_Servers.f k (hR l) t112).bind fun t115 => (if t115 = true then ((pick_Hints.f k (hR l)).bind fun t116 => ((freshetalike_Servers.f k t116 (hR l)).bind fun t119 => (if t119 = true then ((law15_awake.f).bind fun t120 => (some t120)) else (some false)))) else (some false))))) (fun k => ?_) ?_
    · simp only [freshetlaw15_PickHints.l1]
      rw [if_neg (by omega)]
    · refine Ev.bind (f := fun k t112 => ((freshetalike_Servers.f k (hR l) t112).bind fun t115 => (if t115 = true then ((pick_Hints.f k (hR l)).bind fun t116 => ((freshetalike_Servers.f k t116 (hR l)).bind fun t119 => (if t119 = true then ((law15_awake.f).bind fun t120 => (some t120)) else (some false)))) else (some false)))) e1 ?_
      refine Ev.bind (f := fun k t115 => (if t115 = true then ((pick_Hints.f k (hR l)).bind fun t116 => ((freshetalike_Servers.f k t116 (hR l)).bind fun t119 => (if t119 = true then ((law15_awake.f).bind fun t120 => (some t120)) else (some false)))) else (some false))) e2 ?_
      refine Ev.congr (f := fun k => (pick_Hints.f k (hR l)).bind fun t116 => ((freshetalike_Servers.f k t116 (hR l)).bind fun t119 => (if t119 = true then ((law15_awake.f).bind fun t120 => (some t120)) else (some false)))) (fun k => by rw [if_pos rfl]) ?_
      refine Ev.bind (f := fun k t116 => ((freshetalike_Servers.f k t116 (hR l)).bind fun t119 => (if t119 = true then ((law15_awake.f).bind fun t120 => (some t120)) else (some false)))) e3 ?_
      refine Ev.bind (f := fun k t119 => (if t119 = true then ((law15_awake.f).bind fun t120 => (some t120)) else (some false))) e2 ?_
      exact Ev.congr (f := fun _ => some true) (fun k => by rw [if_pos rfl]; rfl) (Ev.now _)
  | d + 1, i, hd, hi => by
    have hlt : i < (hR l).length := by omega
    have ih := PH_l1 l hl hs d (i + 1) (by omega) (by omega)
    have hlen := hR_length l
    have hw : wrap64 ((i : Int) + 1) = ((i + 1 : Nat) : Int) := by rw [w64 (by omega) (by omega)]; rfl
    have hj2 : Ev (fun k => freshetlaw15_PickHints.j2 k l (hR l) (i : Int) false) true := by
      refine Ev.step (f := fun k => freshetlaw15_PickHints.l1 k l (hR l) ((i + 1 : Nat) : Int)) (fun k => ?_) ih
      simp only [freshetlaw15_PickHints.j2]
      rw [if_neg (by decide), hw]
    cases i with
    | zero =>
      refine Ev.step (f := fun k => freshetlaw15_PickHints.j2 k l (hR l) ((0 : Nat) : Int) false) (fun k => ?_) hj2
      simp only [freshetlaw15_PickHints.l1]
      rw [if_pos (by omega), if_neg (by omega)]
    | succ j =>
      have hn := hR_next l j hlt
      have hgy := hR_good l (hR l)[j + 1] (List.getElem_mem hlt)
      have hgz := hR_good l (hR l)[j] (List.getElem_mem (Nat.lt_of_succ_lt hlt))
      have hL := LessR_ev (hR l)[j + 1].f0 (hR l)[j].f0 (by have := good_size hgy; omega) (by have := good_size hgz; omega)
      rw [hn.1] at hL
      have hw2 : wrap64 (((j + 1 : Nat) : Int) - 1) = ((j : Nat) : Int) := by rw [w64 (by omega) (by omega)]; omega
      have hne : ((hR l)[j + 1].f0.toList == (hR l)[j].f0.toList && (hR l)[j + 1].f1 == (hR l)[j].f1) = false := by
        rw [Bool.eq_false_iff]
        intro he
        refine hn.2 ?_
        rw [Bool.and_eq_true, beq_iff_eq, beq_iff_eq, bl_toList, bl_toList] at he
        generalize (hR l)[j + 1] = y at he ⊢
        generalize (hR l)[j] = z at he ⊢
        obtain ⟨p, q⟩ := y
        obtain ⟨r, s⟩ := z
        simp only at he
        rw [bl_inj he.1, he.2]
      refine Ev.step (f := fun k => ((freshetref1_Less.f k (hR l)[j + 1].f0 (hR l)[j].f0).bind fun t109 => (if t109 = true then (freshetlaw15_PickHints.j2 k l (hR l) ((j + 1 : Nat) : Int) true) else (freshetlaw15_PickHints.j2 k l (hR l) ((j + 1 : Nat) : Int) false)))) (fun k => ?_) ?_
      · simp only [freshetlaw15_PickHints.l1]
        rw [if_pos (by omega), if_pos (by omega), if_pos (by omega), hw2, if_pos (by omega), if_pos (by omega), rd_Sv _ (j + 1) hlt, rd_Sv _ j (Nat.lt_of_succ_lt hlt), hne]
      · refine Ev.bind (f := fun k t109 => (if t109 = true then (freshetlaw15_PickHints.j2 k l (hR l) ((j + 1 : Nat) : Int) true) else (freshetlaw15_PickHints.j2 k l (hR l) ((j + 1 : Nat) : Int) false))) hL ?_
        exact Ev.congr (fun k => by rw [if_neg (by decide)]) hj2

theorem PH_l0 (l : List S25) (hl : l.length ≤ 40) : ∀ (d i : Nat), l.length - i = d → i ≤ l.length → (∀ j (hj : j < l.length), j < i → l[j].f0.size ≤ 300) → Ev (fun k => freshetlaw15_PickHints.l0 k l (i : Int)) true
  | 0, i, hd, hi, hb => by
    obtain rfl : i = l.length := by omega
    have hs : ∀ r ∈ l, r.f0.size ≤ 300 := fun r hr => by
      obtain ⟨j, hj, rfl⟩ := List.mem_iff_getElem.1 hr
      exact hb j hj hj
    have e1 := pHints_ev l (by omega) (fun r hr => by have := hs r hr; omega)
    refine Ev.step (f := fun k => ((pick_Hints.f k l).bind fun t104 => (freshetlaw15_PickHints.l1 k l t104 0))) (fun k => ?_) ?_
    · simp only [freshetlaw15_PickHints.l0]
      rw [if_neg (by omega)]
    · refine Ev.bind (f := fun k t104 => (freshetlaw15_PickHints.l1 k l t104 0)) e1 ?_
      exact PH_l1 l hl hs _ 0 rfl (Nat.zero_le _)
  | d + 1, i, hd, hi, hb => by
    have hlt : i < l.length := by omega
    have hw : wrap64 ((i : Int) + 1) = ((i + 1 : Nat) : Int) := by rw [w64 (by omega) (by omega)]; rfl
    by_cases h : (l[i].f0.size : Int) > 300
    · refine Ev.step (f := fun _ => some true) (fun k => ?_) (Ev.now _)
      simp only [freshetlaw15_PickHints.l0]
      rw [if_pos (by omega), if_pos (by omega), rd_Sv l i hlt, if_pos h]
      rfl
    · have ih := PH_l0 l hl d (i + 1) (by omega) (by omega) (fun j hj hji => by
        rcases Nat.lt_or_ge j i with h1 | h1
        · exact hb j hj h1
        · obtain rfl : j = i := by omega
          omega)
      refine Ev.step (f := fun k => freshetlaw15_PickHints.l0 k l ((i + 1 : Nat) : Int)) (fun k => ?_) ih
      simp only [freshetlaw15_PickHints.l0]
      rw [if_pos (by omega), if_pos (by omega), rd_Sv l i hlt, if_neg h, hw]
theorem PickHints_ev (l : List S25) : Ev (fun k => freshetlaw15_PickHints.f k l) true := by
  unfold freshetlaw15_PickHints.f
  by_cases h : (l.length : Int) > 40
  · exact Ev.congr (f := fun _ => some true) (fun k => by rw [if_pos h]; rfl) (Ev.now _)
  · exact Ev.congr (fun k => by rw [if_neg h]; rfl) (PH_l0 l (by omega) l.length 0 (by omega) (by omega) (fun j hj h0 => absurd h0 (Nat.not_lt_zero _)))
theorem PickHints_calls (A0 : Option Addr) (c0 : Nat) (l0 : List S25) (w : World) (hr0 : Kd.C k25 w A0 l0.length l0) (hc0 : l0.length ≤ c0) :
    Calls Try.prog 3 #[.slice A0 l0.length c0] w fun e w' => e = .returned (.bool true) ∧ Below w.heap.size w w' := by
  obtain ⟨K, hK⟩ := PickHints_ev l0
  exact freshetlaw15_PickHints.calls K A0 c0 l0 true w hr0 hc0 (hK K (Nat.le_refl _))
end Go.Proofs.Ytjiheepiobffkaa.Fr
