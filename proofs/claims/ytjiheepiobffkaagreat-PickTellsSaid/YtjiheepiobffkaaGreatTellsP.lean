/-
  The document's side of pick in plain words: addresses that are told, targets, servers, who is next, who is missing; and the law's own bounds.
-/
import Derived.Test.YtjiheepiobffkaaGreatRefT
import Derived.Test.YtjiheepiobffkaaGreatInsU
import Derived.Test.YtjiheepiobffkaaGreatTell
import Derived.Test.YtjiheepiobffkaaGreatPr2
import Derived.Test.YtjiheepiobffkaaGreatPr5
import Derived.Test.YtjiheepiobffkaaGreatPr10
import Derived.Test.YtjiheepiobffkaaGreatPr11
import Derived.Test.YtjiheepiobffkaaGreatPr12
namespace Go.Proofs.YtjiheepiobffkaaGreat.Fr
open Go.RowKit Go.Proofs.YtjiheepiobffkaaGreatW.PrintWords Go.Proofs.YtjiheepiobffkaaGreat.Pr
open Go.Sort hiding rd

def ltI (x y : Int) : Bool := decide (x < y)
theorem uniq_ltI (l : List Int) : uniq l = allU ltI l := uniq_eq l

/-! ### rise -/
theorem rise_j2 (u : List Int) (a : Int) (hu : u.length ≤ 1000000) (k : Nat) (hk : k ≤ u.length) (hb : ∀ j (hj : j < u.length), j < k → ltI u[j] a = true) (hf : ∀ h : k < u.length, ltI u[k] a = false) :
    Ev (fun K => freshetref11_rise.j2 K u a (k : Int) (if h : k < u.length then decide (u[k] = a) else false)) (insU ltI a u) := by
  have hi := insU_at ltI a u k hk hb hf
  refine Ev.step (f := fun _ => some (insU ltI a u)) (fun K => ?_) (Ev.now _)
  simp only [freshetref11_rise.j2]
  have h1 : (u.take k).length = k := by rw [List.length_take]; omega
  have h2 : (u.drop k).length = u.length - k := List.length_drop
  by_cases heq : (if h : k < u.length then decide (u[k] = a) else false) = true
  · rw [if_pos heq, hi]
    by_cases h : k < u.length
    · rw [dif_pos h] at heq
      rw [dif_pos h, if_pos (of_decide_eq_true heq)]
    · rw [dif_neg h] at heq; cases heq
  · rw [if_neg heq, hi]
    simp only [Option.bind_some, Int.toNat_natCast, List.length_append, List.length_nil, List.length_singleton, List.nil_append, h1]
    rw [if_pos (by omega), if_pos (by omega), if_pos (by omega), if_pos (by omega), if_pos (by omega), List.append_assoc]
    by_cases h : k < u.length
    · rw [dif_pos h] at heq
      rw [dif_pos h, if_neg (fun e => heq (decide_eq_true e))]; rfl
    · rw [dif_neg h]; rfl
theorem rise_l0 (u : List Int) (a : Int) (hu : u.length ≤ 1000000) : ∀ (d k : Nat), u.length - k = d → k ≤ u.length → (∀ j (hj : j < u.length), j < k → ltI u[j] a = true) → Ev (fun K => freshetref11_rise.l0 K u a (k : Int)) (insU ltI a u)
  | d, k, hd, hk, hb => by
    by_cases hlt : k < u.length
    · have hr : rd u (k : Int) = u[k] := by simp [rd, List.getElem?_eq_getElem hlt]
      refine Ev.step (f := fun K => freshetref11_rise.j1 K u a (k : Int) (ltI u[k] a)) (fun K => ?_) ?_
      · simp only [freshetref11_rise.l0]
        rw [if_pos (by omega), if_pos (by omega), hr]
        rfl
      · cases hc : ltI u[k] a with
        | true =>
          cases d with
          | zero => omega
          | succ d =>
            have ih := rise_l0 u a hu d (k + 1) (by omega) (by omega) (fun j hj hjk => by
              rcases Nat.lt_or_ge j k with h1 | h1
              · exact hb j hj h1
              · obtain rfl : j = k := by omega
                exact hc)
            refine Ev.step (f := fun K => freshetref11_rise.l0 K u a ((k + 1 : Nat) : Int)) (fun K => ?_) ih
            simp only [freshetref11_rise.j1]
            rw [if_pos trivial, w64 (by omega) (by omega)]
            rfl
        | false =>
          have h2 := rise_j2 u a hu k hk hb (fun _ => hc)
          rw [dif_pos hlt] at h2
          refine Ev.step (f := fun K => freshetref11_rise.j2 K u a (k : Int) (decide (u[k] = a))) (fun K => ?_) h2
          simp only [freshetref11_rise.j1]
          rw [if_neg (by decide), if_pos (by omega), if_pos (by omega), hr]
          rfl
    · have h2 := rise_j2 u a hu k hk hb (fun h => absurd h hlt)
      rw [dif_neg hlt] at h2
      refine Ev.step (f := fun K => freshetref11_rise.j1 K u a (k : Int) false) (fun K => ?_) ?_
      · simp only [freshetref11_rise.l0]
        rw [if_neg (by omega)]
      · refine Ev.step (f := fun K => freshetref11_rise.j2 K u a (k : Int) false) (fun K => ?_) h2
        simp only [freshetref11_rise.j1]
        rw [if_neg (by decide), if_neg (by omega)]
theorem rise_ev (u : List Int) (a : Int) (hu : u.length ≤ 1000000) : Ev (fun K => freshetref11_rise.f K u a) (insU ltI a u) :=
  rise_l0 u a hu u.length 0 (by omega) (by omega) (fun j hj h0 => absurd h0 (Nat.not_lt_zero _))

/-! ### Same, Of -/
theorem rSame_ev (a b : ByteArray) (ha : a.size ≤ 140737488355328) (hb : b.size ≤ 140737488355328) : Ev (fun k => freshetref1_Same.f k a b) (sameN (bl a) (bl b)) := by
  have h1 := rValid_ev a
  have h2 := rValid_ev b
  unfold freshetref1_Same.f
  refine Ev.bind (f := fun k t211 => (if t211 = true then ((freshetref1_Valid.f k b).bind fun t212 => (if t212 = true then ((ref1_Fold.f a).bind fun t213 => ((ref1_Fold.f b).bind fun t214 => (some (t213.toList == t214.toList)))) else (some false))) else (some false))) h1 ?_
  unfold sameN
  cases hva : valid (bl a) with
  | false => exact Ev.congr (f := fun _ => some false) (fun k => by rw [if_neg (by decide)]) (Ev.now _)
  | true =>
    refine Ev.congr (f := fun k => ((freshetref1_Valid.f k b).bind fun t212 => (if t212 = true then ((ref1_Fold.f a).bind fun t213 => ((ref1_Fold.f b).bind fun t214 => (some (t213.toList == t214.toList)))) else (some false)))) (fun k => by rw [if_pos rfl]) ?_
    refine Ev.bind (f := fun k t212 => (if t212 = true then ((ref1_Fold.f a).bind fun t213 => ((ref1_Fold.f b).bind fun t214 => (some (t213.toList == t214.toList)))) else (some false))) h2 ?_
    cases hvb : valid (bl b) with
    | false => exact Ev.congr (f := fun _ => some false) (fun k => by rw [if_neg (by decide)]) (Ev.now _)
    | true =>
      refine Ev.congr (fun k => ?_) (Ev.now _)
      rw [if_pos rfl]
      unfold ref1_Fold.f
      rw [if_pos ha, if_pos hb]
      simp only [Option.bind_some]
      congr 1
      unfold foldN
      rw [if_pos hva, if_pos hvb, bl_toList, bl_toList, bl_mkB, bl_mkB, Bool.true_and, Bool.true_and]

def addF (acc : List Int) (bs : List Int) : List Int := bs.foldl (fun acc a => insU ltI a acc) acc
def ofF (n : ByteArray) (acc : List Int) (l : List S147) : List Int := l.foldl (fun acc x => if sameN (bl x.f0) (bl n) = true then addF acc x.f1 else acc) acc
/-- What a list tells of a name. -/
def ofR (l : List S147) (n : ByteArray) : List Int := ofF n [] l
def smallK (l : List S147) : Prop := l.length ≤ 30 ∧ ∀ x ∈ l, x.f0.size ≤ 300 ∧ x.f1.length ≤ 20
theorem addF_length (acc bs : List Int) : (addF acc bs).length ≤ acc.length + bs.length := by
  unfold addF
  induction bs generalizing acc with
  | nil => simp
  | cons a bs ih =>
    have h1 := ih (insU ltI a acc)
    have h2 := insU_length ltI a acc
    rw [List.foldl_cons, List.length_cons]
    omega
theorem ofF_length (n : ByteArray) : ∀ (l : List S147) (acc : List Int), (∀ x ∈ l, x.f1.length ≤ 20) → (ofF n acc l).length ≤ acc.length + 20 * l.length
  | [], acc, _ => by simp [ofF]
  | x :: l, acc, h => by
    have h1 := h x List.mem_cons_self
    have h2 := addF_length acc x.f1
    unfold ofF
    rw [List.foldl_cons, List.length_cons]
    split
    · have := ofF_length n l (addF acc x.f1) (fun y hy => h y (List.mem_cons_of_mem _ hy))
      unfold ofF at this
      omega
    · have := ofF_length n l acc (fun y hy => h y (List.mem_cons_of_mem _ hy))
      unfold ofF at this
      omega
theorem ofR_length {l : List S147} (h : smallK l) (n : ByteArray) : (ofR l n).length ≤ 600 := by
  have := ofF_length n l [] (fun x hx => (h.2 x hx).2)
  have := h.1
  unfold ofR
  simp only [List.length_nil] at *
  omega
theorem rd_Kn (l : List S147) (i : Nat) (h : i < l.length) : rd_T147 l (i : Int) = l[i] := by simp [rd_T147, List.getElem?_eq_getElem h]
theorem addF_snoc (acc bs : List Int) (a : Int) : addF acc (bs ++ [a]) = insU ltI a (addF acc bs) := by unfold addF; rw [List.foldl_append]; rfl
theorem Of_l1 (l : List S147) (n : ByteArray) (hs : smallK l) (i : Nat) (hi : i < l.length) (acc : List Int) (hacc : acc.length ≤ 100000) (R : List Int)
    (hnext : Ev (fun k => freshetref11_Of.l0 k l n (addF acc l[i].f1) ((i + 1 : Nat) : Int)) R) : ∀ (d j : Nat), l[i].f1.length - j = d → j ≤ l[i].f1.length → Ev (fun k => freshetref11_Of.l1 k l n (addF acc (l[i].f1.take j)) (i : Int) (j : Int)) R
  | 0, j, hd, hj => by
    obtain rfl : j = l[i].f1.length := by omega
    rw [List.take_length]
    have hlen := hs.1
    refine Ev.step (f := fun k => freshetref11_Of.l0 k l n (addF acc l[i].f1) ((i + 1 : Nat) : Int)) (fun k => ?_) hnext
    simp only [freshetref11_Of.l1]
    rw [if_pos (by omega), if_pos (by omega), rd_Kn l i hi, if_neg (by omega), w64 (by omega) (by omega)]
    rfl
  | d + 1, j, hd, hj => by
    have hlt : j < l[i].f1.length := by omega
    have h20 := (hs.2 l[i] (List.getElem_mem hi)).2
    have ih := Of_l1 l n hs i hi acc hacc R hnext d (j + 1) (by omega) (by omega)
    rw [List.take_succ_eq_append_getElem hlt, addF_snoc] at ih
    have hr := rise_ev (addF acc (l[i].f1.take j)) l[i].f1[j] (by have := addF_length acc (l[i].f1.take j); rw [List.length_take] at this; omega)
    have he : rd l[i].f1 (j : Int) = l[i].f1[j] := by simp [rd, List.getElem?_eq_getElem hlt]
    refine Ev.step (f := fun k => ((freshetref11_rise.f k (addF acc (l[i].f1.take j)) l[i].f1[j]).bind fun t => freshetref11_Of.l1 k l n t (i : Int) ((j + 1 : Nat) : Int))) (fun k => ?_) (Ev.bind (f := fun k t => freshetref11_Of.l1 k l n t (i : Int) ((j + 1 : Nat) : Int)) hr ih)
    simp only [freshetref11_Of.l1]
    rw [if_pos (by omega), if_pos (by omega), rd_Kn l i hi, if_pos (by omega), if_pos (by omega), he, w64 (by omega) (by omega)]
    rfl
theorem Of_l0 (l : List S147) (n : ByteArray) (hn : n.size ≤ 140737488355328) (hs : smallK l) : ∀ (d i : Nat), l.length - i = d → i ≤ l.length → Ev (fun k => freshetref11_Of.l0 k l n (ofF n [] (l.take i)) (i : Int)) (ofR l n)
  | 0, i, hd, hi => by
    obtain rfl : i = l.length := by omega
    rw [List.take_length]
    refine Ev.step (f := fun _ => some (ofR l n)) (fun k => ?_) (Ev.now _)
    simp only [freshetref11_Of.l0]
    rw [if_neg (by omega)]
    rfl
  | d + 1, i, hd, hi => by
    have hlt : i < l.length := by omega
    have hlen := hs.1
    have ih := Of_l0 l n hn hs d (i + 1) (by omega) (by omega)
    have htk : ofF n [] (l.take (i + 1)) = if sameN (bl l[i].f0) (bl n) = true then addF (ofF n [] (l.take i)) l[i].f1 else ofF n [] (l.take i) := by
      unfold ofF
      rw [List.take_succ_eq_append_getElem hlt, List.foldl_append]
      rfl
    rw [htk] at ih
    have hS := rSame_ev l[i].f0 n (by have := (hs.2 l[i] (List.getElem_mem hlt)).1; omega) hn
    have hw : wrap64 ((i : Int) + 1) = ((i + 1 : Nat) : Int) := by rw [w64 (by omega) (by omega)]; rfl
    refine Ev.step (f := fun k => ((freshetref1_Same.f k l[i].f0 n).bind fun t => (if t = true then (freshetref11_Of.l1 k l n (ofF n [] (l.take i)) (i : Int) 0) else (freshetref11_Of.l0 k l n (ofF n [] (l.take i)) ((i + 1 : Nat) : Int))))) (fun k => ?_) ?_
    · simp only [freshetref11_Of.l0]
      rw [if_pos (by omega), if_pos (by omega), rd_Kn l i hlt, hw]
    · refine Ev.bind (f := fun k t => (if t = true then (freshetref11_Of.l1 k l n (ofF n [] (l.take i)) (i : Int) 0) else (freshetref11_Of.l0 k l n (ofF n [] (l.take i)) ((i + 1 : Nat) : Int)))) hS ?_
      cases hc : sameN (bl l[i].f0) (bl n) with
      | true =>
        rw [hc, if_pos rfl] at ih
        have hacc : (ofF n [] (l.take i)).length ≤ 100000 := by
          have := ofF_length n (l.take i) [] (fun x hx => (hs.2 x (List.mem_of_mem_take hx)).2)
          rw [List.length_take] at this
          simp only [List.length_nil] at this
          omega
        have h1 := Of_l1 l n hs i hlt _ hacc _ ih _ 0 rfl (Nat.zero_le _)
        exact Ev.congr (fun k => by rw [if_pos rfl]; rfl) h1
      | false =>
        rw [hc, if_neg (by decide)] at ih
        exact Ev.congr (fun k => by rw [if_neg (by decide)]) ih
theorem Of_ev (l : List S147) (n : ByteArray) (hn : n.size ≤ 140737488355328) (hs : smallK l) : Ev (fun k => freshetref11_Of.f k l n) (ofR l n) :=
  Of_l0 l n hn hs l.length 0 (by omega) (by omega)

theorem ofF_all (n : ByteArray) : ∀ (l : List S147) (acc : List Int), acc.Pairwise (fun a b => ltI a b = true) → (ofF n acc l).Pairwise (fun a b => ltI a b = true)
  | [], acc, h => h
  | x :: l, acc, h => by
    unfold ofF
    rw [List.foldl_cons]
    split
    · exact ofF_all n l _ (foldU total_ints x.f1 acc h).1
    · exact ofF_all n l _ h
theorem uniq_of (l : List S147) (n : ByteArray) : uniq (ofR l n) = ofR l n := by
  rw [uniq_ltI]
  exact sorted_unique total_ints _ _ (allU_sorted total_ints _) (ofF_all n l [] List.Pairwise.nil) (fun z => allU_mem total_ints _ z)

/-! ### known -/
def conv (l : List S143) : List S147 := l.map fun x => ⟨x.f0, x.f1⟩
theorem known_l0 (l : List S143) (hl : l.length ≤ 100000) : ∀ (d i : Nat), l.length - i = d → i ≤ l.length → Ev (fun k => freshetlaw15_known.l0 k l (conv (l.take i)) (i : Int)) (conv l)
  | 0, i, hd, hi => by
    obtain rfl : i = l.length := by omega
    rw [List.take_length]
    refine Ev.step (f := fun _ => some (conv l)) (fun k => ?_) (Ev.now _)
    simp only [freshetlaw15_known.l0]
    rw [if_neg (by omega)]
  | d + 1, i, hd, hi => by
    have hlt : i < l.length := by omega
    have ih := known_l0 l hl d (i + 1) (by omega) (by omega)
    have htk : conv (l.take (i + 1)) = conv (l.take i) ++ [⟨l[i].f0, l[i].f1⟩] := by
      unfold conv
      rw [List.take_succ_eq_append_getElem hlt, List.map_append]
      rfl
    rw [htk] at ih
    have hlen : (conv (l.take i)).length ≤ 100000 := by simp [conv]; omega
    have hr : rd_T143 l (i : Int) = l[i] := by simp [rd_T143, List.getElem?_eq_getElem hlt]
    refine Ev.step (f := fun k => freshetlaw15_known.l0 k l (conv (l.take i) ++ [⟨l[i].f0, l[i].f1⟩]) ((i + 1 : Nat) : Int)) (fun k => ?_) ih
    simp only [freshetlaw15_known.l0]
    rw [if_pos (by omega), if_pos (by omega), if_pos (by omega), hr, w64 (by omega) (by omega)]
    rfl
theorem known_ev (l : List S143) (hl : l.length ≤ 100000) : Ev (fun k => freshetlaw15_known.f k l) (conv l) :=
  known_l0 l hl l.length 0 (by omega) (by omega)
end Go.Proofs.YtjiheepiobffkaaGreat.Fr
