/-
  Records' data in plain words: where names stand in it, whether it may be; and that the printed functions come to that.
-/
import Derived.Test.YtjiheepiobffkaaGreatNames
import Derived.Test.YtjiheepiobffkaaGreatPr6
namespace Go.Proofs.YtjiheepiobffkaaGreat.Fr
open Go.RowKit Go.Proofs.YtjiheepiobffkaaGreatW.PrintWords Go.Proofs.YtjiheepiobffkaaGreat.Pr

def shapeP (t : Int) : Option (Nat × Nat × Nat) := if t = 2 ∨ t = 5 ∨ t = 12 then some (0, 1, 0) else if t = 15 then some (2, 1, 0) else if t = 33 then some (6, 1, 0) else if t = 6 then some (0, 2, 20) else none
def placesL : Nat → List UInt8 → Nat → Option (List (Nat × Nat) × Nat)
  | 0, _, i => some ([], i)
  | n + 1, l, i => match lead l with
    | none => none
    | some k => (placesL n (l.drop k) (i + k)).map fun x => ((i, k) :: x.1, x.2)
def placesR (t : Int) (d : List UInt8) : List (Nat × Nat) × Bool :=
  match shapeP t with
  | none => ([], true)
  | some (a, n, b) => if d.length < a then ([], false) else match placesL n (d.drop a) a with
    | none => ([], false)
    | some (l, e) => (l, decide (d.length = e + b))
def textsF : Nat → List UInt8 → Bool
  | 0, _ => false
  | _ + 1, [] => true
  | f + 1, c :: r => if r.length < c.toNat then false else textsF f (r.drop c.toNat)
def dataP (t : Int) (d : List UInt8) : Bool :=
  if 1000 < d.length then false else if t = 1 then decide (d.length = 4) else if t = 28 then decide (d.length = 16) else if t = 16 then (if d = [] then false else textsF 1001 d) else (placesR t d).2
/-- Where names stand in data that may be. -/
def namesP (t : Int) (d : List UInt8) : List (Nat × Nat) := if dataP t d then (placesR t d).1 else []
/-- The name that a record leads to. -/
def targetP (t : Int) (d : List UInt8) : Option (List UInt8) := if t = 6 then none else (namesP t d).head?.map fun x => (d.drop x.1).take x.2

theorem Shape_ev (t : Int) : Ev (fun k => record_Shape.f k t) (match shapeP t with | some (a, n, b) => ((a : Int), (n : Int), (b : Int), true) | none => (0, 0, 0, false)) := by
  have hj : ∀ b : Bool, b = decide (t = 2 ∨ t = 5 ∨ t = 12) → Ev (fun k => record_Shape.j0 k t b) (match shapeP t with | some (a, n, b) => ((a : Int), (n : Int), (b : Int), true) | none => (0, 0, 0, false)) := by
    intro b hb
    refine Ev.step (f := fun _ => some (match shapeP t with | some (a, n, b) => ((a : Int), (n : Int), (b : Int), true) | none => (0, 0, 0, false))) (fun k => ?_) (Ev.now _)
    simp only [record_Shape.j0]
    unfold shapeP
    by_cases h : t = 2 ∨ t = 5 ∨ t = 12
    · rw [hb, if_pos (decide_eq_true h), if_pos h]; rfl
    · rw [hb, if_neg (by simpa using h), if_neg h]
      by_cases h15 : t = 15
      · rw [if_pos h15, if_pos h15]; rfl
      · rw [if_neg h15, if_neg h15]
        by_cases h33 : t = 33
        · rw [if_pos h33, if_pos h33]; rfl
        · rw [if_neg h33, if_neg h33]
          by_cases h6 : t = 6
          · rw [if_pos h6, if_pos h6]; rfl
          · rw [if_neg h6, if_neg h6]
  unfold record_Shape.f
  by_cases h2 : t = 2
  · exact Ev.congr (f := fun k => record_Shape.j0 k t (t == 2)) (fun k => by rw [if_pos h2]) (hj _ (by simp [h2]))
  · by_cases h5 : t = 5
    · exact Ev.congr (f := fun k => record_Shape.j0 k t (t == 5)) (fun k => by rw [if_neg h2, if_pos h5]) (hj _ (by simp [h5]))
    · exact Ev.congr (f := fun k => record_Shape.j0 k t (t == 12)) (fun k => by rw [if_neg h2, if_neg h5]) (hj _ (by simp [h2, h5]; rfl))

def pl (l : List (Nat × Nat)) : List S252 := l.map fun x => ⟨(x.1 : Int), (x.2 : Int)⟩

theorem places_l0 (s : ByteArray) (hs : s.size ≤ 140737488351232) (b m : Nat) (hb : b ≤ 1000) : ∀ (n j i : Nat) (acc : List S252), j + n = m → m ≤ 10 → i ≤ s.size → acc.length ≤ 10 - n →
    Ev (fun k => record_places.l0 k s acc (b : Int) (i : Int) (m : Int) (j : Int)) (match placesL n ((bl s).drop i) i with | none => ([], false) | some (l, e) => (acc ++ pl l, decide (s.size = e + b)))
  | 0, j, i, acc, hj, hm, hi, ha => by
    refine Ev.step (f := fun _ => some (acc ++ pl [], decide (s.size = i + b))) (fun k => ?_) (Ev.now _)
    simp only [record_places.l0]
    rw [if_neg (by omega), w64 (by omega) (by omega)]
    simp only [pl, List.map_nil, List.append_nil]
    congr 2
    rw [Bool.eq_iff_iff, beq_iff_eq, decide_eq_true_iff]
    omega
  | n + 1, j, i, acc, hj, hm, hi, ha => by
    have hx : bl (s.extract i s.size) = (bl s).drop i := by
      rw [bl_extract, List.take_of_length_le (by rw [List.length_drop, bl_length]; omega)]
    have hxs : (s.extract i s.size).size ≤ s.size := by
      rw [← bl_length, hx, List.length_drop, bl_length]; omega
    have hL := Lead_ev (s.extract i s.size) (by omega)
    rw [hx] at hL
    unfold placesL
    refine Ev.step (f := fun k => (name_Lead.f k (s.extract i s.size)).bind fun bt291 => (if bt291.2 = true then (if acc.length < 8796093022208 then (record_places.l0 k s (acc ++ [(⟨(i : Int), bt291.1⟩ : S252)]) (b : Int) (wrap64 ((i : Int) + bt291.1)) (m : Int) (wrap64 ((j : Int) + 1))) else (none)) else (some (([] : List S252), false)))) (fun k => ?_) ?_
    · simp only [record_places.l0]
      rw [if_pos (by omega), if_pos (by omega), if_pos (by omega)]
      rfl
    · cases hl : lead ((bl s).drop i) with
      | none =>
        rw [hl] at hL
        refine Ev.bind (f := fun k bt291 => (if bt291.2 = true then (if acc.length < 8796093022208 then (record_places.l0 k s (acc ++ [(⟨(i : Int), bt291.1⟩ : S252)]) (b : Int) (wrap64 ((i : Int) + bt291.1)) (m : Int) (wrap64 ((j : Int) + 1))) else (none)) else (some (([] : List S252), false)))) hL ?_
        exact Ev.congr (f := fun _ => some ([], false)) (fun k => if_neg (by decide)) (Ev.now _)
      | some n1 =>
        rw [hl] at hL
        have hb1 := leadF_le _ _ _ _ hl
        rw [List.length_drop, bl_length] at hb1
        refine Ev.bind (f := fun k bt291 => (if bt291.2 = true then (if acc.length < 8796093022208 then (record_places.l0 k s (acc ++ [(⟨(i : Int), bt291.1⟩ : S252)]) (b : Int) (wrap64 ((i : Int) + bt291.1)) (m : Int) (wrap64 ((j : Int) + 1))) else (none)) else (some (([] : List S252), false)))) hL ?_
        have ih := places_l0 s hs b m hb n (j + 1) (i + n1) (acc ++ [⟨(i : Int), (n1 : Int)⟩]) (by omega) hm (by omega) (by simp; omega)
        rw [← List.drop_drop] at ih
        refine Ev.congr (f := fun k => record_places.l0 k s (acc ++ [⟨(i : Int), (n1 : Int)⟩]) (b : Int) ((i + n1 : Nat) : Int) (m : Int) ((j + 1 : Nat) : Int)) (fun k => ?_) ?_
        · simp only [leadR]
          rw [if_pos trivial, if_pos (by omega), w64 (x := (i : Int) + (n1 : Int)) (by omega) (by omega), w64 (x := (j : Int) + 1) (by omega) (by omega)]
          rfl
        · dsimp only
          cases hp : placesL n (((bl s).drop i).drop n1) (i + n1) with
          | none => rw [hp] at ih; exact ih
          | some x =>
            rw [hp] at ih
            simp only [List.append_assoc] at ih
            exact ih

theorem places_ev (t : Int) (s : ByteArray) (hs : s.size ≤ 140737488351232) : Ev (fun k => record_places.f k t s) (pl (placesR t (bl s)).1, (placesR t (bl s)).2) := by
  unfold record_places.f
  have hS := Shape_ev t
  unfold placesR
  cases hsh : shapeP t with
  | none =>
    rw [hsh] at hS
    refine Ev.bind (f := fun k (bt287 : Int × Int × Int × Bool) => if bt287.2.2.2 = true then (if (s.size : Int) < bt287.1 then (some (([] : List S252), false)) else (record_places.l0 k s ([] : List S252) bt287.2.2.1 bt287.1 bt287.2.1 0)) else (some (([] : List S252), true))) hS ?_
    exact Ev.congr (f := fun _ => some ([], true)) (fun k => by rw [if_neg (by decide)]) (Ev.now _)
  | some x =>
    obtain ⟨a, n, b⟩ := x
    rw [hsh] at hS
    refine Ev.bind (f := fun k (bt287 : Int × Int × Int × Bool) => if bt287.2.2.2 = true then (if (s.size : Int) < bt287.1 then (some (([] : List S252), false)) else (record_places.l0 k s ([] : List S252) bt287.2.2.1 bt287.1 bt287.2.1 0)) else (some (([] : List S252), true))) hS ?_
    have hab : a ≤ 6 ∧ n ≤ 2 ∧ b ≤ 20 := by
      unfold shapeP at hsh
      repeat' split at hsh
      all_goals first | (injection hsh with hsh; injection hsh with h1 h2; injection h2 with h2 h3; omega) | cases hsh
    dsimp only
    by_cases hl : (bl s).length < a
    · rw [if_pos hl]
      rw [bl_length] at hl
      exact Ev.congr (f := fun _ => some ([], false)) (fun k => by rw [if_pos rfl, if_pos (by omega)]) (Ev.now _)
    · rw [if_neg hl]
      rw [bl_length] at hl
      have h := places_l0 s hs b n (by omega) n 0 a [] (by omega) (by omega) (by omega) (by simp)
      refine Ev.congr (f := fun k => record_places.l0 k s [] (b : Int) (a : Int) (n : Int) ((0 : Nat) : Int)) (fun k => by rw [if_pos rfl, if_neg (by omega)]; rfl) ?_
      cases hp : placesL n ((bl s).drop a) a with
      | none => rw [hp] at h; exact h
      | some x =>
        rw [hp] at h
        simp only [List.nil_append] at h
        rw [bl_length]
        exact h

theorem texts_l0 : ∀ (f : Nat) (s : ByteArray), s.size < f → s.size ≤ 100000 → Ev (fun k => record_texts.l0 k s) (textsF f (bl s))
  | 0, s, h, _ => by omega
  | f + 1, s, h, hs => by
    cases hd : bl s with
    | nil =>
      refine Ev.step (f := fun _ => some true) (fun k => ?_) (Ev.now _)
      simp only [record_texts.l0]
      rw [if_pos (by rw [bl_toList, hd])]
    | cons c r =>
      obtain ⟨hb, hlt, hr, hsz⟩ := bt_drop (i := 0) hd
      have hc := c.toNat_lt
      have hb' : bt s 0 = (c.toNat : Int) := hb
      unfold textsF
      by_cases hl : r.length < c.toNat
      · rw [if_pos hl]
        refine Ev.step (f := fun _ => some false) (fun k => ?_) (Ev.now _)
        simp only [record_texts.l0]
        rw [if_neg (by rw [bl_toList, hd]; simp), if_pos (by omega), hb', w64 (x := (c.toNat : Int)) (by omega) (by omega), w64 (x := 1 + (c.toNat : Int)) (by omega) (by omega), if_pos (by omega)]
      · rw [if_neg hl]
        have hx1 : bl (s.extract (1 + c.toNat) s.size) = r.drop c.toNat := by
          rw [bl_extract, ← List.drop_drop]
          rw [show (bl s).drop 1 = r from hr]
          rw [List.take_of_length_le (by simp; omega)]
        have hxs : (s.extract (1 + c.toNat) s.size).size = r.length - c.toNat := by
          rw [← bl_length, hx1, List.length_drop]
        have ih := texts_l0 f (s.extract (1 + c.toNat) s.size) (by omega) (by omega)
        rw [hx1] at ih
        refine Ev.step (f := fun k => record_texts.l0 k (s.extract (1 + c.toNat) s.size)) (fun k => ?_) ih
        simp only [record_texts.l0]
        rw [if_neg (by rw [bl_toList, hd]; simp), if_pos (by omega), hb', w64 (x := (c.toNat : Int)) (by omega) (by omega), w64 (x := 1 + (c.toNat : Int)) (by omega) (by omega), if_neg (by omega), if_pos (by omega), if_pos (by omega)]
        rw [show (1 + (c.toNat : Int)).toNat = 1 + c.toNat from by omega]

theorem Data_ev (t : Int) (s : ByteArray) (hs : s.size ≤ 140737488351232) : Ev (fun k => record_Data.f k t s) (dataP t (bl s)) := by
  unfold record_Data.f dataP
  refine Ev.bind (f := fun k (bt296 : List S252 × Bool) => if (s.size : Int) > 1000 then (some false) else (if t = 1 then (some ((s.size : Int) == 4)) else (if t = 28 then (some ((s.size : Int) == 16)) else (if t = 16 then ((record_texts.f k s).bind fun t300 => (some t300)) else (some bt296.2))))) (places_ev t s hs) ?_
  rw [bl_length]
  by_cases h1 : 1000 < s.size
  · rw [if_pos h1]
    exact Ev.congr (f := fun _ => some false) (fun k => by rw [if_pos (by omega)]) (Ev.now _)
  · rw [if_neg h1]
    by_cases ha : t = 1
    · rw [if_pos ha]
      refine Ev.congr (f := fun _ => some (decide (s.size = 4))) (fun k => ?_) (Ev.now _)
      rw [if_neg (by omega), if_pos ha]
      congr 1
      rw [Bool.eq_iff_iff, beq_iff_eq, decide_eq_true_iff]; omega
    · rw [if_neg ha]
      by_cases hb : t = 28
      · rw [if_pos hb]
        refine Ev.congr (f := fun _ => some (decide (s.size = 16))) (fun k => ?_) (Ev.now _)
        rw [if_neg (by omega), if_neg ha, if_pos hb]
        congr 1
        rw [Bool.eq_iff_iff, beq_iff_eq, decide_eq_true_iff]; omega
      · rw [if_neg hb]
        by_cases hc : t = 16
        · rw [if_pos hc]
          refine Ev.congr (f := fun k => (record_texts.f k s).bind fun t300 => (some t300)) (fun k => by rw [if_neg (by omega), if_neg ha, if_neg hb, if_pos hc]) ?_
          have hT : Ev (fun k => record_texts.f k s) (if bl s = [] then false else textsF 1001 (bl s)) := by
            unfold record_texts.f
            by_cases he : bl s = []
            · rw [if_pos he]
              exact Ev.congr (f := fun _ => some false) (fun k => by rw [if_pos (by rw [bl_toList, he])]) (Ev.now _)
            · rw [if_neg he]
              exact Ev.congr (f := fun k => record_texts.l0 k s) (fun k => by rw [if_neg (by rw [bl_toList]; exact he)]) (texts_l0 1001 s (by omega) (by omega))
          exact Ev.bind (f := fun _ t300 => some t300) hT (Ev.now _)
        · rw [if_neg hc]
          exact Ev.congr (f := fun _ => some (placesR t (bl s)).2) (fun k => by rw [if_neg (by omega), if_neg ha, if_neg hb, if_neg hc]) (Ev.now _)

theorem Data_calls (t : Int) (s : ByteArray) (hs : s.size ≤ 140737488351232) : ∃ k, record_Data.f k t s = some (dataP t (bl s)) := (Data_ev t s hs).rounds
theorem places_calls (t : Int) (s : ByteArray) (hs : s.size ≤ 140737488351232) : ∃ k, record_places.f k t s = some (pl (placesR t (bl s)).1, (placesR t (bl s)).2) := (places_ev t s hs).rounds

end Go.Proofs.YtjiheepiobffkaaGreat.Fr
