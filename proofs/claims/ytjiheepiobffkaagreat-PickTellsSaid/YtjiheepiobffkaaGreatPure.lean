/-
  Names, in plain words: labels, folding, order. No program in sight.
-/
import Derived.Below
import GoSem.Op.String
import Derived.Lib.Strings
namespace Go.Proofs.YtjiheepiobffkaaGreat.Fr

/-- A text of bytes. -/
def mkB (l : List UInt8) : ByteArray := ⟨l.toArray⟩
/-- The bytes of a text. -/
def bl (s : ByteArray) : List UInt8 := s.data.toList
theorem bl_mkB (l : List UInt8) : bl (mkB l) = l := rfl
theorem mkB_bl (s : ByteArray) : mkB (bl s) = s := rfl
theorem bl_inj {a b : ByteArray} (h : bl a = bl b) : a = b := by rw [← mkB_bl a, h, mkB_bl]
theorem bl_length (s : ByteArray) : (bl s).length = s.size := Array.length_toList
theorem bl_toList (s : ByteArray) : s.toList = bl s := ByteArray.toList_eq s
theorem bl_extract (s : ByteArray) (a b : Nat) : bl (s.extract a b) = ((bl s).drop a).take (b - a) := by
  simp [bl, ByteArray.data_extract, List.take_drop]

/-- A byte with a small letter in the place of a great one. -/
def foldByte (c : UInt8) : UInt8 := if 65 ≤ c.toNat ∧ c.toNat ≤ 90 then c + 32 else c
def foldL (l : List UInt8) : List UInt8 := l.map foldByte
theorem foldL_length (l : List UInt8) : (foldL l).length = l.length := by simp [foldL]

/-- The labels that a text begins with, and is, with so many rounds. -/
def labF : Nat → List UInt8 → Option (List (List UInt8))
  | 0, _ => none
  | _ + 1, [] => none
  | f + 1, c :: r => if c.toNat = 0 then (if r = [] then some [] else none) else if 63 < c.toNat then none else if r.length < c.toNat then none else (labF f (r.drop c.toNat)).map (r.take c.toNat :: ·)
/-- A name's labels. -/
def labs (l : List UInt8) : Option (List (List UInt8)) := if l.length ≤ 255 then labF 256 l else none
def valid (l : List UInt8) : Bool := (labs l).isSome
/-- How many bytes of a name a text begins with. -/
def leadF : Nat → List UInt8 → Nat → Option Nat
  | 0, _, _ => none
  | _ + 1, [], _ => none
  | f + 1, c :: r, i => if i < 255 then (if c.toNat = 0 then some (i + 1) else if 63 < c.toNat then none else leadF f (r.drop c.toNat) (i + 1 + c.toNat)) else none
def lead (l : List UInt8) : Option Nat := leadF 256 l 0

theorem leadF_le : ∀ (f : Nat) (l : List UInt8) (i n : Nat), leadF f l i = some n → n ≤ 255 ∧ i < n ∧ n ≤ i + l.length
  | 0, _, _, _, h => by simp [leadF] at h
  | _ + 1, [], _, _, h => by simp [leadF] at h
  | f + 1, c :: r, i, n, h => by
    unfold leadF at h
    split at h
    · split at h
      · injection h with h
        simp; omega
      · split at h
        · cases h
        · have := leadF_le f _ _ _ h
          simp at this ⊢; omega
    · cases h

theorem leadF_valid : ∀ (f : Nat) (l : List UInt8) (i : Nat), i + l.length ≤ 255 → (leadF f l i = some (i + l.length) ↔ (labF f l).isSome = true)
  | 0, l, i, h => by simp [leadF, labF]
  | f + 1, [], i, h => by simp [leadF, labF]
  | f + 1, c :: r, i, h => by
    unfold leadF labF
    simp only [List.length_cons] at h ⊢
    rw [if_pos (by omega)]
    by_cases h0 : c.toNat = 0
    · rw [if_pos h0, if_pos h0]
      by_cases hr : r = []
      · subst hr; simp
      · have : r.length ≠ 0 := by simpa using hr
        rw [if_neg hr]
        simp; omega
    · rw [if_neg h0, if_neg h0]
      by_cases h6 : 63 < c.toNat
      · rw [if_pos h6, if_pos h6]; simp
      · rw [if_neg h6, if_neg h6]
        by_cases hl : r.length < c.toNat
        · rw [if_pos hl, List.drop_eq_nil_of_le (by omega)]
          constructor
          · intro h; cases f <;> simp [leadF] at h
          · intro h; cases h
        · rw [if_neg hl]
          have ih := leadF_valid f (r.drop c.toNat) (i + 1 + c.toNat) (by simp; omega)
          rw [Option.isSome_map, ← ih]
          simp only [List.length_drop]
          rw [show i + 1 + c.toNat + (r.length - c.toNat) = i + (r.length + 1) from by omega]

theorem lead_valid (l : List UInt8) : (lead l == some l.length) = valid l := by
  unfold lead valid labs
  by_cases h : l.length ≤ 255
  · rw [if_pos h, Bool.eq_iff_iff, beq_iff_eq]
    have := leadF_valid 256 l 0 (by omega)
    rw [Nat.zero_add] at this
    exact this
  · rw [if_neg h]
    cases hl : leadF 256 l 0 with
    | none => rfl
    | some n =>
      have := leadF_le _ _ _ _ hl
      simp; omega

theorem valid_length {l : List UInt8} (h : valid l = true) : l.length ≤ 255 := by
  unfold valid labs at h
  split at h
  · assumption
  · cases h

/-- What leads is a name. -/
theorem leadF_take : ∀ (f : Nat) (l : List UInt8) (i n : Nat), leadF f l i = some n → ∀ j, j ≤ i → leadF f (l.take (n - i)) j = some (n - i + j)
  | 0, _, _, _, h, _, _ => by simp [leadF] at h
  | _ + 1, [], _, _, h, _, _ => by simp [leadF] at h
  | f + 1, c :: r, i, n, h, j, hj => by
    have hb := leadF_le _ _ _ _ h
    unfold leadF at h
    split at h
    · rename_i hi
      split at h
      · rename_i h0
        injection h with h
        subst h
        rw [show i + 1 - i = 1 from by omega]
        simp only [List.take_succ_cons, List.take_zero]
        unfold leadF
        rw [if_pos (by omega), if_pos h0]
        congr 1; omega
      · rename_i h0
        split at h
        · cases h
        · rename_i h6
          have hb2 := leadF_le _ _ _ _ h
          have ih := leadF_take f _ _ _ h (j + 1 + c.toNat) (by omega)
          obtain ⟨m, rfl⟩ : ∃ m, n = i + 1 + c.toNat + m := ⟨n - (i + 1 + c.toNat), by omega⟩
          rw [show i + 1 + c.toNat + m - i = (c.toNat + m) + 1 from by omega, List.take_succ_cons]
          unfold leadF
          rw [if_pos (by omega), if_neg h0, if_neg h6]
          rw [show i + 1 + c.toNat + m - (i + 1 + c.toNat) = m from by omega] at ih
          rw [List.drop_take, show c.toNat + m - c.toNat = m from by omega, ih]
          congr 1; omega
    · cases h

theorem lead_name {l : List UInt8} {n : Nat} (h : lead l = some n) : valid (l.take n) = true := by
  have h1 := leadF_take _ _ _ _ h 0 (Nat.le_refl 0)
  have hb := leadF_le _ _ _ _ h
  rw [← lead_valid]
  unfold lead
  rw [Nat.sub_zero] at h1
  rw [h1]
  simp; omega

/-- The bytes at which labels begin are no letters; so a name's labels, folded, are its folding's. -/
theorem foldByte_small (c : UInt8) (h : c.toNat ≤ 64) : foldByte c = c := by
  unfold foldByte
  rw [if_neg (by omega)]
theorem foldByte_great (c : UInt8) (h : 64 < c.toNat) : 64 < (foldByte c).toNat := by
  unfold foldByte
  split
  · rw [UInt8.toNat_add]
    show 64 < (c.toNat + 32) % 256
    omega
  · exact h
theorem labF_fold : ∀ (f : Nat) (l : List UInt8), labF f (foldL l) = (labF f l).map (fun x => x.map foldL)
  | 0, _ => rfl
  | _ + 1, [] => rfl
  | f + 1, c :: r => by
    show labF (f + 1) (foldByte c :: foldL r) = _
    by_cases hc : c.toNat ≤ 64
    · unfold labF
      rw [foldByte_small c hc]
      by_cases h0 : c.toNat = 0
      · rw [if_pos h0, if_pos h0]
        by_cases hr : r = []
        · subst hr; rfl
        · rw [if_neg hr, if_neg (by simpa [foldL] using hr)]; rfl
      · rw [if_neg h0, if_neg h0]
        by_cases h6 : 63 < c.toNat
        · rw [if_pos h6, if_pos h6]; rfl
        · rw [if_neg h6, if_neg h6, foldL_length]
          by_cases hl : r.length < c.toNat
          · rw [if_pos hl, if_pos hl]; rfl
          · rw [if_neg hl, if_neg hl]
            have ih := labF_fold f (r.drop c.toNat)
            have hd : (foldL r).drop c.toNat = foldL (r.drop c.toNat) := by simp [foldL, List.map_drop]
            have ht : (foldL r).take c.toNat = foldL (r.take c.toNat) := by simp [foldL, List.map_take]
            rw [hd, ih, ht, Option.map_map, Option.map_map]
            rfl
    · unfold labF
      have h2 := foldByte_great c (by omega)
      rw [if_neg (by omega), if_pos (by omega), if_neg (by omega), if_pos (by omega)]
      rfl
theorem labs_fold (l : List UInt8) : labs (foldL l) = (labs l).map (fun x => x.map foldL) := by
  unfold labs
  rw [foldL_length, labF_fold]
  split <;> rfl
theorem valid_fold (l : List UInt8) : valid (foldL l) = valid l := by
  unfold valid
  rw [labs_fold, Option.isSome_map]
theorem foldByte_idem (c : UInt8) : foldByte (foldByte c) = foldByte c := by
  by_cases h : 65 ≤ c.toNat ∧ c.toNat ≤ 90
  · have : foldByte c = c + 32 := by unfold foldByte; rw [if_pos h]
    rw [this]
    have h2 : (c + 32).toNat = c.toNat + 32 := by
      rw [UInt8.toNat_add]
      show (c.toNat + 32) % 256 = _
      omega
    unfold foldByte
    rw [if_neg (by omega)]
  · have : foldByte c = c := by unfold foldByte; rw [if_neg h]
    rw [this, this]
theorem foldL_idem (l : List UInt8) : foldL (foldL l) = foldL l := by
  simp only [foldL, List.map_map]
  exact List.map_congr_left fun c _ => foldByte_idem c

/-- The labels make the name. -/
def joinL : List (List UInt8) → List UInt8
  | [] => [0]
  | x :: xs => UInt8.ofNat x.length :: (x ++ joinL xs)
theorem labF_join : ∀ (f : Nat) (l : List UInt8) (ls : List (List UInt8)), labF f l = some ls → joinL ls = l
  | 0, _, _, h => by simp [labF] at h
  | _ + 1, [], _, h => by simp [labF] at h
  | f + 1, c :: r, ls, h => by
    unfold labF at h
    split at h
    · rename_i h0
      split at h
      · rename_i hr
        injection h with h
        subst h hr
        have : c = 0 := by
          apply UInt8.toNat_inj.1
          simpa using h0
        rw [this]; rfl
      · cases h
    · split at h
      · cases h
      · split at h
        · cases h
        · rename_i h6 hl
          obtain ⟨ls', h1, rfl⟩ := Option.map_eq_some_iff.1 h
          have ih := labF_join f _ _ h1
          show UInt8.ofNat (r.take c.toNat).length :: (r.take c.toNat ++ joinL ls') = _
          rw [ih, List.take_append_drop, List.length_take, Nat.min_eq_left (by omega)]
          simp
theorem labs_join {l : List UInt8} {ls : List (List UInt8)} (h : labs l = some ls) : joinL ls = l := by
  unfold labs at h
  split at h
  · exact labF_join _ _ _ h
  · cases h

/-- A name with small letters; what is no name stays. -/
def foldN (l : List UInt8) : List UInt8 := if valid l then foldL l else l
theorem foldN_valid (l : List UInt8) : valid (foldN l) = valid l := by
  unfold foldN
  split
  · exact valid_fold l
  · rfl
/-- The order of lists of labels. -/
def lexLess : List (List UInt8) → List (List UInt8) → Bool
  | _, [] => false
  | [], _ :: _ => true
  | a :: x, b :: y => if a = b then lexLess x y else Op.bytesLess a b
/-- A name's labels, folded, the last one first. -/
def keyOf (l : List UInt8) : List (List UInt8) := ((labs l).getD []).reverse.map foldL
def lessN (a b : List UInt8) : Bool := valid a && valid b && lexLess (keyOf a) (keyOf b)
def sameN (a b : List UInt8) : Bool := valid a && valid b && (foldL a == foldL b)

end Go.Proofs.YtjiheepiobffkaaGreat.Fr
