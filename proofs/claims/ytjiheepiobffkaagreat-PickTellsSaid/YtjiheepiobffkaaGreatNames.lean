/-
  What the printed functions on names come to, in plain words: Lead, Valid, labels; the reference's Labels, Valid.
-/
import Derived.Test.YtjiheepiobffkaaGreatPr3
import Derived.Test.YtjiheepiobffkaaGreatPr4
import Derived.Test.YtjiheepiobffkaaGreatPr5
import Derived.Test.YtjiheepiobffkaaGreatPure
namespace Go.Proofs.YtjiheepiobffkaaGreat.Fr
open Go.RowKit Go.Proofs.YtjiheepiobffkaaGreatW.PrintWords Go.Proofs.YtjiheepiobffkaaGreat.Pr

theorem w64 {x : Int} (h0 : -9223372036854775808 ≤ x) (h1 : x ≤ 9223372036854775807) : wrap64 x = x := by
  unfold wrap64
  omega
theorem bt_drop {s : ByteArray} {i : Nat} {c : UInt8} {r : List UInt8} (h : (bl s).drop i = c :: r) : bt s (i : Int) = (c.toNat : Int) ∧ i < s.size ∧ (bl s).drop (i + 1) = r ∧ s.size = i + 1 + r.length := by
  have hl : ((bl s).drop i).length = r.length + 1 := by rw [h]; rfl
  rw [List.length_drop, bl_length] at hl
  have hi : i < (bl s).length := by rw [bl_length]; omega
  rw [List.drop_eq_getElem_cons hi] at h
  injection h with h1 h2
  refine ⟨?_, by omega, h2, by omega⟩
  have hi2 : (i : Int).toNat < s.size := by rw [bl_length] at hi; exact hi
  unfold bt
  rw [dif_pos hi2]
  congr 1
  rw [← h1]
  rfl
theorem drop_none {s : ByteArray} {i : Nat} (h : (bl s).drop i = []) : s.size ≤ i := by
  have := List.drop_eq_nil_iff.1 h
  rwa [bl_length] at this

/-! ### name.Lead, name.Valid -/
def leadR : Option Nat → Int × Bool
  | some n => ((n : Int), true)
  | none => (0, false)
theorem Lead_l0 (s : ByteArray) (hs : s.size ≤ 140737488355328) : ∀ (f i : Nat), 256 ≤ f + i → i ≤ 400 → Ev (fun k => name_Lead.l0 k s (i : Int)) (leadR (leadF f ((bl s).drop i) i))
  | 0, i, h, hi => by
    have hn : ∀ b : Bool, b = false → Ev (fun k => name_Lead.j1 k s (i : Int) b) (0, false) := by
      rintro b rfl
      refine Ev.step (f := fun _ => some (0, false)) (fun k => ?_) (Ev.now _)
      simp only [name_Lead.j1]
      rw [if_neg (by decide)]
    by_cases hc : (i : Int) < (s.size : Int)
    · refine Ev.step (f := fun k => name_Lead.j1 k s (i : Int) (decide ((i : Int) < 255))) (fun k => ?_) (hn _ (by simp; omega))
      simp only [name_Lead.l0]
      rw [if_pos hc]
    · refine Ev.step (f := fun k => name_Lead.j1 k s (i : Int) false) (fun k => ?_) (hn _ rfl)
      simp only [name_Lead.l0]
      rw [if_neg hc]
  | f + 1, i, h, hi => by
    have hn : ∀ b : Bool, b = false → Ev (fun k => name_Lead.j1 k s (i : Int) b) (0, false) := by
      rintro b rfl
      refine Ev.step (f := fun _ => some (0, false)) (fun k => ?_) (Ev.now _)
      simp only [name_Lead.j1]
      rw [if_neg (by decide)]
    cases hd : (bl s).drop i with
    | nil =>
      have := drop_none hd
      refine Ev.step (f := fun k => name_Lead.j1 k s (i : Int) false) (fun k => ?_) (hn _ rfl)
      simp only [name_Lead.l0]
      rw [if_neg (by omega)]
    | cons c r =>
      obtain ⟨hb, hlt, hr, hsz⟩ := bt_drop hd
      have hc := c.toNat_lt
      refine Ev.step (f := fun k => name_Lead.j1 k s (i : Int) (decide ((i : Int) < 255))) (fun k => ?_) ?_
      · simp only [name_Lead.l0]
        rw [if_pos (by omega)]
      by_cases h255 : i < 255
      · rw [decide_eq_true (by omega)]
        unfold leadF
        rw [if_pos h255]
        by_cases h0 : c.toNat = 0
        · rw [if_pos h0]
          refine Ev.step (f := fun _ => some (leadR (some (i + 1)))) (fun k => ?_) (Ev.now _)
          simp only [name_Lead.j1]
          rw [if_pos trivial, if_pos (by omega), if_pos (by omega), hb, w64 (by omega) (by omega), if_pos (by omega), w64 (by omega) (by omega)]
          rfl
        · rw [if_neg h0]
          by_cases h6 : 63 < c.toNat
          · rw [if_pos h6]
            refine Ev.step (f := fun _ => some (leadR none)) (fun k => ?_) (Ev.now _)
            simp only [name_Lead.j1]
            rw [if_pos trivial, if_pos (by omega), if_pos (by omega), hb, w64 (by omega) (by omega), if_neg (by omega), if_pos (by omega)]
            rfl
          · rw [if_neg h6]
            have ih := Lead_l0 s hs f (i + 1 + c.toNat) (by omega) (by omega)
            have hdr : (bl s).drop (i + 1 + c.toNat) = r.drop c.toNat := by rw [← List.drop_drop, hr]
            rw [hdr] at ih
            refine Ev.step (f := fun k => name_Lead.l0 k s ((i + 1 + c.toNat : Nat) : Int)) (fun k => ?_) ih
            simp only [name_Lead.j1]
            rw [if_pos trivial, if_pos (by omega), if_pos (by omega), hb, w64 (x := (c.toNat : Int)) (by omega) (by omega), if_neg (by omega), if_neg (by omega), w64 (x := (i : Int) + 1) (by omega) (by omega), w64 (by omega) (by omega)]
            congr 1
      · rw [decide_eq_false (by omega)]
        unfold leadF
        rw [if_neg h255]
        exact hn _ rfl
theorem Lead_ev (s : ByteArray) (hs : s.size ≤ 140737488355328) : Ev (fun k => name_Lead.f k s) (leadR (lead (bl s))) := by
  have h := Lead_l0 s hs 256 0 (by omega) (by omega)
  rw [List.drop_zero] at h
  exact h
theorem Valid_ev (s : ByteArray) (hs : s.size ≤ 140737488355328) : Ev (fun k => name_Valid.f k s) (valid (bl s)) := by
  unfold name_Valid.f
  refine Ev.bind (f := fun _ bt101 => (if bt101.2 = true then (some (bt101.1 == (s.size : Int))) else (some false))) (Lead_ev s hs) ?_
  have hv := lead_valid (bl s)
  cases hl : lead (bl s) with
  | none =>
    rw [hl] at hv
    refine Ev.congr (f := fun _ => some (valid (bl s))) (fun k => ?_) (Ev.now _)
    rw [← hv]
    rfl
  | some n =>
    rw [hl] at hv
    refine Ev.congr (f := fun _ => some (valid (bl s))) (fun k => ?_) (Ev.now _)
    rw [← hv]
    show some (((n : Int)) == (s.size : Int)) = _
    congr 1
    rw [bl_length, Bool.eq_iff_iff, beq_iff_eq, beq_iff_eq]
    constructor
    · intro h; congr 1; omega
    · intro h; injection h with h; omega

/-! ### name.labels -/
def bas (ls : List (List UInt8)) : List ByteArray := ls.map mkB
theorem labels_l0 : ∀ (f : Nat) (s : ByteArray) (acc : List ByteArray) (ls : List (List UInt8)), labF f (bl s) = some ls → s.size ≤ 255 → acc.length + s.size ≤ 300 → Ev (fun k => name_labels.l0 k s acc) (acc ++ bas ls)
  | 0, s, acc, ls, h, hs, ha => by simp [labF] at h
  | f + 1, s, acc, ls, h, hs, ha => by
    cases hd : bl s with
    | nil => rw [hd] at h; simp [labF] at h
    | cons c r =>
      have hd0 : (bl s).drop 0 = c :: r := hd
      obtain ⟨hb, hlt, hr, hsz⟩ := bt_drop hd0
      have hc := c.toNat_lt
      rw [hd] at h
      unfold labF at h
      by_cases h0 : c.toNat = 0
      · rw [if_pos h0] at h
        split at h
        · rename_i hrn
          injection h with h
          subst h hrn
          have hc0 : c = 0 := UInt8.toNat_inj.1 (by simpa using h0)
          refine Ev.step (f := fun _ => some acc) (fun k => ?_) (by simp only [bas, List.map_nil, List.append_nil]; exact Ev.now _)
          simp only [name_labels.l0]
          rw [if_pos (by rw [bl_toList, hd, hc0])]
        · cases h
      · rw [if_neg h0] at h
        split at h
        · cases h
        · split at h
          · cases h
          · rename_i h6 hl
            obtain ⟨ls', h1, rfl⟩ := Option.map_eq_some_iff.1 h
            have hb' : bt s 0 = (c.toNat : Int) := hb
            have hx1 : bl (s.extract (1 + c.toNat) s.size) = r.drop c.toNat := by
              rw [bl_extract, ← List.drop_drop, hr, List.take_of_length_le (by simp; omega)]
            have hx2 : s.extract 1 (1 + c.toNat) = mkB (r.take c.toNat) := by
              apply bl_inj
              rw [bl_extract, bl_mkB, hr, Nat.add_sub_cancel_left]
            have hxs : (s.extract (1 + c.toNat) s.size).size = r.length - c.toNat := by
              rw [← bl_length, hx1, List.length_drop]
            have ih := labels_l0 f (s.extract (1 + c.toNat) s.size) (acc ++ [mkB (r.take c.toNat)]) ls' (by rw [hx1]; exact h1) (by omega) (by simp; omega)
            refine Ev.step (f := fun k => name_labels.l0 k (s.extract (1 + c.toNat) s.size) (acc ++ [mkB (r.take c.toNat)])) (fun k => ?_) (by rw [List.append_assoc] at ih; exact ih)
            simp only [name_labels.l0]
            rw [hb', w64 (x := (c.toNat : Int)) (by omega) (by omega), w64 (x := 1 + (c.toNat : Int)) (by omega) (by omega)]
            rw [if_neg (by rw [bl_toList, hd]; intro he; injection he with he; rw [he] at h0; exact h0 rfl), if_pos (by omega), if_pos (by omega), if_pos (by omega), if_pos (by omega), if_pos (by omega)]
            rw [show (1 + (c.toNat : Int)).toNat = 1 + c.toNat from by omega, hx2]
theorem labels_ev (s : ByteArray) (hs : s.size ≤ 140737488355328) : Ev (fun k => name_labels.f k s) (bas ((labs (bl s)).getD [])) := by
  unfold name_labels.f
  refine Ev.bind (f := fun k t => (if t = true then (name_labels.l0 k s ([] : List ByteArray)) else (some ([] : List ByteArray)))) (Valid_ev s hs) ?_
  by_cases hv : valid (bl s) = true
  · rw [hv]
    have hlen := valid_length hv
    rw [bl_length] at hlen
    obtain ⟨ls, hls⟩ := Option.isSome_iff_exists.1 hv
    rw [hls]
    refine Ev.congr (f := fun k => name_labels.l0 k s []) (fun k => by rw [if_pos rfl]) ?_
    have hF : labF 256 (bl s) = some ls := by
      unfold labs at hls
      rwa [if_pos (by rw [bl_length]; omega)] at hls
    exact labels_l0 256 s [] ls hF hlen (by simp; omega)
  · have hn : labs (bl s) = none := by
      unfold valid at hv
      simpa using hv
    rw [Bool.eq_false_iff.2 hv, hn]
    exact Ev.congr (f := fun _ => some []) (fun k => by rw [if_neg (by decide)]) (Ev.now _)

/-! ### the reference's Labels, Valid -/
theorem rLabels_l0 (s : ByteArray) (hs : s.size ≤ 255) : ∀ (f i : Nat) (acc : List ByteArray), 256 ≤ f + i → i ≤ s.size → acc.length ≤ i → ∃ x, Ev (fun k => freshetref1_Labels.l0 k s acc (i : Int)) (x, (labF f ((bl s).drop i)).isSome) ∧ ∀ ls, labF f ((bl s).drop i) = some ls → x = acc ++ bas ls
  | 0, i, acc, h, hi, ha => by omega
  | f + 1, i, acc, h, hi, ha => by
    cases hd : (bl s).drop i with
    | nil =>
      have := drop_none hd
      refine ⟨[], Ev.step (f := fun _ => some ([], false)) (fun k => ?_) (Ev.now _), fun ls h => by simp [labF] at h⟩
      simp only [freshetref1_Labels.l0]
      rw [if_neg (by omega)]
    | cons c r =>
      obtain ⟨hb, hlt, hr, hsz⟩ := bt_drop hd
      have hc := c.toNat_lt
      unfold labF
      by_cases h0 : c.toNat = 0
      · rw [if_pos h0]
        refine ⟨acc, Ev.step (f := fun _ => some (acc, (if r = [] then some ([] : List (List UInt8)) else none).isSome)) (fun k => ?_) (Ev.now _), fun ls h => ?_⟩
        · simp only [freshetref1_Labels.l0]
          rw [if_pos (by omega), if_pos (by omega), hb, w64 (x := (c.toNat : Int)) (by omega) (by omega), if_pos (by omega), w64 (by omega) (by omega)]
          congr 2
          by_cases hrn : r = []
          · subst hrn
            rw [if_pos rfl]
            simp at hsz ⊢
            omega
          · have : r.length ≠ 0 := by simpa using hrn
            rw [if_neg hrn]
            simp
            omega
        · split at h
          · injection h with h; subst h; simp [bas]
          · cases h
      · rw [if_neg h0]
        by_cases h6 : 63 < c.toNat
        · rw [if_pos h6]
          refine ⟨[], Ev.step (f := fun _ => some ([], false)) (fun k => ?_) (Ev.now _), fun ls h => by cases h⟩
          simp only [freshetref1_Labels.l0]
          rw [if_pos (by omega), if_pos (by omega), hb, w64 (x := (c.toNat : Int)) (by omega) (by omega), if_neg (by omega), if_pos (by omega)]
        · rw [if_neg h6]
          by_cases hl : r.length < c.toNat
          · rw [if_pos hl]
            refine ⟨[], Ev.step (f := fun _ => some ([], false)) (fun k => ?_) (Ev.now _), fun ls h => by cases h⟩
            simp only [freshetref1_Labels.l0]
            rw [if_pos (by omega), if_pos (by omega), hb, w64 (x := (c.toNat : Int)) (by omega) (by omega), if_neg (by omega), if_neg (by omega), w64 (x := (s.size : Int) - (i : Int)) (by omega) (by omega), w64 (x := (s.size : Int) - (i : Int) - 1) (by omega) (by omega), if_pos (by omega)]
          · rw [if_neg hl]
            have hdr : (bl s).drop (i + 1 + c.toNat) = r.drop c.toNat := by rw [← List.drop_drop, hr]
            have hx2 : s.extract (i + 1) (i + 1 + c.toNat) = mkB (r.take c.toNat) := by
              apply bl_inj
              rw [bl_extract, bl_mkB, hr, Nat.add_sub_cancel_left]
            obtain ⟨x, h1, h2⟩ := rLabels_l0 s hs f (i + 1 + c.toNat) (acc ++ [mkB (r.take c.toNat)]) (by omega) (by omega) (by simp; omega)
            rw [hdr] at h1 h2
            refine ⟨x, Ev.step (f := fun k => freshetref1_Labels.l0 k s (acc ++ [mkB (r.take c.toNat)]) ((i + 1 + c.toNat : Nat) : Int)) (fun k => ?_) (by rw [Option.isSome_map]; exact h1), fun ls h => ?_⟩
            · simp only [freshetref1_Labels.l0]
              rw [if_pos (by omega), if_pos (by omega), hb, w64 (x := (c.toNat : Int)) (by omega) (by omega), if_neg (by omega), if_neg (by omega), w64 (x := (s.size : Int) - (i : Int)) (by omega) (by omega), w64 (x := (s.size : Int) - (i : Int) - 1) (by omega) (by omega), if_neg (by omega),
                w64 (x := (i : Int) + 1) (by omega) (by omega), w64 (x := (i : Int) + 1 + (c.toNat : Int)) (by omega) (by omega), if_pos (by omega), if_pos (by omega), if_pos (by omega), if_pos (by omega)]
              rw [show ((i : Int) + 1).toNat = i + 1 from by omega, show ((i : Int) + 1 + (c.toNat : Int)).toNat = i + 1 + c.toNat from by omega, hx2]
              congr 1
            · obtain ⟨ls', h3, rfl⟩ := Option.map_eq_some_iff.1 h
              rw [h2 ls' h3]
              simp [bas]
theorem rLabels_ev (s : ByteArray) : ∃ x, Ev (fun k => freshetref1_Labels.f k s) (x, valid (bl s)) ∧ ∀ ls, labs (bl s) = some ls → x = bas ls := by
  unfold freshetref1_Labels.f valid labs
  by_cases h : s.size ≤ 255
  · rw [if_pos (by rw [bl_length]; exact h)]
    obtain ⟨x, h1, h2⟩ := rLabels_l0 s h 256 0 [] (by omega) (by omega) (by simp)
    rw [List.drop_zero] at h1 h2
    exact ⟨x, Ev.congr (f := fun k => freshetref1_Labels.l0 k s [] 0) (fun k => by rw [if_neg (by omega)]) h1, h2⟩
  · rw [if_neg (by rw [bl_length]; exact h)]
    exact ⟨[], Ev.congr (f := fun _ => some ([], false)) (fun k => by rw [if_pos (by omega)]) (Ev.now _), fun ls h => by cases h⟩
theorem rValid_ev (s : ByteArray) : Ev (fun k => freshetref1_Valid.f k s) (valid (bl s)) := by
  unfold freshetref1_Valid.f
  obtain ⟨x, h1, _⟩ := rLabels_ev s
  exact Ev.bind (f := fun _ (bt : List ByteArray × Bool) => some bt.2) h1 (Ev.now _)

end Go.Proofs.YtjiheepiobffkaaGreat.Fr
