/-
  What an argument reads as: slices of numbers, texts, servers, records and known names, in the printer's kinds.
-/
import Derived.Test.YtjiheepiobffkaaGreatTellsW
import Derived.WalkKit
import Derived.ProofKit
import Derived.OpenShut
import Derived.Deep.Slices
import Derived.Deep.Fields
import Derived.ChangeSame
import Derived.SliceStrings
namespace Go.Proofs.YtjiheepiobffkaaGreat.Open
open Go.ChangeShapes Go.WideShapes Go.Deep
open Go.Proofs.YtjiheepiobffkaaGreatW.PrintWords Go.Proofs.YtjiheepiobffkaaGreat.Pr
section
variable {H : Type} {enc : TypeId × Value → H} {P : Program} {w : World} {base : Nat} {spare : Nat → Bool} {held : Bool}
theorem open_slice_fields {t e : TypeId} {fs : Array Field} {fuel : Nat} {cs : List Value} {x : DataW H × List MemPlace} (ht : P.underlying t = some (.slice e)) (he : P.underlying e = some (.struct fs))
    (hone : oneCellFields P fs = true) (hC : P.cellsOf e = fs.size) (h : DataW.trod enc P w base spare held fuel t cs = some x) :
    (cs = [.slice none 0 0]) ∨
    ∃ (a : Addr) (len cap m : Nat), cs = [.slice (some a) len cap] ∧ len ≤ cap ∧ cap ≤ maxLen ∧ m = (if spare a.block then cap else len) ∧
      ∀ i, i < m → ∃ (n : Nat),
        ∀ (j : Nat) (f : Field), fs[j]? = some f → ∃ (v : Value) (y : DataW H × List MemPlace), w.cell? (a.add (i * fs.size + j)) = some v ∧ DataW.trod enc P w base spare held n f.type [v] = some y := by
  rcases open_slice ht h with h0 | ⟨a, len, cap, m, n, D, Pl, hcs, hb, hl, hm, hmm, hx, hi⟩
  · exact .inl h0.1
  · refine .inr ⟨a, len, cap, m, hcs, hl, hm, hmm, fun i him => ?_⟩
    obtain ⟨cs', hc, ht'⟩ := hi i him
    rw [hC] at hc
    obtain ⟨ys, n', hn', hy, hlen, hyl, hf⟩ := DataW.trod_struct he ht'
    obtain ⟨_, hcl, hat⟩ := World.cells?_some hc
    refine ⟨n', fun j f hj => ?_⟩
    obtain ⟨ho, hk⟩ := hone_of hone j f hj
    have hjl : j < fs.size := (Array.getElem?_eq_some_iff.1 hj).1
    have hcell := hat j hjl
    have hv : cs'[j]? = some (cs'[j]'(by omega)) := List.getElem?_eq_getElem (by omega)
    have h1 := hf j f hj
    rw [ho, hk] at h1
    have hone' : (cs'.drop j).take 1 = [cs'[j]'(by omega)] := by
      rw [List.drop_eq_getElem_cons (by omega)]
      rfl
    rw [hone'] at h1
    have hys : ys[j]? = some (ys[j]'(by omega)) := List.getElem?_eq_getElem (by omega)
    refine ⟨_, _, ?_, h1.trans hys⟩
    rw [← Go.Deep.add_add, hcell, hv]
theorem list_of {α : Type} {Q : Nat → α → Prop} : ∀ n : Nat, (∀ i, i < n → ∃ q, Q i q) → ∃ xs : List α, xs.length = n ∧ ∀ i (hi : i < xs.length), Q i xs[i]
  | 0, _ => ⟨[], rfl, fun i hi => absurd hi (Nat.not_lt_zero _)⟩
  | n + 1, h => by
    obtain ⟨xs, h1, h2⟩ := list_of n (fun i hi => h i (by omega))
    obtain ⟨q, hq⟩ := h n (by omega)
    refine ⟨xs ++ [q], by simp [h1], fun i hi => ?_⟩
    rcases Nat.lt_or_ge i xs.length with hl | hl
    · rw [List.getElem_append_left hl]; exact h2 i hl
    · have : i = n := by rw [List.length_append, List.length_singleton] at hi; omega
      subst this
      rw [List.getElem_append_right hl]
      simpa using hq
theorem C_each {α : Type} {d : Kd α} (a : Addr) (len : Nat) (hm : len ≤ maxLen) (h : ∀ i, i < len → ∃ q : α, ∃ cs : List Value, cs.length = d.sz ∧ d.K w q cs ∧ ∀ j u, cs[j]? = some u → w.cell? (a.add (i * d.sz + j)) = some u) :
    ∃ xs : List α, xs.length = len ∧ d.C w (some a) xs.length xs := by
  obtain ⟨xs, h1, h2⟩ := list_of len h
  refine ⟨xs, h1, rfl, by simp only [maxLen] at hm; omega, fun _ => ⟨a, rfl, fun j p hj => ?_⟩⟩
  obtain ⟨hlt, rfl⟩ := List.getElem?_eq_some_iff.1 hj
  exact h2 j hlt
end
section
variable {H : Type} {enc : TypeId × Value → H} {w : World} {base : Nat} {spare : Nat → Bool} {held : Bool} {fuel : Nat} {v : Value} {x : DataW H × List MemPlace}
def Reads {α : Type} (d : Kd α) (w : World) (v : Value) : Prop := ∃ (A : Option Addr) (c : Nat) (xs : List α), v = .slice A xs.length c ∧ xs.length ≤ c ∧ d.C w A xs.length xs
theorem reads_nil {α : Type} (d : Kd α) (w : World) : Reads d w (.slice none 0 0) := ⟨none, 0, [], rfl, Nat.le_refl _, Kd.C_nil _ _⟩
theorem reads_ints (h : DataW.trod enc Tryz.prog w base spare held fuel 67 [v] = some x) : Reads (Kd.int .i64) w v := by
  rcases open_ints Tryz.underlying67 Tryz.underlying3 (by kernel_rfl) h with ⟨hcs, _⟩ | ⟨a, l, c, zs, hcs, _, hl, hm, hz, _, hcell, _⟩
  · simp only [List.cons.injEq, and_true] at hcs
    subst hcs
    exact reads_nil _ _
  · simp only [List.cons.injEq, and_true] at hcs
    subst hcs
    have hlz : l ≤ zs.length := by rw [hz]; split <;> omega
    obtain ⟨xs, h1, h2⟩ := C_each (d := Kd.int .i64) (w := w) a l (by omega) (fun i hi => ⟨zs.getD i 0, [.int .i64 (zs.getD i 0)], rfl, rfl, fun j u hu => by
      cases j with
      | zero =>
        simp only [List.getElem?_cons_zero, Option.some.injEq] at hu
        subst hu
        have := hcell i (by omega)
        rw [show i * (Kd.int .i64).sz + 0 = i from Nat.mul_one i]
        exact this
      | succ j => simp at hu⟩)
    subst h1
    exact ⟨_, c, xs, rfl, hl, h2⟩
theorem reads_strings (h : DataW.trod enc Tryz.prog w base spare held fuel 56 [v] = some x) : Reads Kd.string w v := by
  rcases open_strings Tryz.underlying56 Tryz.underlying9 (by kernel_rfl) h with ⟨hcs, _⟩ | ⟨a, l, c, zs, hcs, _, hl, hm, hz, _, hcell, _⟩
  · simp only [List.cons.injEq, and_true] at hcs
    subst hcs
    exact reads_nil _ _
  · simp only [List.cons.injEq, and_true] at hcs
    subst hcs
    have hlz : l ≤ zs.length := by rw [hz]; split <;> omega
    obtain ⟨xs, h1, h2⟩ := C_each (d := Kd.string) (w := w) a l (by omega) (fun i hi => ⟨zs.getD i ByteArray.empty, [.string (zs.getD i ByteArray.empty)], rfl, rfl, fun j u hu => by
      cases j with
      | zero =>
        simp only [List.getElem?_cons_zero, Option.some.injEq] at hu
        subst hu
        have := hcell i (by omega)
        rw [show i * Kd.string.sz + 0 = i from Nat.mul_one i]
        exact this
      | succ j => simp at hu⟩)
    subst h1
    exact ⟨_, c, xs, rfl, hl, h2⟩
theorem reads_servers (h : DataW.trod enc Tryz.prog w base spare held fuel 48 [v] = some x) : Reads k55 w v := by
  rcases open_slice_fields Tryz.underlying48 Tryz.underlying55 (by kernel_rfl) (by kernel_rfl) h with hcs | ⟨a, l, c, m, hcs, hl, hm, hmm, hel⟩
  · simp only [List.cons.injEq, and_true] at hcs
    subst hcs
    exact reads_nil _ _
  · simp only [List.cons.injEq, and_true] at hcs
    subst hcs
    have hlz : l ≤ m := by rw [hmm]; split <;> omega
    obtain ⟨xs, h1, h2⟩ := C_each (d := k55) (w := w) a l (by omega) (fun i hi => by
      obtain ⟨n, hf⟩ := hel i (by omega)
      obtain ⟨v0, y0, c0, t0⟩ := hf 0 _ rfl
      obtain ⟨v1, y1, c1, t1⟩ := hf 1 _ rfl
      obtain ⟨s0, e0, _, _⟩ := DataW.trod_string Tryz.underlying9 t0
      obtain ⟨n1, e1, _, _⟩ := DataW.trod_int Tryz.underlying3 t1
      simp only [List.cons.injEq, and_true] at e0 e1
      subst e0 e1
      refine ⟨⟨s0, n1⟩, [.string s0, .int .i64 n1], rfl, k55_mk w ⟨s0, n1⟩, fun j u hu => ?_⟩
      match j, hu with
      | 0, hu => simp only [List.getElem?_cons_zero, Option.some.injEq] at hu; subst hu; exact c0
      | 1, hu => simp only [List.getElem?_cons_succ, List.getElem?_cons_zero, Option.some.injEq] at hu; subst hu; exact c1
      | j + 2, hu => simp at hu)
    subst h1
    exact ⟨_, c, xs, rfl, hl, h2⟩
theorem reads_records (h : DataW.trod enc Tryz.prog w base spare held fuel 32 [v] = some x) : Reads k43 w v := by
  rcases open_slice_fields Tryz.underlying32 Tryz.underlying43 (by kernel_rfl) (by kernel_rfl) h with hcs | ⟨a, l, c, m, hcs, hl, hm, hmm, hel⟩
  · simp only [List.cons.injEq, and_true] at hcs
    subst hcs
    exact reads_nil _ _
  · simp only [List.cons.injEq, and_true] at hcs
    subst hcs
    have hlz : l ≤ m := by rw [hmm]; split <;> omega
    obtain ⟨xs, h1, h2⟩ := C_each (d := k43) (w := w) a l (by omega) (fun i hi => by
      obtain ⟨n, hf⟩ := hel i (by omega)
      obtain ⟨v0, y0, c0, t0⟩ := hf 0 _ rfl
      obtain ⟨v1, y1, c1, t1⟩ := hf 1 _ rfl
      obtain ⟨v2, y2, c2, t2⟩ := hf 2 _ rfl
      obtain ⟨v3, y3, c3, t3⟩ := hf 3 _ rfl
      obtain ⟨v4, y4, c4, t4⟩ := hf 4 _ rfl
      obtain ⟨s0, e0, _, _⟩ := DataW.trod_string Tryz.underlying9 t0
      obtain ⟨n1, e1, _, _⟩ := DataW.trod_int Tryz.underlying3 t1
      obtain ⟨n2, e2, _, _⟩ := DataW.trod_int Tryz.underlying3 t2
      obtain ⟨n3, e3, _, _⟩ := DataW.trod_int Tryz.underlying3 t3
      obtain ⟨s4, e4, _, _⟩ := DataW.trod_string Tryz.underlying9 t4
      simp only [List.cons.injEq, and_true] at e0 e1 e2 e3 e4
      subst e0 e1 e2 e3 e4
      refine ⟨⟨s0, n1, n2, n3, s4⟩, [.string s0, .int .i64 n1, .int .i64 n2, .int .i64 n3, .string s4], rfl, k43_mk w ⟨s0, n1, n2, n3, s4⟩, fun j u hu => ?_⟩
      match j, hu with
      | 0, hu => simp only [List.getElem?_cons_zero, Option.some.injEq] at hu; subst hu; exact c0
      | 1, hu => simp only [List.getElem?_cons_succ, List.getElem?_cons_zero, Option.some.injEq] at hu; subst hu; exact c1
      | 2, hu => simp only [List.getElem?_cons_succ, List.getElem?_cons_zero, Option.some.injEq] at hu; subst hu; exact c2
      | 3, hu => simp only [List.getElem?_cons_succ, List.getElem?_cons_zero, Option.some.injEq] at hu; subst hu; exact c3
      | 4, hu => simp only [List.getElem?_cons_succ, List.getElem?_cons_zero, Option.some.injEq] at hu; subst hu; exact c4
      | j + 5, hu => simp at hu)
    subst h1
    exact ⟨_, c, xs, rfl, hl, h2⟩
theorem reads_known (h : DataW.trod enc Tryz.prog w base spare held fuel 64 [v] = some x) : Reads k143 w v := by
  rcases open_slice_fields Tryz.underlying64 Tryz.underlying143 (by kernel_rfl) (by kernel_rfl) h with hcs | ⟨a, l, c, m, hcs, hl, hm, hmm, hel⟩
  · simp only [List.cons.injEq, and_true] at hcs
    subst hcs
    exact reads_nil _ _
  · simp only [List.cons.injEq, and_true] at hcs
    subst hcs
    have hlz : l ≤ m := by rw [hmm]; split <;> omega
    obtain ⟨xs, h1, h2⟩ := C_each (d := k143) (w := w) a l (by omega) (fun i hi => by
      obtain ⟨n, hf⟩ := hel i (by omega)
      obtain ⟨v0, y0, c0, t0⟩ := hf 0 _ rfl
      obtain ⟨v1, y1, c1, t1⟩ := hf 1 _ rfl
      obtain ⟨s0, e0, _, _⟩ := DataW.trod_string Tryz.underlying9 t0
      obtain ⟨A1, k1, zs, e1, hk1, hC1⟩ := reads_ints t1
      simp only [List.cons.injEq, and_true] at e0
      subst e0 e1
      refine ⟨⟨s0, zs⟩, [.string s0, .slice A1 zs.length k1], rfl, k143_mk w ⟨s0, zs⟩ hk1 hC1, fun j u hu => ?_⟩
      match j, hu with
      | 0, hu => simp only [List.getElem?_cons_zero, Option.some.injEq] at hu; subst hu; exact c0
      | 1, hu => simp only [List.getElem?_cons_succ, List.getElem?_cons_zero, Option.some.injEq] at hu; subst hu; exact c1
      | j + 2, hu => simp at hu)
    subst h1
    exact ⟨_, c, xs, rfl, hl, h2⟩
end
end Go.Proofs.YtjiheepiobffkaaGreat.Open
