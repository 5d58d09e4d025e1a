/-
  A row of the call's own behind a sort or a compaction of the library: its cells laid anew, draws and blocks behind.
-/
import Derived.Test.YtjiheepiobffkaaGreatOrder
import Derived.Test.YtjiheepiobffkaaGreatMono
import Derived.Shelf.SlSortCmp.NoneTotal
namespace Go.Proofs.YtjiheepiobffkaaGreat.Fr
open Go.RowKit Go.Proofs.YtjiheepiobffkaaGreatW.PrintWords Go.Proofs.YtjiheepiobffkaaGreat.Pr Go.Sort

/-- What has only grown, and drawn. -/
theorem grow_of_below {w w' : World} (h : Below w.heap.size w w') (hd : w.drawn ≤ w'.drawn) : ∃ q os, w' = grow (w.drewN q) os := by
  refine ⟨w'.drawn - w.drawn, w'.heap.extract w.heap.size w'.heap.size, ?_⟩
  obtain ⟨h1, t1, d1, o1, u1⟩ := w
  obtain ⟨h2, t2, d2, o2, u2⟩ := w'
  have e1 := h.os
  have e2 := h.tape
  have e3 := h.output
  have e4 := h.size
  have e5 := h.block
  simp only at e1 e2 e3 e4 e5 hd
  subst e1 e2 e3
  have eh : h2 = h1 ++ h2.extract h1.size h2.size := by
    apply Array.ext_getElem?
    intro i
    by_cases hi : i < h1.size
    · rw [Array.getElem?_append_left hi, e5 i hi]
    · rw [Array.getElem?_append_right (by omega), Array.getElem?_extract]
      by_cases hj : i < h2.size
      · rw [if_pos (by omega)]
        congr 1
        omega
      · rw [if_neg (by omega), Array.getElem?_eq_none (by omega)]
  simp only [grow, World.drewN]
  rw [← eh]
  congr 1
  omega

theorem calls_grow {P : Program} {f : FuncId} {args : Array Value} {w : World} {v : Value} (h : Calls P f args w fun e w' => e = .returned v ∧ Below w.heap.size w w') :
    Calls P f args w fun e w' => e = .returned v ∧ ∃ q os, w' = grow (w.drewN q) os := by
  refine (Go.Mono.calls_ge h).mono ?_
  rintro e w' ⟨⟨rfl, hb⟩, hd⟩
  exact ⟨rfl, grow_of_below hb (hd (by intro h; cases h))⟩

/-! ### the row -/
theorem own_slice {w : World} {base : Nat} {e : TypeId} {size n : Nat} {v : Value} {xs : List Value} (h : w.ownsRow base e size v n xs) (hn : 0 < n) :
    ∃ g cap cur, v = .slice (some ⟨g, 0, none⟩) n cap ∧ base ≤ g ∧ w.heap[g]? = some (.cells cur e (0, 0)) ∧ n ≤ cap ∧ cap ≤ maxLen ∧ cur.size = cap * size ∧ cur.toList.take (n * size) = xs := by
  rcases h.2 with ⟨_, h0⟩ | h
  · omega
  · exact h

theorem cell_take {cur : Array Value} {xs : List Value} {m j : Nat} (h : cur.toList.take m = xs) (hj : j < xs.length) : cur[j]? = xs[j]? := by
  subst h
  rw [List.length_take] at hj
  rw [List.getElem?_take_of_lt (by omega), Array.getElem?_toList]

/-- The row is held, flat. -/
theorem own_holds {w : World} {base : Nat} {e : TypeId} {size n cap g : Nat} {xs : List Value} (h : w.ownsRow base e size (.slice (some ⟨g, 0, none⟩) n cap) n xs) (F : Array Value) (hF : F.toList = xs) : Holds id w g 0 F := by
  intro j hj
  rcases h.2 with ⟨h0, _⟩ | ⟨g', cap', cur, he, hb, hh, hc, hm, hs, ht⟩
  · cases h0
  · injection he with he1 he2 he3
    injection he1 with he1
    injection he1 with he1
    subst he1
    have hj' : j < xs.length := by rw [← hF]; simpa using hj
    have hc := cell_take ht hj'
    simp only [World.cell?, World.frozen?, hh, Nat.zero_add]
    refine ⟨?_, by simp⟩
    simp only [Option.isSome_none, Bool.false_eq_true, if_false]
    rw [hc, ← hF, Array.getElem?_toList, getElem!_pos F j hj, Array.getElem?_eq_getElem hj]
    rfl

theorem own_put {w : World} {base : Nat} {e : TypeId} {size n cap g : Nat} {xs : List Value} (h : w.ownsRow base e size (.slice (some ⟨g, 0, none⟩) n cap) n xs) (F : Array Value) (hF : F.size = n * size) (m : Nat) (os : Array Obj) :
    (grow (putRow id (Sort.ahead w m) g 0 F) os).ownsRow base e size (.slice (some ⟨g, 0, none⟩) n cap) n F.toList ∧ w.grownBy (grow (putRow id (Sort.ahead w m) g 0 F) os) (some g) := by
  rcases h.2 with ⟨h0, _⟩ | ⟨g', cap', cur, he, hb, hh, hc, hm, hs, ht⟩
  · cases h0
  · injection he with he1 he2 he3
    injection he1 with he1
    injection he1 with he1
    subst he1 he3
    have hg : g < w.heap.size := by
      rcases Nat.lt_or_ge g w.heap.size with hg | hg
      · exact hg
      · rw [Array.getElem?_eq_none hg] at hh; cases hh
    refine ⟨⟨by simp [hF], .inr ⟨g, cap, putCells id 0 F cur, rfl, hb, ?_, hc, hm, by simp [putCells, hs], ?_⟩⟩, ⟨rfl, rfl, rfl, ?_, ?_⟩⟩
    · simp only [grow, putRow, mapBlock, Sort.ahead]
      rw [Array.getElem?_append_left (by simpa using hg), Array.getElem?_modify, if_pos rfl, hh]
      rfl
    · apply List.ext_getElem?
      intro j
      have hns : n * size ≤ cap * size := Nat.mul_le_mul_right _ hc
      by_cases hj : j < n * size
      · rw [List.getElem?_take_of_lt hj]
        simp only [putCells, Array.getElem?_toList, Array.getElem?_mapIdx]
        rw [Array.getElem?_eq_getElem (by omega), Option.map_some, if_pos ⟨by omega, by omega⟩, Nat.sub_zero, getElem!_pos F j (by omega), Array.getElem?_eq_getElem (by omega)]
        rfl
      · rw [List.getElem?_eq_none (by simp; omega), List.getElem?_eq_none (by simp; omega)]
    · simp only [grow, putRow, mapBlock, Sort.ahead, Array.size_append, Array.size_modify]
      omega
    · intro k hk hne
      simp only [grow, putRow, mapBlock, Sort.ahead]
      rw [Array.getElem?_append_left (by simpa using hk), Array.getElem?_modify, if_neg (by intro e; exact hne (by rw [e]))]

theorem putRow_enc {α : Type} [Inhabited α] (enc : α → Value) (w : World) (blk off : Nat) (d : Array α) : putRow enc w blk off d = putRow id w blk off (d.map enc) := by
  refine mapBlock_congr _ _ _ _ fun c e fr _ => ?_
  apply Array.ext_getElem?
  intro k
  simp only [putCells, Array.getElem?_mapIdx, Array.size_map]
  cases c[k]? with
  | none => rfl
  | some x =>
    simp only [Option.map_some]
    split
    · rename_i hk
      rw [getElem!_pos d (k - off) (by omega), getElem!_pos (d.map enc) (k - off) (by simp; omega), Array.getElem_map]
      rfl
    · rfl
theorem holds_enc {α : Type} [Inhabited α] (enc : α → Value) (w : World) (blk off : Nat) (d : Array α) (h : Holds id w blk off (d.map enc)) : Holds enc w blk off d := by
  intro j hj
  have := h j (by simpa using hj)
  rw [getElem!_pos (d.map enc) j (by simpa using hj), Array.getElem_map] at this
  rw [getElem!_pos d j hj]
  exact this

/-! ### the order of names that are folded -/
def good (s : ByteArray) : Prop := valid (bl s) = true ∧ foldL (bl s) = bl s
theorem keyOf_inj {a b : List UInt8} (ha : valid a = true) (fa : foldL a = a) (hb : valid b = true) (fb : foldL b = b) (h : keyOf a = keyOf b) : a = b := by
  obtain ⟨la, ea⟩ := Option.isSome_iff_exists.1 ha
  obtain ⟨lb, eb⟩ := Option.isSome_iff_exists.1 hb
  have ga := labs_fold a
  have gb := labs_fold b
  rw [fa, ea] at ga
  rw [fb, eb] at gb
  simp only [Option.map_some, Option.some.injEq] at ga gb
  simp only [keyOf, ea, eb, Option.getD_some, List.map_reverse, ← ga, ← gb] at h
  have h2 := List.reverse_inj.1 h
  rw [← labs_join ea, ← labs_join eb, h2]

theorem lessN_irrefl (a : List UInt8) : lessN a a = false := by simp [lessN, lexLess_irrefl]
theorem lessN_trans {a b c : List UInt8} (h1 : lessN a b = true) (h2 : lessN b c = true) : lessN a c = true := by
  simp only [lessN, Bool.and_eq_true] at *
  exact ⟨⟨h1.1.1, h2.1.2⟩, lexLess_trans _ _ _ h1.2 h2.2⟩
theorem lessN_total {a b : ByteArray} (ha : good a) (hb : good b) (hne : a ≠ b) (h : lessN (bl a) (bl b) = false) : lessN (bl b) (bl a) = true := by
  simp only [lessN, ha.1, hb.1, Bool.and_self, Bool.true_and] at *
  refine lexLess_total _ _ (fun e => hne ?_) h
  exact bl_inj (keyOf_inj ha.1 ha.2 hb.1 hb.2 e)

abbrev GName := {s : ByteArray // good s}
theorem good_root : good (mkB [0]) := by unfold good; decide
instance : Inhabited GName := ⟨⟨mkB [0], good_root⟩⟩
def cfN (x y : GName) : Int := ordP (bl x.1) (bl y.1)
theorem cfN_lt (x y : GName) : ltOf cfN x y = lessN (bl x.1) (bl y.1) := by
  unfold ltOf cfN ordP
  cases h : lessN (bl x.1) (bl y.1) with
  | true => rfl
  | false =>
    cases lessN (bl y.1) (bl x.1) <;> rfl
theorem cfN_total : ∀ x y : GName, ltOf cfN x y = false → ltOf cfN y x = false → x = y := by
  intro x y h1 h2
  rw [cfN_lt] at h1 h2
  rcases Classical.em (x.1 = y.1) with h | h
  · exact Subtype.ext h
  · rw [lessN_total x.2 y.2 h h1] at h2; cases h2
theorem cfN_swo : SWO (ltOf cfN) where
  irrefl x := by rw [cfN_lt]; exact lessN_irrefl _
  trans x y z h1 h2 := by rw [cfN_lt] at *; exact lessN_trans h1 h2
  ntrans x y z h1 h2 := by
    rw [cfN_lt] at *
    rw [Bool.eq_false_iff]
    intro h
    rcases Classical.em (x.1 = y.1) with e | e
    · rw [e, h2] at h; cases h
    · rw [lessN_trans (lessN_total x.2 y.2 e h1) h] at h2; cases h2

end Go.Proofs.YtjiheepiobffkaaGreat.Fr
