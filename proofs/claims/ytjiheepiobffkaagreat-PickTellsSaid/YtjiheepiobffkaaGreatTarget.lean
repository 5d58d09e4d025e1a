/-
  record.Target: the name that a record leads to: every record.
-/
import Derived.Test.YtjiheepiobffkaaGreatIter
import Derived.Test.YtjiheepiobffkaaGreatFoldR
import Derived.Laws.DeepStrings4
namespace Go.Proofs.YtjiheepiobffkaaGreat.Fr
open Go.RowKit Go.Shelf Go.Proofs.YtjiheepiobffkaaGreatW.PrintWords Go.Proofs.YtjiheepiobffkaaGreat.Pr
attribute [local go_sem] Oper.semAt_some

def targetR (t : Int) (d : ByteArray) : ByteArray × Bool := match targetP t (bl d) with
  | some n => (mkB n, true)
  | none => (mkB [], false)

theorem cell_new_t (W : World) (cs : Array Value) (t : TypeId) (i : Nat) : (W.alloc (.cells cs t)).cell? ⟨W.heap.size, i, none⟩ = cs[i]? := by
  have h := World.alloc_heap_new W (.cells cs t)
  simp only [World.cell?, h]
  rfl
theorem cell_alloc_t {W : World} {a : Addr} {v : Value} (o : Obj) (h : W.cell? a = some v) : (W.alloc o).cell? a = some v := cell_kept h (World.grownBy_alloc W o none) (fun r e => by cases e)
theorem heap_kept_t {W W' : World} {row : Option Nat} {k : Nat} {cs : Array Value} {t : Nat} {fr : Nat × Nat} (h : W.heap[k]? = some (.cells cs t fr)) (hg : W.grownBy W' row) (hrow : ∀ r, row = some r → ∃ o : Obj, W.heap[r]? = some o ∧ o.isCells = false) : W'.heap[k]? = some (.cells cs t fr) := by
  refine (hg.block k (Array.getElem?_eq_some_iff.1 h).1 (fun e => ?_)).trans h
  obtain ⟨o, ho, hc⟩ := hrow k e.symm
  rw [h] at ho
  injection ho with ho
  subst ho
  cases hc
theorem heap_alloc_t {W : World} {k : Nat} {x : Obj} (o : Obj) (h : W.heap[k]? = some x) : (W.alloc o).heap[k]? = some x := (Below.heap_alloc W o k (Array.getElem?_eq_some_iff.1 h).1).trans h
theorem heap_put_t {W : World} {k : Nat} {cs : Array Value} {t : Nat} {fr : Nat × Nat} {D : Nat} (h : W.heap[k]? = some (.cells cs t fr)) (hD : W.heap[D]? = some (.deferred (some []))) (o : Obj) : (W.putObj D o).heap[k]? = some (.cells cs t fr) :=
  heap_kept_t h (grownBy_putObj' W D o) (fun r e => by cases e; exact ⟨_, hD, rfl⟩)
theorem heap_set_t {W : World} {k : Nat} {u : Value} {t : Nat} (h : W.heap[k]? = some (.cells #[u] t (0, 0))) (v : Value) : (W.setCell ⟨k, 0, none⟩ v).heap[k]? = some (.cells #[v] t (0, 0)) := by
  simp only [World.setCell, Array.getElem?_modify, if_true, h, Option.map_some]
  rfl
theorem heap_other_t {W : World} {k j : Nat} {x : Obj} (h : W.heap[k]? = some x) (hne : k ≠ j) (v : Value) : (W.setCell ⟨j, 0, none⟩ v).heap[k]? = some x := (Below.heap_setCell W ⟨j, 0, none⟩ v k hne).trans h
theorem frozen_of_heap {w : World} {g i : Nat} {cells : Array Value} {t : Nat} (h : w.heap[g]? = some (.cells cells t (0, 0))) : w.frozen? ⟨g, i, none⟩ = false := by
  simp only [World.frozen?, h]
  simp

/-- A part of a text. -/
def subS (d : ByteArray) (x : Nat × Nat) : ByteArray := mkB (((bl d).drop x.1).take x.2)
theorem subS_extract (d : ByteArray) (x : Nat × Nat) : d.extract x.1 (x.1 + x.2) = subS d x := by
  apply bl_inj
  rw [bl_extract, Nat.add_sub_cancel_left]
  rfl
theorem targetR_some {t : Int} {d : ByteArray} {x : Nat × Nat} (h6 : ¬ t = 6) (h : [x] <+: namesP t (bl d)) : targetR t d = (subS d x, true) := by
  obtain ⟨r, h⟩ := h
  unfold targetR targetP
  rw [if_neg h6, ← h]
  rfl
theorem targetR_none {t : Int} {d : ByteArray} (h : namesP t (bl d) = []) : targetR t d = (mkB [], false) := by
  unfold targetR targetP
  split
  · rename_i hh
    split at hh
    · cases hh
    · rw [h] at hh; cases hh
  · rfl

set_option maxRecDepth 100000 in
set_option maxHeartbeats 4000000 in
theorem Target_in (n : Nat) (hn : 3 ≤ n) (a0 : ByteArray) (a1 a2 a3 : Int) (a4 : ByteArray) (hs : a4.size ≤ 140737488351232) (w : World) :
    CallsIn Fence.wide n Tryz.prog 76 #[.agg #[.string a0, .int .i64 a1, .int .i64 a2, .int .i64 a3, .string a4]] w fun e w' => e = .returned (.tuple #[.string (targetR a1 a4).1, .bool (targetR a1 a4).2]) ∧ Below w.heap.size w w' := by
  have h1 : 1 ≤ n := by omega
  refine callsIn_of_wp_marks Tryz.func76 rfl trivial ?_ rfl
  simp only [Tryz.ntmps76, List.size_toArray, List.length_cons, List.length_nil, Nat.reduceAdd, Nat.reduceSub, Array.replicate_succ, Array.replicate_zero, List.push_toArray, List.append_toArray, List.nil_append, List.cons_append]
  by_cases h6 : a1 = 6
  · have hR : targetR a1 a4 = (mkB [], false) := by unfold targetR targetP; rw [if_pos h6]
    rw [hR]
    subst h6
    clear hR
    gi_wp2
    refine ⟨_, ?_, rfl, (((Below.refl _ w).alloc (Nat.le_refl _) _).alloc (by simp) _).alloc (by simp; omega) _⟩
    have c1 : ((w.alloc (.cells #[.string a0, .int .i64 6, .int .i64 a2, .int .i64 a3, .string a4] 43)).alloc (.cells #[.string { data := #[] }] 9)).cell? ⟨w.heap.size + 1, 0, none⟩ = some (.string { data := #[] }) := by
      have := cell_new_t (w.alloc (.cells #[.string a0, .int .i64 6, .int .i64 a2, .int .i64 a3, .string a4] 43)) #[.string { data := #[] }] 9 0
      rw [World.size_alloc] at this
      exact this
    have c1' := cell_alloc_t (.cells #[.bool false] 4) c1
    have c2 : (((w.alloc (.cells #[.string a0, .int .i64 6, .int .i64 a2, .int .i64 a3, .string a4] 43)).alloc (.cells #[.string { data := #[] }] 9)).alloc (.cells #[.bool false] 4)).cell? ⟨w.heap.size + 1 + 1, 0, none⟩ = some (.bool false) := by
      have := cell_new_t ((w.alloc (.cells #[.string a0, .int .i64 6, .int .i64 a2, .int .i64 a3, .string a4] 43)).alloc (.cells #[.string { data := #[] }] 9)) #[.bool false] 4 0
      rw [World.size_alloc, World.size_alloc] at this
      exact this
    simp [results, Tryz.f76, go_sem, c1', c2]
    rfl
  · have h6' : (a1 == 6) = false := by simpa using h6
    gi_wp2_with (refine ⟨trivial, ?_⟩; gi_at_call 145; refine (Names_in Fence.wide (n - 1) trivial rfl _ _ _).mono ?_; rintro e w' ⟨rfl, rfl⟩)
    have b0 : (w.alloc (.cells #[.string a0, .int .i64 a1, .int .i64 a2, .int .i64 a3, .string a4] 43)).heap[w.heap.size]? = some (.cells #[.string a0, .int .i64 a1, .int .i64 a2, .int .i64 a3, .string a4] 43 (0, 0)) := World.alloc_heap_new w _
    have B1 : Below w.heap.size w (w.alloc (.cells #[.string a0, .int .i64 a1, .int .i64 a2, .int .i64 a3, .string a4] 43)) := (Below.refl _ w).alloc (Nat.le_refl _) _
    have s1 : (w.alloc (.cells #[.string a0, .int .i64 a1, .int .i64 a2, .int .i64 a3, .string a4] 43)).heap.size = w.heap.size + 1 := World.size_alloc ..
    generalize w.alloc (.cells #[.string a0, .int .i64 a1, .int .i64 a2, .int .i64 a3, .string a4] 43) = W1 at b0 B1 s1 ⊢
    have b1 := World.alloc_heap_new W1 (.cells #[.string { data := #[] }] 9)
    rw [s1] at b1
    replace b0 := heap_alloc_t (.cells #[.string { data := #[] }] 9) b0
    replace B1 := B1.alloc (by omega) (.cells #[.string { data := #[] }] 9)
    have s2 : (W1.alloc (.cells #[.string { data := #[] }] 9)).heap.size = w.heap.size + 1 + 1 := by rw [World.size_alloc, s1]
    clear s1
    generalize W1.alloc (.cells #[.string { data := #[] }] 9) = W2 at b0 b1 B1 s2 ⊢
    have b2 := World.alloc_heap_new W2 (.cells #[.bool false] 4)
    rw [s2] at b2
    replace b0 := heap_alloc_t (.cells #[.bool false] 4) b0
    replace b1 := heap_alloc_t (.cells #[.bool false] 4) b1
    replace B1 := B1.alloc (by omega) (.cells #[.bool false] 4)
    have s3 : (W2.alloc (.cells #[.bool false] 4)).heap.size = w.heap.size + 1 + 1 + 1 := by rw [World.size_alloc, s2]
    clear s2
    generalize W2.alloc (.cells #[.bool false] 4) = W3 at b0 b1 b2 B1 s3 ⊢
    have b3 := cell_new_t W3 #[.int .i64 a1] 3 0
    rw [s3] at b3
    replace b0 := heap_alloc_t (.cells #[.int .i64 a1] 3) b0
    replace b1 := heap_alloc_t (.cells #[.int .i64 a1] 3) b1
    replace b2 := heap_alloc_t (.cells #[.int .i64 a1] 3) b2
    replace B1 := B1.alloc (by omega) (.cells #[.int .i64 a1] 3)
    have s4 : (W3.alloc (.cells #[.int .i64 a1] 3)).heap.size = w.heap.size + 1 + 1 + 1 + 1 := by rw [World.size_alloc, s3]
    clear s3
    generalize W3.alloc (.cells #[.int .i64 a1] 3) = W4 at b0 b1 b2 b3 B1 s4 ⊢
    have b4 := cell_new_t W4 #[.string a4] 9 0
    rw [s4] at b4
    replace b0 := heap_alloc_t (.cells #[.string a4] 9) b0
    replace b1 := heap_alloc_t (.cells #[.string a4] 9) b1
    replace b2 := heap_alloc_t (.cells #[.string a4] 9) b2
    replace b3 := cell_alloc_t (.cells #[.string a4] 9) (show W4.cell? ⟨w.heap.size + 1 + 1 + 1, 0, none⟩ = some (.int .i64 a1) from b3)
    replace B1 := B1.alloc (by omega) (.cells #[.string a4] 9)
    have s5 : (W4.alloc (.cells #[.string a4] 9)).heap.size = w.heap.size + 1 + 1 + 1 + 1 + 1 := by rw [World.size_alloc, s4]
    clear s4
    generalize W4.alloc (.cells #[.string a4] 9) = W5 at b0 b1 b2 b3 b4 B1 s5 ⊢
    clear W1 W2 W3 W4
    refine wpIn_rangeFunc_ownF rfl h1 (gf := 201) (lb := #[.pointer (some ⟨w.heap.size + 1 + 1 + 1, 0, none⟩), .pointer (some ⟨w.heap.size + 1 + 1 + 1 + 1, 0, none⟩)]) rfl trivial (enters_of Tryz.func201 (by kernel_rfl) rfl)
      (Names_stops (n - 1) (by omega) w.heap.size W5.heap.size _ _ a1 a4 hs W5 (Nat.le_refl _) b3 b4) KeepCells.trans KeepCells.put (Below.refl _ _) (fun _ => rfl)
      (fun pre W => (pre = [] ∧ W.heap[w.heap.size]? = some (.cells #[.string a0, .int .i64 a1, .int .i64 a2, .int .i64 a3, .string a4] 43 (0, 0)) ∧ W.heap[w.heap.size + 1]? = some (.cells #[.string { data := #[] }] 9 (0, 0)) ∧ W.heap[w.heap.size + 1 + 1]? = some (.cells #[.bool false] 4 (0, 0))) ∧ Below w.heap.size w W)
      (fun c pre W => (c = .ret ∧ ∃ x : Pl a4, pre = [x] ∧ W.heap[w.heap.size + 1]? = some (.cells #[.string (subS a4 x.1)] 9 (0, 0)) ∧ W.heap[w.heap.size + 1 + 1]? = some (.cells #[.bool true] 4 (0, 0))) ∧ Below w.heap.size w W)
      (OwnFrom.and (Own.from (fun s X Y row hs hg hr => ⟨hs.1, heap_kept_t hs.2.1 hg hr, heap_kept_t hs.2.2.1 hg hr, heap_kept_t hs.2.2.2 hg hr⟩) _) (ownFrom_below (Nat.le_refl _) (by omega)))
      (fun c => OwnFrom.and (Own.from (fun s X Y row hs hg hr => by obtain ⟨hc, x, hx, h1', h2'⟩ := hs; exact ⟨hc, x, hx, heap_kept_t h1' hg hr, heap_kept_t h2' hg hr⟩) _) (ownFrom_below (Nat.le_refl _) (by omega)))
      ⟨⟨rfl, b0, b1, b2⟩, B1⟩
      (fun x => { tmps := #[.agg #[.string a0, .int .i64 a1, .int .i64 a2, .int .i64 a3, .string a4], .pointer (some ⟨w.heap.size, 0, none⟩), .pointer (some ⟨w.heap.size + 1, 0, none⟩), .pointer (some ⟨w.heap.size + 1 + 1, 0, none⟩), .int .i64 (x.1.1 : Int), .int .i64 (x.1.2 : Int),
        .pointer (some ⟨w.heap.size, 1, none⟩), .int .i64 a1, .bool false, .pointer (some ⟨w.heap.size, 1, none⟩), .int .i64 a1, .pointer (some ⟨w.heap.size, 4, none⟩), .string a4,
        .func (.func 201) #[] #[.pointer (some ⟨w.heap.size + 1 + 1 + 1, 0, none⟩), .pointer (some ⟨w.heap.size + 1 + 1 + 1 + 1, 0, none⟩)], .int .i64 (x.1.1 : Int), .int .i64 (x.1.2 : Int), undef, undef, undef, undef, undef, undef, undef], defers := [] }) ?assign ?body ?done ?stop
    case assign =>
      intro l x W K hK
      gi_wp2
      exact hK
    case body =>
      rintro l pre ⟨⟨i, m⟩, hx⟩ W ⟨⟨rfl, hb0, hb1, hb2⟩, hB⟩ _
      dsimp only at hx ⊢
      have hc4 : W.cell? ⟨w.heap.size, 4, none⟩ = some (.string a4) := cell_of_heap (i := 4) hb0 rfl
      have hc1 : W.cell? ⟨w.heap.size + 1, 0, none⟩ = some (.string { data := #[] }) := cell_of_heap (i := 0) hb1 rfl
      have hf1 := frozen_of_heap (i := 0) hb1
      have e1 : (W.setCell ⟨w.heap.size + 1, 0, none⟩ (.string (subS a4 (i, m)))).heap[w.heap.size + 1 + 1]? = some (.cells #[.bool false] 4 (0, 0)) := heap_other_t hb2 (by omega) _
      have hc2 : (W.setCell ⟨w.heap.size + 1, 0, none⟩ (.string (subS a4 (i, m)))).cell? ⟨w.heap.size + 1 + 1, 0, none⟩ = some (.bool false) := cell_of_heap (i := 0) e1 rfl
      have hf2 := frozen_of_heap (i := 0) e1
      have hsl : ∀ W0 : World, (Instr.slice 9 (.string a4) (some (.int .i64 (i : Int))) (some (.int .i64 ((i : Int) + (m : Int)))) none).run Tryz.prog W0 = .ok (.string (subS a4 (i, m))) W0 := by
        intro W0
        rw [run_slice_string_if W0 9 a4 .i64 .i64 _ _ Tryz.underlying9, if_pos ⟨by omega, by omega⟩, if_pos ⟨by omega, by omega⟩, show ((i : Int)).toNat = i from by omega, show ((i : Int) + (m : Int)).toNat = i + m from by omega, ← subS_extract a4 (i, m)]
      have E1 := Lib.hid e1
      have B1' := Lib.hid hb1
      clear e1 hb0 hb1 hb2 b0 b1 b2 b3 b4
      gi_wp2
      exact ⟨(KeepsOthers.setCell _ _ _).trans (KeepsOthers.setCell _ _ _), ⟨rfl, ⟨(i, m), hx⟩, rfl, heap_other_t (heap_set_t B1'.out _) (by omega) _, heap_set_t E1.out _⟩, (hB.setCell (by show w.heap.size ≤ w.heap.size + 1; omega) _).setCell (by show w.heap.size ≤ w.heap.size + 1 + 1; omega) _⟩
    case done =>
      rintro D xs W hD hxs ⟨⟨rfl, hb0, hb1, hb2⟩, hB⟩ hK
      have HT := Lib.hid (targetR_none hxs.symm)
      have hc1 : W.cell? ⟨w.heap.size + 1, 0, none⟩ = some (.string { data := #[] }) := cell_of_heap (i := 0) hb1 rfl
      have hf1 := frozen_of_heap (i := 0) hb1
      have e1 : (W.setCell ⟨w.heap.size + 1, 0, none⟩ (.string { data := #[] })).heap[w.heap.size + 1 + 1]? = some (.cells #[.bool false] 4 (0, 0)) := heap_other_t hb2 (by omega) _
      have hc2 : (W.setCell ⟨w.heap.size + 1, 0, none⟩ (.string { data := #[] })).cell? ⟨w.heap.size + 1 + 1, 0, none⟩ = some (.bool false) := cell_of_heap (i := 0) e1 rfl
      have hf2 := frozen_of_heap (i := 0) e1
      have d1 := heap_other_t (heap_set_t hb1 (.string { data := #[] })) (j := w.heap.size + 1 + 1) (by omega) (.bool false)
      have d2 := heap_set_t e1 (.bool false)
      have hK1 : (W.setCell ⟨w.heap.size + 1, 0, none⟩ (.string { data := #[] })).heap[D]? = some (.deferred (some [])) := heap_other_t hK (by omega) _
      have hK2 := heap_other_t hK1 (j := w.heap.size + 1 + 1) (by omega) (.bool false)
      have E1 := Lib.hid d1
      have E2 := Lib.hid d2
      have EK := Lib.hid hK2
      clear d1 d2 hK1 hK2 e1 hb0 hb1 hb2 b0 b1 b2 b3 b4 hxs hK
      gi_wp2
      refine ⟨by simp, .inl ⟨_, _, rfl, run_takeDeferred EK.out, ?_⟩⟩
      refine ⟨.tuple #[.string (mkB []), .bool false], ?_, by rw [HT.out], ?_⟩
      · have f1 := cell_of_heap (i := 0) (v := .string { data := #[] }) (heap_put_t E1.out EK.out (.deferred none)) rfl
        have f2 := cell_of_heap (i := 0) (v := .bool false) (heap_put_t E2.out EK.out (.deferred none)) rfl
        simp [results, Tryz.f76, go_sem, f1, f2]
        rfl
      · exact ((hB.setCell (by show w.heap.size ≤ w.heap.size + 1; omega) _).setCell (by show w.heap.size ≤ w.heap.size + 1 + 1; omega) _).trans (Below.grown (Below.refl _ _) (grownBy_putObj' _ D (.deferred none)) (by have := hB.size; simp [World.setCell]; exact this) (fun k e => by injection e with e; omega))
    case stop =>
      rintro D c pre W hD ⟨hpre, _⟩ ⟨⟨rfl, x, rfl, hb1, hb2⟩, hB⟩ hK
      have HT := Lib.hid (targetR_some h6 hpre)
      clear hpre
      gi_wp2
      refine ⟨by simp, .inl ⟨_, _, rfl, run_takeDeferred hK, ?_⟩⟩
      refine ⟨.tuple #[.string (subS a4 x.1), .bool true], ?_, by rw [HT.out], ?_⟩
      · have f1 := cell_of_heap (i := 0) (v := .string (subS a4 x.1)) (heap_put_t hb1 hK (.deferred none)) rfl
        have f2 := cell_of_heap (i := 0) (v := .bool true) (heap_put_t hb2 hK (.deferred none)) rfl
        simp [results, Tryz.f76, go_sem, f1, f2]
      · exact hB.trans (Below.grown (Below.refl _ _) (grownBy_putObj' _ D (.deferred none)) hB.size (fun k e => by injection e with e; omega))

theorem Target_any (a0 : ByteArray) (a1 a2 a3 : Int) (a4 : ByteArray) (hs : a4.size ≤ 140737488351232) (w : World) :
    Calls Tryz.prog 76 #[.agg #[.string a0, .int .i64 a1, .int .i64 a2, .int .i64 a3, .string a4]] w fun e w' => e = .returned (.tuple #[.string (targetR a1 a4).1, .bool (targetR a1 a4).2]) ∧ Below w.heap.size w w' :=
  (callsIn_wide (n := 3)).1 (Target_in 3 (by omega) a0 a1 a2 a3 a4 hs w)

end Go.Proofs.YtjiheepiobffkaaGreat.Fr

namespace Go.Proofs.YtjiheepiobffkaaGreat.Pr
open Go.RowKit Go.Proofs.YtjiheepiobffkaaGreatW.PrintWords Go.Proofs.YtjiheepiobffkaaGreat.Fr

def record_Target.f (_a0_0 : ByteArray) (a0_1 : Int) (_a0_2 : Int) (_a0_3 : Int) (a0_4 : ByteArray) : Option (ByteArray × Bool) := if a0_4.size ≤ 140737488351232 then some (targetR a0_1 a0_4) else none
theorem record_Target.calls (a0_0 : ByteArray) (a0_1 : Int) (a0_2 : Int) (a0_3 : Int) (a0_4 : ByteArray) (r1 : ByteArray) (r2 : Bool) (w : World) (h : record_Target.f a0_0 a0_1 a0_2 a0_3 a0_4 = some (r1, r2)) :
    Calls Tryz.prog 76 #[.agg #[.string a0_0, .int .i64 a0_1, .int .i64 a0_2, .int .i64 a0_3, .string a0_4]] w fun e w' => e = .returned (.tuple #[.string r1, .bool r2]) ∧ Below w.heap.size w w' := by
  unfold record_Target.f at h
  split at h
  · rename_i hs
    injection h with h
    have h1 := Target_any a0_0 a0_1 a0_2 a0_3 a0_4 hs w
    rw [h] at h1
    exact h1
  · cases h

end Go.Proofs.YtjiheepiobffkaaGreat.Pr
