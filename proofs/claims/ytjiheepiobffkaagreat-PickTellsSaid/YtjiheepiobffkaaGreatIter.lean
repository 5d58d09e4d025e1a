/-
  record.Names is an iterator over the places of names in data that may be: its contract; and record.Target, a range over it that returns in its first round.
-/
import Derived.Test.YtjiheepiobffkaaGreatRecord
import Derived.Lib.Hide
import Derived.RangeFuncNested
import Derived.RangeFuncBound
import Derived.RangeFuncCalls
import Derived.RangeFuncLeaves
import Derived.Shelf.Abstract
import Derived.Shelf.RegionOpen
import Derived.OwnWalkIn
import Derived.TacticsInMore
import Derived.LoopNIn
import Derived.LoopIn
namespace Go.Proofs.YtjiheepiobffkaaGreat.Fr
open Go.RowKit Go.Shelf Go.Proofs.YtjiheepiobffkaaGreatW.PrintWords Go.Proofs.YtjiheepiobffkaaGreat.Pr
attribute [local go_sem] Oper.semAt_some

/-- What a round keeps: cells outside of the blocks from n₀ to ahead of n₁. -/
def KeepCells (n₀ n₁ : Nat) (W W' : World) : Prop := W.heap.size ≤ W'.heap.size ∧ ∀ k cs t fr, (k < n₀ ∨ n₁ ≤ k) → W.heap[k]? = some (.cells cs t fr) → W'.heap[k]? = some (.cells cs t fr)
theorem KeepCells.trans {n₀ n₁ : Nat} {A B C : World} (h : KeepCells n₀ n₁ A B) (k : KeepCells n₀ n₁ B C) : KeepCells n₀ n₁ A C :=
  ⟨Nat.le_trans h.1 k.1, fun j cs t fr hj hc => k.2 j cs t fr hj (h.2 j cs t fr hj hc)⟩
theorem KeepCells.put {n₀ n₁ : Nat} {w : World} (W : World) (l : Nat) (o o' : Obj) (_ : w.heap.size ≤ l) (h : W.heap[l]? = some o) (hc : o.isCells = false) (_ : o.isWalk = false) : KeepCells n₀ n₁ W (W.putObj l o') :=
  ⟨by have := (grownBy_putObj' W l o').size; exact this, fun k cs t fr _ hk => by
    have hne : k ≠ l := by
      rintro rfl
      rw [hk] at h
      injection h with h
      subst h
      cases hc
    exact ((grownBy_putObj' W l o').block k (Array.getElem?_eq_some_iff.1 hk).1 (fun e => hne (by injection e))).trans hk⟩
theorem KeepCells.cell {n₀ n₁ : Nat} {W W' : World} (h : KeepCells n₀ n₁ W W') {a : Addr} {v : Value} (ha : a.block < n₀ ∨ n₁ ≤ a.block) (hc : W.cell? a = some v) : W'.cell? a = some v := by
  unfold World.cell? at hc ⊢
  split at hc
  · rename_i cs t fr hh
    rw [h.2 _ _ _ _ ha hh]
    exact hc
  · cases hc

theorem pl_length (l : List (Nat × Nat)) : (pl l).length = l.length := by simp [pl]
theorem rd_pl (l : List (Nat × Nat)) (i : Nat) (h : i < l.length) : rd_T252 (pl l) (i : Int) = ⟨(l[i].1 : Int), (l[i].2 : Int)⟩ := by
  unfold rd_T252 pl
  rw [Int.toNat_natCast, List.getD_eq_getElem?_getD, List.getElem?_map, List.getElem?_eq_getElem h]
  rfl

theorem places_block {w : World} {base : Nat} {ok : Nat → Prop} {v : Value} {ps : List (Nat × Nat)} (h : Kd.R k252 252 w base ok v (pl ps)) (hp : 0 < ps.length) :
    ∃ g cap cells, v = .slice (some ⟨g, 0, none⟩) ps.length cap ∧ base ≤ g ∧ w.heap[g]? = some (.cells cells 252 (0, 0)) ∧ ∀ (k : Nat) (hk : k < ps.length), cells[k * 2]? = some (.int .i64 (ps[k].1 : Int)) ∧ cells[k * 2 + 1]? = some (.int .i64 (ps[k].2 : Int)) := by
  obtain ⟨g, cap, rfl, hb, hlt, cells, hh⟩ := Kd.R_form h (by rw [pl_length]; exact hp)
  rw [pl_length] at h ⊢
  refine ⟨g, cap, cells, rfl, hb, hh, fun k hk => ?_⟩
  obtain ⟨_, _, hC⟩ := Kd.R_reads' h
  obtain ⟨ad, he, h0, h1⟩ := at_T252 hC (k : Int) (by omega) (by rw [pl_length]; omega)
  injection he with he
  subst he
  rw [rd_pl _ _ hk, Int.toNat_natCast, add_plain] at h0 h1
  unfold World.cell? at h0 h1
  simp only [hh] at h0 h1
  exact ⟨h0, h1⟩
theorem cell_of_heap {w : World} {g i : Nat} {cells : Array Value} {t : Nat} {fr : Nat × Nat} {v : Value} (h : w.heap[g]? = some (.cells cells t fr)) (hc : cells[i]? = some v) : w.cell? ⟨g, i, none⟩ = some v := by
  simp [World.cell?, h, hc]

set_option maxHeartbeats 1000000 in
theorem Names_in (F : Fence) (n : Nat) (hf : F.fn 145) (hro : F.round = none) (t : Int) (d : ByteArray) (w : World) :
    CallsIn F n Tryz.prog 145 #[.int .i64 t, .string d] w fun e w' => e = .returned (.func (.func 201) #[] #[.pointer (some ⟨w.heap.size, 0, none⟩), .pointer (some ⟨w.heap.size + 1, 0, none⟩)]) ∧ w' = (w.alloc (.cells #[.int .i64 t] 3)).alloc (.cells #[.string d] 9) := by
  refine callsIn_of_wp Tryz.func145 rfl hf ?_ hro
  simp only [Tryz.ntmps145, List.size_toArray, List.length_cons, List.length_nil, Nat.reduceAdd, Nat.reduceSub, Array.replicate_succ, Array.replicate_zero, List.push_toArray, List.append_toArray, List.nil_append, List.cons_append]
  gi_wp2
  go_ret
  exact ⟨rfl, rfl⟩

set_option maxRecDepth 100000 in
set_option maxHeartbeats 2000000 in
theorem Names1_in (n : Nat) (hn : 1 ≤ n) (n₀ n₁ Bt Bd l : Nat) (t : Int) (d : ByteArray) (hs : d.size ≤ 140737488351232) (W : World) (h1 : n₁ ≤ W.heap.size)
    (ht : W.cell? ⟨Bt, 0, none⟩ = some (.int .i64 t)) (hd : W.cell? ⟨Bd, 0, none⟩ = some (.string d)) (J Jx : List (Nat × Nat) → World → Prop) (hJ : AbidesFrom W.heap.size J)
    (hY : ∀ pre (x : Nat × Nat) W1, J pre W1 → pre ++ [x] <+: namesP t (bl d) → YieldAt Fence.wide (n - 1) Tryz.prog l #[.int .i64 (x.1 : Int), .int .i64 (x.2 : Int)] W1 fun e W' =>
      (e = .returned (.bool true) ∧ J (pre ++ [x]) W' ∧ KeepCells n₀ n₁ W1 W') ∨ (e = .returned (.bool false) ∧ Jx (pre ++ [x]) W')) (h0 : J [] W) :
    CallsIn Fence.wide n Tryz.prog 201 #[.func (.yield l) #[] #[], .pointer (some ⟨Bt, 0, none⟩), .pointer (some ⟨Bd, 0, none⟩)] W fun e W' => (∃ v, e = .returned v) ∧
      ((∃ xs, xs = namesP t (bl d) ∧ J xs W') ∨ (∃ pre, (pre <+: namesP t (bl d) ∧ pre ≠ []) ∧ Jx pre W')) := by
  obtain ⟨k1, hk1⟩ := Data_calls t d hs
  obtain ⟨k2, hk2⟩ := places_calls t d hs
  have hD := fun W0 => record_Data.calls k1 t d _ W0 hk1
  have hP := fun W0 => record_places.calls k2 t d _ _ W0 hk2
  clear hk1 hk2
  unfold namesP at hY ⊢
  refine callsIn_of_wp Tryz.func201 rfl trivial ?_ rfl
  simp only [Tryz.ntmps201, List.size_toArray, List.length_cons, List.length_nil, Nat.reduceAdd, Nat.reduceSub, Array.replicate_succ, Array.replicate_zero, List.push_toArray, List.append_toArray, List.nil_append, List.cons_append]
  by_cases hdp : dataP t (bl d) = true
  · rw [hdp] at hD
    rw [if_pos hdp] at hY ⊢
    clear hdp
    generalize (placesR t (bl d)).1 = ps at hY hP ⊢
    generalize (placesR t (bl d)).2 = ok at hP
    gi_wp2_with (refine ⟨trivial, ?_⟩; gi_at_call 189; refine (callsIn_wide.2 (hD _)).mono ?_; rintro e w1 ⟨rfl, hw1⟩; have ht1 := pw_cell_below hw1 ht; have hd1 := pw_cell_below hw1 hd)
    clear hD
    gi_wp2_with (refine ⟨trivial, ?_⟩; gi_at_call 202; refine (callsIn_wide.2 (hP _)).mono ?_; rintro e w2 ⟨v, rfl, hR, hw2⟩; obtain ⟨A, c, rfl, hlc, hC⟩ := Kd.R_reads hR)
    have hJ2 : J [] w2 := hJ _ _ _ none (hJ _ _ _ none h0 (grown_of_below hw1 none) (fun r e => by cases e)) (grown_of_below (w := w1) hw2 none) (fun r e => by cases e)
    rcases Nat.eq_zero_or_pos ps.length with hz | hz
    · have hps : ps = [] := List.eq_nil_of_length_eq_zero hz
      subst hps
      clear hP hR hC hlc hz ht1 hd1 ht hd
      gi_loopw [20] (fun i wr => i = .int .i64 0 ∧ J [] wr) (fun _ _ => 0)
      case atStart => exact ⟨rfl, hJ2⟩
      case round =>
        obtain ⟨rfl, hJs⟩ := hrel
        gi_wp2
        go_end0
        exact ⟨⟨_, rfl⟩, .inl ⟨_, rfl, hJs⟩⟩
    · obtain ⟨g, cap, cells, hv, hg, hh, hcells⟩ := places_block hR hz
      injection hv with hA hl hcap
      subst hA
      have hg1 : n₁ ≤ g := Nat.le_trans h1 (Nat.le_trans hw1.size hg)
      have HH := Lib.hid hh
      have HL := Lib.hid hl
      have hlen : ps.length ≤ 9223372036854775807 := by
        have := Kd.R_reads' hR
        obtain ⟨_, _, hC2⟩ := this
        have h3 := hC2.2.1
        rw [pl_length] at h3
        omega
      have hcc : (pl ps).length = ps.length := pl_length ps
      rw [hcc]
      clear hh hl hcap hR hP hC hlc ht1 hd1 ht hd hcc
      gi_loopw [20] (fun i wr => ∃ k : Nat, k ≤ ps.length ∧ i = .int .i64 k ∧ J (ps.take k) wr ∧ Hid (wr.heap[g]? = some (.cells cells 252 (0, 0)))) (fun i _ => ps.length - (intOf i).toNat)
      case atStart => exact ⟨0, Nat.zero_le _, rfl, hJ2, HH⟩
      case round =>
        obtain ⟨k, hk, rfl, hJs, hb⟩ := hrel
        by_cases hlt : k < ps.length
        · have hc0 := cell_of_heap hb.out (hcells k hlt).1
          have hc1 := cell_of_heap hb.out (hcells k hlt).2
          have hgl : g < wr.heap.size := (Array.getElem?_eq_some_iff.1 hb.out).1
          have HT := Lib.hid (List.take_succ_eq_append_getElem hlt)
          generalize ps[k] = x at hc0 hc1 HT
          have hJ3 : J (ps.take k) (wr.alloc (.cells #[.int .i64 (x.1 : Int), .int .i64 (x.2 : Int)] 252)) := hJ _ _ _ none hJs (World.grownBy_alloc _ _ none) (fun r e => by cases e)
          obtain ⟨fn, tmps, assign, body, hy, hRy⟩ := hY (ps.take k) x _ hJ3 (by rw [← HT.out]; exact List.take_prefix _ _)
          have hb3 := (Below.heap_alloc wr (.cells #[.int .i64 (x.1 : Int), .int .i64 (x.2 : Int)] 252) g hgl).trans hb.out
          have HB3 := Lib.hid hb3
          clear hb3
          have hne : ps.take (k + 1) ≠ [] := by
            rw [HT.out]; simp
          have hpre : ps.take (k + 1) <+: ps := List.take_prefix _ _
          have Hne := Lib.hid hne
          clear hne
          gi_wp2
          refine hRy.mono ?_
          rintro e W3 (⟨rfl, hJ4, hk4⟩ | ⟨rfl, hJx4⟩)
          · gi_wp2
            go_roundw
            case rel => exact ⟨k + 1, by omega, by simp, by rw [HT.out]; exact hJ4, hk4.2 g _ _ _ (.inr hg1) HB3.out⟩
            case measure => simp [intOf]; omega
          · gi_wp2
            refine bodyPost_ret (results_none rfl _ _ _) rfl ?_
            exact ⟨⟨_, rfl⟩, .inr ⟨ps.take (k + 1), ⟨hpre, Hne.out⟩, by rw [HT.out]; exact hJx4⟩⟩
        · obtain rfl : k = ps.length := by omega
          gi_wp2
          go_end0
          exact ⟨⟨_, rfl⟩, .inl ⟨_, rfl, by rw [List.take_length] at hJs; exact hJs⟩⟩
  · rw [Bool.eq_false_iff.2 hdp] at hD
    rw [if_neg hdp] at hY ⊢
    gi_wp2_with (refine ⟨trivial, ?_⟩; gi_at_call 189; refine (callsIn_wide.2 (hD _)).mono ?_; rintro e w1 ⟨rfl, hw1⟩)
    refine bodyPost_ret (results_none rfl _ _ _) rfl ?_
    exact ⟨⟨_, rfl⟩, .inl ⟨_, rfl, hJ _ _ _ none h0 (grown_of_below hw1 none) (fun r e => by cases e)⟩⟩

theorem placesL_le (d : List UInt8) : ∀ (n i : Nat) (l : List (Nat × Nat)) (e : Nat), placesL n (d.drop i) i = some (l, e) → i ≤ d.length → ∀ x ∈ l, x.1 + x.2 ≤ d.length
  | 0, i, l, e, h, hi, x, hx => by
    injection h with h
    injection h with h1 h2
    subst h1
    cases hx
  | n + 1, i, l, e, h, hi, x, hx => by
    unfold placesL at h
    cases hl : lead (d.drop i) with
    | none => rw [hl] at h; cases h
    | some k =>
      rw [hl] at h
      have hk := leadF_le _ _ _ _ hl
      rw [List.length_drop] at hk
      obtain ⟨⟨l', e'⟩, h1, h2⟩ := Option.map_eq_some_iff.1 h
      injection h2 with h2 h3
      subst h2
      rcases List.mem_cons.1 hx with rfl | hx
      · show i + k ≤ d.length
        omega
      · rw [List.drop_drop] at h1
        exact placesL_le d n (i + k) l' e' h1 (by omega) x hx
theorem namesP_le (t : Int) (d : List UInt8) : ∀ x ∈ namesP t d, x.1 + x.2 ≤ d.length := by
  intro x hx
  unfold namesP at hx
  split at hx
  · unfold placesR at hx
    split at hx
    · cases hx
    · split at hx
      · cases hx
      · split at hx
        · cases hx
        · rename_i hp
          exact placesL_le d _ _ _ _ hp (by omega) x hx
  · cases hx
/-- A place of a name in data. -/
abbrev Pl (d : ByteArray) := { x : Nat × Nat // x.1 + x.2 ≤ d.size }
theorem Names_stops (n : Nat) (hn : 1 ≤ n) (n₀ n₁ Bt Bd : Nat) (t : Int) (d : ByteArray) (hs : d.size ≤ 140737488351232) (w : World) (h1 : n₁ ≤ w.heap.size)
    (ht : w.cell? ⟨Bt, 0, none⟩ = some (.int .i64 t)) (hd : w.cell? ⟨Bd, 0, none⟩ = some (.string d)) :
    SeqStopsK Fence.wide n Tryz.prog 201 #[.pointer (some ⟨Bt, 0, none⟩), .pointer (some ⟨Bd, 0, none⟩)] (fun x : Pl d => #[Value.int .i64 (x.1.1 : Int), Value.int .i64 (x.1.2 : Int)]) (KeepCells n₀ n₁) (fun xs => xs.map (·.1) = namesP t (bl d)) (fun pre => pre.map (·.1) <+: namesP t (bl d) ∧ pre ≠ []) (namesP t (bl d)).length w := fun l J Jx W hW hJ _ hY h0 => by
  refine (Names1_in n hn n₀ n₁ Bt Bd l t d hs W (Nat.le_trans h1 hW.size) (pw_cell_below hW ht) (pw_cell_below hW hd) (fun l W => ∃ l' : List (Pl d), l'.map (·.1) = l ∧ J l' W) (fun l W => ∃ l' : List (Pl d), l'.map (·.1) = l ∧ Jx l' W)
    (fun s A B row ⟨l', hl, hj⟩ hg hr => ⟨l', hl, hJ _ _ _ _ hj hg hr⟩) ?_ ⟨[], rfl, h0⟩).mono ?_
  · rintro pre x W1 ⟨l', rfl, hj⟩ hp
    have hx : x.1 + x.2 ≤ d.size := by
      rw [← bl_length]
      exact namesP_le t (bl d) x (hp.subset (by simp))
    refine (hY l' ⟨x, hx⟩ W1 hj (by have := hp.length_le; simp at this; omega)).mono ?_
    rintro e W' (⟨rfl, hj', hk⟩ | ⟨rfl, hj'⟩)
    · exact .inl ⟨rfl, ⟨l' ++ [⟨x, hx⟩], by simp, hj'⟩, hk⟩
    · exact .inr ⟨rfl, ⟨l' ++ [⟨x, hx⟩], by simp, hj'⟩⟩
  · rintro e W' ⟨hv, ⟨xs, rfl, l', hl, hj⟩ | ⟨pre, ⟨hp, hne⟩, l', rfl, hj⟩⟩
    · exact ⟨hv, .inl ⟨l', hl, hj⟩⟩
    · exact ⟨hv, .inr ⟨l', ⟨hp, by rintro rfl; exact hne rfl⟩, hj⟩⟩

end Go.Proofs.YtjiheepiobffkaaGreat.Fr
