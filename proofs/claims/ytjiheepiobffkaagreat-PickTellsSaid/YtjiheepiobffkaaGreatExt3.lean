/-
  slices.SortFunc at the servers, slices.Compact at the names and at the servers: contracts in the printer's form.
-/
import Derived.Test.YtjiheepiobffkaaGreatCompQ
namespace Go.Proofs.YtjiheepiobffkaaGreat.Fr
open Go.RowKit Go.Proofs.YtjiheepiobffkaaGreatW.PrintWords Go.Proofs.YtjiheepiobffkaaGreatW.PrintLast Go.Proofs.YtjiheepiobffkaaGreatW.PrintMore Go.Proofs.YtjiheepiobffkaaGreat.Pr
open Go.Sort hiding rd
open Go.Lib

theorem own_shrink {w : World} {base : Nat} {e : TypeId} {size n m cap g : Nat} {xs : List Value} (h : w.ownsRow base e size (.slice (some ⟨g, 0, none⟩) n cap) n xs) (hm : m ≤ n) :
    w.ownsRow base e size (.slice (some ⟨g, 0, none⟩) m cap) m (xs.take (m * size)) := by
  have hms : m * size ≤ n * size := Nat.mul_le_mul_right _ hm
  rcases h.2 with ⟨h0, _⟩ | ⟨g', cap', cur, he, hb, hh, hc, hx, hs, ht⟩
  · cases h0
  · injection he with he1 he2 he3
    subst he3
    injection he1 with he1
    injection he1 with he1
    subst he1
    refine ⟨by rw [List.length_take, h.1]; omega, .inr ⟨g, cap, cur, rfl, hb, hh, by omega, hx, hs, ?_⟩⟩
    rw [← ht, List.take_take, Nat.min_eq_left hms]

/-! ### rows of two cells -/
theorem pairs_drop {α : Type} (enc : α → List Value) (hk : ∀ x, (enc x).length = 2) : ∀ (xs : List α) (j : Nat) (p : α), xs[j]? = some p → ((xs.flatMap enc).drop (j * 2)).take 2 = enc p
  | [], j, p, h => by simp at h
  | x :: xs, 0, p, h => by
    simp only [List.getElem?_cons_zero, Option.some.injEq] at h
    subst h
    rw [List.flatMap_cons, Nat.zero_mul, List.drop_zero, List.take_append_of_le_length (by rw [hk]; omega), List.take_of_length_le (by rw [hk]; omega)]
  | x :: xs, j + 1, p, h => by
    simp only [List.getElem?_cons_succ] at h
    rw [List.flatMap_cons, show (j + 1) * 2 = (enc x).length + j * 2 by rw [hk]; omega, List.drop_append, Nat.add_sub_cancel_left, List.drop_eq_nil_of_le (Nat.le_add_right _ _), List.nil_append]
    exact pairs_drop enc hk xs j p h
theorem pairs_length {α : Type} (enc : α → List Value) (hk : ∀ x, (enc x).length = 2) : ∀ (xs : List α), (xs.flatMap enc).length = xs.length * 2
  | [] => rfl
  | x :: xs => by rw [List.flatMap_cons, List.length_append, hk, pairs_length enc hk xs]; simp; omega
theorem pairs_get {α : Type} (enc : α → List Value) (hk : ∀ x, (enc x).length = 2) (xs : List α) (t : Nat) (p : α) (h : xs[t / 2]? = some p) : (xs.flatMap enc)[t]? = (enc p)[t % 2]? := by
  have := pairs_drop enc hk xs (t / 2) p h
  rw [← this, List.getElem?_take_of_lt (Nat.mod_lt _ (by omega)), List.getElem?_drop]
  congr 1
  omega
theorem pairs_flat {α : Type} [Inhabited α] (enc : α → List Value) (hk : ∀ x, (enc x).length = 2) (d : Array α) : (flatK enc 2 d).toList = d.toList.flatMap enc := by
  apply List.ext_getElem?
  intro t
  by_cases ht : t < d.size * 2
  · have hd : t / 2 < d.size := by omega
    rw [pairs_get enc hk d.toList t (d[t / 2]!) (by rw [Array.getElem?_toList, Array.getElem?_eq_getElem hd, getElem!_pos d _ hd])]
    rw [Array.getElem?_toList, Array.getElem?_eq_getElem (by simpa using ht), ← getElem!_pos, get_flatK _ _ _ _ ht, getElem!_pos _ _ (by rw [hk]; exact Nat.mod_lt _ (by omega)), ← List.getElem?_eq_getElem]
  · rw [List.getElem?_eq_none (by simp; omega), List.getElem?_eq_none (by rw [pairs_length enc hk]; simp; omega)]
theorem pairs_of {α : Type} (enc : α → List Value) (hk : ∀ x, (enc x).length = 2) : ∀ (xs : List α) (cs : List Value), cs.length = xs.length * 2 → (∀ j p, xs[j]? = some p → (cs.drop (j * 2)).take 2 = enc p) → cs = xs.flatMap enc
  | [], cs, h, _ => List.eq_nil_of_length_eq_zero (by simpa using h)
  | x :: xs, cs, h, hp => by
    have h0 := hp 0 x rfl
    rw [Nat.zero_mul, List.drop_zero] at h0
    have h1 := pairs_of enc hk xs (cs.drop 2) (by rw [List.length_drop, h]; simp; omega) (fun j p hj => by
      rw [List.drop_drop, show 2 + j * 2 = (j + 1) * 2 by omega]
      exact hp (j + 1) p hj)
    rw [List.flatMap_cons, ← h0, ← h1, List.take_append_drop]
theorem encQ_length (x : S55) : (encQ x).length = 2 := rfl

theorem ownQ {w : World} {base : Nat} {ok : Nat → Prop} {v : Value} {xs : List S55} (h : Kd.R k55 55 w base ok v xs) : w.ownsRow base 55 2 v xs.length (xs.flatMap encQ) := by
  obtain ⟨_, inner, ho, hr⟩ := h
  have : inner = xs.flatMap encQ := pairs_of encQ encQ_length xs inner hr.1 (fun j p hj => k55_openM (hr.2 j p hj))
  rw [← this]
  exact ho
theorem RQ_of {w : World} {base : Nat} {ok : Nat → Prop} {v : Value} {xs : List S55} (h : w.ownsRow base 55 2 v xs.length (xs.flatMap encQ)) (hok : ∀ k, v.ownBlock = some k → ok k) : Kd.R k55 55 w base ok v xs := by
  refine ⟨hok, xs.flatMap encQ, h, pairs_length encQ encQ_length xs, fun j p hj => ?_⟩
  show k55.M _ _ _ p (((xs.flatMap encQ).drop (j * 2)).take 2)
  rw [pairs_drop encQ encQ_length xs j p hj]
  exact k55_mkM _ _ _ p

/-! ### the shelf's compaction, in lists -/
theorem compact_few {α : Type} [Inhabited α] [DecidableEq α] (xs : List α) (h : xs.length < 2) : compact xs = xs :=
  compact_all xs (fun j hj => keeps_lt_one _ j (by omega))
theorem compact_le {α : Type} [Inhabited α] [DecidableEq α] (xs : List α) : (compact xs).length ≤ xs.length := by
  unfold compact compactUpTo
  rw [List.length_map]
  have := List.length_filter_le (keeps xs.toArray) (List.range xs.length)
  simpa using this

theorem compS_few (A : Option Addr) (n c : Nat) (hn : n < 2) (w : World) : Calls Tryz.prog 157 #[.slice A n c] w fun e w' => e = .returned (.slice A n c) ∧ w' = w := by
  go_enter Tryz.func157, Tryz.ntmps157
  go_wp2
  go_ret
  exact ⟨rfl, rfl⟩
theorem compQ_few (A : Option Addr) (n c : Nat) (hn : n < 2) (w : World) : Calls Tryz.prog 156 #[.slice A n c] w fun e w' => e = .returned (.slice A n c) ∧ w' = w := by
  go_enter Tryz.func156, Tryz.ntmps156
  go_wp2
  go_ret
  exact ⟨rfl, rfl⟩

theorem eqlS (P : Program) (T : TypeId) : EqlAt P T Value.string (fun x y => decide (x = y)) := ⟨fun x y w => by
  rw [(EqlAt.string P T).1 x y w]
  congr 2
  rw [Bool.eq_iff_iff, decide_eq_true_iff, beq_iff_eq, bl_toList, bl_toList]
  exact ⟨bl_inj, fun h => by rw [h]⟩, (EqlAt.string P T).2⟩
theorem neqS (P : Program) (T : TypeId) : NeqAt P T Value.string (fun x y => decide (x = y)) := ⟨fun x y w => by
  rw [(NeqAt.string P T).1 x y w]
  congr 3
  rw [Bool.eq_iff_iff, decide_eq_true_iff, beq_iff_eq, bl_toList, bl_toList]
  exact ⟨bl_inj, fun h => by rw [h]⟩, (NeqAt.string P T).2⟩
end Go.Proofs.YtjiheepiobffkaaGreat.Fr

namespace Go.Proofs.YtjiheepiobffkaaGreat.Pr
open Go.RowKit Go.Proofs.YtjiheepiobffkaaGreatW.PrintWords Go.Proofs.YtjiheepiobffkaaGreat.Fr
open Go.Sort hiding rd
open Go.Lib

def compact_strings.f (l0 : List ByteArray) : Option (List ByteArray) := if l0.length ≤ 9223372036854775807 then some (compact l0) else none
set_option maxHeartbeats 1000000 in
theorem compact_strings.calls (P0_ : Nat → Prop) (u9000_ : Value) (l0 : List ByteArray) (r : List ByteArray) (w0 w : World) (hB : Below w0.heap.size w0 w) (ho0 : Kd.R Kd.string 9 w w0.heap.size P0_ u9000_ l0) (h : compact_strings.f l0 = some r) :
    Calls Tryz.prog 157 #[u9000_] w fun e w' => ∃ v0_, e = .returned v0_ ∧ Kd.R Kd.string 9 w' w0.heap.size (fun k_ => (P0_ k_ ∨ w.heap.size ≤ k_)) v0_ r ∧ Below w0.heap.size w0 w' ∧ Kept w w' (fun k_ => P0_ k_) := by
  unfold compact_strings.f at h
  split at h
  · rename_i hl
    injection h with h
    subst h
    have own := Kd.own_of_R ho0
    by_cases hp : l0.length < 2
    · rw [compact_few l0 hp]
      obtain ⟨A, c, rfl⟩ := Kd.R_slice ho0
      refine (compS_few A _ c hp w).mono ?_
      rintro e w' ⟨rfl, rfl⟩
      exact ⟨_, rfl, Kd.R_mono ho0 (fun k hk => .inl hk), hB, Kept.refl _ _⟩
    · obtain ⟨g, cap, cur, rfl, hb, hh, hcap, _⟩ := own_slice own (by omega)
      have hH : Holds Value.string w g 0 l0.toArray := holds_enc _ _ _ _ _ (own_holds own _ (by simp [encs]))
      have hcon := AnyE.slices_Compact Tryz.compS Value.string (fun _ => rfl) (eqlS _ _) (neqS _ _) ⟨#[]⟩ Tryz.zeroValue9 g 0 cap l0.toArray w hH (by simpa using hl) (by simpa using hcap)
      refine hcon.mono ?_
      rintro e w' ⟨rfl, q, rfl⟩
      have hcl : (compact l0).length ≤ l0.length := compact_le l0
      have hc : compactUpTo l0.toArray l0.toArray.size = compact l0 := rfl
      rw [hc, putRow_enc]
      obtain ⟨o1, o2⟩ := own_put own ((compact l0 ++ List.replicate (l0.toArray.size - (compact l0).length) (⟨#[]⟩ : ByteArray)).toArray.map Value.string) (by simp; omega) q #[]
      rw [grow_empty] at o1 o2
      have o3 := own_shrink o1 hcl
      have ht : ((compact l0 ++ List.replicate (l0.toArray.size - (compact l0).length) (⟨#[]⟩ : ByteArray)).toArray.map Value.string).toList.take ((compact l0).length * 1) = encs Value.string (compact l0) := by
        rw [Nat.mul_one, Array.toList_map, ← List.map_take, List.take_append_of_le_length (Nat.le_refl _), List.take_of_length_le (Nat.le_refl _)]
        rfl
      rw [ht] at o3
      exact ⟨_, rfl, Kd.R_of_own o3 (fun k hk => .inl (ho0.1 k hk)), hB.grown o2 hB.size (fun k hk => by injection hk with hk; omega), Kept.of_grown o2 (Kept.refl _ _) (fun k hk => .inl (ho0.1 k (by rw [← hk]; rfl)))⟩
  · cases h

def compact_Servers.f (l0 : List S55) : Option (List S55) := if l0.length ≤ 9223372036854775807 then some (compact l0) else none
set_option maxHeartbeats 1000000 in
theorem compact_Servers.calls (P0_ : Nat → Prop) (u9000_ : Value) (l0 : List S55) (r : List S55) (w0 w : World) (hB : Below w0.heap.size w0 w) (ho0 : Kd.R k55 55 w w0.heap.size P0_ u9000_ l0) (h : compact_Servers.f l0 = some r) :
    Calls Tryz.prog 156 #[u9000_] w fun e w' => ∃ v0_, e = .returned v0_ ∧ Kd.R k55 55 w' w0.heap.size (fun k_ => (P0_ k_ ∨ w.heap.size ≤ k_)) v0_ r ∧ Below w0.heap.size w0 w' ∧ Kept w w' (fun k_ => P0_ k_) := by
  unfold compact_Servers.f at h
  split at h
  · rename_i hl
    injection h with h
    subst h
    have own := ownQ ho0
    by_cases hp : l0.length < 2
    · rw [compact_few l0 hp]
      obtain ⟨A, c, rfl⟩ := Kd.R_slice ho0
      refine (compQ_few A _ c hp w).mono ?_
      rintro e w' ⟨rfl, rfl⟩
      exact ⟨_, rfl, Kd.R_mono ho0 (fun k hk => .inl hk), hB, Kept.refl _ _⟩
    · obtain ⟨g, cap, cur, rfl, hb, hh, hcap, _⟩ := own_slice own (by omega)
      have hH : HoldsK encQ 2 w g 0 l0.toArray := own_holds own _ (by rw [pairs_flat encQ encQ_length])
      have hcon := compQ_any g 0 cap l0.toArray w hH (by simpa using hl) (by simpa using hcap)
      refine hcon.mono ?_
      rintro e w' ⟨rfl, q, F, rfl, hF1, hF2⟩
      have hcl : (compact l0).length ≤ l0.length := compact_le l0
      have hc : compactUpTo l0.toArray l0.toArray.size = compact l0 := rfl
      rw [hc] at hF2 ⊢
      obtain ⟨o1, o2⟩ := own_put own F (by simpa using hF1) q #[]
      rw [grow_empty] at o1 o2
      have o3 := own_shrink o1 hcl
      have ht : F.toList.take ((compact l0).length * 2) = (compact l0).flatMap encQ := by
        have hs : F.size = l0.length * 2 := by simpa using hF1
        apply List.ext_getElem?
        intro t
        by_cases ht : t < (compact l0).length * 2
        · have hd : t / 2 < (compact l0).length := by omega
          have h2 := hF2 t ht
          rw [List.getElem?_take_of_lt ht, Array.getElem?_toList, Array.getElem?_eq_getElem (by omega), ← getElem!_pos F t (by omega), h2,
            pairs_get encQ encQ_length (compact l0) t ((compact l0)[t / 2]!) (by rw [List.getElem?_eq_getElem hd, getElem!_pos (compact l0) (t / 2) hd]), getElem!_pos _ _ (by rw [encQ_length]; exact Nat.mod_lt _ (by omega)), ← List.getElem?_eq_getElem]
        · rw [List.getElem?_eq_none (by simp; omega), List.getElem?_eq_none (by rw [pairs_length encQ encQ_length]; omega)]
      rw [ht] at o3
      exact ⟨_, rfl, RQ_of o3 (fun k hk => .inl (ho0.1 k hk)), hB.grown o2 hB.size (fun k hk => by injection hk with hk; omega), Kept.of_grown o2 (Kept.refl _ _) (fun k hk => .inl (ho0.1 k (by rw [← hk]; rfl)))⟩
  · cases h

def sort_Servers.f (l0 : List S55) (_ : Unit) : Option (List S55) := if (∀ x ∈ l0, good x.f0) ∧ l0.length < 4611686018427387904 then some (l0.mergeSort leS) else none
set_option maxHeartbeats 1000000 in
theorem sort_Servers.calls (P0_ : Nat → Prop) (u9000_ : Value) (l0 : List S55) (a1 : Unit) (r : List S55) (w0 w : World) (hB : Below w0.heap.size w0 w) (ho0 : Kd.R k55 55 w w0.heap.size P0_ u9000_ l0) (h : sort_Servers.f l0 a1 = some r) :
    Calls Tryz.prog 151 #[u9000_, .func (.func 152) #[] #[]] w fun e w' => e = .returned (.tuple #[]) ∧ Kd.R k55 55 w' w0.heap.size (fun k_ => (P0_ k_ ∨ w.heap.size ≤ k_)) u9000_ r ∧ Below w0.heap.size w0 w' ∧ Kept w w' (fun k_ => P0_ k_) := by
  unfold sort_Servers.f at h
  split at h
  · rename_i hg
    injection h with h
    subst h
    obtain ⟨hg, hl⟩ := hg
    have own := ownQ ho0
    rcases Nat.eq_zero_or_pos l0.length with hz | hp
    · have hz' := List.eq_nil_of_length_eq_zero hz
      subst hz'
      obtain ⟨A, c, rfl⟩ := Kd.R_slice ho0
      refine (AnyF.slices_SortFunc_none { Tryz.sortQ with } A c (.func (.func 152) #[] #[]) w).mono ?_
      rintro e w' ⟨rfl, rfl⟩
      exact ⟨rfl, Kd.R_mono (by simpa using ho0) (fun k hk => .inl hk), hB, Kept.refl _ _⟩
    · obtain ⟨g, cap, cur, rfl, hb, hh, _⟩ := own_slice own hp
      have hlt : g < w.heap.size := by
        rcases Nat.lt_or_ge g w.heap.size with hlt | hlt
        · exact hlt
        · rw [Array.getElem?_eq_none hlt] at hh; cases hh
      let la : List GServ := l0.attachWith (fun x => good x.f0) hg
      have hla : la.map Subtype.val = l0 := map_attach (P := fun x : S55 => good x.f0) l0 hg
      have hls : la.toArray.size = l0.length := by simp [la]
      have he : ∀ l : List GServ, l.flatMap (fun x : GServ => encQ x.1) = (l.map Subtype.val).flatMap encQ := fun l => by rw [List.flatMap_map]
      have hH : HoldsK (fun x : GServ => encQ x.1) 2 w g 0 la.toArray := own_holds own _ (by rw [pairs_flat _ (fun _ => rfl), he, hla])
      have hcon := AnyQ.slices_SortFunc_total Tryz.sortQ 2 Tryz.isAgg55 Tryz.sizeOf55 (fun x : GServ => encQ x.1) (fun _ => rfl) (fun x v hv => by simp only [encQ, List.mem_cons, List.not_mem_nil, or_false] at hv; rcases hv with rfl | rfl <;> rfl) cfS cfS_swo 152 #[] g 0 cap la.toArray w (enters_of Tryz.func152 (by kernel_rfl) rfl)
        (fun m os dk _ x y => hints_at x y _) hH hlt (by rw [hls]; exact hl) cfS_total
      rw [hls] at hcon
      refine hcon.mono ?_
      rintro e w' ⟨rfl, n, os, rfl⟩
      have hperm : (la.mergeSort fun x y => !(ltOf cfS) y x).map Subtype.val = l0.mergeSort leS := by
        rw [← hla]
        refine List.map_mergeSort (fun a _ b _ => ?_)
        rw [cfS_lt]
        rfl
      have hF : (flatK (fun x : GServ => encQ x.1) 2 (la.mergeSort fun x y => !(ltOf cfS) y x).toArray).toList = (l0.mergeSort leS).flatMap encQ := by
        rw [pairs_flat _ (fun _ => rfl), he, ← hperm]
      obtain ⟨o1, o2⟩ := own_put own (flatK (fun x : GServ => encQ x.1) 2 (la.mergeSort fun x y => !(ltOf cfS) y x).toArray) (by simp [la]) n os
      have hlen : (l0.mergeSort leS).length = l0.length := List.length_mergeSort _
      rw [hF] at o1
      refine ⟨rfl, RQ_of (by rw [hlen]; exact o1) (fun k hk => .inl (ho0.1 k hk)), hB.grown o2 hB.size (fun k hk => by injection hk with hk; omega), Kept.of_grown o2 (Kept.refl _ _) (fun k hk => .inl (ho0.1 k (by rw [← hk]; rfl)))⟩
  · cases h

end Go.Proofs.YtjiheepiobffkaaGreat.Pr
