/-
  slices.Compact at the servers: the library's two loops walked.
-/
import Derived.Test.YtjiheepiobffkaaGreatSort
import Derived.Shelf.SlicesQ.Load
import Derived.Shelf.SlicesQ.Reverse
import Derived.BigQuiet
namespace Go.Proofs.YtjiheepiobffkaaGreat.Fr
open Go.RowKit Go.Proofs.YtjiheepiobffkaaGreatW.PrintWords Go.Proofs.YtjiheepiobffkaaGreatW.PrintLast Go.Proofs.YtjiheepiobffkaaGreatW.PrintMore Go.Proofs.YtjiheepiobffkaaGreat.Pr
open Go.Sort hiding rd
open Go.Lib

instance : Inhabited S55 := ⟨z55⟩
instance : DecidableEq S55 := fun a b => if h : a.f0 = b.f0 ∧ a.f1 = b.f1 then isTrue (by obtain ⟨p, q⟩ := a; obtain ⟨r, s⟩ := b; obtain ⟨rfl, rfl⟩ := h; rfl) else isFalse (fun e => h (by rw [e]; exact ⟨rfl, rfl⟩))
def encQ (x : S55) : List Value := [.string x.f0, .int .i64 x.f1]

theorem eqQ (x y : S55) (w : World) : (Op.equalIn 10000 55 (.agg #[.string x.f0, .int .i64 x.f1]) (.agg #[.string y.f0, .int .i64 y.f1])).run Tryz.prog w = .ok (decide (x = y)) w := by
  rw [eqA55 9998 w]
  congr 1
  rw [Bool.eq_iff_iff, decide_eq_true_iff, Bool.and_eq_true, beq_iff_eq, beq_iff_eq]
  constructor
  · rintro ⟨h1, h2⟩
    obtain ⟨p, q⟩ := x
    obtain ⟨r, s⟩ := y
    simp only [bl_toList] at h1 h2
    rw [bl_inj h1, h2]
  · rintro rfl
    exact ⟨rfl, rfl⟩

theorem holdsQ_cells {W : World} {blk off : Nat} {d : Array S55} (h : HoldsK encQ 2 W blk off d) {i : Nat} (hi : i < d.size) :
    W.cell? ⟨blk, off + i * 2, none⟩ = some (.string d[i]!.f0) ∧ W.cell? ⟨blk, off + i * 2 + 1, none⟩ = some (.int .i64 d[i]!.f1) ∧ W.frozen? ⟨blk, off + i * 2, none⟩ = false ∧ W.frozen? ⟨blk, off + i * 2 + 1, none⟩ = false := by
  have h0 := h.cell hi (c := 0) (by omega)
  have h1 := h.cell hi (c := 1) (by omega)
  exact ⟨h0.1, h1.1, h0.2, h1.2⟩

theorem clearQ (w : World) (ty : TypeId) (b o n c : Nat) (hn : 0 < n) (hc : ∀ j, j < n * 2 → (w.cell? ⟨b, o + j, none⟩).isSome = true) (hf : ∀ j, j < n * 2 → w.frozen? ⟨b, o + j, none⟩ = false) :
    ∃ vs : List Value, vs.length = n * 2 ∧ (Builtin.clear_ #[48] ty #[.slice (some ⟨b, o, none⟩) n c]).run Tryz.prog w = .ok (.tuple #[]) (w.setCells b o vs) := by
  have hv : (zeroValue 55).run Tryz.prog w = .ok (.agg #[.string ⟨#[]⟩, .int .i64 0]) w := by go_simp
  have hz : (Builtin.zeroCells (Value.agg #[.string ⟨#[]⟩, .int .i64 0]).cells n).toList.length = n * 2 := by
    simp [Builtin.zeroCells, Value.cells]
  have h1 : ∀ v ∈ (Builtin.zeroCells (Value.agg #[.string ⟨#[]⟩, .int .i64 0]).cells n).toList, v.oneCell' = true := by
    intro v hv
    simp only [Builtin.zeroCells, Value.cells, Array.toList_map, List.mem_map] at hv
    obtain ⟨i, _, rfl⟩ := hv
    have : i % 2 < 2 := Nat.mod_lt _ (by omega)
    rcases (show i % 2 = 0 ∨ i % 2 = 1 by omega) with e | e <;> simp [e] <;> rfl
  have hst := run_storeCells_cells (P := Tryz.prog) b o _ 0 w (by rw [hz]; simpa using hc) (by rw [hz]; simpa using hf) h1
  simp only [Nat.add_zero] at hst
  refine ⟨_, hz, ?_⟩
  obtain ⟨m, rfl⟩ : ∃ m, n = m + 1 := ⟨n - 1, by omega⟩
  simp [Builtin.clear_, run_underlying Tryz.underlying48, hv, hst]

/-- What the row holds behind it all: its head. -/
def HeadQ (d : Array S55) (F : Array Value) : Prop := F.size = d.size * 2 ∧ ∀ t, t < (compactUpTo d d.size).length * 2 → F[t]! = (encQ (compactUpTo d d.size)[t / 2]!)[t % 2]!

theorem headQ_all (d : Array S55) (h : ∀ j, j < d.size → keeps d j = true) : (compactUpTo d d.size).length = d.size ∧ HeadQ d (flatK encQ 2 d) := by
  have e : compactUpTo d d.size = d.toList := by rw [compactUpTo_all d _ h, range_map_get]
  refine ⟨by rw [e]; simp, by simp, fun t ht => ?_⟩
  rw [e] at ht ⊢
  simp only [Array.length_toList] at ht
  rw [get_flatK _ _ _ _ ht]
  have : t / 2 < d.size := by omega
  rw [getElem!_pos d _ this, getElem!_pos d.toList _ (by simpa using this)]
  simp
theorem headQ_done {d dk : Array S55} {k : Nat} (h : CompInv d d.size k dk) (vs : List Value) (_hv : vs.length = (d.size - k) * 2) : HeadQ d (setMany (flatK encQ 2 dk) (k * 2) vs) := by
  refine ⟨by simp [h.size], fun t ht => ?_⟩
  rw [h.len] at ht
  have hlt := h.lt
  have hs := h.size
  rw [get_setMany _ _ _ _ (by simp; omega), if_neg (by omega), get_flatK _ _ _ _ (by omega)]
  have hk : t / 2 < k := by omega
  have := h.low (t / 2) hk
  rw [getElem!_def (compactUpTo d d.size), this]

theorem storeQ (w : World) (blk off : Nat) (dk : Array S55) (i : Nat) (u : S55) (hi : i < dk.size) :
    ((putRowK encQ 2 w blk off dk).setCell ⟨blk, off + i * 2, none⟩ (.string u.f0)).setCell ⟨blk, off + i * 2 + 1, none⟩ (.int .i64 u.f1) = putRowK encQ 2 w blk off (dk.setIfInBounds i u) := by
  have h := setCells_putRow w blk off (encQ u) (i * 2) (flatK encQ 2 dk) (by simp [encQ]; omega)
  refine Eq.trans h ?_
  unfold putRowK
  congr 1
  refine ext_get! (by simp) fun t ht => ?_
  have ht' : t < dk.size * 2 := by simpa using ht
  rw [get_setMany _ _ _ t (by simpa using ht'), get_flatK _ _ _ t ht', get_flatK _ _ _ t (by simpa using ht')]
  by_cases hc : t / 2 = i
  · subst hc
    rw [if_pos (by simp [encQ]; omega), getElem!_set_same dk _ _ hi, show t - t / 2 * 2 = t % 2 by omega]
  · rw [if_neg (by simp [encQ]; omega), getElem!_set_other dk _ _ _ hc]

set_option maxHeartbeats 4000000 in
set_option maxRecDepth 1000000 in
theorem compQ_any (blk off cap : Nat) (d : Array S55) (w : World) (hH : HoldsK encQ 2 w blk off d) (hsz : d.size ≤ 9223372036854775807) (hcap : d.size ≤ cap) :
    Calls Tryz.prog 156 #[.slice (some ⟨blk, off, none⟩) d.size cap] w fun e w' => e = .returned (.slice (some ⟨blk, off, none⟩) (compactUpTo d d.size).length cap) ∧ ∃ q F, w' = putRow id (Sort.ahead w q) blk off F ∧ HeadQ d F := by
  have hu := Tryz.underlying55
  have hEQ := eqQ
  have HS : Aside (∀ q, (∀ j, j < d.size → keeps d j = true) → (compactUpTo d d.size).length = d.size ∧ ∃ q' F, w.drewN q = putRow id (Sort.ahead w q') blk off F ∧ HeadQ d F) := by
    intro q hall
    obtain ⟨h1, h2⟩ := headQ_all d hall
    exact ⟨h1, q, _, (putRowK_self encQ 2 (Sort.ahead w q) blk off d (holdsK_ahead encQ 2 w q blk off d hH)).symm, h2⟩
  by_cases h2 : d.size < 2
  · have HH : Aside (HoldsK encQ 2 w blk off d) := hH
    clear hH hEQ
    go_enter Tryz.func156, Tryz.ntmps156
    go_wp2
    go_ret
    obtain ⟨e1, e2⟩ := HS.out 0 (fun j hj => keeps_lt_one d j (by omega))
    exact ⟨by rw [e1]; rfl, e2⟩
  · go_enter Tryz.func156, Tryz.ntmps156
    go_wp2
    go_loopg [3] d.size (fun g s3 wr => ∃ k q : Nat, 1 ≤ k ∧ k ≤ d.size ∧ d.size - k ≤ g ∧ s3 = .int .i64 k ∧ wr = w.drewN q ∧ ∀ j, j < k → keeps d j = true)
    case atStart => exact ⟨1, 0, Nat.le_refl _, by omega, by omega, rfl, rfl, keeps_lt_one d⟩
    case round =>
      obtain ⟨k, q, hk1, hk, hg, rfl, rfl, hall⟩ := hrel
      by_cases hlt : k < d.size
      · have hHq : HoldsK encQ 2 (w.drewN q) blk off d := hH
        obtain ⟨c1, c1', f1, f1'⟩ := holdsQ_cells hHq hlt
        obtain ⟨c0, c0', f0, f0'⟩ := holdsQ_cells hHq (show k - 1 < d.size by omega)
        have A : Aside (∀ j, j < k → keeps d j = true) := hall
        have HH : Aside (HoldsK encQ 2 w blk off d) := hH
        clear hall hH hHq
        generalize hx : d[k]! = x at c1 c1'
        generalize hy : d[k - 1]! = y at c0 c0'
        have B : Aside (d[k]! = x ∧ d[k - 1]! = y) := ⟨hx, hy⟩
        clear hx hy f1 f1' f0 f0'
        generalize hwq : w.drewN q = wq at c1 c1' c0 c0' ⊢
        have WQ : Aside (w.drewN q = wq) := hwq
        clear hwq
        have hE := fun W => hEQ x y W
        by_cases hdup : x = y
        · rw [decide_eq_true hdup] at hE
          subst hdup
          go_wp2_with fail
          go_quiet (fail)
          go_wp2
          clear c0 c0' c1 c1' hE
          have hst : wq.drewN nq = putRowK encQ 2 (Sort.ahead w (q + nq)) blk off d := by
            rw [← WQ.out, World.drewN_drewN]
            exact (putRowK_self encQ 2 (Sort.ahead w (q + nq)) blk off d (holdsK_ahead encQ 2 w (q + nq) blk off d HH.out)).symm
          have HST : Aside (wq.drewN nq = putRowK encQ 2 (Sort.ahead w (q + nq)) blk off d) := hst
          clear hst
          generalize wq.drewN nq = wz at HST ⊢
          go_loopg [3, 5] d.size (fun g s3 s5 wr => ∃ (kk k2 q2 : Nat) (dk : Array S55), s3 = .int .i64 kk ∧ s5 = .int .i64 k2 ∧ 1 ≤ k2 ∧ k + k2 ≤ d.size ∧ d.size - (k + k2) ≤ g ∧ wr = putRowK encQ 2 (Sort.ahead w q2) blk off dk ∧ CompInv d (k + k2) kk dk)
          case atStart => exact ⟨k, 1, q + nq, d, rfl, rfl, Nat.le_refl _, by omega, by omega, HST.out, CompInv.start A.out (keeps_neg (by omega) (by rw [B.out.1, B.out.2]))⟩
          case round =>
            obtain ⟨kk, k2, q2, dk, rfl, rfl, h1, hle, hg2, hwr, hI⟩ := hrel
            have hkk := hI.lt
            have hds := hI.size
            have hHk : HoldsK encQ 2 wr blk off dk := by rw [hwr]; exact holdsK_putRowK encQ 2 _ blk off d dk (holdsK_ahead encQ 2 w q2 blk off d HH.out) hds
            have W2 : Aside (wr = putRowK encQ 2 (Sort.ahead w q2) blk off dk) := hwr
            have I2 : Aside (CompInv d (k + k2) kk dk) := hI
            clear hwr HST
            by_cases hlt2 : k + k2 < d.size
            · obtain ⟨cm, cm', _, _⟩ := holdsQ_cells hHk (show k + k2 < dk.size by omega)
              obtain ⟨cp, cp', _, _⟩ := holdsQ_cells hHk (show k + k2 - 1 < dk.size by omega)
              obtain ⟨ck, ck', fk, fk'⟩ := holdsQ_cells hHk (show kk < dk.size by omega)
              rw [hI.high (k + k2) (by omega), show off + (k + k2) * 2 = off + k * 2 + k2 * 2 by omega] at cm cm'
              rw [hI.high (k + k2 - 1) (by omega), show off + (k + k2 - 1) * 2 = off + k * 2 + (k2 - 1) * 2 by omega] at cp cp'
              clear hHk hI
              generalize hu : d[k + k2]! = u at cm cm'
              generalize hv : d[k + k2 - 1]! = v at cp cp'
              generalize dk[kk]! = old at ck ck'
              have C : Aside (d[k + k2]! = u ∧ d[k + k2 - 1]! = v) := ⟨hu, hv⟩
              clear hu hv
              have hE := fun W => hEQ u v W
              by_cases huv : u = v
              · rw [decide_eq_true huv] at hE
                subst huv
                go_wp2_with fail
                go_quiet (fail)
                go_wp2
                go_roundg (d.size - (k + (k2 + 1)))
                case measure => omega
                case rel => exact ⟨kk, k2 + 1, q2 + nq, dk, rfl, by go_num, by omega, by omega, Nat.le_refl _, by rw [W2.out, putRowK_drewN], I2.out.skip (keeps_neg (by omega) (by rw [C.out.1, C.out.2]))⟩
              · rw [decide_eq_false huv] at hE
                go_wp2_with fail
                go_quiet (fail)
                go_wp2
                go_roundg (d.size - (k + (k2 + 1)))
                case measure => omega
                case rel =>
                  refine ⟨kk + 1, k2 + 1, q2 + nq, dk.setIfInBounds kk u, by go_num, by go_num, by omega, by omega, Nat.le_refl _, ?_, by have := I2.out.keep hlt2 (keeps_pos (by rw [C.out.1, C.out.2]; exact huv)); rwa [C.out.1] at this⟩
                  rw [W2.out, putRowK_drewN]
                  exact storeQ _ blk off dk kk u (by omega)
            · have hend : k + k2 = d.size := by omega
              obtain ⟨vs, hvs, hcl⟩ : ∃ vs : List Value, vs.length = (d.size - kk) * 2 ∧ ∀ ty, (Builtin.clear_ #[48] ty #[.slice (some ⟨blk, off + kk * 2, none⟩) (d.size - kk) (cap - kk)]).run Tryz.prog wr = .ok (.tuple #[]) (wr.setCells blk (off + kk * 2) vs) := by
                obtain ⟨vs, h1, h2⟩ := clearQ wr 0 blk (off + kk * 2) (d.size - kk) (cap - kk) (by omega) (fun j hj => by
                  have := hHk (kk * 2 + j) (by rw [size_flatK]; omega)
                  rw [Nat.add_assoc, this.1]; rfl) (fun j hj => by
                  have := hHk (kk * 2 + j) (by rw [size_flatK]; omega)
                  rw [Nat.add_assoc]; exact this.2)
                exact ⟨vs, h1, fun _ => h2⟩
              clear hHk hI hEQ
              go_wp2
              go_ret
              have hI := I2.out
              rw [hend] at hI
              refine ⟨by rw [hI.len]; rfl, q2, setMany (flatK encQ 2 dk) (kk * 2) vs, ?_, headQ_done hI vs hvs⟩
              rw [W2.out]
              exact setCells_putRow _ _ _ _ _ _ (by rw [size_flatK, hvs]; omega)
        · rw [decide_eq_false hdup] at hE
          go_wp2_with fail
          go_quiet (fail)
          go_wp2
          go_roundg (d.size - (k + 1))
          case measure => omega
          case rel =>
            refine ⟨k + 1, q + nq, by omega, by omega, Nat.le_refl _, by go_num, by rw [← WQ.out, World.drewN_drewN], fun j hj => ?_⟩
            by_cases e : j = k
            · subst e
              exact keeps_pos (by rw [B.out.1, B.out.2]; exact hdup)
            · exact A.out j (by omega)
      · have : k = d.size := by omega
        subst this
        have HH : Aside (HoldsK encQ 2 w blk off d) := hH
        clear hH hEQ
        go_wp2
        go_ret
        obtain ⟨e1, e2⟩ := HS.out q hall
        exact ⟨by rw [e1]; rfl, e2⟩

end Go.Proofs.YtjiheepiobffkaaGreat.Fr
