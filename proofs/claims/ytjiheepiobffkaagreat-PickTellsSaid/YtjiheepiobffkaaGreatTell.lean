/-
  pick.Servers and pick.Missing with whatever function that tells addresses; awake in the printer's form.
-/
import Derived.Test.YtjiheepiobffkaaGreatAwake
namespace Go.Proofs.YtjiheepiobffkaaGreat.Fr
open Go.RowKit Go.Proofs.YtjiheepiobffkaaGreatW.PrintWords Go.Proofs.YtjiheepiobffkaaGreatW.PrintLast Go.Proofs.YtjiheepiobffkaaGreatW.PrintMore Go.Proofs.YtjiheepiobffkaaGreat.Pr
open Go.Sort hiding rd
open Go.Lib

theorem R_lit {α : Type} (enc : α → Value) (h1 : ∀ x, (enc x).oneCell' = true) (w : World) (e : TypeId) (xs : List α) (hl : xs.length ≤ 1000000) : (Kd.scalar enc h1).R e (w.alloc (.cells (xs.map enc).toArray e (0, 0))) w.heap.size (fun _ => True) (.slice (some ⟨w.heap.size, 0, none⟩) xs.length xs.length) xs :=
  Kd.R_of_own ⟨by simp [encs], .inr ⟨w.heap.size, xs.length, _, rfl, Nat.le_refl _, alloc_block w _, Nat.le_refl _, by simp only [maxLen]; omega, by simp, by rw [Nat.mul_one, List.take_of_length_le (by simp)]; rfl⟩⟩ (fun _ _ => trivial)

/-- A set that is small enough. -/
def smallSet (rs : List S43) : Prop := rs.length ≤ 1000 ∧ ∀ r ∈ rs, r.f4.size ≤ 140737488351232
instance (rs : List S43) : Decidable (smallSet rs) := by unfold smallSet; infer_instance
theorem targetsR_length (rs : List S43) : (targetsR rs).length ≤ rs.length := by
  unfold targetsR
  refine Nat.le_trans (compact_le _) ?_
  rw [List.length_mergeSort]
  exact List.length_filterMap_le _ _
theorem targetsR_good (rs : List S43) : ∀ n ∈ targetsR rs, good n := by
  intro n hn
  unfold targetsR at hn
  rw [compact_mem, List.mem_mergeSort] at hn
  exact colR_good rs n hn
theorem Servers_tell (fv : Value) (T : ByteArray → List Int) (hT : ∀ n, (T n).length ≤ 1000) (a0_0 : ByteArray) (a0_1 : Int) (A2 : Option Addr) (c2 : Nat) (l2 : List S43) (a0_3 : Int) (a0_4 : ByteArray) (w : World) (hr : Kd.C k43 w A2 l2.length l2) (hc : l2.length ≤ c2) (ht : TellAt fv T w) (hs : smallSet l2) :
    Calls Tryz.prog 36 #[.agg #[.string a0_0, .int .i64 a0_1, .slice A2 l2.length c2, .int .i64 a0_3, .string a0_4], fv] w fun e w' => ∃ v, e = .returned v ∧ Kd.R k55 55 w' w.heap.size (fun _ => True) v (serversR T (targetsR l2)) ∧ Below w.heap.size w w' :=
  Servers_any fv T a0_0 a0_1 A2 c2 l2 a0_3 a0_4 w hr hc ht (targetsR l2) (Targets_ev _ _ _ _ _ (by have := hs.1; omega) hs.2) (targetsR_good l2) (by have := targetsR_length l2; have := hs.1; omega) (fun n _ => hT n)
theorem Missing_tell (fv : Value) (T : ByteArray → List Int) (hT : ∀ n, (T n).length ≤ 1000) (a0_0 : ByteArray) (a0_1 : Int) (A2 : Option Addr) (c2 : Nat) (l2 : List S43) (a0_3 : Int) (a0_4 : ByteArray) (A5 : Option Addr) (c5 : Nat) (tried : List ByteArray) (w : World) (hr : Kd.C k43 w A2 l2.length l2) (hc : l2.length ≤ c2)
    (htr : Kd.C Kd.string w A5 tried.length tried) (hts : ∀ x ∈ tried, x.size ≤ 140737488355328) (ht : TellAt fv T w) (hs : smallSet l2) :
    Calls Tryz.prog 40 #[.agg #[.string a0_0, .int .i64 a0_1, .slice A2 l2.length c2, .int .i64 a0_3, .string a0_4], fv, .slice A5 tried.length c5] w fun e w' => e = .returned (.tuple #[.string (missingR T (targetsR l2) tried).1, .bool (missingR T (targetsR l2) tried).2]) ∧ Below w.heap.size w w' :=
  Missing_any fv T a0_0 a0_1 A2 c2 l2 a0_3 a0_4 A5 c5 tried w hr hc htr hts ht (targetsR l2) (Targets_ev _ _ _ _ _ (by have := hs.1; omega) hs.2) (targetsR_good l2) (by have := targetsR_length l2; have := hs.1; omega) (fun n _ => hT n)
end Go.Proofs.YtjiheepiobffkaaGreat.Fr

namespace Go.Proofs.YtjiheepiobffkaaGreat.Pr
open Go.RowKit Go.Proofs.YtjiheepiobffkaaGreatW.PrintWords Go.Proofs.YtjiheepiobffkaaGreat.Fr

def law15_awake.f : Option Bool := some true
theorem law15_awake.calls (r : Bool) (w : World) (h : law15_awake.f = some r) : Calls Tryz.prog 32 #[] w fun e w' => e = .returned (.bool r) ∧ Below w.heap.size w w' := by
  injection h with h
  subst h
  exact awake_any w
end Go.Proofs.YtjiheepiobffkaaGreat.Pr
