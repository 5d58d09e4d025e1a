/-
  What the law PickOrder calls, as contracts in the printer's form.
-/
import Derived.Test.YtjiheepiobffkaaAwake
namespace Go.Proofs.Ytjiheepiobffkaa.Fr
open Go.RowKit Go.Proofs.YtjiheepiobffkaaW.PrintWords Go.Proofs.YtjiheepiobffkaaW.PrintLast Go.Proofs.YtjiheepiobffkaaW.PrintMore Go.Proofs.Ytjiheepiobffkaa.Pr
open Go.Sort hiding rd
open Go.Lib

theorem R_lit {α : Type} (enc : α → Value) (h1 : ∀ x, (enc x).oneCell' = true) (w : World) (e : TypeId) (xs : List α) (hl : xs.length ≤ 1000000) : (Kd.scalar enc h1).R e (w.alloc (.cells (xs.map enc).toArray e (0, 0))) w.heap.size (fun _ => True) (.slice (some ⟨w.heap.size, 0, none⟩) xs.length xs.length) xs :=
  Kd.R_of_own ⟨by simp [encs], .inr ⟨w.heap.size, xs.length, _, rfl, Nat.le_refl _, alloc_block w _, Nat.le_refl _, by simp only [maxLen]; omega, by simp, by rw [Nat.mul_one, List.take_of_length_le (by simp)]; rfl⟩⟩ (fun _ _ => trivial)

def TO (n : ByteArray) : List Int := [(n.size : Int), 2, (n.size : Int)]
theorem order1_any (n : ByteArray) (w : World) : Calls Try.prog 18 #[.string n] w fun e w' => ∃ v, e = .returned v ∧ Kd.R (Kd.int .i64) 3 w' w.heap.size (fun _ => True) v (TO n) ∧ Below w.heap.size w w' := by
  go_enter Try.func18, Try.ntmps18
  go_wp2
  go_ret
  exact ⟨_, rfl, R_lit (Value.int .i64) (fun _ => rfl) w 3 (TO n) (by simp [TO]), below_alloc (Below.refl _ _) _⟩
theorem tell_order (w : World) : TellAt (.func (.func 18) #[] #[]) TO w :=
  .inr ⟨18, #[], rfl, enters_of Try.func18 (by kernel_rfl) rfl, fun W _ n _ => order1_any n W⟩

/-- A set that is small enough. -/
def smallSet (rs : List S61) : Prop := rs.length ≤ 1000 ∧ ∀ r ∈ rs, r.f4.size ≤ 140737488351232
instance (rs : List S61) : Decidable (smallSet rs) := by unfold smallSet; infer_instance
theorem targetsR_length (rs : List S61) : (targetsR rs).length ≤ rs.length := by
  unfold targetsR
  refine Nat.le_trans (compact_le _) ?_
  rw [List.length_mergeSort]
  exact List.length_filterMap_le _ _
theorem targetsR_good (rs : List S61) : ∀ n ∈ targetsR rs, good n := by
  intro n hn
  unfold targetsR at hn
  rw [compact_mem, List.mem_mergeSort] at hn
  exact colR_good rs n hn
theorem Servers_tell (fv : Value) (T : ByteArray → List Int) (hT : ∀ n, (T n).length ≤ 1000) (a0_0 : ByteArray) (a0_1 : Int) (A2 : Option Addr) (c2 : Nat) (l2 : List S61) (a0_3 : Int) (a0_4 : ByteArray) (w : World) (hr : Kd.C k61 w A2 l2.length l2) (hc : l2.length ≤ c2) (ht : TellAt fv T w) (hs : smallSet l2) :
    Calls Try.prog 14 #[.agg #[.string a0_0, .int .i64 a0_1, .slice A2 l2.length c2, .int .i64 a0_3, .string a0_4], fv] w fun e w' => ∃ v, e = .returned v ∧ Kd.R k25 25 w' w.heap.size (fun _ => True) v (serversR T (targetsR l2)) ∧ Below w.heap.size w w' :=
  Servers_any fv T a0_0 a0_1 A2 c2 l2 a0_3 a0_4 w hr hc ht (targetsR l2) (Targets_ev _ _ _ _ _ (by have := hs.1; omega) hs.2) (targetsR_good l2) (by have := targetsR_length l2; have := hs.1; omega) (fun n _ => hT n)
theorem Missing_tell (fv : Value) (T : ByteArray → List Int) (hT : ∀ n, (T n).length ≤ 1000) (a0_0 : ByteArray) (a0_1 : Int) (A2 : Option Addr) (c2 : Nat) (l2 : List S61) (a0_3 : Int) (a0_4 : ByteArray) (A5 : Option Addr) (c5 : Nat) (tried : List ByteArray) (w : World) (hr : Kd.C k61 w A2 l2.length l2) (hc : l2.length ≤ c2)
    (htr : Kd.C Kd.string w A5 tried.length tried) (hts : ∀ x ∈ tried, x.size ≤ 140737488355328) (ht : TellAt fv T w) (hs : smallSet l2) :
    Calls Try.prog 17 #[.agg #[.string a0_0, .int .i64 a0_1, .slice A2 l2.length c2, .int .i64 a0_3, .string a0_4], fv, .slice A5 tried.length c5] w fun e w' => e = .returned (.tuple #[.string (missingR T (targetsR l2) tried).1, .bool (missingR T (targetsR l2) tried).2]) ∧ Below w.heap.size w w' :=
  Missing_any fv T a0_0 a0_1 A2 c2 l2 a0_3 a0_4 A5 c5 tried w hr hc htr hts ht (targetsR l2) (Targets_ev _ _ _ _ _ (by have := hs.1; omega) hs.2) (targetsR_good l2) (by have := targetsR_length l2; have := hs.1; omega) (fun n _ => hT n)
end Go.Proofs.Ytjiheepiobffkaa.Fr

namespace Go.Proofs.Ytjiheepiobffkaa.Pr
open Go.RowKit Go.Proofs.YtjiheepiobffkaaW.PrintWords Go.Proofs.Ytjiheepiobffkaa.Fr

def law15_awake.f : Option Bool := some true
theorem law15_awake.calls (r : Bool) (w : World) (h : law15_awake.f = some r) : Calls Try.prog 7 #[] w fun e w' => e = .returned (.bool r) ∧ Below w.heap.size w w' := by
  injection h with h
  subst h
  exact awake_any w
def order_Servers.f (_a0_0 : ByteArray) (_a0_1 : Int) (l0_2 : List S61) (_a0_3 : Int) (_a0_4 : ByteArray) (_ : Unit) : Option (List S25) := if smallSet l0_2 then some (serversR TO (targetsR l0_2)) else none
theorem order_Servers.calls (a0_0 : ByteArray) (a0_1 : Int) (A0_2 : Option Addr) (c0_2 : Nat) (l0_2 : List S61) (a0_3 : Int) (a0_4 : ByteArray) (a1 : Unit) (r : List S25) (w : World) (hr0_2 : Kd.C k61 w A0_2 l0_2.length l0_2) (hc0_2 : l0_2.length ≤ c0_2) (h : order_Servers.f a0_0 a0_1 l0_2 a0_3 a0_4 a1 = some r) :
    Calls Try.prog 14 #[.agg #[.string a0_0, .int .i64 a0_1, .slice A0_2 l0_2.length c0_2, .int .i64 a0_3, .string a0_4], .func (.func 18) #[] #[]] w fun e w' => ∃ v0_, e = .returned v0_ ∧ Kd.R k25 25 w' w.heap.size (fun _ => True) v0_ r ∧ Below w.heap.size w w' := by
  unfold order_Servers.f at h
  split at h
  · rename_i hs
    injection h with h
    subst h
    exact Servers_tell _ TO (fun n => by simp [TO]) a0_0 a0_1 A0_2 c0_2 l0_2 a0_3 a0_4 w hr0_2 hc0_2 (tell_order w) hs
  · cases h
end Go.Proofs.Ytjiheepiobffkaa.Pr
