/-
  'cmp.Compare[string]': -1 where the first text is less, 0 where they are one, 1 else.
-/
import Derived.Test.YtjiheepiobffkaaGreatPr0
import Derived.WalkLawsBesides
namespace Go.Proofs.YtjiheepiobffkaaGreat.Pr
open Go.RowKit Go.Proofs.YtjiheepiobffkaaGreatW.PrintWords

/-- The order of two texts, as a number. -/
def cmpB (a b : ByteArray) : Int := if Op.bytesLess a.toList b.toList = true then -1 else if (a.toList == b.toList) = true then 0 else 1

def cmp_Compare_string.f (a0 a1 : ByteArray) : Option Int := some (cmpB a0 a1)

set_option maxHeartbeats 400000 in
theorem isNaN_no (a : ByteArray) (w : World) : Calls Tryz.prog 270 #[.string a] w fun e w' => e = .returned (.bool false) ∧ w = w' := by
  go_enter Tryz.func270, Tryz.ntmps270
  go_wp2
  go_ret
  exact ⟨by simp, rfl⟩

set_option maxHeartbeats 1000000 in
theorem cmp_Compare_string.calls (a0 : ByteArray) (a1 : ByteArray) (r : Int) (w : World) (h : cmp_Compare_string.f a0 a1 = some r) :
    Calls Tryz.prog 259 #[.string a0, .string a1] w fun e w' => e = .returned (.int .i64 r) ∧ Drawn0 w w' := by
  injection h with h
  subst h
  unfold cmpB
  by_cases h1 : Op.bytesLess a0.toList a1.toList = true
  · rw [if_pos h1]
    go_enter Tryz.func259, Tryz.ntmps259
    go_wp2_with (go_at_call 270; refine (isNaN_no _ _).mono ?_; rintro e w' ⟨rfl, rfl⟩)
    go_ret
    exact ⟨rfl, Drawn0.refl _⟩
  · rw [if_neg h1]
    replace h1 : Op.bytesLess a0.toList a1.toList = false := by simpa using h1
    by_cases h2 : (a0.toList == a1.toList) = true
    · rw [if_pos h2]
      go_enter Tryz.func259, Tryz.ntmps259
      go_wp2_with (go_at_call 270; refine (isNaN_no _ _).mono ?_; rintro e w' ⟨rfl, rfl⟩)
      go_ret
      exact ⟨rfl, Drawn0.refl _⟩
    · rw [if_neg h2]
      replace h2 : (a0.toList == a1.toList) = false := by simpa using h2
      go_enter Tryz.func259, Tryz.ntmps259
      go_wp2_with (go_at_call 270; refine (isNaN_no _ _).mono ?_; rintro e w' ⟨rfl, rfl⟩)
      go_ret
      exact ⟨rfl, Drawn0.refl _⟩

end Go.Proofs.YtjiheepiobffkaaGreat.Pr
