/-
  pick.Servers, pick.Next, pick.Missing: walked.
  slices.ContainsFunc at the servers and at the names, with whatever closure.
  pick.Next: walked.
  pick.Missing: walked.
-/
import Derived.Test.YtjiheepiobffkaaGreatInts
import Derived.Test.YtjiheepiobffkaaGreatPr10
namespace Go.Proofs.YtjiheepiobffkaaGreat.Fr
open Go.RowKit Go.Proofs.YtjiheepiobffkaaGreatW.PrintWords Go.Proofs.YtjiheepiobffkaaGreatW.PrintLast Go.Proofs.YtjiheepiobffkaaGreatW.PrintMore Go.Proofs.YtjiheepiobffkaaGreat.Pr
open Go.Sort hiding rd
open Go.Lib

theorem alloc_le (w : World) (o : Obj) : w.heap.size ≤ (w.alloc o).heap.size := (below_alloc (Below.refl w.heap.size w) o).size
def rowS (T : ByteArray → List Int) (n : ByteArray) : List S55 := (uniq (T n)).map fun a => ⟨n, a⟩
def serversR (T : ByteArray → List Int) (names : List ByteArray) : List S55 := names.flatMap (rowS T)

theorem uniq_length (xs : List Int) : (uniq xs).length ≤ xs.length := by
  have h1 := compact_le (sortI xs)
  have h2 : (sortI xs).length = xs.length := List.length_mergeSort _
  unfold uniq
  omega
theorem serversR_length (T : ByteArray → List Int) (names : List ByteArray) (hT : ∀ n ∈ names, (T n).length ≤ 1000) : (serversR T names).length ≤ names.length * 1000 := by
  induction names with
  | nil => simp [serversR]
  | cons n r ih =>
    have h1 := ih (fun m hm => hT m (List.mem_cons_of_mem _ hm))
    have h2 := hT n List.mem_cons_self
    have h3 := uniq_length (T n)
    simp only [serversR, List.flatMap_cons, List.length_append, List.length_cons] at *
    have : (rowS T n).length = (uniq (T n)).length := by simp [rowS]
    omega

set_option maxRecDepth 100000 in
set_option maxHeartbeats 4000000 in
theorem Servers_any (fv : Value) (T : ByteArray → List Int) (a0_0 : ByteArray) (a0_1 : Int) (A2 : Option Addr) (c2 : Nat) (l2 : List S43) (a0_3 : Int) (a0_4 : ByteArray) (w : World) (hr : Kd.C k43 w A2 l2.length l2) (hc : l2.length ≤ c2)
    (ht : TellAt fv T w) (names : List ByteArray) (hN : Ev (fun k => pick_Targets.f k a0_0 a0_1 l2 a0_3 a0_4) names) (hg : ∀ n ∈ names, good n) (hl : names.length ≤ 1000) (hT : ∀ n ∈ names, (T n).length ≤ 1000) :
    Calls Tryz.prog 36 #[.agg #[.string a0_0, .int .i64 a0_1, .slice A2 l2.length c2, .int .i64 a0_3, .string a0_4], fv] w fun e w' => ∃ v, e = .returned v ∧ Kd.R k55 55 w' w.heap.size (fun _ => True) v (serversR T names) ∧ Below w.heap.size w w' := by
  obtain ⟨K, hK⟩ := hN
  have hK := hK K (Nat.le_refl _)
  have HR := Aside0.mk hr
  have HC := Aside0.mk hc
  have HK := Aside0.mk hK
  have HT := Aside0.mk ht
  have HG := Aside0.mk hg
  have HTL := Aside0.mk hT
  clear hr hc hK ht hg hT
  have hu := Tryz.underlying63
  have hu2 := Tryz.underlying55
  go_enter Tryz.func36, Tryz.ntmps36
  go_wp2_with (first
    | (go_at_call 94; refine (pick_Targets.calls K a0_0 a0_1 A2 c2 l2 a0_3 a0_4 names _ (Kd.C_below HR.out (below_alloc (Below.refl _ _) _)) HC.out HK.out).mono ?_; rintro e w1 ⟨v1, rfl, hR1, hb1⟩; obtain ⟨A1, c1, rfl⟩ := Kd.R_slice hR1))
  have HB1 := Aside0.mk ((below_alloc (Below.refl w.heap.size w) (.cells #[.string a0_0, .int .i64 a0_1, .slice A2 l2.length c2, .int .i64 a0_3, .string a0_4] 63)).trans (hb1.mono (alloc_le _ _)))
  have HN1 := Aside0.mk (Kd.R_lower (base' := w.heap.size) hR1 (alloc_le _ _))
  clear hb1 hR1 HR HC HK
  go_loopg [4, 12] names.length (fun kq v4 v12 W => ∃ (i : Nat) (out : List S55), v12 = .int .i64 i ∧ i ≤ names.length ∧ names.length - i ≤ kq ∧ Aside0 (out = serversR T (names.take i)) ∧ Aside0 (Kd.R k55 55 W w.heap.size (fun _ => True) v4 out) ∧ Aside0 (Kd.R Kd.string 9 W w.heap.size (fun _ => True) (.slice A1 names.length c1) names) ∧ Aside0 (Below w.heap.size w W))
  case atStart => exact ⟨0, [], rfl, Nat.zero_le _, by omega, ⟨rfl⟩, ⟨Kd.R_nil _ _ _ _ _⟩, HN1, HB1⟩
  case round =>
    clear HB1 HN1
    obtain ⟨i, out, rfl, hi, hm, HO, HRO, HN, HB⟩ := hrel
    by_cases hlt : i < names.length
    · obtain ⟨ad1, e, hcell⟩ := Kd.at_string (Kd.R_reads' HN.out).2.2 (i : Int) (by omega) (by omega)
      subst e
      rw [rdOf_nat _ _ _ hlt, Int.toNat_natCast] at hcell
      have HGI := Aside0.mk (HG.out names[i] (List.getElem_mem hlt))
      have HTI := Aside0.mk (HTL.out names[i] (List.getElem_mem hlt))
      have HNI := Aside0.mk (show names.take (i + 1) = names.take i ++ [names[i]] from List.take_succ_eq_append_getElem hlt)
      generalize names[i] = n at hcell HGI HTI HNI
      go_wp2_with (first
        | (go_at_call 95; refine (told_any fv T n _ (HT.out.below HB.out) HGI.out (by have := HTI.out; omega)).mono ?_; rintro e w2 ⟨v2, rfl, hR2, hb2⟩; obtain ⟨A3, c3, rfl⟩ := Kd.R_slice hR2))
      have HR2 := Aside0.mk (Kd.R_lower (base' := w.heap.size) hR2 HB.out.size)
      have HN2 := Aside0.mk (Kd.R_below HN.out hb2)
      have HO2 := Aside0.mk (Kd.R_below HRO.out hb2)
      have HB2 := Aside0.mk (HB.out.trans (hb2.mono HB.out.size))
      clear hR2 hb2 HN HRO HB hcell
      have hub : (uniq (T n)).length ≤ 1000 := by have h1 := uniq_length (T n); have h2 := HTI.out; omega
      go_loopg [4, 20] (uniq (T n)).length (fun kq v4 v20 W => ∃ (j : Nat) (out2 : List S55), v20 = .int .i64 j ∧ j ≤ (uniq (T n)).length ∧ (uniq (T n)).length - j ≤ kq ∧ Aside0 (out2 = serversR T (names.take i) ++ (rowS T n).take j) ∧ Aside0 (Kd.R k55 55 W w.heap.size (fun _ => True) v4 out2) ∧ Aside0 (Kd.R Kd.string 9 W w.heap.size (fun _ => True) (.slice (some ad1) names.length c1) names) ∧ Aside0 (Kd.R (Kd.int .i64) 3 W w.heap.size (fun _ => True) (.slice A3 (uniq (T n)).length c3) (uniq (T n))) ∧ Aside0 (Below w.heap.size w W))
      case atStart => exact ⟨0, out, rfl, Nat.zero_le _, by omega, ⟨by rw [HO.out]; simp⟩, HO2, HN2, HR2, HB2⟩
      case round =>
        clear HB2 HN2 HO2 HR2 HO
        obtain ⟨j, out2, rfl, hj, hm2, HO, HRO, HN, HR2, HB⟩ := hrel
        by_cases hlt2 : j < (uniq (T n)).length
        · obtain ⟨ad3, e, hcell⟩ := Kd.at_int (Kd.R_reads' HR2.out).2.2 (j : Int) (by omega) (by omega)
          subst e
          have he : rd (uniq (T n)) (j : Int) = (uniq (T n))[j] := by simp [rd, List.getElem?_eq_getElem hlt2]
          rw [he, Int.toNat_natCast] at hcell
          have HJ := Aside0.mk (show (rowS T n).take (j + 1) = (rowS T n).take j ++ [⟨n, (uniq (T n))[j]⟩] from by
            have hl' : j < (rowS T n).length := by simpa [rowS] using hlt2
            rw [List.take_succ_eq_append_getElem hl']
            simp [rowS])
          have HLL := Aside0.mk (show out2.length ≤ 2000000 from by
            rw [HO.out, List.length_append]
            have h1 := serversR_length T (names.take i) (fun m hm => HTL.out m (List.mem_of_mem_take hm))
            have h2 : ((rowS T n).take j).length ≤ j := by rw [List.length_take]; omega
            have h3 := uniq_length (T n)
            have h4 := HTI.out
            have h5 : (names.take i).length ≤ 1000 := by rw [List.length_take]; omega
            omega)
          generalize (uniq (T n))[j] = x at hcell HJ
          clear he
          go_wp2_with (first
            | (at_builtin; refine Kd.R_append k55 (w0 := w) w.heap.size rfl (.tmp 24) (.tmp 28) 48 55 (.agg #[.string ⟨#[]⟩, .int .i64 0]) 24 rfl Tryz.underlying48 info55 rfl (by decide) (by omega) _ out2 ⟨n, x⟩ [.string n, .int .i64 x] (fun _ => True) (fun _ => False) rfl rfl ?aP (fun _ hk => hk.elim) ?aF ?aO ?aB ?aS ?aL ?_; (case aP => exact k55_mkM _ _ _ _); (case aB => exact HB.out); (case aF => exact (fun _ _ => trivial)); (case aO => exact HRO.out); (case aS => exact HB.out.size); (case aL => have := HLL.out; omega); intro v5 w5 ho hb hg hat))
          go_roundg ((uniq (T n)).length - (j + 1))
          case measure => omega
          case rel =>
            refine ⟨j + 1, out2 ++ [⟨n, x⟩], by go_num, by omega, Nat.le_refl _, ⟨?_⟩, ⟨ho⟩, ⟨Kd.R_over HN.out HRO.out (by intro q hq; simp [Kd.string, Kd.scalar] at hq; omega) hg⟩, ⟨Kd.R_over HR2.out HRO.out (by intro q hq; simp [Kd.int, Kd.scalar] at hq; omega) hg⟩, ⟨hb⟩⟩
            rw [HJ.out, ← List.append_assoc, ← HO.out]
        · obtain rfl : j = (uniq (T n)).length := by omega
          go_wp2
          go_roundg (names.length - (i + 1))
          case measure => omega
          case rel =>
            refine ⟨i + 1, out2, by go_num, by omega, Nat.le_refl _, ⟨?_⟩, HRO, HN, HB⟩
            have hrl : (rowS T n).length = (uniq (T n)).length := by simp [rowS]
            rw [HO.out, HNI.out, ← hrl, List.take_length]
            simp only [serversR, List.flatMap_append, List.flatMap_cons, List.flatMap_nil, List.append_nil]
    · obtain rfl : i = names.length := by omega
      go_wp2
      go_ret
      have ho := HO.out
      rw [List.take_length] at ho
      exact ⟨_, rfl, by rw [← ho]; exact HRO.out, HB.out⟩
end Go.Proofs.YtjiheepiobffkaaGreat.Fr

namespace Go.Proofs.YtjiheepiobffkaaGreat.Fr
open Go.RowKit Go.Proofs.YtjiheepiobffkaaGreatW.PrintWords Go.Proofs.YtjiheepiobffkaaGreatW.PrintLast Go.Proofs.YtjiheepiobffkaaGreatW.PrintMore Go.Proofs.YtjiheepiobffkaaGreat.Pr
open Go.Sort hiding rd
open Go.Lib

def PredB {α : Type} (g : Nat) (lb : Array Value) (enc : α → Value) (p : α → Bool) (xs : List α) (w : World) : Prop :=
  ∀ (W : World) (x : α), x ∈ xs → Below w.heap.size w W → Calls Tryz.prog g (#[enc x] ++ lb) W fun e w' => e = .returned (.bool (p x)) ∧ Below W.heap.size W w'

theorem any_false {α : Type} {p : α → Bool} {xs : List α} (h : ∀ j (hj : j < xs.length), p xs[j] = false) : xs.any p = false := by
  rw [Bool.eq_false_iff]
  intro ha
  obtain ⟨x, hx, hp⟩ := List.any_eq_true.1 ha
  obtain ⟨j, hj, rfl⟩ := List.mem_iff_getElem.1 hx
  rw [h j hj] at hp
  cases hp
theorem any_true {α : Type} {p : α → Bool} {xs : List α} {j : Nat} (hj : j < xs.length) (h : p xs[j] = true) : xs.any p = true := List.any_eq_true.2 ⟨_, List.getElem_mem hj, h⟩

set_option maxRecDepth 100000 in
set_option maxHeartbeats 1000000 in
theorem indexS_any (g : Nat) (lb : Array Value) (p : ByteArray → Bool) (eg : ∀ args w, (callFunc g args).run Tryz.prog w = .ok (.enter g args) w) (A : Option Addr) (c : Nat) (xs : List ByteArray) (w : World) (hC : Kd.C Kd.string w A xs.length xs) (hp : PredB g lb Value.string p xs w) :
    Calls Tryz.prog 162 #[.slice A xs.length c, .func (.func g) #[] lb] w fun e w' => ∃ r : Int, e = .returned (.int .i64 r) ∧ decide (0 ≤ r) = xs.any p ∧ Below w.heap.size w w' := by
  have HC := Aside0.mk hC
  have HP := Aside0.mk hp
  have hmx : xs.length ≤ 9223372036854775807 := hC.2.1
  clear hC hp
  have hnil := any_false (p := p) (xs := xs)
  have HNIL := Aside0.mk hnil
  clear hnil
  go_enter Tryz.func162, Tryz.ntmps162
  go_wp2
  go_loopg [8] xs.length (fun kq v8 W => ∃ i : Nat, v8 = .int .i64 i ∧ i ≤ xs.length ∧ xs.length - i ≤ kq ∧ Aside0 (∀ j (hj : j < xs.length), j < i → p xs[j] = false) ∧ Aside0 (Below w.heap.size w W))
  case atStart => exact ⟨0, rfl, Nat.zero_le _, by omega, ⟨fun j hj h0 => absurd h0 (Nat.not_lt_zero _)⟩, ⟨Below.refl _ _⟩⟩
  case round =>
    obtain ⟨i, rfl, hi, hm, HN, HB⟩ := hrel
    by_cases hlt : i < xs.length
    · obtain ⟨ad1, e, hcell⟩ := Kd.at_string HC.out (i : Int) (by omega) (by omega)
      subst e
      rw [rdOf_nat _ _ _ hlt, Int.toNat_natCast] at hcell
      replace hcell := (HB.out.cell (World.block_lt_of_cell? w _ hcell)).trans hcell
      have hq := fun W hb => HP.out W xs[i] (List.getElem_mem hlt) hb
      have HX := Aside0.mk (show ∀ b, p xs[i] = b → p xs[i] = b from fun _ h => h)
      obtain ⟨b, hb⟩ : ∃ b, b = p xs[i] := ⟨_, rfl⟩
      have HPI := Aside0.mk hb
      rw [← hb] at hq
      clear HX hb
      obtain ⟨x, hx⟩ : ∃ x, x = xs[i] := ⟨_, rfl⟩
      rw [← hx] at hcell hq
      clear hx
      cases b with
      | true =>
        go_wp2_with (first | (go_at_fn g; refine (hq _ HB.out).mono ?_; rintro e w1 ⟨rfl, hb1⟩))
        go_ret
        exact ⟨i, rfl, by rw [any_true hlt HPI.out.symm]; simp, HB.out.trans (hb1.mono HB.out.size)⟩
      | false =>
        go_wp2_with (first | (go_at_fn g; refine (hq _ HB.out).mono ?_; rintro e w1 ⟨rfl, hb1⟩))
        go_roundg (xs.length - (i + 1))
        case measure => omega
        case rel =>
          refine ⟨i + 1, by go_num, by omega, Nat.le_refl _, ⟨fun j hj h => ?_⟩, ⟨HB.out.trans (hb1.mono HB.out.size)⟩⟩
          rcases Nat.lt_or_ge j i with h1 | h1
          · exact HN.out j hj h1
          · obtain rfl : j = i := by omega
            exact HPI.out.symm
    · obtain rfl : i = xs.length := by omega
      go_wp2
      go_ret
      exact ⟨-1, rfl, by rw [HNIL.out (fun j hj => HN.out j hj hj)]; rfl, HB.out⟩

theorem containsS_any (g : Nat) (lb : Array Value) (p : ByteArray → Bool) (eg : ∀ args w, (callFunc g args).run Tryz.prog w = .ok (.enter g args) w) (A : Option Addr) (c : Nat) (xs : List ByteArray) (w : World) (hC : Kd.C Kd.string w A xs.length xs) (hp : PredB g lb Value.string p xs w) :
    Calls Tryz.prog 98 #[.slice A xs.length c, .func (.func g) #[] lb] w fun e w' => e = .returned (.bool (xs.any p)) ∧ Below w.heap.size w w' := by
  have hcon := indexS_any g lb p eg A c xs w hC hp
  clear hC hp
  go_enter Tryz.func98, Tryz.ntmps98
  go_wp2_with (first | (go_at_call 162; refine hcon.mono ?_; rintro e w1 ⟨r, rfl, hr, hb1⟩; have HR := Aside0.mk hr; clear hr))
  go_ret
  exact ⟨by rw [← HR.out]; rfl, hb1⟩

set_option maxRecDepth 100000 in
set_option maxHeartbeats 1000000 in
theorem indexQ_any (g : Nat) (lb : Array Value) (p : S55 → Bool) (eg : ∀ args w, (callFunc g args).run Tryz.prog w = .ok (.enter g args) w) (A : Option Addr) (c : Nat) (xs : List S55) (w : World) (hC : Kd.C k55 w A xs.length xs) (hp : PredB g lb (fun x => .agg #[.string x.f0, .int .i64 x.f1]) p xs w) :
    Calls Tryz.prog 150 #[.slice A xs.length c, .func (.func g) #[] lb] w fun e w' => ∃ r : Int, e = .returned (.int .i64 r) ∧ decide (0 ≤ r) = xs.any p ∧ Below w.heap.size w w' := by
  have HC := Aside0.mk hC
  have HP := Aside0.mk hp
  have hmx : xs.length ≤ 9223372036854775807 := hC.2.1
  clear hC hp
  have hu := Tryz.underlying55
  have hnil := any_false (p := p) (xs := xs)
  have HNIL := Aside0.mk hnil
  clear hnil
  go_enter Tryz.func150, Tryz.ntmps150
  go_wp2
  go_loopg [8] xs.length (fun kq v8 W => ∃ i : Nat, v8 = .int .i64 i ∧ i ≤ xs.length ∧ xs.length - i ≤ kq ∧ Aside0 (∀ j (hj : j < xs.length), j < i → p xs[j] = false) ∧ Aside0 (Below w.heap.size w W))
  case atStart => exact ⟨0, rfl, Nat.zero_le _, by omega, ⟨fun j hj h0 => absurd h0 (Nat.not_lt_zero _)⟩, ⟨Below.refl _ _⟩⟩
  case round =>
    obtain ⟨i, rfl, hi, hm, HN, HB⟩ := hrel
    by_cases hlt : i < xs.length
    · obtain ⟨ad1, e, hcell0, hcell1⟩ := at_T55 HC.out (i : Int) (by omega) (by omega)
      subst e
      have he : rd_T55 xs (i : Int) = xs[i] := by simp [rd_T55, List.getElem?_eq_getElem hlt]
      rw [he, Int.toNat_natCast] at hcell0 hcell1
      clear he
      replace hcell0 := (HB.out.cell (World.block_lt_of_cell? w _ hcell0)).trans hcell0
      replace hcell1 := (HB.out.cell (World.block_lt_of_cell? w _ hcell1)).trans hcell1
      have hq := fun W hb => HP.out W xs[i] (List.getElem_mem hlt) hb
      obtain ⟨b, hb⟩ : ∃ b, b = p xs[i] := ⟨_, rfl⟩
      have HPI := Aside0.mk hb
      rw [← hb] at hq
      clear hb
      obtain ⟨x, hx⟩ : ∃ x, x = xs[i] := ⟨_, rfl⟩
      rw [← hx] at hcell0 hcell1 hq
      clear hx
      cases b with
      | true =>
        go_wp2_with (first | (go_at_fn g; refine (hq _ HB.out).mono ?_; rintro e w1 ⟨rfl, hb1⟩))
        go_ret
        exact ⟨i, rfl, by rw [any_true hlt HPI.out.symm]; simp, HB.out.trans (hb1.mono HB.out.size)⟩
      | false =>
        go_wp2_with (first | (go_at_fn g; refine (hq _ HB.out).mono ?_; rintro e w1 ⟨rfl, hb1⟩))
        go_roundg (xs.length - (i + 1))
        case measure => omega
        case rel =>
          refine ⟨i + 1, by go_num, by omega, Nat.le_refl _, ⟨fun j hj h => ?_⟩, ⟨HB.out.trans (hb1.mono HB.out.size)⟩⟩
          rcases Nat.lt_or_ge j i with h1 | h1
          · exact HN.out j hj h1
          · obtain rfl : j = i := by omega
            exact HPI.out.symm
    · obtain rfl : i = xs.length := by omega
      go_wp2
      go_ret
      exact ⟨-1, rfl, by rw [HNIL.out (fun j hj => HN.out j hj hj)]; rfl, HB.out⟩

theorem containsQ_any (g : Nat) (lb : Array Value) (p : S55 → Bool) (eg : ∀ args w, (callFunc g args).run Tryz.prog w = .ok (.enter g args) w) (A : Option Addr) (c : Nat) (xs : List S55) (w : World) (hC : Kd.C k55 w A xs.length xs) (hp : PredB g lb (fun x => .agg #[.string x.f0, .int .i64 x.f1]) p xs w) :
    Calls Tryz.prog 87 #[.slice A xs.length c, .func (.func g) #[] lb] w fun e w' => e = .returned (.bool (xs.any p)) ∧ Below w.heap.size w w' := by
  have hcon := indexQ_any g lb p eg A c xs w hC hp
  clear hC hp
  go_enter Tryz.func87, Tryz.ntmps87
  go_wp2_with (first | (go_at_call 150; refine hcon.mono ?_; rintro e w1 ⟨r, rfl, hr, hb1⟩; have HR := Aside0.mk hr; clear hr))
  go_ret
  exact ⟨by rw [← HR.out]; rfl, hb1⟩

end Go.Proofs.YtjiheepiobffkaaGreat.Fr

namespace Go.Proofs.YtjiheepiobffkaaGreat.Fr
open Go.RowKit Go.Proofs.YtjiheepiobffkaaGreatW.PrintWords Go.Proofs.YtjiheepiobffkaaGreatW.PrintLast Go.Proofs.YtjiheepiobffkaaGreatW.PrintMore Go.Proofs.YtjiheepiobffkaaGreat.Pr
open Go.Sort hiding rd
open Go.Lib

theorem next1_any (x : S55) (a : Int) (b : Nat) (w : World) (hb : b < w.heap.size) (hcell : w.cell? ⟨b, 1, none⟩ = some (.int .i64 a)) :
    Calls Tryz.prog 96 #[.agg #[.string x.f0, .int .i64 x.f1], .pointer (some ⟨b, 0, none⟩)] w fun e w' => e = .returned (.bool (x.f1 == a)) ∧ Below w.heap.size w w' := by
  have hne : b ≠ w.heap.size := by omega
  have hu := Tryz.underlying55
  go_enter Tryz.func96, Tryz.ntmps96
  go_wp2
  all_goals (go_ret; exact ⟨rfl, (Below.refl _ _).alloc (Nat.le_refl _) _⟩)

theorem alloc_lt (w : World) (o : Obj) : w.heap.size < (w.alloc o).heap.size := by
  unfold World.alloc
  simp
theorem alloc_block (w : World) (o : Obj) : (w.alloc o).heap[w.heap.size]? = some o := by
  unfold World.alloc
  simp

def nextR (l tried : List S55) : S55 × Bool := match l.find? (fun s => !tried.any (fun x => x.f1 == s.f1)) with
  | some s => (s, true)
  | none => (z55, false)
theorem nextR_here {l tried : List S55} {i : Nat} (hi : i < l.length) (hn : ∀ j (hj : j < l.length), j < i → tried.any (fun x => x.f1 == l[j].f1) = true) (h : tried.any (fun x => x.f1 == l[i].f1) = false) : nextR l tried = (l[i], true) := by
  have : l.find? (fun s => !tried.any (fun x => x.f1 == s.f1)) = some l[i] := by
    rw [List.find?_eq_some_iff_getElem]
    refine ⟨by rw [h]; rfl, i, hi, rfl, fun j hj => ?_⟩
    rw [hn j (by omega) hj]; rfl
  rw [nextR, this]
theorem nextR_none {l tried : List S55} (hn : ∀ j (hj : j < l.length), tried.any (fun x => x.f1 == l[j].f1) = true) : nextR l tried = (z55, false) := by
  have : l.find? (fun s => !tried.any (fun x => x.f1 == s.f1)) = none := by
    rw [List.find?_eq_none]
    intro x hx
    obtain ⟨j, hj, rfl⟩ := List.mem_iff_getElem.1 hx
    rw [hn j hj]; simp
  rw [nextR, this]

set_option maxRecDepth 100000 in
set_option maxHeartbeats 2000000 in
theorem Next_any (A0 : Option Addr) (c0 : Nat) (l : List S55) (A1 : Option Addr) (c1 : Nat) (tried : List S55) (w : World) (hC0 : Kd.C k55 w A0 l.length l) (hC1 : Kd.C k55 w A1 tried.length tried) :
    Calls Tryz.prog 37 #[.slice A0 l.length c0, .slice A1 tried.length c1] w fun e w' => e = .returned (.tuple #[.agg #[.string (nextR l tried).1.f0, .int .i64 (nextR l tried).1.f1], .bool (nextR l tried).2]) ∧ Below w.heap.size w w' := by
  have HC0 := Aside0.mk hC0
  have HC1 := Aside0.mk hC1
  have hmx : l.length ≤ 9223372036854775807 := hC0.2.1
  clear hC0 hC1
  have hu := Tryz.underlying55
  go_enter Tryz.func37, Tryz.ntmps37
  go_wp2
  go_loopg [10] l.length (fun kq v10 W => ∃ i : Nat, v10 = .int .i64 i ∧ i ≤ l.length ∧ l.length - i ≤ kq ∧ Aside0 (∀ j (hj : j < l.length), j < i → tried.any (fun x => x.f1 == l[j].f1) = true) ∧ Aside0 (W.heap[w.heap.size]? = some (.cells #[.string ⟨#[]⟩, .int .i64 0] 55 (0, 0))) ∧ Aside0 (Below w.heap.size w W))
  case atStart => exact ⟨0, rfl, Nat.zero_le _, by omega, ⟨fun j hj h0 => absurd h0 (Nat.not_lt_zero _)⟩, ⟨alloc_block _ _⟩, ⟨below_alloc (Below.refl _ _) _⟩⟩
  case round =>
    obtain ⟨i, rfl, hi, hm, HN, HZ, HB⟩ := hrel
    have hlw : w.heap.size < wr.heap.size := by
      rcases Nat.lt_or_ge w.heap.size wr.heap.size with h | h
      · exact h
      · have := HZ.out; rw [Array.getElem?_eq_none h] at this; cases this
    by_cases hlt : i < l.length
    · obtain ⟨ad1, e, hcell0, hcell1⟩ := at_T55 HC0.out (i : Int) (by omega) (by omega)
      subst e
      have he : rd_T55 l (i : Int) = l[i] := by simp [rd_T55, List.getElem?_eq_getElem hlt]
      rw [he, Int.toNat_natCast] at hcell0 hcell1
      clear he
      replace hcell0 := (HB.out.cell (World.block_lt_of_cell? w _ hcell0)).trans hcell0
      replace hcell1 := (HB.out.cell (World.block_lt_of_cell? w _ hcell1)).trans hcell1
      have HH := Aside0.mk (fun h => nextR_here (tried := tried) hlt HN.out h)
      have HSTEP := Aside0.mk (fun (h : tried.any (fun x => x.f1 == l[i].f1) = true) (j : Nat) (hj : j < l.length) (hji : j < i + 1) => show tried.any (fun x => x.f1 == l[j].f1) = true from by
        rcases Nat.lt_or_ge j i with h1 | h1
        · exact HN.out j hj h1
        · obtain rfl : j = i := by omega
          exact h)
      generalize l[i] = s at hcell0 hcell1 HH HSTEP
      have HPR := Aside0.mk (fun (W2 : World) (h2 : W2.heap[wr.heap.size]? = some (.cells #[.string s.f0, .int .i64 s.f1] 55 (0, 0))) => show PredB 96 #[.pointer (some ⟨wr.heap.size, 0, none⟩)] (fun x : S55 => .agg #[.string x.f0, .int .i64 x.f1]) (fun x => x.f1 == s.f1) tried W2 from by
        intro W x _ hb
        have hl2 : wr.heap.size < W2.heap.size := by
          rcases Nat.lt_or_ge wr.heap.size W2.heap.size with h | h
          · exact h
          · rw [Array.getElem?_eq_none h] at h2; cases h2
        exact next1_any x s.f1 wr.heap.size W (Nat.lt_of_lt_of_le hl2 hb.size) ((hb.cell (p := ⟨wr.heap.size, 1, none⟩) hl2).trans (cell_of_heap (i := 1) h2 rfl)))
      have HBK := Aside0.mk (alloc_block wr (.cells #[.string s.f0, .int .i64 s.f1] 55 (0, 0)))
      have HB2 := Aside0.mk (below_alloc (Below.refl wr.heap.size wr) (.cells #[.string s.f0, .int .i64 s.f1] 55 (0, 0)))
      have eg : ∀ args W, (callFunc 96 args).run Tryz.prog W = .ok (.enter 96 args) W := enters_of Tryz.func96 (by kernel_rfl) rfl
      have EG := Aside0.mk eg
      clear eg
      have hcon := containsQ_any 96 #[.pointer (some ⟨wr.heap.size, 0, none⟩)] (fun x => x.f1 == s.f1) EG.out A1 c1 tried _ (Kd.C_below HC1.out (HB.out.trans (HB2.out.mono HB.out.size))) (HPR.out _ HBK.out)
      cases hb : tried.any (fun x => x.f1 == s.f1) with
      | true =>
        rw [hb] at hcon
        have HS := HSTEP.out hb
        have HSS := Aside0.mk HS
        clear HS hb HSTEP HH
        go_wp2_with (first | (go_at_call 87; refine hcon.mono ?_; rintro e w1 ⟨rfl, hb1⟩))
        have HBE := Aside0.mk (HB2.out.trans (hb1.mono HB2.out.size))
        go_roundg (l.length - (i + 1))
        case measure => omega
        case rel => exact ⟨i + 1, by go_num, by omega, Nat.le_refl _, HSS, ⟨(HBE.out.block _ hlw).trans HZ.out⟩, ⟨HB.out.trans (HBE.out.mono HB.out.size)⟩⟩
      | false =>
        rw [hb] at hcon
        have HS := HH.out hb
        have HSS := Aside0.mk HS
        clear HS hb HSTEP HH
        go_wp2_with (first | (go_at_call 87; refine hcon.mono ?_; rintro e w1 ⟨rfl, hb1⟩; have HBE := Aside0.mk (HB2.out.trans (hb1.mono HB2.out.size)); have hs0 : w1.cell? ⟨wr.heap.size, 0, none⟩ = some (.string s.f0) := (blk_cell ((hb1.block _ (alloc_lt _ _)).trans HBK.out) 0).trans rfl; have hs1 : w1.cell? ⟨wr.heap.size, 1, none⟩ = some (.int .i64 s.f1) := (blk_cell ((hb1.block _ (alloc_lt _ _)).trans HBK.out) 1).trans rfl; have hz := (HBE.out.block _ hlw).trans HZ.out; have hz0 : w1.cell? ⟨w.heap.size, 0, none⟩ = some (.string ⟨#[]⟩) := cell_of_heap (i := 0) hz rfl; have hz1 : w1.cell? ⟨w.heap.size, 1, none⟩ = some (.int .i64 0) := cell_of_heap (i := 1) hz rfl; have hf0 := frozen_of_heap (i := 0) hz; have hf1 := frozen_of_heap (i := 1) hz; have HZ2 := Aside0.mk hz; clear hz))
        have HZ3 := Aside0.mk (blk_put (cs := #[.string s.f0, .int .i64 0]) (blk_put (cs := #[.string ⟨#[]⟩, .int .i64 0]) HZ2.out 0 (.string s.f0) rfl) 1 (.int .i64 s.f1) rfl)
        have g0 := (blk_cell HZ3.out 0).trans rfl
        have g1 := (blk_cell HZ3.out 1).trans rfl
        have HBW := HB.out.trans (HBE.out.mono HB.out.size)
        have HB3 := (HBW.setCell (p := ⟨w.heap.size, 0, none⟩) (Nat.le_refl _) (.string s.f0)).setCell (p := ⟨w.heap.size, 1, none⟩) (Nat.le_refl _) (.int .i64 s.f1)
        (try simp only [Exit.inBlock, Exit.then])
        refine bodyPost_ret (v := .tuple #[.agg #[.string s.f0, .int .i64 s.f1], .bool true]) (by simp [results, Tryz.f37, go_sem, g0, g1]) rfl ?_
        exact ⟨by rw [HSS.out], HB3⟩
    · obtain rfl : i = l.length := by omega
      have HE := Aside0.mk (nextR_none (fun j hj => HN.out j hj hj))
      have HZ2 := Aside0.mk (blk_put (cs := #[.string ⟨#[]⟩, .int .i64 0]) (blk_put (cs := #[.string ⟨#[]⟩, .int .i64 0]) HZ.out 0 (.string ⟨#[]⟩) rfl) 1 (.int .i64 0) rfl)
      have hz0 : wr.cell? ⟨w.heap.size, 0, none⟩ = some (.string ⟨#[]⟩) := cell_of_heap (i := 0) HZ.out rfl
      have hz1 : wr.cell? ⟨w.heap.size, 1, none⟩ = some (.int .i64 0) := cell_of_heap (i := 1) HZ.out rfl
      have hf0 := frozen_of_heap (i := 0) HZ.out
      have hf1 := frozen_of_heap (i := 1) HZ.out
      go_wp2
      have g0 := (blk_cell HZ2.out 0).trans rfl
      have g1 := (blk_cell HZ2.out 1).trans rfl
      have HB3 := (HB.out.setCell (p := ⟨w.heap.size, 0, none⟩) (Nat.le_refl _) (.string ⟨#[]⟩)).setCell (p := ⟨w.heap.size, 1, none⟩) (Nat.le_refl _) (.int .i64 0)
      (try simp only [Exit.inBlock, Exit.then])
      refine bodyPost_ret (v := .tuple #[.agg #[.string ⟨#[]⟩, .int .i64 0], .bool false]) (by simp [results, Tryz.f37, go_sem, g0, g1]) rfl ?_
      exact ⟨by rw [HE.out]; rfl, HB3⟩
end Go.Proofs.YtjiheepiobffkaaGreat.Fr

namespace Go.Proofs.YtjiheepiobffkaaGreat.Fr
open Go.RowKit Go.Proofs.YtjiheepiobffkaaGreatW.PrintWords Go.Proofs.YtjiheepiobffkaaGreatW.PrintLast Go.Proofs.YtjiheepiobffkaaGreatW.PrintMore Go.Proofs.YtjiheepiobffkaaGreat.Pr
open Go.Sort hiding rd
open Go.Lib

theorem miss1_any (x a : ByteArray) (hx : x.size ≤ 140737488355328) (ha : a.size ≤ 140737488355328) (b : Nat) (w : World) (hcell : w.cell? ⟨b, 0, none⟩ = some (.string a)) :
    Calls Tryz.prog 99 #[.string x, .pointer (some ⟨b, 0, none⟩)] w fun e w' => e = .returned (.bool (sameN (bl x) (bl a))) ∧ Below w.heap.size w w' := by
  obtain ⟨K, hK⟩ := Same_ev x a hx ha
  have hcon := name_Same.calls K x a _ w (hK K (Nat.le_refl _))
  clear hK hx ha
  generalize sameN (bl x) (bl a) = r at hcon ⊢
  go_enter Tryz.func99, Tryz.ntmps99
  go_wp2_with (first | (go_at_call 100; refine hcon.mono ?_; rintro e w1 ⟨rfl, hb1⟩))
  go_ret
  exact ⟨rfl, hb1⟩

def missP (T : ByteArray → List Int) (tried : List ByteArray) (n : ByteArray) : Bool := (uniq (T n)).length == 0 && !tried.any (fun x => sameN (bl x) (bl n))
def missingR (T : ByteArray → List Int) (names tried : List ByteArray) : ByteArray × Bool := match names.find? (missP T tried) with
  | some n => (n, true)
  | none => (⟨#[]⟩, false)
theorem missingR_here {T : ByteArray → List Int} {names tried : List ByteArray} {i : Nat} (hi : i < names.length) (hn : ∀ j (hj : j < names.length), j < i → missP T tried names[j] = false) (h : missP T tried names[i] = true) : missingR T names tried = (names[i], true) := by
  have : names.find? (missP T tried) = some names[i] := by
    rw [List.find?_eq_some_iff_getElem]
    refine ⟨h, i, hi, rfl, fun j hj => ?_⟩
    rw [hn j (by omega) hj]; rfl
  rw [missingR, this]
theorem missingR_none {T : ByteArray → List Int} {names tried : List ByteArray} (hn : ∀ j (hj : j < names.length), missP T tried names[j] = false) : missingR T names tried = (⟨#[]⟩, false) := by
  have : names.find? (missP T tried) = none := by
    rw [List.find?_eq_none]
    intro x hx
    obtain ⟨j, hj, rfl⟩ := List.mem_iff_getElem.1 hx
    rw [hn j hj]; simp
  rw [missingR, this]

set_option maxRecDepth 100000 in
set_option maxHeartbeats 4000000 in
theorem Missing_any (fv : Value) (T : ByteArray → List Int) (a0_0 : ByteArray) (a0_1 : Int) (A2 : Option Addr) (c2 : Nat) (l2 : List S43) (a0_3 : Int) (a0_4 : ByteArray) (A5 : Option Addr) (c5 : Nat) (tried : List ByteArray) (w : World) (hr : Kd.C k43 w A2 l2.length l2) (hc : l2.length ≤ c2)
    (htr : Kd.C Kd.string w A5 tried.length tried) (hts : ∀ x ∈ tried, x.size ≤ 140737488355328)
    (ht : TellAt fv T w) (names : List ByteArray) (hN : Ev (fun k => pick_Targets.f k a0_0 a0_1 l2 a0_3 a0_4) names) (hg : ∀ n ∈ names, good n) (hl : names.length ≤ 1000) (hT : ∀ n ∈ names, (T n).length ≤ 1000) :
    Calls Tryz.prog 40 #[.agg #[.string a0_0, .int .i64 a0_1, .slice A2 l2.length c2, .int .i64 a0_3, .string a0_4], fv, .slice A5 tried.length c5] w fun e w' => e = .returned (.tuple #[.string (missingR T names tried).1, .bool (missingR T names tried).2]) ∧ Below w.heap.size w w' := by
  obtain ⟨K, hK⟩ := hN
  have hK := hK K (Nat.le_refl _)
  have HR := Aside0.mk hr
  have HC := Aside0.mk hc
  have HK := Aside0.mk hK
  have HT := Aside0.mk ht
  have HG := Aside0.mk hg
  have HTL := Aside0.mk hT
  have HTR := Aside0.mk htr
  have HTS := Aside0.mk hts
  clear hr hc hK ht hg hT htr hts
  have hu := Tryz.underlying63
  have eg : ∀ args W, (callFunc 99 args).run Tryz.prog W = .ok (.enter 99 args) W := enters_of Tryz.func99 (by kernel_rfl) rfl
  have EG := Aside0.mk eg
  clear eg
  go_enter Tryz.func40, Tryz.ntmps40
  go_wp2_with (first
    | (go_at_call 94; refine (pick_Targets.calls K a0_0 a0_1 A2 c2 l2 a0_3 a0_4 names _ (Kd.C_below HR.out (below_alloc (Below.refl _ _) _)) HC.out HK.out).mono ?_; rintro e w1 ⟨v1, rfl, hR1, hb1⟩; obtain ⟨A1, c1, rfl⟩ := Kd.R_slice hR1))
  have HB1 := Aside0.mk ((below_alloc (Below.refl w.heap.size w) (.cells #[.string a0_0, .int .i64 a0_1, .slice A2 l2.length c2, .int .i64 a0_3, .string a0_4] 63)).trans (hb1.mono (alloc_le _ _)))
  have HN1 := Aside0.mk (Kd.R_lower (base' := w.heap.size) hR1 (alloc_le _ _))
  clear hb1 hR1 HR HC HK
  go_loopg [13] names.length (fun kq v13 W => ∃ (i : Nat), v13 = .int .i64 i ∧ i ≤ names.length ∧ names.length - i ≤ kq ∧ Aside0 (∀ j (hj : j < names.length), j < i → missP T tried names[j] = false) ∧ Aside0 (Kd.R Kd.string 9 W w.heap.size (fun _ => True) (.slice A1 names.length c1) names) ∧ Aside0 (Below w.heap.size w W))
  case atStart => exact ⟨0, rfl, Nat.zero_le _, by omega, ⟨fun j hj h0 => absurd h0 (Nat.not_lt_zero _)⟩, HN1, HB1⟩
  case round =>
    clear HB1 HN1
    obtain ⟨i, rfl, hi, hm, HF, HN, HB⟩ := hrel
    by_cases hlt : i < names.length
    · obtain ⟨ad1, e, hcell⟩ := Kd.at_string (Kd.R_reads' HN.out).2.2 (i : Int) (by omega) (by omega)
      subst e
      rw [rdOf_nat _ _ _ hlt, Int.toNat_natCast] at hcell
      have HGI := Aside0.mk (HG.out names[i] (List.getElem_mem hlt))
      have HTI := Aside0.mk (HTL.out names[i] (List.getElem_mem hlt))
      have HH := Aside0.mk (fun h => missingR_here (T := T) (tried := tried) hlt HF.out h)
      have HSTEP := Aside0.mk (fun (h : missP T tried names[i] = false) (j : Nat) (hj : j < names.length) (hji : j < i + 1) => show missP T tried names[j] = false from by
        rcases Nat.lt_or_ge j i with h1 | h1
        · exact HF.out j hj h1
        · obtain rfl : j = i := by omega
          exact h)
      generalize names[i] = n at hcell HGI HTI HH HSTEP
      have HBK := Aside0.mk (alloc_block wr (.cells #[.string n] 9 (0, 0)))
      have HBA := Aside0.mk (below_alloc (Below.refl wr.heap.size wr) (.cells #[.string n] 9 (0, 0)))
      have htold := told_any fv T n _ (HT.out.below (HB.out.trans (HBA.out.mono HB.out.size))) HGI.out (by have := HTI.out; omega)
      have HTOLD := Aside0.mk htold
      have hub : (uniq (T n)).length ≤ 1000 := by have h1 := uniq_length (T n); have h2 := HTI.out; omega
      have HPR := Aside0.mk (fun (W2 : World) (h2 : W2.heap[wr.heap.size]? = some (.cells #[.string n] 9 (0, 0))) => show PredB 99 #[.pointer (some ⟨wr.heap.size, 0, none⟩)] Value.string (fun x => sameN (bl x) (bl n)) tried W2 from by
        intro W x hx hb
        have hl2 : wr.heap.size < W2.heap.size := by
          rcases Nat.lt_or_ge wr.heap.size W2.heap.size with h | h
          · exact h
          · rw [Array.getElem?_eq_none h] at h2; cases h2
        exact miss1_any x n (HTS.out x hx) (by have := good_size HGI.out; omega) wr.heap.size W ((hb.cell (p := ⟨wr.heap.size, 0, none⟩) hl2).trans (cell_of_heap (i := 0) h2 rfl)))
      clear htold
      by_cases hz : (uniq (T n)).length = 0
      · cases hb : tried.any (fun x => sameN (bl x) (bl n)) with
        | true =>
          have HS := Aside0.mk (HSTEP.out (by unfold missP; rw [hb]; simp))
          have HBV := Aside0.mk hb
          clear hb HH HSTEP
          go_wp2_with (first
            | (go_at_call 95; refine (HTOLD.out).mono ?_; rintro e w2 ⟨v2, rfl, hR2, hb2⟩; obtain ⟨A3, c3, rfl⟩ := Kd.R_slice hR2; have HB2 := Aside0.mk (HBA.out.trans (hb2.mono HBA.out.size)); have HBK2 := Aside0.mk ((hb2.block _ (alloc_lt _ _)).trans HBK.out); have HB2B := Aside0.mk hb2.size; clear hR2 hb2)
            | (go_at_call 98; refine (containsS_any 99 #[.pointer (some ⟨wr.heap.size, 0, none⟩)] (fun x => sameN (bl x) (bl n)) EG.out A5 c5 tried _ (Kd.C_below HTR.out (HB.out.trans (HB2.out.mono HB.out.size))) (HPR.out _ HBK2.out)).mono ?_; rintro e w3 ⟨rfl, hb3⟩; rw [HBV.out]; have HB3 := Aside0.mk (HB2.out.trans (hb3.mono HB2.out.size)); have hn3 : w3.cell? ⟨wr.heap.size, 0, none⟩ = some (.string n) := (blk_cell ((hb3.block _ (Nat.lt_of_lt_of_le (alloc_lt wr (.cells #[.string n] 9 (0, 0))) HB2B.out)).trans HBK2.out) 0).trans rfl; clear hb3))
          clear hn3
          go_roundg (names.length - (i + 1))
          case measure => omega
          case rel => exact ⟨i + 1, by go_num, by omega, Nat.le_refl _, HS, ⟨Kd.R_below HN.out HB3.out⟩, ⟨HB.out.trans (HB3.out.mono HB.out.size)⟩⟩
        | false =>
          have HS := Aside0.mk (HH.out (by unfold missP; rw [hb, hz]; rfl))
          have HBV := Aside0.mk hb
          clear hb HH HSTEP
          go_wp2_with (first
            | (go_at_call 95; refine (HTOLD.out).mono ?_; rintro e w2 ⟨v2, rfl, hR2, hb2⟩; obtain ⟨A3, c3, rfl⟩ := Kd.R_slice hR2; have HB2 := Aside0.mk (HBA.out.trans (hb2.mono HBA.out.size)); have HBK2 := Aside0.mk ((hb2.block _ (alloc_lt _ _)).trans HBK.out); have HB2B := Aside0.mk hb2.size; clear hR2 hb2)
            | (go_at_call 98; refine (containsS_any 99 #[.pointer (some ⟨wr.heap.size, 0, none⟩)] (fun x => sameN (bl x) (bl n)) EG.out A5 c5 tried _ (Kd.C_below HTR.out (HB.out.trans (HB2.out.mono HB.out.size))) (HPR.out _ HBK2.out)).mono ?_; rintro e w3 ⟨rfl, hb3⟩; rw [HBV.out]; have HB3 := Aside0.mk (HB2.out.trans (hb3.mono HB2.out.size)); have hn3 : w3.cell? ⟨wr.heap.size, 0, none⟩ = some (.string n) := (blk_cell ((hb3.block _ (Nat.lt_of_lt_of_le (alloc_lt wr (.cells #[.string n] 9 (0, 0))) HB2B.out)).trans HBK2.out) 0).trans rfl; clear hb3))
          (try simp only [Exit.inBlock, Exit.then])
          refine bodyPost_ret (v := .tuple #[.string n, .bool true]) (by simp [results, Tryz.f40, go_sem]) rfl ?_
          exact ⟨by rw [HS.out], HB.out.trans (HB3.out.mono HB.out.size)⟩
      · have HS := Aside0.mk (HSTEP.out (by unfold missP; rw [beq_eq_false_iff_ne.2 hz]; rfl))
        clear HH HSTEP
        go_wp2_with (first
          | (go_at_call 95; refine (HTOLD.out).mono ?_; rintro e w2 ⟨v2, rfl, hR2, hb2⟩; obtain ⟨A3, c3, rfl⟩ := Kd.R_slice hR2; have HB2 := Aside0.mk (HBA.out.trans (hb2.mono HBA.out.size)); have HBK2 := Aside0.mk ((hb2.block _ (alloc_lt _ _)).trans HBK.out); have HB2B := Aside0.mk hb2.size; clear hR2 hb2))
        go_roundg (names.length - (i + 1))
        case measure => omega
        case rel => exact ⟨i + 1, by go_num, by omega, Nat.le_refl _, HS, ⟨Kd.R_below HN.out HB2.out⟩, ⟨HB.out.trans (HB2.out.mono HB.out.size)⟩⟩
    · obtain rfl : i = names.length := by omega
      have HE := Aside0.mk (missingR_none (fun j hj => HF.out j hj hj))
      go_wp2
      (try simp only [Exit.inBlock, Exit.then])
      refine bodyPost_ret (v := .tuple #[.string ⟨#[]⟩, .bool false]) (by simp [results, Tryz.f40, go_sem]) rfl ?_
      exact ⟨by rw [HE.out], HB.out⟩
end Go.Proofs.YtjiheepiobffkaaGreat.Fr
