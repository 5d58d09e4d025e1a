/-
  What the document fixes: awake answers true.
-/
import Derived.Test.YtjiheepiobffkaaGreatPickQ
namespace Go.Proofs.YtjiheepiobffkaaGreat.Fr
open Go.RowKit Go.Proofs.YtjiheepiobffkaaGreatW.PrintWords Go.Proofs.YtjiheepiobffkaaGreatW.PrintLast Go.Proofs.YtjiheepiobffkaaGreatW.PrintMore Go.Proofs.YtjiheepiobffkaaGreat.Pr
open Go.Sort hiding rd
open Go.Lib

def T2 (n : ByteArray) : List Int := if bl n = [1, 97, 0] then [2, 1, 2] else []
theorem tell_two (w : World) : TellAt (.func (.func 91) #[] #[]) T2 w := by
  refine .inr ⟨91, #[], rfl, enters_of Tryz.func91 (by kernel_rfl) rfl, fun W _ n _ => ?_⟩
  refine freshetlaw15_two.calls n (T2 n) W ?_
  unfold freshetlaw15_two.f T2
  rw [bl_toList]
  split <;> rfl
theorem tell_nil (w : World) : TellAt .nilFunc (fun _ => []) w := .inl ⟨rfl, fun _ => rfl⟩

def nA : ByteArray := ⟨#[1, 97, 0]⟩
def nB : ByteArray := ⟨#[1, 98, 0]⟩
theorem uniq_eq (l : List Int) : uniq l = allU (fun x y : Int => decide (x < y)) l := ints_once l
theorem awake_names : targetsR (setR [⟨#[1, 98, 0]⟩, ⟨#[1, 65, 0]⟩]) = [nA, nB] := by
  rw [targetsR_set]
  decide +kernel
theorem awake_servers : serversR T2 [nA, nB] = [⟨nA, 1⟩, ⟨nA, 2⟩] := by
  rw [show serversR T2 [nA, nB] = rowS T2 nA ++ (rowS T2 nB ++ []) from rfl]
  unfold rowS
  rw [uniq_eq, uniq_eq]
  decide +kernel
theorem awake_next : nextR [⟨nA, 1⟩, ⟨nA, 2⟩] [⟨⟨#[]⟩, 1⟩] = (⟨nA, 2⟩, true) := by decide +kernel
theorem awake_next2 : nextR [⟨nA, 1⟩, ⟨nA, 2⟩] [⟨nA, 1⟩, ⟨nA, 2⟩] = (z55, false) := by decide +kernel
theorem awake_miss : missingR T2 [nA, nB] [] = (nB, true) := by
  have : missP T2 [] = fun n => (allU (fun x y : Int => decide (x < y)) (T2 n)).length == 0 && !([] : List ByteArray).any (fun x => sameN (bl x) (bl n)) := by
    funext n; rw [missP, uniq_eq]
  unfold missingR
  rw [this]
  decide +kernel
theorem awake_miss2 : missingR T2 [nA, nB] [⟨#[1, 66, 0]⟩] = (⟨#[]⟩, false) := by
  have : missP T2 [⟨#[1, 66, 0]⟩] = fun n => (allU (fun x y : Int => decide (x < y)) (T2 n)).length == 0 && !([⟨#[1, 66, 0]⟩] : List ByteArray).any (fun x => sameN (bl x) (bl n)) := by
    funext n; rw [missP, uniq_eq]
  unfold missingR
  rw [this]
  decide +kernel
theorem awake_hints : hintsR [⟨⟨#[1, 98, 0]⟩, 2⟩, ⟨⟨#[1, 65, 0]⟩, 3⟩, ⟨⟨#[1, 97, 0]⟩, 3⟩, ⟨⟨#[120]⟩, 1⟩] = [⟨nA, 3⟩, ⟨nB, 2⟩] := by
  rw [hintsR_eq]
  decide +kernel

theorem box5 {W : World} {g t : Nat} {a b c d e : Value} (h : W.heap[g]? = some (.cells #[a, b, c, d, e] t (0, 0))) :
    W.cell? ⟨g, 0, none⟩ = some a ∧ W.cell? ⟨g, 1, none⟩ = some b ∧ W.cell? ⟨g, 2, none⟩ = some c ∧ W.cell? ⟨g, 3, none⟩ = some d ∧ W.cell? ⟨g, 4, none⟩ = some e :=
  ⟨cell_of_heap (i := 0) h rfl, cell_of_heap (i := 1) h rfl, cell_of_heap (i := 2) h rfl, cell_of_heap (i := 3) h rfl, cell_of_heap (i := 4) h rfl⟩

set_option maxRecDepth 100000 in
set_option maxHeartbeats 4000000 in
theorem awake_any (w : World) : Calls Tryz.prog 32 #[] w fun e w' => e = .returned (.bool true) ∧ Below w.heap.size w w' := by
  have hu := Tryz.underlying63
  have hu2 := Tryz.underlying55
  go_enter Tryz.func32, Tryz.ntmps32
  go_wp2_with fail
  refine (set_any (some ⟨w.heap.size, 0, none⟩) 2 [⟨#[1, 98, 0]⟩, ⟨#[1, 65, 0]⟩] _ (C_lit Value.string (fun _ => rfl) w 9 [⟨#[1, 98, 0]⟩, ⟨#[1, 65, 0]⟩] (by decide)) (by decide) (by decide)).mono ?_
  rintro e w1 ⟨v2, rfl, hRS, hb1⟩
  obtain ⟨A2, c2, rfl⟩ := Kd.R_slice hRS
  have HN := Aside0.mk awake_names
  have HSZ := Aside0.mk (show ∀ r ∈ setR [⟨#[1, 98, 0]⟩, ⟨#[1, 65, 0]⟩], r.f4.size ≤ 140737488351232 ∧ (setR [⟨#[1, 98, 0]⟩, ⟨#[1, 65, 0]⟩]).length ≤ 100000 from by decide +kernel)
  have HLN := Aside0.mk (show (setR [⟨#[1, 98, 0]⟩, ⟨#[1, 65, 0]⟩]).length ≤ 100000 from by decide +kernel)
  generalize setR [⟨#[1, 98, 0]⟩, ⟨#[1, 65, 0]⟩] = rs at hRS HN HSZ HLN
  have HEV := Aside0.mk (fun a b c d => show Ev (fun k => pick_Targets.f k a b rs c d) [nA, nB] from by
    have := Targets_ev a b rs c d HLN.out (fun r hr => (HSZ.out r hr).1)
    rwa [HN.out] at this)
  have HGD := Aside0.mk (show ∀ n ∈ [nA, nB], good n from by decide +kernel)
  have HT2 := Aside0.mk (show ∀ n ∈ [nA, nB], (T2 n).length ≤ 1000 from by decide +kernel)
  have HB := Aside0.mk ((below_alloc (Below.refl w.heap.size w) (.cells #[.string ⟨#[1, 98, 0]⟩, .string ⟨#[1, 65, 0]⟩] 9)).trans (hb1.mono (alloc_le _ _)))
  have HR := Aside0.mk (Kd.R_lower (base' := w.heap.size) hRS (alloc_le _ _))
  clear hRS hb1 HN HSZ HLN
  go_wp2_with fail
  -- Servers
  have HBA := Aside0.mk (below_alloc (Below.refl w1.heap.size w1) (.cells #[.string ⟨#[0]⟩, .int .i64 2, .slice A2 rs.length c2, .int .i64 0, .string ⟨#[0]⟩] 63 (0, 0)))
  have HK := Aside0.mk (alloc_block w1 (.cells #[.string ⟨#[0]⟩, .int .i64 2, .slice A2 rs.length c2, .int .i64 0, .string ⟨#[0]⟩] 63 (0, 0)))
  have hgs : w.heap.size ≤ w1.heap.size := HB.out.size
  have hltS := alloc_lt w1 (.cells #[.string ⟨#[0]⟩, .int .i64 2, .slice A2 rs.length c2, .int .i64 0, .string ⟨#[0]⟩] 63 (0, 0))
  have HR2 := Aside0.mk (Kd.R_below HR.out HBA.out)
  have HB2 := Aside0.mk (HB.out.trans (HBA.out.mono HB.out.size))
  clear HR HB HBA
  generalize hgb : w1.heap.size = gs at HK hgs hltS ⊢
  generalize w1.alloc (.cells #[.string ⟨#[0]⟩, .int .i64 2, .slice A2 rs.length c2, .int .i64 0, .string ⟨#[0]⟩] 63) = W2 at HK HR2 HB2 hltS ⊢
  clear hgb
  refine (Servers_any _ T2 _ _ A2 c2 rs _ _ W2 (Kd.R_reads' HR2.out).2.2 (Kd.R_reads' HR2.out).2.1 (tell_two W2) [nA, nB] (HEV.out _ _ _ _) HGD.out (by decide) HT2.out).mono ?_
  rintro e w3 ⟨v3, rfl, hS, hb3⟩
  rw [awake_servers] at hS
  obtain ⟨A3, c3, rfl⟩ := Kd.R_slice hS
  have HS3 := Aside0.mk (Kd.R_lower (base' := w.heap.size) hS HB2.out.size)
  have HK3 := Aside0.mk ((hb3.block _ hltS).trans HK.out)
  have HR3 := Aside0.mk (Kd.R_below HR2.out hb3)
  have HB3 := Aside0.mk (HB2.out.trans (hb3.mono HB2.out.size))
  have hl3 : gs < w3.heap.size := Nat.lt_of_lt_of_le hltS hb3.size
  clear hS hb3 HK HR2 HB2 hltS
  go_wp2_with fail
  -- Next, of whom one was tried
  have hN1 := Next_any A3 c3 [⟨nA, 1⟩, ⟨nA, 2⟩] (some ⟨w3.heap.size, 0, none⟩) 1 [⟨⟨#[]⟩, 1⟩] _ (Kd.C_below (Kd.R_reads' HS3.out).2.2 (below_alloc (Below.refl w3.heap.size w3) (.cells #[.string ⟨#[]⟩, .int .i64 1] 55))) (CQ_lit w3 55 [⟨⟨#[]⟩, 1⟩] (by decide))
  rw [awake_next] at hN1
  refine hN1.mono ?_
  clear hN1
  rintro e w4 ⟨rfl, hb4⟩
  have hq4 := (below_alloc (Below.refl w3.heap.size w3) (.cells #[.string ⟨#[]⟩, .int .i64 1] 55)).trans (hb4.mono (alloc_le _ _))
  have HS4 := Aside0.mk (Kd.R_below HS3.out hq4)
  have HK4 := Aside0.mk ((hq4.block _ hl3).trans HK3.out)
  have HR4 := Aside0.mk (Kd.R_below HR3.out hq4)
  have HB4 := Aside0.mk (HB3.out.trans (hq4.mono HB3.out.size))
  have hl4 : gs < w4.heap.size := Nat.lt_of_lt_of_le hl3 hq4.size
  clear hb4 hq4 HS3 HK3 HR3 HB3 hl3
  go_wp2_with fail
  -- Next, of whom all were
  have hqa := below_alloc (Below.refl w4.heap.size w4) (.cells #[.string nA, .int .i64 2] 55 (0, 0))
  have HX5 := Aside0.mk (alloc_block w4 (.cells #[.string nA, .int .i64 2] 55 (0, 0)))
  have hx5 := alloc_lt w4 (.cells #[.string nA, .int .i64 2] 55 (0, 0))
  have HS5 := Aside0.mk (Kd.R_below HS4.out hqa)
  have HK5 := Aside0.mk ((hqa.block _ hl4).trans HK4.out)
  have HR5 := Aside0.mk (Kd.R_below HR4.out hqa)
  have HB5 := Aside0.mk (HB4.out.trans (hqa.mono HB4.out.size))
  have hl5 : gs < (w4.alloc (.cells #[.string nA, .int .i64 2] 55 (0, 0))).heap.size := Nat.lt_of_lt_of_le hl4 hqa.size
  clear hqa HS4 HK4 HR4 HB4 hl4
  generalize w4.heap.size = gx at HX5 hx5 ⊢
  have hN2 := Next_any A3 c3 [⟨nA, 1⟩, ⟨nA, 2⟩] A3 c3 [⟨nA, 1⟩, ⟨nA, 2⟩] _ (Kd.R_reads' HS5.out).2.2 (Kd.R_reads' HS5.out).2.2
  rw [awake_next2] at hN2
  refine hN2.mono ?_
  clear hN2
  rintro e w6 ⟨rfl, hb6⟩
  have HS6 := Aside0.mk (Kd.R_below HS5.out hb6)
  have HX6 := Aside0.mk ((hb6.block _ hx5).trans HX5.out)
  have hx6 := Nat.lt_of_lt_of_le hx5 hb6.size
  have HK6 := Aside0.mk ((hb6.block _ hl5).trans HK5.out)
  have HR6 := Aside0.mk (Kd.R_below HR5.out hb6)
  have HB6 := Aside0.mk (HB5.out.trans (hb6.mono HB5.out.size))
  have hl6 := Nat.lt_of_lt_of_le hl5 hb6.size
  clear HS5 HX5 hx5 HK5 HR5 HB5 hl5
  clear hb6
  have HM1 := Aside0.mk (fun (W : World) (hb : Below w6.heap.size w6 W) => show Calls Tryz.prog 40 #[.agg #[.string ⟨#[0]⟩, .int .i64 2, .slice A2 rs.length c2, .int .i64 0, .string ⟨#[0]⟩], .func (.func 91) #[] #[], .slice none ([] : List ByteArray).length 0] W fun e w' => e = .returned (.tuple #[.string ⟨#[1, 98, 0]⟩, .bool true]) ∧ Below W.heap.size W w' from by
    have h := Missing_any (.func (.func 91) #[] #[]) T2 ⟨#[0]⟩ 2 A2 c2 rs 0 ⟨#[0]⟩ none 0 [] W (Kd.R_reads' (Kd.R_below HR6.out hb)).2.2 (Kd.R_reads' HR6.out).2.1 (Kd.C_nil _ _) (fun x hx => by simp at hx) (tell_two W) [nA, nB] (HEV.out _ _ _ _) HGD.out (by decide) HT2.out
    rw [awake_miss] at h
    exact h)
  have hk := fun o => box5 (heap_alloc_t o HK6.out)
  go_wp2_with fail
  clear hk
  refine (HM1.out _ (below_alloc (Below.refl _ _) _)).mono ?_
  clear HM1
  rintro e w7 ⟨rfl, hb7⟩
  have hq7 := (below_alloc (Below.refl w6.heap.size w6) _).trans (hb7.mono (alloc_le _ _))
  have HS7 := Aside0.mk (Kd.R_below HS6.out hq7)
  have HX7 := Aside0.mk ((hq7.block _ hx6).trans HX6.out)
  have hx7 := Nat.lt_of_lt_of_le hx6 hq7.size
  have HK7 := Aside0.mk ((hq7.block _ hl6).trans HK6.out)
  have HR7 := Aside0.mk (Kd.R_below HR6.out hq7)
  have HB7 := Aside0.mk (HB6.out.trans (hq7.mono HB6.out.size))
  have hl7 := Nat.lt_of_lt_of_le hl6 hq7.size
  clear HS6 HX6 hx6 HK6 HR6 HB6 hl6
  clear hb7 hq7
  have HM2 := Aside0.mk (fun (W : World) (hb : Below w7.heap.size w7 W) (hC : Kd.C Kd.string W (some ⟨w7.heap.size, 0, none⟩) [(⟨#[1, 66, 0]⟩ : ByteArray)].length [⟨#[1, 66, 0]⟩]) => show Calls Tryz.prog 40 #[.agg #[.string ⟨#[0]⟩, .int .i64 2, .slice A2 rs.length c2, .int .i64 0, .string ⟨#[0]⟩], .func (.func 91) #[] #[], .slice (some ⟨w7.heap.size, 0, none⟩) [(⟨#[1, 66, 0]⟩ : ByteArray)].length 1] W fun e w' => e = .returned (.tuple #[.string ⟨#[]⟩, .bool false]) ∧ Below W.heap.size W w' from by
    have h := Missing_any (.func (.func 91) #[] #[]) T2 ⟨#[0]⟩ 2 A2 c2 rs 0 ⟨#[0]⟩ (some ⟨w7.heap.size, 0, none⟩) 1 [⟨#[1, 66, 0]⟩] W (Kd.R_reads' (Kd.R_below HR7.out hb)).2.2 (Kd.R_reads' HR7.out).2.1 hC (by decide +kernel) (tell_two W) [nA, nB] (HEV.out _ _ _ _) HGD.out (by decide) HT2.out
    rw [awake_miss2] at h
    exact h)
  have hk := box5 HK7.out
  go_wp2_with fail
  clear hk
  refine (HM2.out _ (below_alloc (Below.refl _ _) _) (C_lit Value.string (fun _ => rfl) w7 9 [⟨#[1, 66, 0]⟩] (by decide))).mono ?_
  clear HM2
  rintro e w8 ⟨rfl, hb8⟩
  have hq8 := (below_alloc (Below.refl w7.heap.size w7) _).trans (hb8.mono (alloc_le _ _))
  have HS8 := Aside0.mk (Kd.R_below HS7.out hq8)
  have HX8 := Aside0.mk ((hq8.block _ hx7).trans HX7.out)
  have hx8 := Nat.lt_of_lt_of_le hx7 hq8.size
  have HK8 := Aside0.mk ((hq8.block _ hl7).trans HK7.out)
  have HR8 := Aside0.mk (Kd.R_below HR7.out hq8)
  have HB8 := Aside0.mk (HB7.out.trans (hq8.mono HB7.out.size))
  have hl8 := Nat.lt_of_lt_of_le hl7 hq8.size
  clear HS7 HX7 hx7 HK7 HR7 HB7 hl7
  clear hb8 hq8
  go_wp2_with fail
  obtain ⟨KH, hKH⟩ := Hints_ev [⟨⟨#[1, 98, 0]⟩, 2⟩, ⟨⟨#[1, 65, 0]⟩, 3⟩, ⟨⟨#[1, 97, 0]⟩, 3⟩, ⟨⟨#[120]⟩, 1⟩] (by decide) (by decide +kernel)
  have hKH := hKH KH (Nat.le_refl _)
  rw [awake_hints] at hKH
  refine (pick_Hints.calls KH (some ⟨w8.heap.size, 0, none⟩) 4 [⟨⟨#[1, 98, 0]⟩, 2⟩, ⟨⟨#[1, 65, 0]⟩, 3⟩, ⟨⟨#[1, 97, 0]⟩, 3⟩, ⟨⟨#[120]⟩, 1⟩] _ _ (CQ_lit w8 55 [⟨⟨#[1, 98, 0]⟩, 2⟩, ⟨⟨#[1, 65, 0]⟩, 3⟩, ⟨⟨#[1, 97, 0]⟩, 3⟩, ⟨⟨#[120]⟩, 1⟩] (by decide)) (by decide) hKH).mono ?_
  clear hKH
  rintro e w9 ⟨v9, rfl, hH, hb9⟩
  obtain ⟨A9, c9, rfl⟩ := Kd.R_slice hH
  have hq9 := (below_alloc (Below.refl w8.heap.size w8) _).trans (hb9.mono (alloc_le _ _))
  have HH9 := Aside0.mk (Kd.R_lower (base' := w.heap.size) hH (Nat.le_trans HB8.out.size (alloc_le _ _)))
  have HS9 := Aside0.mk (Kd.R_below HS8.out hq9)
  have HX9 := Aside0.mk ((hq9.block _ hx8).trans HX8.out)
  have hx9 := Nat.lt_of_lt_of_le hx8 hq9.size
  have HK9 := Aside0.mk ((hq9.block _ hl8).trans HK8.out)
  have HR9 := Aside0.mk (Kd.R_below HR8.out hq9)
  have HB9 := Aside0.mk (HB8.out.trans (hq9.mono HB8.out.size))
  have hl9 := Nat.lt_of_lt_of_le hl8 hq9.size
  clear HS8 HX8 hx8 HK8 HR8 HB8 hl8
  clear hb9 hq9 hH
  go_wp2_with fail
  have hA1 := alike_any A3 c3 [⟨nA, 1⟩, ⟨nA, 2⟩] (some ⟨w9.heap.size, 0, none⟩) 2 [⟨nA, 1⟩, ⟨nA, 2⟩] _ (Kd.C_below (Kd.R_reads' HS9.out).2.2 (below_alloc (Below.refl w9.heap.size w9) _)) (Kd.R_reads' HS9.out).2.1 (CQ_lit w9 55 [⟨nA, 1⟩, ⟨nA, 2⟩] (by decide)) (by decide) (by decide)
  rw [decide_eq_true rfl] at hA1
  refine hA1.mono ?_
  clear hA1
  rintro e w10 ⟨rfl, hb10⟩
  have hq10 := (below_alloc (Below.refl w9.heap.size w9) _).trans (hb10.mono (alloc_le _ _))
  have HS10 := Aside0.mk (Kd.R_below HS9.out hq10)
  have HX10 := Aside0.mk ((hq10.block _ hx9).trans HX9.out)
  have hx10 := Nat.lt_of_lt_of_le hx9 hq10.size
  have HK10 := Aside0.mk ((hq10.block _ hl9).trans HK9.out)
  have HR10 := Aside0.mk (Kd.R_below HR9.out hq10)
  have HB10 := Aside0.mk (HB9.out.trans (hq10.mono HB9.out.size))
  have hl10 := Nat.lt_of_lt_of_le hl9 hq10.size
  have HH10 := Aside0.mk (Kd.R_below HH9.out hq10)
  clear HS9 HX9 hx9 HK9 HR9 HB9 hl9 HH9
  clear hb10 hq10
  have hxc : w10.cell? ⟨gx, 1, none⟩ = some (.int .i64 2) := cell_of_heap (i := 1) HX10.out rfl
  go_wp2_with fail
  have hA2 := alike_any A9 c9 [⟨nA, 3⟩, ⟨nB, 2⟩] (some ⟨w10.heap.size, 0, none⟩) 2 [⟨nA, 3⟩, ⟨nB, 2⟩] _ (Kd.C_below (Kd.R_reads' HH10.out).2.2 (below_alloc (Below.refl w10.heap.size w10) _)) (Kd.R_reads' HH10.out).2.1 (CQ_lit w10 55 [⟨nA, 3⟩, ⟨nB, 2⟩] (by decide)) (by decide) (by decide)
  rw [decide_eq_true rfl] at hA2
  refine hA2.mono ?_
  clear hA2 hxc
  rintro e w11 ⟨rfl, hb11⟩
  have hq11 := (below_alloc (Below.refl w10.heap.size w10) _).trans (hb11.mono (alloc_le _ _))
  have HS11 := Aside0.mk (Kd.R_below HS10.out hq11)
  have HX11 := Aside0.mk ((hq11.block _ hx10).trans HX10.out)
  have hx11 := Nat.lt_of_lt_of_le hx10 hq11.size
  have HK11 := Aside0.mk ((hq11.block _ hl10).trans HK10.out)
  have HR11 := Aside0.mk (Kd.R_below HR10.out hq11)
  have HB11 := Aside0.mk (HB10.out.trans (hq11.mono HB10.out.size))
  have hl11 := Nat.lt_of_lt_of_le hl10 hq11.size
  clear HS10 HX10 hx10 HK10 HR10 HB10 hl10 HH10
  clear hb11 hq11
  have hk := box5 HK11.out
  go_wp2_with fail
  have hS2 := Servers_any .nilFunc (fun _ => []) ⟨#[0]⟩ 2 A2 c2 rs 0 ⟨#[0]⟩ w11 (Kd.R_reads' HR11.out).2.2 (Kd.R_reads' HR11.out).2.1 (tell_nil w11) [nA, nB] (HEV.out _ _ _ _) HGD.out (by decide) (fun _ _ => by decide)
  refine hS2.mono ?_
  clear hS2 hk
  rintro e w12 ⟨v12, rfl, hZ, hb12⟩
  rw [show serversR (fun _ => []) [nA, nB] = [] from by simp [serversR, rowS, uniq_nil]] at hZ
  obtain ⟨A12, c12, rfl⟩ := Kd.R_slice hZ
  have HBZ := Aside0.mk (HB11.out.trans (hb12.mono HB11.out.size))
  clear hZ hb12
  go_wp2
  go_ret
  exact ⟨rfl, HBZ.out⟩
end Go.Proofs.YtjiheepiobffkaaGreat.Fr
