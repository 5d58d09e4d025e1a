/-
  The law PickTells: its own function, what it calls, and the walk.
-/
import Derived.Test.YtjiheepiobffkaaGreatTellsQ
import Derived.Deep.DeepCutAuto
namespace Go.Proofs.YtjiheepiobffkaaGreat.Fr
open Go.RowKit Go.Proofs.YtjiheepiobffkaaGreatW.PrintWords Go.Proofs.YtjiheepiobffkaaGreatW.PrintLast Go.Proofs.YtjiheepiobffkaaGreatW.PrintMore Go.Proofs.YtjiheepiobffkaaGreat.Pr
open Go.Sort hiding rd
open Go.Lib

theorem belowB {w1 W w2 : World} (hb : Below W.heap.size W w2) (h : Below w1.heap.size w1 W) : Below w1.heap.size w1 w2 := h.trans (hb.mono h.size)
theorem cellB {w1 W w2 : World} {p : Addr} {v : Value} (hb : Below W.heap.size W w2) (h : Below w1.heap.size w1 W) (hc : w1.cell? p = some v) : w2.cell? p = some v :=
  ((belowB hb h).cell (World.block_lt_of_cell? w1 _ hc)).trans hc
theorem belowB' {w3 w6 W : World} (h : Below w3.heap.size w3 w6) (hb : Below w6.heap.size w6 W) : Below w3.heap.size w3 W := h.trans (hb.mono h.size)
theorem C_agree {α : Type} {d : Kd α} {w W' : World} {A : Option Addr} {n : Nat} {xs : List α} (hK : ∀ x cs, d.K w x cs → d.K W' x cs) (hag : ∀ p v, w.cell? p = some v → W'.cell? p = some v) (h : d.C w A n xs) : d.C W' A n xs := by
  refine ⟨h.1, h.2.1, fun hn => ?_⟩
  obtain ⟨ad, e, hc⟩ := h.2.2 hn
  refine ⟨ad, e, fun j p hj => ?_⟩
  obtain ⟨cs, hl, hk, hcell⟩ := hc j p hj
  exact ⟨cs, hl, hK _ _ hk, fun i u hu => hag _ _ (hcell i u hu)⟩
theorem F_all {w : World} {A : Option Addr} {n : Nat} {xs : List S143} (h : Kd.C k143 w A n xs) : Kd.F k143 w (fun _ => True) A n xs := by
  intro W' hW
  have hag : ∀ p v, w.cell? p = some v → W'.cell? p = some v := by
    intro p v hp
    have hlt := World.block_lt_of_cell? w p hp
    rw [← hp]
    simp only [World.cell?, hW p.block trivial hlt]
  refine C_agree (fun x cs hk => ?_) hag h
  obtain ⟨A1, c1, rfl, h1, h2⟩ := k143_open hk
  exact k143_mk W' x h1 (C_agree (d := Kd.int .i64) (w := w) (W' := W') (fun _ _ h => h) hag h2)
theorem known_any (A : Option Addr) (c : Nat) (l : List S143) (w : World) (hC : Kd.C k143 w A l.length l) (hc : l.length ≤ c) (hl : l.length ≤ 100000) :
    Calls Tryz.prog 35 #[.slice A l.length c] w fun e w' => ∃ A1 c1, e = .returned (.slice A1 (conv l).length c1) ∧ (conv l).length ≤ c1 ∧ Kd.C k147 w' A1 (conv l).length (conv l) ∧ Below w.heap.size w w' := by
  obtain ⟨K, hK⟩ := known_ev l hl
  refine (freshetlaw15_known.calls K (fun _ => True) A c l (conv l) w (Kd.V_mk hc (F_all hC)) (hK K (Nat.le_refl _))).mono ?_
  rintro e w' ⟨v, rfl, hN, hb⟩
  obtain ⟨A1, c1, rfl, h1, h2⟩ := Kd.N_reads hN
  exact ⟨A1, c1, rfl, h1, h2, hb⟩
theorem tell1_any (b : Nat) (A : Option Addr) (c : Nat) (l : List S143) (s : ByteArray) (w : World) (hx : w.cell? ⟨b, 0, none⟩ = some (.slice A l.length c)) (hC : Kd.C k143 w A l.length l) (hc : l.length ≤ c) (hs : smallK (conv l)) (hl : l.length ≤ 30) (hn : s.size ≤ 140737488355328) :
    Calls Tryz.prog 33 #[.string s, .pointer (some ⟨b, 0, none⟩)] w fun e w' => ∃ v, e = .returned v ∧ Kd.R (Kd.int .i64) 3 w' w.heap.size (fun _ => True) v (ofR (conv l) s) ∧ Below w.heap.size w w' := by
  have hk := known_any A c l w hC hc (by omega)
  obtain ⟨K, hK⟩ := Of_ev (conv l) s hn hs
  have HO := Aside0.mk (hK K (Nat.le_refl _))
  clear hK hC hc
  go_enter Tryz.func33, Tryz.ntmps33
  go_wp2_with fail
  refine hk.mono ?_
  clear hk
  rintro e w1 ⟨A1, c1, rfl, h1, h2, hb1⟩
  have hof := freshetref11_Of.calls K A1 c1 (conv l) s _ w1 h2 h1 HO.out
  clear h1 h2
  go_wp2_with fail
  refine hof.mono ?_
  clear hof
  rintro e w2 ⟨v, rfl, hR, hb2⟩
  obtain ⟨A3, c3, rfl⟩ := Kd.R_slice hR
  go_wp2
  go_ret
  exact ⟨_, rfl, Kd.R_lower hR hb1.size, hb1.trans (hb2.mono hb1.size)⟩

/-! ### what it calls, in one form -/
section
variable (a0 : ByteArray) (a1 : Int) (A2 : Option Addr) (c2 : Nat) (rs : List S43) (a3 : Int) (a4 : ByteArray) (kl : List S147)
theorem servD_any (hk : smallK kl) (hs : smallSet rs) (A1 : Option Addr) (c1 : Nat) (w : World) (hr : Kd.C k43 w A2 rs.length rs) (hc : rs.length ≤ c2) (hK : Kd.C k147 w A1 kl.length kl) (hc1 : kl.length ≤ c1) :
    Calls Tryz.prog 39 #[.agg #[.string a0, .int .i64 a1, .slice A2 rs.length c2, .int .i64 a3, .string a4], .slice A1 kl.length c1] w fun e w' => ∃ A3 c3, e = .returned (.slice A3 (serversR (ofR kl) (targetsR rs)).length c3) ∧ (serversR (ofR kl) (targetsR rs)).length ≤ c3 ∧ Kd.C k55 w' A3 (serversR (ofR kl) (targetsR rs)).length (serversR (ofR kl) (targetsR rs)) ∧ Below w.heap.size w w' := by
  obtain ⟨K, hE⟩ := ServersD_ev a0 a1 rs a3 a4 kl hk hs
  refine (freshetref11_Servers.calls K a0 a1 A2 c2 rs a3 a4 A1 c1 kl _ w hr hc hK hc1 (hE K (Nat.le_refl _))).mono ?_
  rintro e w' ⟨v, rfl, hR, hb⟩
  obtain ⟨A3, c3, rfl⟩ := Kd.R_slice hR
  exact ⟨A3, c3, rfl, (Kd.R_reads' hR).2.1, (Kd.R_reads' hR).2.2, hb⟩
theorem missD_any (hk : smallK kl) (hs : smallSet rs) (A1 : Option Addr) (c1 : Nat) (A5 : Option Addr) (c5 : Nat) (asked : List ByteArray) (w : World) (hr : Kd.C k43 w A2 rs.length rs) (hc : rs.length ≤ c2) (hK : Kd.C k147 w A1 kl.length kl) (hc1 : kl.length ≤ c1) (hA : Kd.C Kd.string w A5 asked.length asked) (hc5 : asked.length ≤ c5) (ha : asked.length ≤ 2000) (has : ∀ x ∈ asked, x.size ≤ 2000) :
    Calls Tryz.prog 41 #[.agg #[.string a0, .int .i64 a1, .slice A2 rs.length c2, .int .i64 a3, .string a4], .slice A1 kl.length c1, .slice A5 asked.length c5] w fun e w' => e = .returned (.tuple #[.string (missingR (ofR kl) (targetsR rs) asked).1, .bool (missingR (ofR kl) (targetsR rs) asked).2]) ∧ Below w.heap.size w w' := by
  obtain ⟨K, hE⟩ := MissingD_ev a0 a1 rs a3 a4 kl hk hs asked (by omega) (fun x hx => by have := has x hx; omega)
  exact freshetref11_Missing.calls K a0 a1 A2 c2 rs a3 a4 A1 c1 kl A5 c5 asked _ _ w hr hc hK hc1 hA hc5 (hE K (Nat.le_refl _))
end
theorem nextD_any (A1 : Option Addr) (c1 : Nat) (l : List S55) (A2 : Option Addr) (c2 : Nat) (tried : List S55) (w : World) (h1 : Kd.C k55 w A1 l.length l) (hc1 : l.length ≤ c1) (h2 : Kd.C k55 w A2 tried.length tried) (hc2 : tried.length ≤ c2) (hl : l.length ≤ 1000000) (ht : tried.length ≤ 1000000) :
    Calls Tryz.prog 38 #[.slice A1 l.length c1, .slice A2 tried.length c2] w fun e w' => e = .returned (.tuple #[.agg #[.string (nextR l tried).1.f0, .int .i64 (nextR l tried).1.f1], .bool (nextR l tried).2]) ∧ Below w.heap.size w w' := by
  obtain ⟨K, hE⟩ := NextD_ev l tried hl ht
  exact freshetref11_Next.calls K A1 c1 l A2 c2 tried _ _ _ w h1 hc1 h2 hc2 (hE K (Nat.le_refl _))

theorem short_any (A : Option Addr) (c : Nat) (l : List ByteArray) (b : Bool) (w : World) (hC : Kd.C Kd.string w A l.length l) (hc : l.length ≤ c) (he : Ev (fun k => freshetalike_Short.f k l 2000) b) :
    Calls Tryz.prog 31 #[.slice A l.length c, .int .i64 2000] w fun e w' => e = .returned (.bool b) ∧ Below w.heap.size w w' := by
  obtain ⟨K, hK⟩ := he
  refine (freshetalike_Short.calls K A c l 2000 b w hC hc (hK K (Nat.le_refl _))).mono ?_
  rintro e w' ⟨rfl, ⟨n, rfl⟩⟩
  exact ⟨rfl, pw_below_drewN (Below.refl _ _) n⟩
theorem few_any (a0 : ByteArray) (a1 : Int) (A2 : Option Addr) (c2 : Nat) (rs : List S43) (a3 : Int) (a4 : ByteArray) (A : Option Addr) (c : Nat) (l : List S143) (b : Bool) (w : World) (hr : Kd.C k43 w A2 rs.length rs) (hc2 : rs.length ≤ c2) (hC : Kd.C k143 w A l.length l) (hc : l.length ≤ c) (he : Ev (fun k => freshetlaw15_few.f k a0 a1 rs a3 a4 l) b) :
    Calls Tryz.prog 30 #[.agg #[.string a0, .int .i64 a1, .slice A2 rs.length c2, .int .i64 a3, .string a4], .slice A l.length c] w fun e w' => e = .returned (.bool b) ∧ Below w.heap.size w w' := by
  obtain ⟨K, hK⟩ := he
  exact freshetlaw15_few.calls K a0 a1 A2 c2 rs a3 a4 A c l b w hr hc2 hC hc (hK K (Nat.le_refl _))

theorem alikeS (A0 : Option Addr) (c0 : Nat) (A1 : Option Addr) (c1 : Nat) (S : List S55) (w : World) (h0 : Kd.C k55 w A0 S.length S) (hc0 : S.length ≤ c0) (h1 : Kd.C k55 w A1 S.length S) (hc1 : S.length ≤ c1) (hn : S.length ≤ 1000000) :
    Calls Tryz.prog 42 #[.slice A0 S.length c0, .slice A1 S.length c1] w fun e w' => e = .returned (.bool true) ∧ Below w.heap.size w w' := by
  have h := alike_any A0 c0 S A1 c1 S w h0 hc0 h1 hc1 hn
  rw [decide_eq_true rfl] at h
  exact h

attribute [local go_sem high] eqA55
set_option maxRecDepth 100000 in
set_option maxHeartbeats 8000000 in
theorem PickTells_any (a0 : ByteArray) (a1 : Int) (A2 : Option Addr) (c2 : Nat) (rs : List S43) (a3 : Int) (a4 : ByteArray) (A : Option Addr) (c : Nat) (l : List S143) (A3 : Option Addr) (c3 : Nat) (tried : List S55) (A4 : Option Addr) (c4 : Nat) (asked : List ByteArray) (w : World)
    (hr : Kd.C k43 w A2 rs.length rs) (hc2 : rs.length ≤ c2) (hC : Kd.C k143 w A l.length l) (hc : l.length ≤ c) (hT : Kd.C k55 w A3 tried.length tried) (hc3 : tried.length ≤ c3) (hA : Kd.C Kd.string w A4 asked.length asked) (hc4 : asked.length ≤ c4) :
    Calls Tryz.prog 7 #[.agg #[.string a0, .int .i64 a1, .slice A2 rs.length c2, .int .i64 a3, .string a4], .slice A l.length c, .slice A3 tried.length c3, .slice A4 asked.length c4] w fun e w' => e = .returned (.bool true) ∧ Below w.heap.size w w' := by
  obtain ⟨bf, hf, hft⟩ := few_ev a0 a1 rs a3 a4 l hC.2.1 hr.2.1
  obtain ⟨bs, hs, hst⟩ := Short_ev asked hA.2.1
  have htm : tried.length ≤ 9223372036854775807 := hT.2.1
  have HR0 := Aside0.mk hr
  have HC0 := Aside0.mk hC
  have HT0 := Aside0.mk hT
  have HA0 := Aside0.mk hA
  have HFEW := Aside0.mk (fun (W : World) (hb : Below w.heap.size w W) => few_any a0 a1 A2 c2 rs a3 a4 A c l bf W (Kd.C_below hr hb) hc2 (Kd.C_below hC hb) hc hf)
  have HSHORT := Aside0.mk (fun (W : World) (hb : Below w.heap.size w W) => short_any A4 c4 asked bs W (Kd.C_below hA hb) hc4 hs)
  have HFT := Aside0.mk hft
  have HST := Aside0.mk hst
  have HL2 := Aside0.mk hc2
  have HL := Aside0.mk hc
  have HL3 := Aside0.mk hc3
  have HL4 := Aside0.mk hc4
  clear hr hC hT hA hf hs hft hst hc2 hc hc3 hc4
  have hu63 := Tryz.underlying63
  have hu55 := Tryz.underlying55
  go_enter Tryz.func7, Tryz.ntmps7
  go_wp2_with fail
  have HB1 := Aside0.mk (below_alloc (below_alloc (Below.refl w.heap.size w) (.cells #[.string a0, .int .i64 a1, .slice A2 rs.length c2, .int .i64 a3, .string a4] 63 (0, 0))) (.cells #[.slice A l.length c] 64 (0, 0)))
  have HX4 := Aside0.mk (show ((w.alloc (.cells #[.string a0, .int .i64 a1, .slice A2 rs.length c2, .int .i64 a3, .string a4] 63 (0, 0))).alloc (.cells #[.slice A l.length c] 64 (0, 0))).heap[w.heap.size]? = some (.cells #[.string a0, .int .i64 a1, .slice A2 rs.length c2, .int .i64 a3, .string a4] 63 (0, 0)) from heap_alloc_t _ (alloc_block w _))
  have HX5 := Aside0.mk (show ((w.alloc (.cells #[.string a0, .int .i64 a1, .slice A2 rs.length c2, .int .i64 a3, .string a4] 63 (0, 0))).alloc (.cells #[.slice A l.length c] 64 (0, 0))).heap[w.heap.size + 1]? = some (.cells #[.slice A l.length c] 64 (0, 0)) from by
    rw [← World.size_alloc w (.cells #[.string a0, .int .i64 a1, .slice A2 rs.length c2, .int .i64 a3, .string a4] 63 (0, 0))]
    exact alloc_block _ _)
  generalize (w.alloc (.cells #[.string a0, .int .i64 a1, .slice A2 rs.length c2, .int .i64 a3, .string a4] 63 (0, 0))).alloc (.cells #[.slice A l.length c] 64 (0, 0)) = w1 at HB1 HX4 HX5 ⊢
  have hb4 : w.heap.size < w1.heap.size := blk_lt HX4.out
  have hb5 : w.heap.size + 1 < w1.heap.size := blk_lt HX5.out
  have hfew := HFEW.out w1 HB1.out
  cases bf with
  | false =>
    refine hfew.mono ?_
    clear hfew HFEW HSHORT
    rintro e w2 ⟨rfl, hb2⟩
    go_wp2_with (first | (go_at_call 32; refine (awake_any _).mono ?_; rintro e w9 ⟨rfl, hb9⟩))
    go_ret
    exact ⟨rfl, (HB1.out.trans (hb2.mono HB1.out.size)).trans (hb9.mono (HB1.out.trans (hb2.mono HB1.out.size)).size)⟩
  | true =>
    by_cases h40 : 40 < tried.length
    · refine hfew.mono ?_
      clear hfew HFEW HSHORT
      rintro e w2 ⟨rfl, hb2⟩
      go_wp2_with (first | (go_at_call 32; refine (awake_any _).mono ?_; rintro e w9 ⟨rfl, hb9⟩))
      go_ret
      exact ⟨rfl, (HB1.out.trans (hb2.mono HB1.out.size)).trans (hb9.mono (HB1.out.trans (hb2.mono HB1.out.size)).size)⟩
    · cases bs with
      | false =>
        refine hfew.mono ?_
        clear hfew HFEW
        rintro e w2 ⟨rfl, hb2⟩
        have HB2 := Aside0.mk (HB1.out.trans (hb2.mono HB1.out.size))
        have hsh := HSHORT.out w2 HB2.out
        clear hb2 HSHORT
        go_wp2_with (first | (go_at_call 31; refine hsh.mono ?_; rintro e w3 ⟨rfl, hb3⟩) | (go_at_call 32; refine (awake_any _).mono ?_; rintro e w9 ⟨rfl, hb9⟩))
        go_ret
        exact ⟨rfl, (HB2.out.trans (hb3.mono HB2.out.size)).trans (hb9.mono (HB2.out.trans (hb3.mono HB2.out.size)).size)⟩
      | true =>
        obtain ⟨hk, hl30, hss⟩ := HFT.out rfl
        obtain ⟨ha2, has⟩ := HST.out rfl
        have HK := Aside0.mk hk
        have HSS := Aside0.mk hss
        have HAS := Aside0.mk has
        have ht40 : tried.length ≤ 40 := by omega
        clear hk hss has HFT HST
        refine hfew.mono ?_
        clear hfew HFEW
        rintro e w2 ⟨rfl, hb2⟩
        have HB2 := Aside0.mk (HB1.out.trans (hb2.mono HB1.out.size))
        have hsh := HSHORT.out w2 HB2.out
        go_wp2_with fail
        refine hsh.mono ?_
        clear hsh HSHORT
        rintro e w3 ⟨rfl, hb3⟩
        have HB3 := Aside0.mk (HB2.out.trans (hb3.mono HB2.out.size))
        have HQ3 := Aside0.mk (hb2.trans (hb3.mono hb2.size))
        have HY4 := Aside0.mk ((HQ3.out.block _ hb4).trans HX4.out)
        have HY5 := Aside0.mk ((HQ3.out.block _ hb5).trans HX5.out)
        have hl4 : w.heap.size < w3.heap.size := blk_lt HY4.out
        have hl5 : w.heap.size + 1 < w3.heap.size := blk_lt HY5.out
        have HR := Aside0.mk (Kd.C_below HR0.out HB3.out)
        have HC := Aside0.mk (Kd.C_below HC0.out HB3.out)
        have HT := Aside0.mk (Kd.C_below HT0.out HB3.out)
        have HA := Aside0.mk (Kd.C_below HA0.out HB3.out)
        clear hb2 hb3 HX4 HX5 hb4 hb5 HQ3 HB1 HB2 HR0 HC0 HT0 HA0
        generalize hgb : w.heap.size = b at HY4 HY5 hl4 hl5 ⊢
        have HGB := Aside0.mk hgb
        clear hgb
        have HTELL := Aside0.mk (fun (W : World) (hb : Below w3.heap.size w3 W) => show TellAt (.func (.func 33) #[] #[.pointer (some ⟨b + 1, 0, none⟩)]) (ofR (conv l)) W from
          .inr ⟨33, #[.pointer (some ⟨b + 1, 0, none⟩)], rfl, enters_of Tryz.func33 (by kernel_rfl) rfl, fun W2 hbb s hg => by
            have hb' := hb.trans (hbb.mono hb.size)
            exact tell1_any (b + 1) A c l s W2 (cell_of_heap (i := 0) ((hb'.block _ hl5).trans HY5.out) rfl) (Kd.C_below HC.out hb') HL.out HK.out hl30 (by have := good_size hg; omega)⟩)
        have HTL := Aside0.mk (fun n => show (ofR (conv l) n).length ≤ 1000 from by have := ofR_length HK.out n; omega)
        have HSERV := Aside0.mk (fun (W : World) (hb : Below w3.heap.size w3 W) => Servers_tell _ (ofR (conv l)) HTL.out a0 a1 A2 c2 rs a3 a4 W (Kd.C_below HR.out hb) HL2.out (HTELL.out W hb) HSS.out)
        have HMISS := Aside0.mk (fun (W : World) (hb : Below w3.heap.size w3 W) => Missing_tell _ (ofR (conv l)) HTL.out a0 a1 A2 c2 rs a3 a4 A4 c4 asked W (Kd.C_below HR.out hb) HL2.out (Kd.C_below HA.out hb) (fun x hx => by have := HAS.out x hx; omega) (HTELL.out W hb) HSS.out)
        have HKN := Aside0.mk (fun (W : World) (hb : Below w3.heap.size w3 W) => known_any A c l W (Kd.C_below HC.out hb) HL.out (by omega))
        have HSD := Aside0.mk (fun (W : World) (hb : Below w3.heap.size w3 W) (A1 : Option Addr) (c1 : Nat) (hK : Kd.C k147 W A1 (conv l).length (conv l)) (hc1 : (conv l).length ≤ c1) => servD_any a0 a1 A2 c2 rs a3 a4 (conv l) HK.out HSS.out A1 c1 W (Kd.C_below HR.out hb) HL2.out hK hc1)
        have HMD := Aside0.mk (fun (W : World) (hb : Below w3.heap.size w3 W) (A1 : Option Addr) (c1 : Nat) (hK : Kd.C k147 W A1 (conv l).length (conv l)) (hc1 : (conv l).length ≤ c1) => missD_any a0 a1 A2 c2 rs a3 a4 (conv l) HK.out HSS.out A1 c1 A4 c4 asked W (Kd.C_below HR.out hb) HL2.out hK hc1 (Kd.C_below HA.out hb) HL4.out ha2 HAS.out)
        have HSL := Aside0.mk (show (serversR (ofR (conv l)) (targetsR rs)).length ≤ 1000000 from by
          have h1 := serversR_length (ofR (conv l)) (targetsR rs) (fun n _ => HTL.out n)
          have h2 := targetsR_length rs
          have h3 := HSS.out.1
          omega)
        generalize serversR (ofR (conv l)) (targetsR rs) = S at HSERV HSD HSL
        generalize missingR (ofR (conv l)) (targetsR rs) asked = ms at HMISS HMD
        generalize conv l = kl at HKN HSD HMD
        clear HTELL HTL HR HC HA HK HSS HAS HL2 HL
        have hx := box5 HY4.out
        obtain ⟨hk0, hk1, hk2, hk3, hk4⟩ := hx
        have hk5 : w3.cell? ⟨b + 1, 0, none⟩ = some (.slice A l.length c) := cell_of_heap (i := 0) HY5.out rfl
        go_wp2_with fail
        refine (HSERV.out w3 (Below.refl _ _)).mono ?_
        rintro e w4 ⟨v9, rfl, hS, hb4⟩
        obtain ⟨A9, c9, hv9⟩ := Kd.R_slice hS
        subst hv9
        have HS4 := Aside0.mk (Kd.R_reads' hS).2.2
        have HSC := Aside0.mk (Kd.R_reads' hS).2.1
        have hnx := Next_any A9 c9 S A3 c3 tried w4 HS4.out (Kd.C_below HT.out hb4)
        have HND := Aside0.mk (fun (W : World) (hb : Below w3.heap.size w3 W) (A1 : Option Addr) (c1 : Nat) (hK : Kd.C k55 W A1 S.length S) (hc1 : S.length ≤ c1) => nextD_any A1 c1 S A3 c3 tried W hK hc1 (Kd.C_below HT.out hb) HL3.out HSL.out (by omega))
        generalize nextR S tried = nx at hnx HND
        clear hS
        go_wp2_with fail
        refine hnx.mono ?_
        clear hnx
        rintro e w5 ⟨rfl, hb5⟩
        have HB5 := Aside0.mk (hb4.trans (hb5.mono hb4.size))
        have HS5 := Aside0.mk (Kd.C_below HS4.out hb5)
        clear hb4 hb5 HS4
        go_upto_region 6 with fail
        have HX11 := Aside0.mk (alloc_block w5 (.cells #[.string nx.1.f0, .int .i64 nx.1.f1] 55 (0, 0)))
        have HB6 := Aside0.mk (below_alloc HB5.out (.cells #[.string nx.1.f0, .int .i64 nx.1.f1] 55 (0, 0)))
        have HS6 := Aside0.mk (Kd.C_alloc HS5.out (.cells #[.string nx.1.f0, .int .i64 nx.1.f1] 55 (0, 0)))
        generalize w5.alloc (.cells #[.string nx.1.f0, .int .i64 nx.1.f1] 55 (0, 0)) = w6 at HX11 HB6 HS6 ⊢
        generalize w5.heap.size = g11 at HX11 ⊢
        have hl11 : g11 < w6.heap.size := blk_lt HX11.out
        clear HB5 HS5 hk0 hk1 hk2 hk3 hk4 hk5
        have hx := box5 ((HB6.out.block _ hl4).trans HY4.out)
        obtain ⟨hk0, hk1, hk2, hk3, hk4⟩ := hx
        have hk5 : w6.cell? ⟨b + 1, 0, none⟩ = some (.slice A l.length c) := cell_of_heap (i := 0) ((HB6.out.block _ hl5).trans HY5.out) rfl
        have hm0 := World.new_ne w6 _ hk0
        have hm5 := World.new_ne w6 _ hk5
        go_cut [13, 14] (fun v13 v14 wx => ∃ g : Nat, v13 = .pointer (some ⟨g, 0, none⟩) ∧ v14 = .bool nx.2 ∧ Aside0 (wx.heap[g]? = some (.cells #[.string nx.1.f0, .int .i64 nx.1.f1] 55 (0, 0))) ∧ Aside0 (Below w6.heap.size w6 wx))
        case first =>
          go_region_held3 (fun w' => w'.cell? ⟨b, 0, none⟩ = some (.string a0) ∧ w'.cell? ⟨b, 1, none⟩ = some (.int .i64 a1) ∧ w'.cell? ⟨b, 2, none⟩ = some (.slice A2 rs.length c2) ∧ w'.cell? ⟨b, 3, none⟩ = some (.int .i64 a3) ∧ w'.cell? ⟨b, 4, none⟩ = some (.string a4) ∧ w'.cell? ⟨b + 1, 0, none⟩ = some (.slice A l.length c))
            (first | exact ⟨hd0, hd1, hd2, hd3, hd4, hd5⟩ | go_keep)
            (first
              | (go_at_call 35; refine (HKN.out _ (belowB' HB6.out (by repeat (first | exact Below.refl _ _ | apply below_alloc | apply below_drew1)))).mono ?_; rintro e w7 ⟨A7, c7, rfl, hc7, hC7, hbF⟩; have hd0 := cellB hbF (by repeat (first | exact Below.refl _ _ | apply below_alloc | apply below_drew1)) hk0; have hd1 := cellB hbF (by repeat (first | exact Below.refl _ _ | apply below_alloc | apply below_drew1)) hk1; have hd2 := cellB hbF (by repeat (first | exact Below.refl _ _ | apply below_alloc | apply below_drew1)) hk2; have hd3 := cellB hbF (by repeat (first | exact Below.refl _ _ | apply below_alloc | apply below_drew1)) hk3; have hd4 := cellB hbF (by repeat (first | exact Below.refl _ _ | apply below_alloc | apply below_drew1)) hk4; have hd5 := cellB hbF (by repeat (first | exact Below.refl _ _ | apply below_alloc | apply below_drew1)) hk5; have hn0 := World.new_ne _ _ hd0; have hn5 := World.new_ne _ _ hd5; have HQ7 := Aside0.mk (show Below w6.heap.size w6 _ from belowB hbF (by repeat (first | exact Below.refl _ _ | apply below_alloc | apply below_drew1))); (try (have hg1 := (hbF.block _ (alloc_lt _ _)).trans (alloc_block _ _); have hx0 := cell_of_heap (i := 0) hg1 rfl; have hx1 := cell_of_heap (i := 1) hg1 rfl; have hf0 := frozen_of_heap (i := 0) hg1; have hf1 := frozen_of_heap (i := 1) hg1; have HG1 := Aside0.mk hg1; clear hg1)); clear hbF)
              | (go_at_call 39; refine (HSD.out _ (belowB' HB6.out (by repeat (first | exact HQ7.out | apply below_alloc | apply below_drew1))) A7 c7 (by repeat (first | exact hC7 | apply Kd.C_alloc | apply Kd.C_drew)) hc7).mono ?_; rintro e w8 ⟨A8, c8, rfl, hc8, hC8, hbF⟩; have hd0 := cellB hbF (by repeat (first | exact HQ7.out | apply below_alloc | apply below_drew1)) hk0; have hd1 := cellB hbF (by repeat (first | exact HQ7.out | apply below_alloc | apply below_drew1)) hk1; have hd2 := cellB hbF (by repeat (first | exact HQ7.out | apply below_alloc | apply below_drew1)) hk2; have hd3 := cellB hbF (by repeat (first | exact HQ7.out | apply below_alloc | apply below_drew1)) hk3; have hd4 := cellB hbF (by repeat (first | exact HQ7.out | apply below_alloc | apply below_drew1)) hk4; have hd5 := cellB hbF (by repeat (first | exact HQ7.out | apply below_alloc | apply below_drew1)) hk5; have hn0 := World.new_ne _ _ hd0; have hn5 := World.new_ne _ _ hd5; have HQ8 := Aside0.mk (show Below w6.heap.size w6 _ from belowB hbF (by repeat (first | exact HQ7.out | apply below_alloc | apply below_drew1))); (first | (have hg1 := (hbF.block _ (alloc_lt _ _)).trans (alloc_block _ _); have hx0 := cell_of_heap (i := 0) hg1 rfl; have hx1 := cell_of_heap (i := 1) hg1 rfl; have hf0 := frozen_of_heap (i := 0) hg1; have hf1 := frozen_of_heap (i := 1) hg1; have HG1 := Aside0.mk hg1; clear hg1) | (have hg1 := (hbF.block _ (blk_lt HG1.out)).trans HG1.out; have hx0 := cell_of_heap (i := 0) hg1 rfl; have hx1 := cell_of_heap (i := 1) hg1 rfl; have hf0 := frozen_of_heap (i := 0) hg1; have hf1 := frozen_of_heap (i := 1) hg1; have HG1 := Aside0.mk hg1; clear hg1) | skip); clear hbF)
              | (go_at_call 38; refine (HND.out _ (belowB' HB6.out (by repeat (first | exact HQ8.out | apply below_alloc | apply below_drew1))) A8 c8 (by repeat (first | exact hC8 | apply Kd.C_alloc | apply Kd.C_drew)) hc8).mono ?_; rintro e w9 ⟨rfl, hbF⟩; have hd0 := cellB hbF (by repeat (first | exact HQ8.out | apply below_alloc | apply below_drew1)) hk0; have hd1 := cellB hbF (by repeat (first | exact HQ8.out | apply below_alloc | apply below_drew1)) hk1; have hd2 := cellB hbF (by repeat (first | exact HQ8.out | apply below_alloc | apply below_drew1)) hk2; have hd3 := cellB hbF (by repeat (first | exact HQ8.out | apply below_alloc | apply below_drew1)) hk3; have hd4 := cellB hbF (by repeat (first | exact HQ8.out | apply below_alloc | apply below_drew1)) hk4; have hd5 := cellB hbF (by repeat (first | exact HQ8.out | apply below_alloc | apply below_drew1)) hk5; have hn0 := World.new_ne _ _ hd0; have hn5 := World.new_ne _ _ hd5; have HQ9 := Aside0.mk (show Below w6.heap.size w6 _ from belowB hbF (by repeat (first | exact HQ8.out | apply below_alloc | apply below_drew1))); (first | (have hg1 := (hbF.block _ (alloc_lt _ _)).trans (alloc_block _ _); have hx0 := cell_of_heap (i := 0) hg1 rfl; have hx1 := cell_of_heap (i := 1) hg1 rfl; have hf0 := frozen_of_heap (i := 0) hg1; have hf1 := frozen_of_heap (i := 1) hg1; have HG1 := Aside0.mk hg1; clear hg1) | (have hg1 := (hbF.block _ (blk_lt HG1.out)).trans HG1.out; have hx0 := cell_of_heap (i := 0) hg1 rfl; have hx1 := cell_of_heap (i := 1) hg1 rfl; have hf0 := frozen_of_heap (i := 0) hg1; have hf1 := frozen_of_heap (i := 1) hg1; have HG1 := Aside0.mk hg1; clear hg1) | skip); clear hbF))
          all_goals go_wp2_with fail
          all_goals go_meet
          all_goals (first | exact ⟨_, rfl, rfl, ⟨alloc_block _ _⟩, ⟨below_alloc HQ9.out _⟩⟩ | exact ⟨_, rfl, rfl, ⟨blk_put (blk_put HG1.out 0 _ rfl) 1 _ rfl⟩, ⟨(HQ9.out.setCell HQ8.out.size _).setCell HQ8.out.size _⟩⟩ | exact ⟨_, rfl, rfl, ⟨blk_put (blk_put HG1.out 0 _ rfl) 1 _ rfl⟩, ⟨(HQ9.out.setCell HQ7.out.size _).setCell HQ7.out.size _⟩⟩ | exact ⟨_, rfl, rfl, ⟨blk_put (blk_put HG1.out 0 _ rfl) 1 _ rfl⟩, ⟨(HQ9.out.setCell (Nat.le_refl _) _).setCell (Nat.le_refl _) _⟩⟩)
        case rest =>
          obtain ⟨g13, rfl, rfl, HX13, HBX⟩ := hcut
          generalize hwc : wc = w7 at HX13 HBX ⊢
          have HX11b := Aside0.mk ((HBX.out.block _ hl11).trans HX11.out)
          have HB7 := Aside0.mk (HB6.out.trans (HBX.out.mono HB6.out.size))
          have HS7 := Aside0.mk (Kd.C_below HS6.out HBX.out)
          have hl11 : g11 < w7.heap.size := blk_lt HX11b.out
          have hl13 : g13 < w7.heap.size := blk_lt HX13.out
          clear hwc HX11 HB6 HS6 HBX hk0 hk1 hk2 hk3 hk4 hk5 hm0 hm5
          have hx := box5 ((HB7.out.block _ hl4).trans HY4.out)
          obtain ⟨hk0, hk1, hk2, hk3, hk4⟩ := hx
          have hk5 : w7.cell? ⟨b + 1, 0, none⟩ = some (.slice A l.length c) := cell_of_heap (i := 0) ((HB7.out.block _ hl5).trans HY5.out) rfl
          go_wp2_with fail
          refine (HMISS.out w7 HB7.out).mono ?_
          rintro e w8 ⟨rfl, hb8⟩
          have HB8 := Aside0.mk (HB7.out.trans (hb8.mono HB7.out.size))
          have HS8 := Aside0.mk (Kd.C_below HS7.out hb8)
          have HY11 := Aside0.mk ((hb8.block _ hl11).trans HX11b.out)
          have HY13 := Aside0.mk ((hb8.block _ hl13).trans HX13.out)
          clear hb8 HS7 HX11b HX13 hl11 hl13 hk0 hk1 hk2 hk3 hk4 hk5 HMISS HSERV
          go_upto_region 8 with fail
          generalize hwa : w8 = wa at HB8 HS8 HY11 HY13 ⊢
          have HBA := Aside0.mk HB8.out
          have hl11 : g11 < wa.heap.size := blk_lt HY11.out
          have hl13 : g13 < wa.heap.size := blk_lt HY13.out
          clear hwa HB7
          have hx := box5 ((HBA.out.block _ hl4).trans HY4.out)
          obtain ⟨hk0, hk1, hk2, hk3, hk4⟩ := hx
          have hk5 : wa.cell? ⟨b + 1, 0, none⟩ = some (.slice A l.length c) := cell_of_heap (i := 0) ((HBA.out.block _ hl5).trans HY5.out) rfl
          go_cut [17, 18] (fun v17 v18 wx => v17 = .string ms.1 ∧ v18 = .bool ms.2 ∧ Aside0 (Below wa.heap.size wa wx))
          case first =>
            go_region_held3 (fun w' => w'.cell? ⟨b, 0, none⟩ = some (.string a0) ∧ w'.cell? ⟨b, 1, none⟩ = some (.int .i64 a1) ∧ w'.cell? ⟨b, 2, none⟩ = some (.slice A2 rs.length c2) ∧ w'.cell? ⟨b, 3, none⟩ = some (.int .i64 a3) ∧ w'.cell? ⟨b, 4, none⟩ = some (.string a4) ∧ w'.cell? ⟨b + 1, 0, none⟩ = some (.slice A l.length c))
              (first | exact ⟨hd0, hd1, hd2, hd3, hd4, hd5⟩ | go_keep)
            (first
              | (go_at_call 35; refine (HKN.out _ (belowB' HBA.out (by repeat (first | exact Below.refl _ _ | apply below_alloc | apply below_drew1)))).mono ?_; rintro e wb ⟨A7, c7, rfl, hc7, hC7, hbF⟩; have hd0 := cellB hbF (by repeat (first | exact Below.refl _ _ | apply below_alloc | apply below_drew1)) hk0; have hd1 := cellB hbF (by repeat (first | exact Below.refl _ _ | apply below_alloc | apply below_drew1)) hk1; have hd2 := cellB hbF (by repeat (first | exact Below.refl _ _ | apply below_alloc | apply below_drew1)) hk2; have hd3 := cellB hbF (by repeat (first | exact Below.refl _ _ | apply below_alloc | apply below_drew1)) hk3; have hd4 := cellB hbF (by repeat (first | exact Below.refl _ _ | apply below_alloc | apply below_drew1)) hk4; have hd5 := cellB hbF (by repeat (first | exact Below.refl _ _ | apply below_alloc | apply below_drew1)) hk5; have hn0 := World.new_ne _ _ hd0; have hn5 := World.new_ne _ _ hd5; have HQ7 := Aside0.mk (show Below wa.heap.size wa _ from belowB hbF (by repeat (first | exact Below.refl _ _ | apply below_alloc | apply below_drew1))); clear hbF)
              | (go_at_call 41; refine (HMD.out _ (belowB' HBA.out (by repeat (first | exact HQ7.out | apply below_alloc | apply below_drew1))) A7 c7 (by repeat (first | exact hC7 | apply Kd.C_alloc | apply Kd.C_drew)) hc7).mono ?_; rintro e wd ⟨rfl, hbF⟩; have hd0 := cellB hbF (by repeat (first | exact HQ7.out | apply below_alloc | apply below_drew1)) hk0; have hd1 := cellB hbF (by repeat (first | exact HQ7.out | apply below_alloc | apply below_drew1)) hk1; have hd2 := cellB hbF (by repeat (first | exact HQ7.out | apply below_alloc | apply below_drew1)) hk2; have hd3 := cellB hbF (by repeat (first | exact HQ7.out | apply below_alloc | apply below_drew1)) hk3; have hd4 := cellB hbF (by repeat (first | exact HQ7.out | apply below_alloc | apply below_drew1)) hk4; have hd5 := cellB hbF (by repeat (first | exact HQ7.out | apply below_alloc | apply below_drew1)) hk5; have hn0 := World.new_ne _ _ hd0; have hn5 := World.new_ne _ _ hd5; have HQ8 := Aside0.mk (show Below wa.heap.size wa _ from belowB hbF (by repeat (first | exact HQ7.out | apply below_alloc | apply below_drew1))); clear hbF))
            all_goals go_wp2_with fail
            all_goals go_meet
            all_goals exact ⟨rfl, rfl, HQ8⟩
          case rest =>
            obtain ⟨rfl, rfl, HBX⟩ := hcut
            generalize hwc : wc = wb at HBX ⊢
            have HBB := Aside0.mk (HBA.out.trans (HBX.out.mono HBA.out.size))
            have HS9 := Aside0.mk (Kd.C_below HS8.out HBX.out)
            have hx := box5 ((HBB.out.block _ hl4).trans HY4.out)
            obtain ⟨k0, k1, k2, k3, k4⟩ := hx
            have k5 : wb.cell? ⟨b + 1, 0, none⟩ = some (.slice A l.length c) := cell_of_heap (i := 0) ((HBB.out.block _ hl5).trans HY5.out) rfl
            have k6 : wb.cell? ⟨g11, 0, none⟩ = some (.string nx.1.f0) := cell_of_heap (i := 0) ((HBX.out.block _ hl11).trans HY11.out) rfl
            have k7 : wb.cell? ⟨g11, 1, none⟩ = some (.int .i64 nx.1.f1) := cell_of_heap (i := 1) ((HBX.out.block _ hl11).trans HY11.out) rfl
            have k8 : wb.cell? ⟨g13, 0, none⟩ = some (.string nx.1.f0) := cell_of_heap (i := 0) ((HBX.out.block _ hl13).trans HY13.out) rfl
            have k9 : wb.cell? ⟨g13, 1, none⟩ = some (.int .i64 nx.1.f1) := cell_of_heap (i := 1) ((HBX.out.block _ hl13).trans HY13.out) rfl
            clear hwc hk0 hk1 hk2 hk3 hk4 hk5
            have hk0 := k0
            have hk1 := k1
            have hk2 := k2
            have hk3 := k3
            have hk4 := k4
            have hk5 := k5
            have hk6 := k6
            have hk7 := k7
            have hk8 := k8
            have hk9 := k9
            clear k0 k1 k2 k3 k4 k5 k6 k7 k8 k9 HMD HND
            have hq1 : (nx.1.f0.toList == nx.1.f0.toList) = true := by simp
            have hq2 : (nx.1.f1 == nx.1.f1) = true := by simp
            have hq3 : (nx.2 == nx.2) = true := by simp
            have hq4 : (ms.1.toList == ms.1.toList) = true := by simp
            have hq5 : (ms.2 == ms.2) = true := by simp
            go_wp2_with fail
            go_region_held3 (fun w' => w'.cell? ⟨b, 0, none⟩ = some (.string a0) ∧ w'.cell? ⟨b, 1, none⟩ = some (.int .i64 a1) ∧ w'.cell? ⟨b, 2, none⟩ = some (.slice A2 rs.length c2) ∧ w'.cell? ⟨b, 3, none⟩ = some (.int .i64 a3) ∧ w'.cell? ⟨b, 4, none⟩ = some (.string a4) ∧ w'.cell? ⟨b + 1, 0, none⟩ = some (.slice A l.length c) ∧ w'.cell? ⟨g11, 0, none⟩ = some (.string nx.1.f0) ∧ w'.cell? ⟨g11, 1, none⟩ = some (.int .i64 nx.1.f1) ∧ w'.cell? ⟨g13, 0, none⟩ = some (.string nx.1.f0) ∧ w'.cell? ⟨g13, 1, none⟩ = some (.int .i64 nx.1.f1))
              (first | exact ⟨hd0, hd1, hd2, hd3, hd4, hd5, hd6, hd7, hd8, hd9⟩ | go_keep)
              (first
                | (go_at_call 35; refine (HKN.out _ (belowB' HBB.out (by repeat (first | exact Below.refl _ _ | apply below_alloc | apply below_drew1)))).mono ?_; rintro e wd ⟨A7, c7, rfl, hc7, hC7, hbF⟩; have hd0 := cellB hbF (by repeat (first | exact Below.refl _ _ | apply below_alloc | apply below_drew1)) hk0; have hd1 := cellB hbF (by repeat (first | exact Below.refl _ _ | apply below_alloc | apply below_drew1)) hk1; have hd2 := cellB hbF (by repeat (first | exact Below.refl _ _ | apply below_alloc | apply below_drew1)) hk2; have hd3 := cellB hbF (by repeat (first | exact Below.refl _ _ | apply below_alloc | apply below_drew1)) hk3; have hd4 := cellB hbF (by repeat (first | exact Below.refl _ _ | apply below_alloc | apply below_drew1)) hk4; have hd5 := cellB hbF (by repeat (first | exact Below.refl _ _ | apply below_alloc | apply below_drew1)) hk5; have hd6 := cellB hbF (by repeat (first | exact Below.refl _ _ | apply below_alloc | apply below_drew1)) hk6; have hd7 := cellB hbF (by repeat (first | exact Below.refl _ _ | apply below_alloc | apply below_drew1)) hk7; have hd8 := cellB hbF (by repeat (first | exact Below.refl _ _ | apply below_alloc | apply below_drew1)) hk8; have hd9 := cellB hbF (by repeat (first | exact Below.refl _ _ | apply below_alloc | apply below_drew1)) hk9; have HQ7 := Aside0.mk (show Below wb.heap.size wb _ from belowB hbF (by repeat (first | exact Below.refl _ _ | apply below_alloc | apply below_drew1))); clear hbF)
                | (go_at_call 39; refine (HSD.out _ (belowB' HBB.out (by repeat (first | exact HQ7.out | apply below_alloc | apply below_drew1))) A7 c7 (by repeat (first | exact hC7 | apply Kd.C_alloc | apply Kd.C_drew)) hc7).mono ?_; rintro e we ⟨A8, c8, rfl, hc8, hC8, hbF⟩; have hd0 := cellB hbF (by repeat (first | exact HQ7.out | apply below_alloc | apply below_drew1)) hk0; have hd1 := cellB hbF (by repeat (first | exact HQ7.out | apply below_alloc | apply below_drew1)) hk1; have hd2 := cellB hbF (by repeat (first | exact HQ7.out | apply below_alloc | apply below_drew1)) hk2; have hd3 := cellB hbF (by repeat (first | exact HQ7.out | apply below_alloc | apply below_drew1)) hk3; have hd4 := cellB hbF (by repeat (first | exact HQ7.out | apply below_alloc | apply below_drew1)) hk4; have hd5 := cellB hbF (by repeat (first | exact HQ7.out | apply below_alloc | apply below_drew1)) hk5; have hd6 := cellB hbF (by repeat (first | exact HQ7.out | apply below_alloc | apply below_drew1)) hk6; have hd7 := cellB hbF (by repeat (first | exact HQ7.out | apply below_alloc | apply below_drew1)) hk7; have hd8 := cellB hbF (by repeat (first | exact HQ7.out | apply below_alloc | apply below_drew1)) hk8; have hd9 := cellB hbF (by repeat (first | exact HQ7.out | apply below_alloc | apply below_drew1)) hk9; have HQ8 := Aside0.mk (show Below wb.heap.size wb _ from belowB hbF (by repeat (first | exact HQ7.out | apply below_alloc | apply below_drew1))); clear hbF)
                | (go_at_call 42; refine (alikeS A9 c9 A8 c8 S _ (Kd.C_below HS9.out (by repeat (first | exact HQ8.out | apply below_alloc | apply below_drew1))) HSC.out (by repeat (first | exact hC8 | apply Kd.C_alloc | apply Kd.C_drew)) hc8 HSL.out).mono ?_; rintro e wf ⟨rfl, hbF⟩; have hd0 := cellB hbF (by repeat (first | exact HQ8.out | apply below_alloc | apply below_drew1)) hk0; have hd1 := cellB hbF (by repeat (first | exact HQ8.out | apply below_alloc | apply below_drew1)) hk1; have hd2 := cellB hbF (by repeat (first | exact HQ8.out | apply below_alloc | apply below_drew1)) hk2; have hd3 := cellB hbF (by repeat (first | exact HQ8.out | apply below_alloc | apply below_drew1)) hk3; have hd4 := cellB hbF (by repeat (first | exact HQ8.out | apply below_alloc | apply below_drew1)) hk4; have hd5 := cellB hbF (by repeat (first | exact HQ8.out | apply below_alloc | apply below_drew1)) hk5; have hd6 := cellB hbF (by repeat (first | exact HQ8.out | apply below_alloc | apply below_drew1)) hk6; have hd7 := cellB hbF (by repeat (first | exact HQ8.out | apply below_alloc | apply below_drew1)) hk7; have hd8 := cellB hbF (by repeat (first | exact HQ8.out | apply below_alloc | apply below_drew1)) hk8; have hd9 := cellB hbF (by repeat (first | exact HQ8.out | apply below_alloc | apply below_drew1)) hk9; have HQ9 := Aside0.mk (show Below wb.heap.size wb _ from belowB hbF (by repeat (first | exact HQ8.out | apply below_alloc | apply below_drew1))); clear hbF)
                | (go_at_call 32; refine (awake_any _).mono ?_; rintro e wg ⟨rfl, hbF⟩; have hd0 := cellB hbF (by repeat (first | exact HQ9.out | apply below_alloc | apply below_drew1)) hk0; have hd1 := cellB hbF (by repeat (first | exact HQ9.out | apply below_alloc | apply below_drew1)) hk1; have hd2 := cellB hbF (by repeat (first | exact HQ9.out | apply below_alloc | apply below_drew1)) hk2; have hd3 := cellB hbF (by repeat (first | exact HQ9.out | apply below_alloc | apply below_drew1)) hk3; have hd4 := cellB hbF (by repeat (first | exact HQ9.out | apply below_alloc | apply below_drew1)) hk4; have hd5 := cellB hbF (by repeat (first | exact HQ9.out | apply below_alloc | apply below_drew1)) hk5; have hd6 := cellB hbF (by repeat (first | exact HQ9.out | apply below_alloc | apply below_drew1)) hk6; have hd7 := cellB hbF (by repeat (first | exact HQ9.out | apply below_alloc | apply below_drew1)) hk7; have hd8 := cellB hbF (by repeat (first | exact HQ9.out | apply below_alloc | apply below_drew1)) hk8; have hd9 := cellB hbF (by repeat (first | exact HQ9.out | apply below_alloc | apply below_drew1)) hk9; have HQA := Aside0.mk (show Below wb.heap.size wb _ from belowB hbF (by repeat (first | exact HQ9.out | apply below_alloc | apply below_drew1))); clear hbF))
            all_goals go_wp2_with fail
            go_ret
            have hq := belowB' HBB.out HQA.out
            exact ⟨rfl, HB3.out.trans (hq.mono HB3.out.size)⟩
end Go.Proofs.YtjiheepiobffkaaGreat.Fr
