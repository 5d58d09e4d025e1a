/-
  The law PickMissing: the walk.
-/
import Derived.Test.YtjiheepiobffkaaMissing
namespace Go.Proofs.Ytjiheepiobffkaa.Fr
open Go.RowKit Go.Proofs.YtjiheepiobffkaaW.PrintWords Go.Proofs.YtjiheepiobffkaaW.PrintLast Go.Proofs.YtjiheepiobffkaaW.PrintMore Go.Proofs.Ytjiheepiobffkaa.Pr
open Go.Sort hiding rd
open Go.Lib

theorem wM_succ (hs : List Bool) (i : Nat) : wM hs (i + 1) = wM hs i ++ (if hs.getD i false = true then [] else [nm i]) := by
  unfold wM kM
  rw [List.range_succ, List.filter_append, List.map_append]
  congr 1
  rw [List.filter_cons, List.filter_nil]
  cases h : hs.getD i false with
  | true => rw [if_neg (by decide), if_pos rfl]; rfl
  | false => rw [if_pos (by decide), if_neg (by decide)]; rfl
theorem wM_length (hs : List Bool) (i : Nat) : (wM hs i).length ≤ i := by
  unfold wM kM
  rw [List.length_map]
  have := List.length_filter_le (fun j => !hs.getD j false) (List.range i)
  simpa using this

theorem nm_size (k : Nat) : (nm k).size = 3 := rfl
theorem great_num : ∀ k : Nat, k < 12 → (((UInt8.ofNat (97 + k)).toNat : Int) - 32) % 256 = 65 + (k : Int) := by decide +kernel
theorem great_txt : ∀ k : Nat, k < 12 → strOfNums [1, 65 + (k : Int), 0] = nmU k := by decide +kernel
theorem great_str (k : Nat) (hk : k < 12) (h : 1 < (nm k).size) (W : World) : (convert 32 9 (.slice (some ⟨W.heap.size, 0, none⟩) 3 3)).run Try.prog (W.alloc (.cells #[.int .u8 1, .int .u8 ((((nm k)[1]'h).toNat - 32 : Int) % 256), .int .u8 0] 5)) = .ok (.string (nmU k)) (W.alloc (.cells #[.int .u8 1, .int .u8 ((((nm k)[1]'h).toNat - 32 : Int) % 256), .int .u8 0] 5)) := by
  have e : ((((nm k)[1]'h).toNat : Int) - 32) % 256 = 65 + (k : Int) := great_num k hk
  rw [e]
  have h2 := Kd.C_string (P := Try.prog) (c := 3) Try.underlying32 Try.underlying5 Try.underlying9 (C_lit (Value.int .u8) (fun _ => rfl) W 5 [1, 65 + (k : Int), 0] (by simp))
  rw [great_txt k hk] at h2
  exact h2
theorem R_apart {α : Type} {d : Kd α} {e base : Nat} {ok : Nat → Prop} {w w1 : World} {v : Value} {xs : List α} {row : Option Nat} (h : d.R e w base ok v xs) (hg : w.grownBy w1 row) (hrow : ∀ k, row = some k → k < base) : d.R e w1 base ok v xs :=
  Kd.R_mono (Kd.R_grown (Kd.R_bound h) hg (fun k hk e => by have := hrow k e.symm; have := hk.2.1; omega)) (fun _ hk => hk.1)

set_option maxRecDepth 100000 in
set_option maxHeartbeats 8000000 in
theorem PickMissing_any (A : Option Addr) (c : Nat) (hs : List Bool) (up : Bool) (w : World) (hC : Kd.C Kd.bool w A hs.length hs) :
    Calls Try.prog 6 #[.slice A hs.length c, .bool up] w fun e w' => e = .returned (.bool true) ∧ Below w.heap.size w w' := by
  have hcm := hC.2.1
  by_cases hbig : 12 < hs.length
  · clear hC
    go_enter Try.func6, Try.ntmps6
    go_wp2_with (first | (go_at_call 7; refine (awake_any _).mono ?_; rintro e w1 ⟨rfl, hb1⟩))
    go_ret
    exact ⟨rfl, (below_alloc (Below.refl w.heap.size w) _).trans (hb1.mono (alloc_le _ _))⟩
  · have hl : hs.length ≤ 12 := by omega
    have HC0 := Aside0.mk hC
    clear hC hcm
    go_enter Try.func6, Try.ntmps6
    go_wp2
    have HX := Aside0.mk (alloc_block w (.cells #[.slice A hs.length c] 47 (0, 0)))
    have HBW := Aside0.mk (below_alloc (Below.refl w.heap.size w) (.cells #[.slice A hs.length c] 47 (0, 0)))
    have HC := Aside0.mk (Kd.C_below HC0.out HBW.out)
    have hlt := alloc_lt w (.cells #[.slice A hs.length c] 47 (0, 0))
    generalize hgb : w.heap.size = gb at HX hlt ⊢
    have HGB := Aside0.mk hgb
    generalize w.alloc (.cells #[.slice A hs.length c] 47 (0, 0)) = w1 at HX HBW HC hlt ⊢
    clear hgb HC0
    go_loopg [5, 6, 7] hs.length (fun kq v5 v6 v7 W => ∃ i : Nat, v7 = .int .i64 i ∧ i ≤ hs.length ∧ hs.length - i ≤ kq ∧ Aside0 (Kd.R Kd.string 9 W w1.heap.size (fun _ => True) v5 (lM i)) ∧ Aside0 (Kd.R Kd.string 9 W w1.heap.size (fun _ => True) v6 (wM hs i)) ∧ Aside0 (Below w1.heap.size w1 W))
    case atStart => exact ⟨0, rfl, Nat.zero_le _, by omega, ⟨Kd.R_nil _ _ _ _ _⟩, ⟨Kd.R_nil _ _ _ _ _⟩, ⟨Below.refl _ _⟩⟩
    case round =>
      obtain ⟨i, rfl, hi, hm, HL, HW, HB⟩ := hrel
      have hbx : wr.cell? ⟨gb, 0, none⟩ = some (.slice A hs.length c) := cell_of_heap (i := 0) ((HB.out.block _ hlt).trans HX.out) rfl
      by_cases hlt1 : i < hs.length
      · obtain ⟨ad1, e, hcell⟩ := Kd.at_bool HC.out (i : Int) (by omega) (by omega)
        subst e
        have he : rdOf false hs (i : Int) = hs.getD i false := rfl
        rw [he, Int.toNat_natCast] at hcell
        have HCELL := Aside0.mk hcell
        clear hcell
        have hcv := byte_str i (by omega)
        have hnm := nm_eq i (by omega)
        obtain ⟨A5, c5, hv5⟩ := Kd.R_slice HL.out
        subst hv5
        have HWS := Aside0.mk (wM_succ hs i)
        have hll := lM_length i
        have HLL := Aside0.mk hll
        clear hll
        have HWL := Aside0.mk (wM_length hs i)
        have HGW := Aside0.mk (Nat.lt_of_lt_of_le hlt HB.out.size)
        have HBX := Aside0.mk hbx
        have HCR := Aside0.mk ((HB.out.cell (World.block_lt_of_cell? w1 _ HCELL.out)).trans HCELL.out)
        have hR := R_lit Value.string (fun _ => rfl) (wr.alloc (.cells #[.int .u8 (97 + (i : Int))] 5 (0, 0))) 9 [nm i, nm i] (by simp)
        rw [World.size_alloc] at hR
        have HLIT := Aside0.mk hR
        clear hR
        have hB2 := below_alloc (Below.refl (wr.alloc (.cells #[.int .u8 (97 + (i : Int))] 5 (0, 0))).heap.size (wr.alloc (.cells #[.int .u8 (97 + (i : Int))] 5 (0, 0)))) (.cells #[.string (nm i), .string (nm i)] 9 (0, 0))
        rw [World.size_alloc] at hB2
        have HLB := Aside0.mk hB2
        have HLS := Aside0.mk (show wr.heap.size + 1 ≤ ((wr.alloc (.cells #[.int .u8 (97 + (i : Int))] 5 (0, 0))).alloc (.cells #[.string (nm i), .string (nm i)] 9 (0, 0))).heap.size from by rw [World.size_alloc, World.size_alloc]; omega)
        have HLC := Aside0.mk (Kd.C_alloc (Kd.C_alloc (Kd.R_reads' HL.out).2.2 (.cells #[.int .u8 (97 + (i : Int))] 5 (0, 0))) (.cells #[.string (nm i), .string (nm i)] 9 (0, 0)))
        clear hB2
        cases hv : hs.getD i false with
        | true =>
          rw [hv] at HCR
          have HV := Aside0.mk hv
          clear hv
          go_wp2_with (first | ((with_reducible refine gate_builtin (b := .append) (xs := #[.tmp 35, .tmp 36]) rfl ?_); at_builtin; refine Kd.R_append_row Value.string ByteArray.empty (w0 := (wr.alloc (.cells #[.int .u8 (97 + (i : Int))] 5 (0, 0)))) (wr.heap.size + 1) rfl (.tmp 35) (.tmp 36) 31 9 (.string ⟨#[]⟩) 16 rfl Try.underlying31 info9 rfl (by decide) _ [nm i, nm i] (lM i) A5 (lM i).length c5 (fun _ => True) rfl rfl (fun _ _ => trivial) HLIT.out HLC.out HLB.out HLS.out (by have h9 := HLL.out; simp only [List.length_cons, List.length_nil]; omega) ?_; intro v3 w3 ho hb hg hat; have HB3 := Aside0.mk ((below_alloc (Below.refl wr.heap.size wr) (.cells #[.int .u8 (97 + (i : Int))] 5 (0, 0))).trans (hb.mono (Nat.le_succ _))); have HL3 := Aside0.mk ho; have HW3 := Aside0.mk (Kd.R_below HW.out HB3.out); have HB3T := Aside0.mk (HB.out.trans (HB3.out.mono HB.out.size)); clear ho hb hg hat; have hbx3 : w3.cell? ⟨gb, 0, none⟩ = some (.slice (some ad1) hs.length c) := (HB3.out.cell (p := ⟨gb, 0, none⟩) HGW.out).trans HBX.out; have hcell3 := (HB3.out.cell (World.block_lt_of_cell? wr _ HCR.out)).trans HCR.out))
          go_roundg (hs.length - (i + 1))
          case measure => omega
          case rel =>
            refine ⟨i + 1, by go_num, by omega, Nat.le_refl _, ⟨Kd.R_lower HL3.out (Nat.le_trans HB.out.size (Nat.le_succ _))⟩, ⟨?_⟩, ⟨HB.out.trans (HB3.out.mono HB.out.size)⟩⟩
            rw [HWS.out, HV.out, if_pos rfl, List.append_nil]
            exact Kd.R_below HW.out HB3.out
        | false =>
          rw [hv] at HCR
          have HV := Aside0.mk hv
          clear hv
          go_wp2_with (first | ((with_reducible refine gate_builtin (b := .append) (xs := #[.tmp 35, .tmp 36]) rfl ?_); at_builtin; refine Kd.R_append_row Value.string ByteArray.empty (w0 := (wr.alloc (.cells #[.int .u8 (97 + (i : Int))] 5 (0, 0)))) (wr.heap.size + 1) rfl (.tmp 35) (.tmp 36) 31 9 (.string ⟨#[]⟩) 16 rfl Try.underlying31 info9 rfl (by decide) _ [nm i, nm i] (lM i) A5 (lM i).length c5 (fun _ => True) rfl rfl (fun _ _ => trivial) HLIT.out HLC.out HLB.out HLS.out (by have h9 := HLL.out; simp only [List.length_cons, List.length_nil]; omega) ?_; intro v3 w3 ho hb hg hat; have HB3 := Aside0.mk ((below_alloc (Below.refl wr.heap.size wr) (.cells #[.int .u8 (97 + (i : Int))] 5 (0, 0))).trans (hb.mono (Nat.le_succ _))); have HL3 := Aside0.mk ho; have HW3 := Aside0.mk (Kd.R_below HW.out HB3.out); have HB3T := Aside0.mk (HB.out.trans (HB3.out.mono HB.out.size)); clear ho hb hg hat; have hbx3 : w3.cell? ⟨gb, 0, none⟩ = some (.slice (some ad1) hs.length c) := (HB3.out.cell (p := ⟨gb, 0, none⟩) HGW.out).trans HBX.out; have hcell3 := (HB3.out.cell (World.block_lt_of_cell? wr _ HCR.out)).trans HCR.out) | ((with_reducible refine gate_builtin (b := .append) (xs := #[.tmp 43, .tmp 45]) rfl ?_); at_builtin; refine Kd.R_append Kd.string (w0 := w1) w1.heap.size rfl (.tmp 43) (.tmp 45) 31 9 (.string ⟨#[]⟩) 16 rfl Try.underlying31 info9 rfl (by decide) (by omega) _ (wM hs i) (nm i) [.string (nm i)] (fun _ => True) (fun _ => False) rfl rfl ?aP (fun _ hk => hk.elim) ?aF ?aO ?aB ?aS ?aL ?_; (case aP => exact rfl); (case aB => exact HB3T.out); (case aF => exact (fun _ _ => trivial)); (case aO => exact HW3.out); (case aS => exact HB3T.out.size); (case aL => have h9 := HWL.out; omega); intro v4 w4 ho hb hg hat; have HL4 := Aside0.mk (R_apart HL3.out hg (fun k hk => Nat.lt_succ_of_lt (Kd.R_lt HW.out k hk))); have HW4 := Aside0.mk ho; have HB4 := Aside0.mk hb; clear ho hb hg hat))
          go_roundg (hs.length - (i + 1))
          case measure => omega
          case rel =>
            refine ⟨i + 1, by go_num, by omega, Nat.le_refl _, ⟨Kd.R_lower HL4.out (Nat.le_trans HB.out.size (Nat.le_succ _))⟩, ⟨?_⟩, HB4⟩
            rw [HWS.out, HV.out, if_neg (by decide)]
            exact HW4.out
      · obtain rfl : i = hs.length := by omega
        have HTELL := Aside0.mk (fun (W : World) (hb : Below w1.heap.size w1 W) => show TellAt (.func (.func 19) #[] #[.pointer (some ⟨gb, 0, none⟩)]) (TM hs) W from
          .inr ⟨19, #[.pointer (some ⟨gb, 0, none⟩)], rfl, enters_of Try.func19 (by kernel_rfl) rfl, fun W2 hb2 n _ => by
            have hb3 := hb.trans (hb2.mono hb.size)
            exact missTell_any gb A c hs n W2 (Nat.lt_of_lt_of_le hlt hb3.size) (cell_of_heap (i := 0) ((hb3.block _ hlt).trans HX.out) rfl) (Kd.C_below HC.out hb3) hl⟩)
        obtain ⟨A5, c5, hv5⟩ := Kd.R_slice HL.out
        subst hv5
        obtain ⟨A6, c6, hv6⟩ := Kd.R_slice HW.out
        subst hv6
        have hwl : (wM hs hs.length).length = (kM hs hs.length).length := by simp [wM]
        have hkl : (kM hs hs.length).length ≤ 12 := by have h9 := wM_length hs hs.length; omega
        have HWL := Aside0.mk hwl
        have HTG := Aside0.mk (targets_M hs.length hl)
        have HMS := Aside0.mk (fun j => missing_M hs hl up j)
        have HKM := Aside0.mk (show ∀ k ∈ kM hs hs.length, k < 12 from fun k h => by have h9 := List.mem_range.1 (List.mem_filter.1 h).1; omega)
        have HWM := Aside0.mk (show wM hs hs.length = (kM hs hs.length).map nm from rfl)
        have hll := lM_length hs.length
        have hsm : smallSet (setR (lM hs.length)) := by
          refine ⟨by simp [setR]; omega, fun r hr => ?_⟩
          obtain ⟨d, hd, rfl⟩ := List.mem_map.1 hr
          obtain ⟨j, hj, rfl⟩ := (lM_mem _ _).1 hd
          have h9 := good_size (nm_good j (by omega))
          show (nm j).size ≤ _
          omega
        have HSM := Aside0.mk hsm
        have HLLN := Aside0.mk hll
        clear hsm hll
        rw [hwl] at HW
        clear hwl hm
        generalize hK : kM hs hs.length = K at HMS HKM HWM HW hkl ⊢
        generalize hLM : lM hs.length = LM at HL HTG HSM HLLN ⊢
        generalize hWM : wM hs hs.length = WM at HW HWM ⊢
        clear hK hLM hWM HWL
        go_wp2
        generalize hwr2 : wr = w2 at HL HW HB hbx ⊢
        clear hwr2 hbx
        have HX2 := Aside0.mk ((HB.out.block _ hlt).trans HX.out)
        have hlt2 := Nat.lt_of_lt_of_le hlt HB.out.size
        go_loopg [10, 11] K.length (fun kq v10 v11 W => ∃ j : Nat, v11 = .int .i64 j ∧ j ≤ K.length ∧ K.length - j ≤ kq ∧ Aside0 (Kd.R Kd.string 9 W w2.heap.size (fun _ => True) v10 ((K.take j).map (askM up))) ∧ Aside0 (Below w2.heap.size w2 W))
        case atStart => exact ⟨0, rfl, Nat.zero_le _, by omega, ⟨Kd.R_nil _ _ _ _ _⟩, ⟨Below.refl _ _⟩⟩
        case round =>
          obtain ⟨j, rfl, hj, hm, HAS, HB2⟩ := hrel
          obtain ⟨A7, c7, hv7⟩ := Kd.R_slice HAS.out
          subst hv7
          have HLW := Aside0.mk (Kd.R_below HL.out HB2.out)
          have HBT := Aside0.mk (HB.out.trans (HB2.out.mono HB.out.size))
          have hset := set_any A5 c5 LM wr (Kd.R_reads' HLW.out).2.2 (Kd.R_reads' HLW.out).2.1 (by have h9 := HLLN.out; omega)
          have htr : ∀ x ∈ (K.take j).map (askM up), x.size ≤ 140737488355328 := fun x hx => by
            obtain ⟨k, hk, rfl⟩ := List.mem_map.1 hx
            have h9 := ask_size up k (HKM.out k (List.mem_of_mem_take hk))
            omega
          have HTR := Aside0.mk htr
          clear htr
          have hmiss := fun (W : World) (hb : Below wr.heap.size wr W) (A8 : Option Addr) (c8 : Nat) (hR : Kd.R k61 61 W wr.heap.size (fun _ => True) (.slice A8 (setR LM).length c8) (setR LM)) =>
            Missing_tell _ (TM hs) (TM_length hs) ⟨#[0]⟩ 2 A8 c8 (setR LM) 0 ⟨#[0]⟩ A7 c7 ((K.take j).map (askM up)) W (Kd.R_reads' hR).2.2 (Kd.R_reads' hR).2.1 (Kd.C_below (Kd.R_reads' HAS.out).2.2 hb) HTR.out (HTELL.out W (HBT.out.trans (hb.mono HBT.out.size))) HSM.out
          have hlenj : ((K.take j).map (askM up)).length = j := by rw [List.length_map, List.length_take]; omega
          simp only [HTG.out, HMS.out j, hlenj] at hmiss
          clear hlenj
          by_cases hlt1 : j < K.length
          · rw [List.getElem?_eq_getElem hlt1] at hmiss
            simp only at hmiss
            have HMISS := Aside0.mk hmiss
            clear hmiss
            have hk12 := HKM.out K[j] (List.getElem_mem hlt1)
            have HTK := Aside0.mk (show (K.take (j + 1)).map (askM up) = (K.take j).map (askM up) ++ [askM up K[j]] from by rw [List.take_succ_eq_append_getElem hlt1, List.map_append]; rfl)
            have hlw : WM.length = K.length := by rw [HWM.out]; simp
            obtain ⟨ad6, e6, hcell6⟩ := Kd.at_string (Kd.R_reads' (Kd.R_below HW.out HB2.out)).2.2 (j : Int) (by omega) (by omega)
            have hwj : rdOf ByteArray.empty WM (j : Int) = nm K[j] := by
              rw [HWM.out, rdOf_nat _ _ _ (by simpa using hlt1)]
              simp
            rw [hwj, Int.toNat_natCast] at hcell6
            subst e6
            have HC6 := Aside0.mk hcell6
            have hjw : j < WM.length := by omega
            clear hcell6 hwj hlw
            generalize K[j] = k at HMISS hk12 HTK HC6
            go_wp2_with fail
            refine hset.mono ?_
            clear hset
            rintro e w3 ⟨v8, rfl, hR8, hb8⟩
            obtain ⟨A8, c8, hv8⟩ := Kd.R_slice hR8
            subst hv8
            have hmiss := HMISS.out w3 hb8 A8 c8 hR8
            clear hR8
            go_wp2_with fail
            refine hmiss.mono ?_
            clear hmiss
            rintro e w4 ⟨rfl, hb4⟩
            have HB4 := Aside0.mk (hb8.trans (hb4.mono hb8.size))
            clear hb8 hb4
            have hcell6 := (HB4.out.cell (World.block_lt_of_cell? wr _ HC6.out)).trans HC6.out
            have HJL := Aside0.mk (show ((K.take j).map (askM up)).length ≤ 12 from by rw [List.length_map, List.length_take]; omega)
            have hAS5 := Kd.R_below HAS.out HB4.out
            rw [show ((K.take j).map (askM up)).length = j from by rw [List.length_map, List.length_take]; omega] at hAS5
            have HAS5 := Aside0.mk hAS5
            have HB5 := Aside0.mk (HB2.out.trans (HB4.out.mono HB2.out.size))
            clear hAS5
            cases up with
            | false =>
              go_wp2_with (first | ((with_reducible refine gate_builtin (b := .append) (xs := #[.tmp 78, .tmp 80]) rfl ?_); at_builtin; refine Kd.R_append Kd.string (w0 := w2) w2.heap.size rfl (.tmp 78) (.tmp 80) 31 9 (.string ⟨#[]⟩) 16 rfl Try.underlying31 info9 rfl (by decide) (by omega) _ ((K.take j).map (askM false)) (askM false k) [.string (askM false k)] (fun _ => True) (fun _ => False) rfl rfl ?aP (fun _ hk => hk.elim) ?aF ?aO ?aB ?aS ?aL ?_; (case aP => exact rfl); (case aB => exact HB5.out); (case aF => exact (fun _ _ => trivial)); (case aO => exact HAS5.out); (case aS => exact HB5.out.size); (case aL => have h9 := HJL.out; omega); intro v6 w6 ho hb hg hat; have HA6 := Aside0.mk ho; have HB6 := Aside0.mk hb; clear ho hb hg hat))
              go_roundg (K.length - (j + 1))
              case measure => omega
              case rel => exact ⟨j + 1, by go_num, by omega, Nat.le_refl _, ⟨by rw [HTK.out]; exact HA6.out⟩, HB6⟩
            | true =>
              have HB7 := Aside0.mk (fun o => HB5.out.trans ((below_alloc (Below.refl w4.heap.size w4) o).mono HB5.out.size))
              have HAS7 := Aside0.mk (fun o => Kd.R_alloc HAS5.out o)
              have HS7 := Aside0.mk (fun o => Nat.le_trans HB5.out.size (alloc_le w4 o))
              have hsz := nm_size k
              have hgs := great_str k hk12
              go_wp2_with (first | ((with_reducible refine gate_builtin (b := .append) (xs := #[.tmp 78, .tmp 80]) rfl ?_); at_builtin; refine Kd.R_append Kd.string (w0 := w2) w2.heap.size rfl (.tmp 78) (.tmp 80) 31 9 (.string ⟨#[]⟩) 16 rfl Try.underlying31 info9 rfl (by decide) (by omega) _ ((K.take j).map (askM true)) (nmU k) [.string (nmU k)] (fun _ => True) (fun _ => False) rfl (by rw [World.size_alloc]; rfl) ?aP (fun _ hk => hk.elim) ?aF ?aO ?aB ?aS ?aL ?_; (case aP => exact rfl); (case aB => exact HB7.out _); (case aF => exact (fun _ _ => trivial)); (case aO => exact HAS7.out _); (case aS => exact HS7.out _); (case aL => have h9 := HJL.out; omega); intro v6 w6 ho hb hg hat; have HA6 := Aside0.mk ho; have HB6 := Aside0.mk hb; clear ho hb hg hat))
              go_roundg (K.length - (j + 1))
              case measure => omega
              case rel => exact ⟨j + 1, by go_num, by omega, Nat.le_refl _, ⟨by rw [HTK.out]; exact HA6.out⟩, HB6⟩
          · rw [List.getElem?_eq_none (by omega)] at hmiss
            simp only at hmiss
            have HMISS := Aside0.mk hmiss
            have hjw : ¬ j < WM.length := by rw [HWM.out]; simp; omega
            clear hmiss
            go_wp2_with fail
            refine hset.mono ?_
            clear hset
            rintro e w3 ⟨v8, rfl, hR8, hb8⟩
            obtain ⟨A8, c8, hv8⟩ := Kd.R_slice hR8
            subst hv8
            have hmiss := HMISS.out w3 hb8 A8 c8 hR8
            clear hR8
            go_wp2_with fail
            refine hmiss.mono ?_
            clear hmiss
            rintro e w4 ⟨rfl, hb4⟩
            have HB4 := Aside0.mk (hb8.trans (hb4.mono hb8.size))
            clear hb8 hb4
            go_wp2_with fail
            refine (awake_any _).mono ?_
            rintro e w5 ⟨rfl, hb5⟩
            have HB5 := Aside0.mk (HB4.out.trans (hb5.mono HB4.out.size))
            clear hb5
            go_wp2
            go_ret
            have hq := HBT.out.trans (HB5.out.mono HBT.out.size)
            have hz := HBW.out.trans (hq.mono HBW.out.size)
            exact ⟨rfl, hz⟩
end Go.Proofs.Ytjiheepiobffkaa.Fr
