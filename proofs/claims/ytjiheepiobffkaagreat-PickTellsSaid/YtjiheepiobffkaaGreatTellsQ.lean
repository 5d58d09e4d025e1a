/-
  The document's targets, servers, next and missing come to the program's; the law's bounds.
-/
import Derived.Test.YtjiheepiobffkaaGreatTellsP
namespace Go.Proofs.YtjiheepiobffkaaGreat.Fr
open Go.RowKit Go.Proofs.YtjiheepiobffkaaGreatW.PrintWords Go.Proofs.YtjiheepiobffkaaGreat.Pr
open Go.Sort hiding rd

theorem rdS (l : List ByteArray) (i : Nat) (h : i < l.length) : rdOf ByteArray.empty l (i : Int) = l[i] := rdOf_nat _ _ _ h

/-! ### targets -/
section
variable (a0 : ByteArray) (a1 : Int) (rs : List S43) (a3 : Int) (a4 : ByteArray)
theorem tg_j3 (out : List ByteArray) (i : Int) (x : ByteArray) (R : List ByteArray) (hl : out.length ≤ 1000000)
    (hnext : Ev (fun k => freshetref11_targets.l0 k (insU ltN x out) (wrap64 (i + 1)) a0 a1 rs a3 a4) R) (k : Nat) (hk : k ≤ out.length) (hb : ∀ j (hj : j < out.length), j < k → ltN out[j] x = true) (hf : ∀ h : k < out.length, ltN out[k] x = false) :
    Ev (fun K => freshetref11_targets.j3 K out i x (k : Int) (if h : k < out.length then decide (out[k] = x) else false) a0 a1 rs a3 a4) R := by
  have hi := insU_at ltN x out k hk hb hf
  by_cases heq : (if h : k < out.length then decide (out[k] = x) else false) = true
  · rw [heq]
    have hie : insU ltN x out = out := by
      rw [hi]
      by_cases h : k < out.length
      · rw [dif_pos h] at heq ⊢
        rw [if_pos (of_decide_eq_true heq)]
      · rw [dif_neg h] at heq; cases heq
    rw [hie] at hnext
    refine Ev.step (f := fun K => freshetref11_targets.l0 K out (wrap64 (i + 1)) a0 a1 rs a3 a4) (fun K => ?_) hnext
    simp only [freshetref11_targets.j3]
    rw [if_pos trivial]
  · rw [Bool.eq_false_iff.2 heq]
    have hie : insU ltN x out = out.take k ++ x :: out.drop k := by
      rw [hi]
      by_cases h : k < out.length
      · rw [dif_pos h] at heq ⊢
        rw [if_neg (fun e => heq (decide_eq_true e))]
      · rw [dif_neg h]
    rw [hie] at hnext
    refine Ev.step (f := fun K => freshetref11_targets.l0 K (out.take k ++ x :: out.drop k) (wrap64 (i + 1)) a0 a1 rs a3 a4) (fun K => ?_) hnext
    simp only [freshetref11_targets.j3]
    have h1 : (out.take k).length = k := by rw [List.length_take]; omega
    have h2 : (out.drop k).length = out.length - k := List.length_drop
    simp only [Option.bind_some, Int.toNat_natCast, List.length_append, List.length_nil, List.length_singleton, List.nil_append, h1]
    rw [if_neg (by decide), if_pos (by omega), if_pos (by omega), if_pos (by omega), if_pos (by omega), if_pos (by omega), List.append_assoc]
    rfl
theorem tg_l1 (out : List ByteArray) (i : Int) (x : ByteArray) (R : List ByteArray) (hl : out.length ≤ 1000000) (hgx : good x) (hgo : ∀ y ∈ out, good y)
    (hnext : Ev (fun k => freshetref11_targets.l0 k (insU ltN x out) (wrap64 (i + 1)) a0 a1 rs a3 a4) R) : ∀ (d k : Nat), out.length - k = d → k ≤ out.length → (∀ j (hj : j < out.length), j < k → ltN out[j] x = true) →
    Ev (fun K => freshetref11_targets.l1 K out i x (k : Int) a0 a1 rs a3 a4) R
  | d, k, hd, hk, hb => by
    by_cases hlt : k < out.length
    · have hgy := hgo out[k] (List.getElem_mem hlt)
      have hLs := LessR_ev out[k] x (by have := good_size hgy; omega) (by have := good_size hgx; omega)
      refine Ev.step (f := fun K => ((freshetref1_Less.f K out[k] x).bind fun t => freshetref11_targets.j2 K out i x (k : Int) t a0 a1 rs a3 a4)) (fun K => ?_) ?_
      · simp only [freshetref11_targets.l1]
        rw [if_pos (by omega), if_pos (by omega), rdS out k hlt]
      · refine Ev.bind (f := fun K t => freshetref11_targets.j2 K out i x (k : Int) t a0 a1 rs a3 a4) hLs ?_
        change Ev (fun K => freshetref11_targets.j2 K out i x (k : Int) (ltN out[k] x) a0 a1 rs a3 a4) R
        cases hlx : ltN out[k] x with
        | true =>
          cases d with
          | zero => omega
          | succ d =>
            have ih := tg_l1 out i x R hl hgx hgo hnext d (k + 1) (by omega) (by omega) (fun j hj hjk => by
              rcases Nat.lt_or_ge j k with h1 | h1
              · exact hb j hj h1
              · obtain rfl : j = k := by omega
                exact hlx)
            refine Ev.step (f := fun K => freshetref11_targets.l1 K out i x ((k + 1 : Nat) : Int) a0 a1 rs a3 a4) (fun K => ?_) ih
            simp only [freshetref11_targets.j2]
            rw [if_pos trivial, w64 (by omega) (by omega)]
            rfl
        | false =>
          have h4 := tg_j3 a0 a1 rs a3 a4 out i x R hl hnext k hk hb (fun _ => hlx)
          rw [dif_pos hlt] at h4
          refine Ev.step (f := fun K => freshetref11_targets.j3 K out i x (k : Int) (decide (out[k] = x)) a0 a1 rs a3 a4) (fun K => ?_) h4
          simp only [freshetref11_targets.j2]
          rw [if_neg (by decide), if_pos (by omega), if_pos (by omega), rdS out k hlt]
          congr 1
          rw [Bool.eq_iff_iff, decide_eq_true_iff, beq_iff_eq, bl_toList, bl_toList]
          exact ⟨bl_inj, fun h => by rw [h]⟩
    · have h4 := tg_j3 a0 a1 rs a3 a4 out i x R hl hnext k hk hb (fun h => absurd h hlt)
      rw [dif_neg hlt] at h4
      refine Ev.step (f := fun K => freshetref11_targets.j2 K out i x (k : Int) false a0 a1 rs a3 a4) (fun K => ?_) ?_
      · simp only [freshetref11_targets.l1]
        rw [if_neg (by omega)]
      · refine Ev.step (f := fun K => freshetref11_targets.j3 K out i x (k : Int) false a0 a1 rs a3 a4) (fun K => ?_) h4
        simp only [freshetref11_targets.j2]
        rw [if_neg (by decide), if_neg (by omega)]
theorem colR_take (i : Nat) (h : i < rs.length) : colR (rs.take (i + 1)) = colR (rs.take i) ++ (toR rs[i]).toList := by
  unfold colR
  rw [List.take_succ_eq_append_getElem h, List.filterMap_append]
  rfl
theorem tg_l0 (hl : rs.length ≤ 100000) (hs : ∀ r ∈ rs, r.f4.size ≤ 140737488351232) : ∀ (d i : Nat), rs.length - i = d → i ≤ rs.length → Ev (fun k => freshetref11_targets.l0 k (allU ltN (colR (rs.take i))) (i : Int) a0 a1 rs a3 a4) (allU ltN (colR rs))
  | 0, i, hd, hi => by
    obtain rfl : i = rs.length := by omega
    rw [List.take_length]
    refine Ev.step (f := fun _ => some (allU ltN (colR rs))) (fun k => ?_) (Ev.now _)
    simp only [freshetref11_targets.l0]
    rw [if_neg (by omega)]
  | d + 1, i, hd, hi => by
    have hlt : i < rs.length := by omega
    have ih := tg_l0 hl hs d (i + 1) (by omega) (by omega)
    rw [colR_take rs i hlt] at ih
    have hsz := hs rs[i] (List.getElem_mem hlt)
    have hw : wrap64 ((i : Int) + 1) = ((i + 1 : Nat) : Int) := by rw [w64 (by omega) (by omega)]; rfl
    have hT := rTarget_ev rs[i].f0 rs[i].f1 rs[i].f2 rs[i].f3 rs[i].f4 (by omega)
    refine Ev.step (f := fun k => ((freshetref1_Target.f k rs[i].f0 rs[i].f1 rs[i].f2 rs[i].f3 rs[i].f4).bind fun bt => (if bt.2 = true then ((ref1_Fold.f bt.1).bind fun t => (freshetref11_targets.l1 k (allU ltN (colR (rs.take i))) (i : Int) t 0 a0 a1 rs a3 a4)) else (freshetref11_targets.l0 k (allU ltN (colR (rs.take i))) ((i + 1 : Nat) : Int) a0 a1 rs a3 a4)))) (fun k => ?_) ?_
    · simp only [freshetref11_targets.l0]
      rw [if_pos (by omega), if_pos (by omega), rd_RR rs i hlt, hw]
    · refine Ev.bind (f := fun k bt => (if bt.2 = true then ((ref1_Fold.f bt.1).bind fun t => (freshetref11_targets.l1 k (allU ltN (colR (rs.take i))) (i : Int) t 0 a0 a1 rs a3 a4)) else (freshetref11_targets.l0 k (allU ltN (colR (rs.take i))) ((i + 1 : Nat) : Int) a0 a1 rs a3 a4))) hT ?_
      unfold toR at ih
      by_cases h : (targetR rs[i].f1 rs[i].f4).2 = true
      · rw [if_pos h, Option.toList_some, allU_snoc, ← hw] at ih
        have hts := targetR_size rs[i].f1 rs[i].f4
        have hva := targetR_valid h
        have h1 := tg_l1 a0 a1 rs a3 a4 (allU ltN (colR (rs.take i))) (i : Int) (mkB (foldN (bl (targetR rs[i].f1 rs[i].f4).1))) _ (by
            have h1 := allU_length ltN (colR (rs.take i))
            have h2 : (colR (rs.take i)).length ≤ (rs.take i).length := List.length_filterMap_le _ _
            rw [List.length_take] at h2
            omega) (good_fold hva) (fun y hy => colR_good _ y ((allU_sub _ _ y).1 hy)) ih _ 0 rfl (Nat.zero_le _) (fun j hj h0 => absurd h0 (Nat.not_lt_zero _))
        refine Ev.congr (fun k => ?_) h1
        rw [if_pos h]
        unfold ref1_Fold.f
        rw [if_pos (by omega)]
        rfl
      · rw [if_neg h, Option.toList_none, List.append_nil] at ih
        exact Ev.congr (fun k => by rw [if_neg h]) ih
theorem targetsD_ev (hl : rs.length ≤ 100000) (hs : ∀ r ∈ rs, r.f4.size ≤ 140737488351232) : Ev (fun k => freshetref11_targets.f k a0 a1 rs a3 a4) (targetsR rs) := by
  rw [targetsR_eq]
  exact tg_l0 a0 a1 rs a3 a4 hl hs rs.length 0 (by omega) (by omega)
end

/-! ### servers -/
theorem rowS_of (kl : List S147) (n : ByteArray) : rowS (ofR kl) n = (ofR kl n).map fun a => ⟨n, a⟩ := by
  unfold rowS
  rw [uniq_of]
theorem Sv_l1 (kl : List S147) (hs : smallK kl) (names : List ByteArray) (hn : names.length ≤ 1000) (i : Nat) (hi : i < names.length) (out : List S55) (ho : out.length ≤ 1000000) (R : List S55)
    (hnext : Ev (fun k => freshetref11_Servers.l0 k kl (out ++ rowS (ofR kl) names[i]) names ((i + 1 : Nat) : Int)) R) : ∀ (d j : Nat), (ofR kl names[i]).length - j = d → j ≤ (ofR kl names[i]).length → Ev (fun k => freshetref11_Servers.l1 k kl (out ++ (rowS (ofR kl) names[i]).take j) names (i : Int) (ofR kl names[i]) (j : Int)) R
  | 0, j, hd, hj => by
    obtain rfl : j = (ofR kl names[i]).length := by omega
    have hrl : (rowS (ofR kl) names[i]).length = (ofR kl names[i]).length := by rw [rowS_of]; simp
    rw [← hrl, List.take_length, hrl]
    refine Ev.step (f := fun k => freshetref11_Servers.l0 k kl (out ++ rowS (ofR kl) names[i]) names ((i + 1 : Nat) : Int)) (fun k => ?_) hnext
    simp only [freshetref11_Servers.l1]
    rw [if_neg (by omega), w64 (by omega) (by omega)]
    rfl
  | d + 1, j, hd, hj => by
    have hlt : j < (ofR kl names[i]).length := by omega
    have hrl : (rowS (ofR kl) names[i]).length = (ofR kl names[i]).length := by rw [rowS_of]; simp
    have h600 := ofR_length hs names[i]
    have ih := Sv_l1 kl hs names hn i hi out ho R hnext d (j + 1) (by omega) (by omega)
    have htk : (rowS (ofR kl) names[i]).take (j + 1) = (rowS (ofR kl) names[i]).take j ++ [⟨names[i], (ofR kl names[i])[j]⟩] := by
      rw [List.take_succ_eq_append_getElem (by omega)]
      congr 2
      simp [rowS_of]
    rw [htk, ← List.append_assoc] at ih
    have he : rd (ofR kl names[i]) (j : Int) = (ofR kl names[i])[j] := by simp [rd, List.getElem?_eq_getElem hlt]
    have hll : (out ++ (rowS (ofR kl) names[i]).take j).length < 5864062014805 := by rw [List.length_append, List.length_take]; omega
    refine Ev.step (f := fun k => freshetref11_Servers.l1 k kl (out ++ (rowS (ofR kl) names[i]).take j ++ [⟨names[i], (ofR kl names[i])[j]⟩]) names (i : Int) (ofR kl names[i]) ((j + 1 : Nat) : Int)) (fun k => ?_) ih
    simp only [freshetref11_Servers.l1]
    rw [if_pos (by omega), if_pos (by omega), if_pos (by omega), if_pos (by omega), if_pos hll, rdS names i hi, he, w64 (by omega) (by omega)]
    rfl
theorem Sv_l0 (kl : List S147) (hs : smallK kl) (names : List ByteArray) (hn : names.length ≤ 1000) (hsz : ∀ n ∈ names, n.size ≤ 140737488355328) : ∀ (d i : Nat), names.length - i = d → i ≤ names.length → Ev (fun k => freshetref11_Servers.l0 k kl (serversR (ofR kl) (names.take i)) names (i : Int)) (serversR (ofR kl) names)
  | 0, i, hd, hi => by
    obtain rfl : i = names.length := by omega
    rw [List.take_length]
    refine Ev.step (f := fun _ => some (serversR (ofR kl) names)) (fun k => ?_) (Ev.now _)
    simp only [freshetref11_Servers.l0]
    rw [if_neg (by omega)]
  | d + 1, i, hd, hi => by
    have hlt : i < names.length := by omega
    have ih := Sv_l0 kl hs names hn hsz d (i + 1) (by omega) (by omega)
    have htk : serversR (ofR kl) (names.take (i + 1)) = serversR (ofR kl) (names.take i) ++ rowS (ofR kl) names[i] := by
      unfold serversR
      rw [List.take_succ_eq_append_getElem hlt, List.flatMap_append]
      simp
    rw [htk] at ih
    have hlen := serversR_length (ofR kl) (names.take i) (fun n _ => by have := ofR_length hs n; omega)
    rw [List.length_take] at hlen
    have hO := Of_ev kl names[i] (hsz _ (List.getElem_mem hlt)) hs
    have h1 := Sv_l1 kl hs names hn i hlt (serversR (ofR kl) (names.take i)) (by omega) _ ih _ 0 rfl (Nat.zero_le _)
    rw [List.take_zero, List.append_nil] at h1
    refine Ev.step (f := fun k => ((freshetref11_Of.f k kl names[i]).bind fun t => (freshetref11_Servers.l1 k kl (serversR (ofR kl) (names.take i)) names (i : Int) t 0))) (fun k => ?_) (Ev.bind (f := fun k t => freshetref11_Servers.l1 k kl (serversR (ofR kl) (names.take i)) names (i : Int) t 0) hO h1)
    simp only [freshetref11_Servers.l0]
    rw [if_pos (by omega), if_pos (by omega), rdS names i hlt]
theorem ServersD_ev (a0 : ByteArray) (a1 : Int) (rs : List S43) (a3 : Int) (a4 : ByteArray) (kl : List S147) (hk : smallK kl) (hr : smallSet rs) : Ev (fun k => freshetref11_Servers.f k a0 a1 rs a3 a4 kl) (serversR (ofR kl) (targetsR rs)) := by
  have h1 := targetsR_length rs
  have h2 := hr.1
  refine Ev.bind (f := fun k t => freshetref11_Servers.l0 k kl [] t 0) (targetsD_ev a0 a1 rs a3 a4 (by omega) hr.2) ?_
  exact Sv_l0 kl hk _ (by omega) (fun n hn => by have := good_size (targetsR_good rs n hn); omega) _ 0 rfl (Nat.zero_le _)

/-! ### next -/
theorem Nx_l1 (l tried : List S55) (ht : tried.length ≤ 1000000) (i : Nat) (hi : i < l.length) (R : ByteArray × Int × Bool)
    (hend : ∀ b, b = tried.any (fun x => x.f1 == l[i].f1) → Ev (fun k => freshetref11_Next.l1 k l tried (i : Int) b (tried.length : Int)) R) : ∀ (d j : Nat), tried.length - j = d → j ≤ tried.length → Ev (fun k => freshetref11_Next.l1 k l tried (i : Int) ((tried.take j).any (fun x => x.f1 == l[i].f1)) (j : Int)) R
  | 0, j, hd, hj => by
    obtain rfl : j = tried.length := by omega
    rw [List.take_length]
    exact hend _ rfl
  | d + 1, j, hd, hj => by
    have hlt : j < tried.length := by omega
    have ih := Nx_l1 l tried ht i hi R hend d (j + 1) (by omega) (by omega)
    have hw : wrap64 ((j : Int) + 1) = ((j + 1 : Nat) : Int) := by rw [w64 (by omega) (by omega)]; rfl
    rw [List.take_succ_eq_append_getElem hlt, List.any_append, List.any_cons, List.any_nil, Bool.or_false] at ih
    cases hc : (tried.take j).any (fun x => x.f1 == l[i].f1) with
    | true =>
      rw [hc, Bool.true_or] at ih
      refine Ev.step (f := fun k => freshetref11_Next.l1 k l tried (i : Int) true ((j + 1 : Nat) : Int)) (fun k => ?_) ih
      simp only [freshetref11_Next.l1]
      rw [if_pos (by omega), if_pos trivial, hw]
    | false =>
      rw [hc, Bool.false_or] at ih
      refine Ev.step (f := fun k => freshetref11_Next.l1 k l tried (i : Int) (tried[j].f1 == l[i].f1) ((j + 1 : Nat) : Int)) (fun k => ?_) ih
      simp only [freshetref11_Next.l1]
      rw [if_pos (by omega), if_neg (by decide), if_pos (by omega), if_pos (by omega), if_pos (by omega), rd_Sv tried j hlt, rd_Sv l i hi, hw]
theorem Nx_l0 (l tried : List S55) (hl : l.length ≤ 1000000) (ht : tried.length ≤ 1000000) : ∀ (d i : Nat), l.length - i = d → i ≤ l.length → (∀ j (hj : j < l.length), j < i → tried.any (fun x => x.f1 == l[j].f1) = true) → Ev (fun k => freshetref11_Next.l0 k l tried (i : Int)) ((nextR l tried).1.f0, (nextR l tried).1.f1, (nextR l tried).2)
  | 0, i, hd, hi, hb => by
    obtain rfl : i = l.length := by omega
    rw [nextR_none (fun j hj => hb j hj hj)]
    refine Ev.step (f := fun _ => some (⟨#[]⟩, 0, false)) (fun k => ?_) (Ev.now _)
    simp only [freshetref11_Next.l0]
    rw [if_neg (by omega)]
  | d + 1, i, hd, hi, hb => by
    have hlt : i < l.length := by omega
    have hw : wrap64 ((i : Int) + 1) = ((i + 1 : Nat) : Int) := by rw [w64 (by omega) (by omega)]; rfl
    refine Ev.step (f := fun k => freshetref11_Next.l1 k l tried (i : Int) false 0) (fun k => ?_) ?_
    · simp only [freshetref11_Next.l0]
      rw [if_pos (by omega)]
    · refine Nx_l1 l tried ht i hlt _ (fun b hb2 => ?_) tried.length 0 (by omega) (by omega)
      cases b with
      | true =>
        have ih := Nx_l0 l tried hl ht d (i + 1) (by omega) (by omega) (fun j hj hji => by
          rcases Nat.lt_or_ge j i with h1 | h1
          · exact hb j hj h1
          · obtain rfl : j = i := by omega
            exact hb2.symm)
        refine Ev.step (f := fun k => freshetref11_Next.l0 k l tried ((i + 1 : Nat) : Int)) (fun k => ?_) ih
        simp only [freshetref11_Next.l1]
        rw [if_neg (by omega), if_pos trivial, hw]
      | false =>
        rw [nextR_here hlt hb hb2.symm]
        refine Ev.step (f := fun _ => some (l[i].f0, l[i].f1, true)) (fun k => ?_) (Ev.now _)
        simp only [freshetref11_Next.l1]
        rw [if_neg (by omega), if_neg (by decide), if_pos (by omega), if_pos (by omega), rd_Sv l i hlt]
theorem NextD_ev (l tried : List S55) (hl : l.length ≤ 1000000) (ht : tried.length ≤ 1000000) : Ev (fun k => freshetref11_Next.f k l tried) ((nextR l tried).1.f0, (nextR l tried).1.f1, (nextR l tried).2) :=
  Nx_l0 l tried hl ht l.length 0 (by omega) (by omega) (fun j hj h0 => absurd h0 (Nat.not_lt_zero _))

/-! ### missing -/
theorem Ms_l1 (kl : List S147) (tried names : List ByteArray) (ht : tried.length ≤ 1000000) (hts : ∀ x ∈ tried, x.size ≤ 140737488355328) (i : Nat) (hi : i < names.length) (hni : names[i].size ≤ 140737488355328) (R : ByteArray × Bool)
    (hend : ∀ b, b = tried.any (fun x => sameN (bl x) (bl names[i])) → Ev (fun k => freshetref11_Missing.l1 k kl tried names (i : Int) b (tried.length : Int)) R) : ∀ (d j : Nat), tried.length - j = d → j ≤ tried.length → Ev (fun k => freshetref11_Missing.l1 k kl tried names (i : Int) ((tried.take j).any (fun x => sameN (bl x) (bl names[i]))) (j : Int)) R
  | 0, j, hd, hj => by
    obtain rfl : j = tried.length := by omega
    rw [List.take_length]
    exact hend _ rfl
  | d + 1, j, hd, hj => by
    have hlt : j < tried.length := by omega
    have ih := Ms_l1 kl tried names ht hts i hi hni R hend d (j + 1) (by omega) (by omega)
    have hw : wrap64 ((j : Int) + 1) = ((j + 1 : Nat) : Int) := by rw [w64 (by omega) (by omega)]; rfl
    rw [List.take_succ_eq_append_getElem hlt, List.any_append, List.any_cons, List.any_nil, Bool.or_false] at ih
    cases hc : (tried.take j).any (fun x => sameN (bl x) (bl names[i])) with
    | true =>
      rw [hc, Bool.true_or] at ih
      refine Ev.step (f := fun k => freshetref11_Missing.l1 k kl tried names (i : Int) true ((j + 1 : Nat) : Int)) (fun k => ?_) ih
      simp only [freshetref11_Missing.l1]
      rw [if_pos (by omega), if_pos trivial, hw]
    | false =>
      rw [hc, Bool.false_or] at ih
      have hS := rSame_ev tried[j] names[i] (hts _ (List.getElem_mem hlt)) hni
      refine Ev.step (f := fun k => ((freshetref1_Same.f k tried[j] names[i]).bind fun t => freshetref11_Missing.l1 k kl tried names (i : Int) t ((j + 1 : Nat) : Int))) (fun k => ?_) (Ev.bind (f := fun k t => freshetref11_Missing.l1 k kl tried names (i : Int) t ((j + 1 : Nat) : Int)) hS ih)
      simp only [freshetref11_Missing.l1]
      rw [if_pos (by omega), if_neg (by decide), if_pos (by omega), if_pos (by omega), if_pos (by omega), rdS tried j hlt, rdS names i hi, hw]
theorem Ms_l0 (kl : List S147) (hk : smallK kl) (tried names : List ByteArray) (hn : names.length ≤ 1000) (ht : tried.length ≤ 1000000) (hts : ∀ x ∈ tried, x.size ≤ 140737488355328) (hsz : ∀ n ∈ names, n.size ≤ 140737488355328) : ∀ (d i : Nat), names.length - i = d → i ≤ names.length → (∀ j (hj : j < names.length), j < i → missP (ofR kl) tried names[j] = false) → Ev (fun k => freshetref11_Missing.l0 k kl tried names (i : Int)) (missingR (ofR kl) names tried)
  | 0, i, hd, hi, hb => by
    obtain rfl : i = names.length := by omega
    rw [missingR_none (fun j hj => hb j hj hj)]
    refine Ev.step (f := fun _ => some (⟨#[]⟩, false)) (fun k => ?_) (Ev.now _)
    simp only [freshetref11_Missing.l0]
    rw [if_neg (by omega)]
  | d + 1, i, hd, hi, hb => by
    have hlt : i < names.length := by omega
    have hw : wrap64 ((i : Int) + 1) = ((i + 1 : Nat) : Int) := by rw [w64 (by omega) (by omega)]; rfl
    have hni := hsz names[i] (List.getElem_mem hlt)
    have next : missP (ofR kl) tried names[i] = false → Ev (fun k => freshetref11_Missing.l0 k kl tried names ((i + 1 : Nat) : Int)) (missingR (ofR kl) names tried) := fun h =>
      Ms_l0 kl hk tried names hn ht hts hsz d (i + 1) (by omega) (by omega) (fun j hj hji => by
        rcases Nat.lt_or_ge j i with h1 | h1
        · exact hb j hj h1
        · obtain rfl : j = i := by omega
          exact h)
    refine Ev.step (f := fun k => freshetref11_Missing.l1 k kl tried names (i : Int) false 0) (fun k => ?_) ?_
    · simp only [freshetref11_Missing.l0]
      rw [if_pos (by omega)]
    · refine Ms_l1 kl tried names ht hts i hlt hni _ (fun b hb2 => ?_) tried.length 0 (by omega) (by omega)
      cases b with
      | true =>
        refine Ev.step (f := fun k => freshetref11_Missing.l0 k kl tried names ((i + 1 : Nat) : Int)) (fun k => ?_) (next (by unfold missP; rw [← hb2]; simp))
        simp only [freshetref11_Missing.l1]
        rw [if_neg (by omega), if_pos trivial, hw]
      | false =>
        have hO := Of_ev kl names[i] hni hk
        refine Ev.step (f := fun k => ((freshetref11_Of.f k kl names[i]).bind fun t => (if (t.length : Int) = 0 then (some (names[i], true)) else (freshetref11_Missing.l0 k kl tried names ((i + 1 : Nat) : Int))))) (fun k => ?_) ?_
        · simp only [freshetref11_Missing.l1]
          rw [if_neg (by omega), if_neg (by decide), if_pos (by omega), if_pos (by omega), rdS names i hlt, hw]
        · refine Ev.bind (f := fun k t => (if (t.length : Int) = 0 then (some (names[i], true)) else (freshetref11_Missing.l0 k kl tried names ((i + 1 : Nat) : Int)))) hO ?_
          by_cases hz : (ofR kl names[i]).length = 0
          · rw [missingR_here hlt hb (by unfold missP; rw [uniq_of, ← hb2, hz]; rfl)]
            exact Ev.congr (f := fun _ => some (names[i], true)) (fun k => by rw [if_pos (by omega)]) (Ev.now _)
          · exact Ev.congr (fun k => by rw [if_neg (by omega)]) (next (by unfold missP; rw [uniq_of, beq_eq_false_iff_ne.2 hz]; rfl))
theorem MissingD_ev (a0 : ByteArray) (a1 : Int) (rs : List S43) (a3 : Int) (a4 : ByteArray) (kl : List S147) (hk : smallK kl) (hr : smallSet rs) (tried : List ByteArray) (ht : tried.length ≤ 1000000) (hts : ∀ x ∈ tried, x.size ≤ 140737488355328) : Ev (fun k => freshetref11_Missing.f k a0 a1 rs a3 a4 kl tried) (missingR (ofR kl) (targetsR rs) tried) := by
  have h1 := targetsR_length rs
  have h2 := hr.1
  refine Ev.bind (f := fun k t => freshetref11_Missing.l0 k kl tried t 0) (targetsD_ev a0 a1 rs a3 a4 (by omega) hr.2) ?_
  exact Ms_l0 kl hk tried _ (by omega) ht hts (fun n hn => by have := good_size (targetsR_good rs n hn); omega) _ 0 rfl (Nat.zero_le _) (fun j hj h0 => absurd h0 (Nat.not_lt_zero _))

/-! ### the law's bounds -/
theorem Records_l0 (l : List S43) (hl : l.length ≤ 9223372036854775807) : ∀ (d i n : Nat), l.length - i = d → i ≤ l.length → n ≤ 9223372036854775807 → (∀ j (hj : j < l.length), j < i → l[j].f4.size ≤ 4000) → ∃ b, Ev (fun k => freshetalike_Records.l0 k l 4000 (n : Int) (i : Int)) b ∧ (b = true → ∀ r ∈ l, r.f4.size ≤ 4000)
  | d, i, n, hd, hi, hn, hb => by
    by_cases hlt : i < l.length
    · by_cases hle : n ≤ 4000
      · by_cases h0 : (l[i].f0.size : Int) > 4000
        · refine ⟨false, ?_, fun h => by cases h⟩
          refine Ev.step (f := fun k => freshetalike_Records.j1 k l 4000 (n : Int) (i : Int) true) (fun k => ?_) (Ev.step (f := fun _ => some false) (fun k => ?_) (Ev.now _))
          · simp only [freshetalike_Records.l0]
            rw [if_pos (by omega), decide_eq_true (by omega)]
          · simp only [freshetalike_Records.j1]
            rw [if_pos trivial, if_pos (by omega), if_pos (by omega), rd_RR l i hlt, if_pos h0]
        · by_cases h4 : (l[i].f4.size : Int) > 4000
          · refine ⟨false, ?_, fun h => by cases h⟩
            refine Ev.step (f := fun k => freshetalike_Records.j1 k l 4000 (n : Int) (i : Int) true) (fun k => ?_) (Ev.step (f := fun _ => some false) (fun k => ?_) (Ev.now _))
            · simp only [freshetalike_Records.l0]
              rw [if_pos (by omega), decide_eq_true (by omega)]
            · simp only [freshetalike_Records.j1]
              rw [if_pos trivial, if_pos (by omega), if_pos (by omega), rd_RR l i hlt, if_neg h0, if_pos h4]
          · cases d with
            | zero => omega
            | succ d =>
              obtain ⟨b, hbv, hbt⟩ := Records_l0 l hl d (i + 1) (n + l[i].f0.size + l[i].f4.size) (by omega) (by omega) (by omega) (fun j hj hji => by
                rcases Nat.lt_or_ge j i with h1 | h1
                · exact hb j hj h1
                · obtain rfl : j = i := by omega
                  omega)
              refine ⟨b, ?_, hbt⟩
              refine Ev.step (f := fun k => freshetalike_Records.j1 k l 4000 (n : Int) (i : Int) true) (fun k => ?_) (Ev.step (f := fun k => freshetalike_Records.l0 k l 4000 ((n + l[i].f0.size + l[i].f4.size : Nat) : Int) ((i + 1 : Nat) : Int)) (fun k => ?_) hbv)
              · simp only [freshetalike_Records.l0]
                rw [if_pos (by omega), decide_eq_true (by omega)]
              · simp only [freshetalike_Records.j1]
                rw [if_pos trivial, if_pos (by omega), if_pos (by omega), rd_RR l i hlt, if_neg h0, if_neg h4, w64 (x := (n : Int) + (l[i].f0.size : Int)) (by omega) (by omega), w64 (x := (n : Int) + (l[i].f0.size : Int) + (l[i].f4.size : Int)) (by omega) (by omega), w64 (by omega) (by omega)]
                rfl
      · refine ⟨false, ?_, fun h => by cases h⟩
        refine Ev.step (f := fun k => freshetalike_Records.j1 k l 4000 (n : Int) (i : Int) false) (fun k => ?_) (Ev.step (f := fun _ => some false) (fun k => ?_) (Ev.now _))
        · simp only [freshetalike_Records.l0]
          rw [if_pos (by omega), decide_eq_false (by omega)]
        · simp only [freshetalike_Records.j1]
          rw [if_neg (by decide), decide_eq_false (by omega)]
    · refine ⟨decide ((n : Int) ≤ 4000), ?_, fun _ r hr => ?_⟩
      · refine Ev.step (f := fun k => freshetalike_Records.j1 k l 4000 (n : Int) (i : Int) false) (fun k => ?_) (Ev.step (f := fun _ => some (decide ((n : Int) ≤ 4000))) (fun k => ?_) (Ev.now _))
        · simp only [freshetalike_Records.l0]
          rw [if_neg (by omega)]
        · simp only [freshetalike_Records.j1]
          rw [if_neg (by decide)]
      · obtain ⟨j, hj, rfl⟩ := List.mem_iff_getElem.1 hr
        exact hb j hj (by omega)
theorem Records_ev (l : List S43) (hl : l.length ≤ 9223372036854775807) : ∃ b, Ev (fun k => freshetalike_Records.f k l 4000) b ∧ (b = true → ∀ r ∈ l, r.f4.size ≤ 4000) :=
  Records_l0 l hl l.length 0 l.length rfl (Nat.zero_le _) hl (fun j hj h0 => absurd h0 (Nat.not_lt_zero _))
theorem Short_l0 (l : List ByteArray) (hl : l.length ≤ 9223372036854775807) : ∀ (d i n : Nat), l.length - i = d → i ≤ l.length → n ≤ 9223372036854775807 → (∀ j (hj : j < l.length), j < i → l[j].size ≤ 2000) → l.length ≤ n → ∃ b, Ev (fun k => freshetalike_Short.l0 k l 2000 (n : Int) (i : Int)) b ∧ (b = true → l.length ≤ 2000 ∧ ∀ r ∈ l, r.size ≤ 2000)
  | d, i, n, hd, hi, hn, hb, hln => by
    by_cases hlt : i < l.length
    · by_cases hle : n ≤ 2000
      · by_cases h0 : (l[i].size : Int) > 2000
        · refine ⟨false, ?_, fun h => by cases h⟩
          refine Ev.step (f := fun k => freshetalike_Short.j1 k l 2000 (n : Int) (i : Int) true) (fun k => ?_) (Ev.step (f := fun _ => some false) (fun k => ?_) (Ev.now _))
          · simp only [freshetalike_Short.l0]
            rw [if_pos (by omega), decide_eq_true (by omega)]
          · simp only [freshetalike_Short.j1]
            rw [if_pos trivial, if_pos (by omega), if_pos (by omega), rdS l i hlt, if_pos h0]
        · cases d with
          | zero => omega
          | succ d =>
            obtain ⟨b, hbv, hbt⟩ := Short_l0 l hl d (i + 1) (n + l[i].size) (by omega) (by omega) (by omega) (fun j hj hji => by
              rcases Nat.lt_or_ge j i with h1 | h1
              · exact hb j hj h1
              · obtain rfl : j = i := by omega
                omega) (by omega)
            refine ⟨b, ?_, hbt⟩
            refine Ev.step (f := fun k => freshetalike_Short.j1 k l 2000 (n : Int) (i : Int) true) (fun k => ?_) (Ev.step (f := fun k => freshetalike_Short.l0 k l 2000 ((n + l[i].size : Nat) : Int) ((i + 1 : Nat) : Int)) (fun k => ?_) hbv)
            · simp only [freshetalike_Short.l0]
              rw [if_pos (by omega), decide_eq_true (by omega)]
            · simp only [freshetalike_Short.j1]
              rw [if_pos trivial, if_pos (by omega), if_pos (by omega), rdS l i hlt, if_neg h0, w64 (x := (n : Int) + (l[i].size : Int)) (by omega) (by omega), w64 (by omega) (by omega)]
              rfl
      · refine ⟨false, ?_, fun h => by cases h⟩
        refine Ev.step (f := fun k => freshetalike_Short.j1 k l 2000 (n : Int) (i : Int) false) (fun k => ?_) (Ev.step (f := fun _ => some false) (fun k => ?_) (Ev.now _))
        · simp only [freshetalike_Short.l0]
          rw [if_pos (by omega), decide_eq_false (by omega)]
        · simp only [freshetalike_Short.j1]
          rw [if_neg (by decide), decide_eq_false (by omega)]
    · refine ⟨decide ((n : Int) ≤ 2000), ?_, fun h => ⟨by have := of_decide_eq_true h; omega, fun r hr => ?_⟩⟩
      · refine Ev.step (f := fun k => freshetalike_Short.j1 k l 2000 (n : Int) (i : Int) false) (fun k => ?_) (Ev.step (f := fun _ => some (decide ((n : Int) ≤ 2000))) (fun k => ?_) (Ev.now _))
        · simp only [freshetalike_Short.l0]
          rw [if_neg (by omega)]
        · simp only [freshetalike_Short.j1]
          rw [if_neg (by decide)]
      · obtain ⟨j, hj, rfl⟩ := List.mem_iff_getElem.1 hr
        exact hb j hj (by omega)
theorem Short_ev (l : List ByteArray) (hl : l.length ≤ 9223372036854775807) : ∃ b, Ev (fun k => freshetalike_Short.f k l 2000) b ∧ (b = true → l.length ≤ 2000 ∧ ∀ r ∈ l, r.size ≤ 2000) :=
  Short_l0 l hl l.length 0 l.length rfl (Nat.zero_le _) hl (fun j hj h0 => absurd h0 (Nat.not_lt_zero _)) (Nat.le_refl _)
section
variable (a0 : ByteArray) (a1 : Int) (rs : List S43) (a3 : Int) (a4 : ByteArray) (l : List S143)
theorem few_end (hl : l.length ≤ 9223372036854775807) (hr : rs.length ≤ 9223372036854775807) (i : Nat) (hb : ∀ j (hj : j < l.length), j < i → l[j].f0.size ≤ 300 ∧ l[j].f1.length ≤ 20) (hi : l.length ≤ i ∨ 40 ≤ i) :
    ∃ b, Ev (fun k => freshetlaw15_few.j1 k l (i : Int) false a0 a1 rs a3 a4) b ∧ (b = true → smallK (conv l) ∧ l.length ≤ 30 ∧ smallSet rs) := by
  by_cases h30 : (l.length : Int) ≤ 30
  · by_cases h40 : (rs.length : Int) ≤ 40
    · obtain ⟨b, hbv, hbt⟩ := Records_ev rs hr
      refine ⟨b, ?_, fun h => ⟨⟨by simp [conv]; omega, fun x hx => ?_⟩, by omega, ⟨by omega, fun r hr => by have := hbt h r hr; omega⟩⟩⟩
      · refine Ev.step (f := fun k => ((freshetalike_Records.f k rs 4000).bind fun t => (some t))) (fun k => ?_) (Ev.bind (f := fun k t => some t) hbv (Ev.now _))
        simp only [freshetlaw15_few.j1]
        rw [if_neg (by decide), if_pos h30, if_pos h40]
      · obtain ⟨y, hy, rfl⟩ := List.mem_map.1 hx
        obtain ⟨j, hj, rfl⟩ := List.mem_iff_getElem.1 hy
        exact hb j hj (by omega)
    · refine ⟨false, Ev.step (f := fun _ => some false) (fun k => ?_) (Ev.now _), fun h => by cases h⟩
      simp only [freshetlaw15_few.j1]
      rw [if_neg (by decide), if_pos h30, if_neg h40]
  · refine ⟨false, Ev.step (f := fun _ => some false) (fun k => ?_) (Ev.now _), fun h => by cases h⟩
    simp only [freshetlaw15_few.j1]
    rw [if_neg (by decide), if_neg h30]
theorem few_l0 (hl : l.length ≤ 9223372036854775807) (hr : rs.length ≤ 9223372036854775807) : ∀ (d i : Nat), 40 - i = d → i ≤ 40 → (∀ j (hj : j < l.length), j < i → l[j].f0.size ≤ 300 ∧ l[j].f1.length ≤ 20) →
    ∃ b, Ev (fun k => freshetlaw15_few.l0 k l (i : Int) a0 a1 rs a3 a4) b ∧ (b = true → smallK (conv l) ∧ l.length ≤ 30 ∧ smallSet rs)
  | d, i, hd, hi, hb => by
    by_cases hlt : i < l.length
    · by_cases h40 : i < 40
      · have hrd : rd_T143 l (i : Int) = l[i] := by simp [rd_T143, List.getElem?_eq_getElem hlt]
        by_cases h0 : (l[i].f0.size : Int) > 300
        · refine ⟨false, ?_, fun h => by cases h⟩
          refine Ev.step (f := fun k => freshetlaw15_few.j1 k l (i : Int) true a0 a1 rs a3 a4) (fun k => ?_) (Ev.step (f := fun _ => some false) (fun k => ?_) (Ev.now _))
          · simp only [freshetlaw15_few.l0]
            rw [if_pos (by omega), decide_eq_true (by omega)]
          · simp only [freshetlaw15_few.j1]
            rw [if_pos trivial, if_pos (by omega), if_pos (by omega), hrd, if_pos h0]
        · by_cases h4 : (l[i].f1.length : Int) > 20
          · refine ⟨false, ?_, fun h => by cases h⟩
            refine Ev.step (f := fun k => freshetlaw15_few.j1 k l (i : Int) true a0 a1 rs a3 a4) (fun k => ?_) (Ev.step (f := fun _ => some false) (fun k => ?_) (Ev.now _))
            · simp only [freshetlaw15_few.l0]
              rw [if_pos (by omega), decide_eq_true (by omega)]
            · simp only [freshetlaw15_few.j1]
              rw [if_pos trivial, if_pos (by omega), if_pos (by omega), hrd, if_neg h0, if_pos h4]
          · cases d with
            | zero => omega
            | succ d =>
              obtain ⟨b, hbv, hbt⟩ := few_l0 hl hr d (i + 1) (by omega) (by omega) (fun j hj hji => by
                rcases Nat.lt_or_ge j i with h1 | h1
                · exact hb j hj h1
                · obtain rfl : j = i := by omega
                  exact ⟨by omega, by omega⟩)
              refine ⟨b, ?_, hbt⟩
              refine Ev.step (f := fun k => freshetlaw15_few.j1 k l (i : Int) true a0 a1 rs a3 a4) (fun k => ?_) (Ev.step (f := fun k => freshetlaw15_few.l0 k l ((i + 1 : Nat) : Int) a0 a1 rs a3 a4) (fun k => ?_) hbv)
              · simp only [freshetlaw15_few.l0]
                rw [if_pos (by omega), decide_eq_true (by omega)]
              · simp only [freshetlaw15_few.j1]
                rw [if_pos trivial, if_pos (by omega), if_pos (by omega), hrd, if_neg h0, if_neg h4, w64 (by omega) (by omega)]
                rfl
      · obtain ⟨b, hbv, hbt⟩ := few_end a0 a1 rs a3 a4 l hl hr i hb (.inr (by omega))
        refine ⟨b, Ev.step (f := fun k => freshetlaw15_few.j1 k l (i : Int) false a0 a1 rs a3 a4) (fun k => ?_) hbv, hbt⟩
        simp only [freshetlaw15_few.l0]
        rw [if_pos (by omega), decide_eq_false (by omega)]
    · obtain ⟨b, hbv, hbt⟩ := few_end a0 a1 rs a3 a4 l hl hr i hb (.inl (by omega))
      refine ⟨b, Ev.step (f := fun k => freshetlaw15_few.j1 k l (i : Int) false a0 a1 rs a3 a4) (fun k => ?_) hbv, hbt⟩
      simp only [freshetlaw15_few.l0]
      rw [if_neg (by omega)]
theorem few_ev (hl : l.length ≤ 9223372036854775807) (hr : rs.length ≤ 9223372036854775807) : ∃ b, Ev (fun k => freshetlaw15_few.f k a0 a1 rs a3 a4 l) b ∧ (b = true → smallK (conv l) ∧ l.length ≤ 30 ∧ smallSet rs) :=
  few_l0 a0 a1 rs a3 a4 l hl hr 40 0 rfl (by omega) (fun j hj h0 => absurd h0 (Nat.not_lt_zero _))
end
end Go.Proofs.YtjiheepiobffkaaGreat.Fr
