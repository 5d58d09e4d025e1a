/-
  The law PickOrder answers true: in plain words.
-/
import Derived.Test.YtjiheepiobffkaaPlOrder
namespace Go.Proofs.Ytjiheepiobffkaa.Fr
open Go.RowKit Go.Proofs.YtjiheepiobffkaaW.PrintWords Go.Proofs.Ytjiheepiobffkaa.Pr
open Go.Sort hiding rd
open Go.Lib

theorem round_some (a n : Int) (hn : 1 ≤ n) (hn2 : n ≤ 1000) : ∃ p : Nat, freshetalike_Round.f a n = some (p : Int) ∧ (p : Int) < n := by
  unfold freshetalike_Round.f
  rw [if_neg (by omega)]
  have h1 := Int.tmod_lt_of_pos a (show 0 < n by omega)
  have h2 := Int.lt_tmod_of_pos a (show 0 < n by omega)
  rw [w64 (by omega) (by omega)]
  have h3 : 0 ≤ Int.tmod a n + n := by omega
  have h4 := Int.tmod_nonneg n h3
  have h5 := Int.tmod_lt_of_pos (Int.tmod a n + n) (show 0 < n by omega)
  exact ⟨(Int.tmod (Int.tmod a n + n) n).toNat, by rw [Int.toNat_of_nonneg h4], by omega⟩

instance memB (a : ByteArray) (l : List ByteArray) : Decidable (a ∈ l) := @List.instDecidableMemOfLawfulBEq ByteArray instBEqOfDecidableEq inferInstance a l

/-! ### the five names -/
def five : List ByteArray := [⟨#[1, 97, 0]⟩, ⟨#[1, 98, 1, 97, 0]⟩, ⟨#[1, 98, 0]⟩, ⟨#[1, 97, 1, 98, 0]⟩, ⟨#[1, 99, 0]⟩]
theorem five_good : ∀ x ∈ five, good x := by decide +kernel
theorem five_fold : ∀ x ∈ five, valid (bl x) = true ∧ mkB (foldN (bl x)) = x := by decide +kernel
theorem five_sorted : five.Pairwise (fun a b => ltN a b = true) := by decide +kernel

theorem good_once (l : List ByteArray) (h : ∀ x ∈ l, good x) (m : List ByteArray) (hm : m.Pairwise (fun a b => ltN a b = true)) (hg : ∀ x ∈ m, good x) (hz : ∀ z, z ∈ m ↔ z ∈ l) : allU ltN l = m := by
  let la : List GName := l.attachWith good h
  have hla : la.map Subtype.val = l := map_attach l h
  let ma : List GName := m.attachWith good hg
  have hma : ma.map Subtype.val = m := map_attach m hg
  rw [← hla, allU_map Subtype.val (fun x y e => Subtype.ext e) (fun x y : GName => ltN x.1 y.1) ltN (fun x y => rfl), ← hma]
  congr 1
  refine sorted_unique total_names _ _ (allU_sorted total_names la) ?_ (fun z => ?_)
  · have := hm
    rw [← hma, List.pairwise_map] at this
    exact this
  · rw [allU_mem total_names]
    have h1 : z ∈ la ↔ z.1 ∈ l := by rw [← hla]; exact ⟨fun h => List.mem_map.2 ⟨z, h, rfl⟩, fun h => by obtain ⟨y, hy, he⟩ := List.mem_map.1 h; rwa [Subtype.ext he] at hy⟩
    have h2 : z ∈ ma ↔ z.1 ∈ m := by rw [← hma]; exact ⟨fun h => List.mem_map.2 ⟨z, h, rfl⟩, fun h => by obtain ⟨y, hy, he⟩ := List.mem_map.1 h; rwa [Subtype.ext he] at hy⟩
    rw [h1, h2, hz]
theorem set_once (l : List ByteArray) (h : ∀ x ∈ l, good x) : targetsR (setR l) = allU ltN l := by
  rw [targetsR_set]
  congr 1
  induction l with
  | nil => rfl
  | cons d l ih =>
    have hd := h d List.mem_cons_self
    have ih := ih (fun x hx => h x (List.mem_cons_of_mem _ hx))
    rw [List.filter_cons, if_pos hd.1, List.map_cons, ih]
    congr 1
    unfold foldN
    rw [if_pos hd.1, hd.2]
    rfl

def wantO (n : ByteArray) : List S25 := [⟨n, 2⟩, ⟨n, (n.size : Int)⟩]
theorem rowO : ∀ n ∈ five, rowS TO n = wantO n := by
  intro n hn
  unfold rowS
  rw [uniq_eq]
  revert n
  decide +kernel

/-- Which of the five are there. -/
def flags (l : List ByteArray) : List Bool := five.map fun n => decide (n ∈ l)
def wantF (l : List ByteArray) : List S25 := (five.filter fun n => decide (n ∈ l)).flatMap wantO
theorem servers_five (l : List ByteArray) (h : ∀ x ∈ l, x ∈ five) : serversR TO (targetsR (setR l)) = wantF l := by
  rw [set_once l (fun x hx => five_good x (h x hx))]
  have hf : allU ltN l = five.filter fun n => decide (n ∈ l) := by
    refine good_once l (fun x hx => five_good x (h x hx)) _ (five_sorted.filter _) (fun x hx => five_good x (List.mem_filter.1 hx).1) (fun z => ?_)
    rw [List.mem_filter, decide_eq_true_eq]
    exact ⟨fun h => h.2, fun hz => ⟨h z hz, hz⟩⟩
  rw [hf]
  unfold serversR wantF
  have : ∀ m : List ByteArray, (∀ x ∈ m, x ∈ five) → m.flatMap (rowS TO) = m.flatMap wantO := by
    intro m
    induction m with
    | nil => intro _; rfl
    | cons x m ih =>
      intro hm
      rw [List.flatMap_cons, List.flatMap_cons, rowO x (hm x List.mem_cons_self), ih (fun y hy => hm y (List.mem_cons_of_mem _ hy))]
  exact this _ (fun x hx => (List.mem_filter.1 hx).1)

theorem five_length : five.length = 5 := rfl
theorem flags_length (l : List ByteArray) : (flags l).length = 5 := by simp [flags, five]
theorem flags_add (l : List ByteArray) (p : Nat) (hp : p < five.length) : flags (l ++ [five[p]]) = (flags l).set p true := by
  have hinj : ∀ p, p < 5 → ∀ j, j < 5 → five[p]? = five[j]? → p = j := by decide +kernel
  have h5 := five_length
  apply List.ext_getElem?
  intro j
  rw [List.getElem?_set]
  unfold flags
  rw [List.getElem?_map, List.getElem?_map, List.length_map]
  by_cases h : p = j
  · subst h
    rw [if_pos rfl, if_pos hp, List.getElem?_eq_getElem hp]
    simp
  · rw [if_neg h]
    cases hj : five[j]? with
    | none => rfl
    | some x =>
      simp only [Option.map_some, List.mem_append, List.mem_singleton, Option.some.injEq, decide_eq_decide]
      refine ⟨fun h' => h'.elim id (fun e => ?_), .inl⟩
      obtain ⟨hjl, hx⟩ := List.getElem?_eq_some_iff.1 hj
      rw [← hx] at e
      exact absurd (hinj p (by omega) j (by omega) (by rw [List.getElem?_eq_getElem hp, List.getElem?_eq_getElem hjl, e])) h

/-! ### the second loop -/
theorem PO_l1 (x4 : List ByteArray) (h4 : ∀ x ∈ x4, x ∈ five) (hl : x4.length ≤ 12) : ∀ (d j : Nat), five.length - j = d → j ≤ five.length → Ev (fun k => freshetlaw15_PickOrder.l1 k five x4 (flags x4) () (((five.take j).filter fun n => decide (n ∈ x4)).flatMap wantO) (j : Int)) true
  | 0, j, hd, hj => by
    have h5 := five_length
    obtain rfl : j = five.length := by omega
    rw [List.take_length]
    have hset := set_l0 x4 (by omega) x4.length 0 (by omega) (by omega)
    have hsmall : smallSet (setR x4) := by
      refine ⟨by simp [setR]; omega, fun r hr => ?_⟩
      obtain ⟨d, hd, rfl⟩ := List.mem_map.1 hr
      have := good_size (five_good d (h4 d hd))
      show d.size ≤ _
      omega
    refine Ev.step (f := fun k => ((freshetlaw15_set.f k x4).bind fun bt125 => ((order_Servers.f bt125.1 bt125.2.1 bt125.2.2.1 bt125.2.2.2.1 bt125.2.2.2.2 ()).bind fun t132 => ((freshetalike_Servers.f k t132 (wantF x4)).bind fun t135 => (if t135 = true then ((law15_awake.f).bind fun t136 => (some t136)) else (some false)))))) (fun k => ?_) ?_
    · simp only [freshetlaw15_PickOrder.l1]
      rw [if_neg (by omega)]
      rfl
    · refine Ev.bind (f := fun k bt125 => ((order_Servers.f bt125.1 bt125.2.1 bt125.2.2.1 bt125.2.2.2.1 bt125.2.2.2.2 ()).bind fun t132 => ((freshetalike_Servers.f k t132 (wantF x4)).bind fun t135 => (if t135 = true then ((law15_awake.f).bind fun t136 => (some t136)) else (some false))))) hset ?_
      refine Ev.congr (f := fun k => ((freshetalike_Servers.f k (wantF x4) (wantF x4)).bind fun t135 => (if t135 = true then ((law15_awake.f).bind fun t136 => (some t136)) else (some false)))) (fun k => ?_) ?_
      · unfold order_Servers.f
        rw [if_pos hsmall, servers_five x4 h4]
        rfl
      · have ha := alike_ev (wantF x4) (wantF x4) (by
          have h1 : ((five.filter fun n => decide (n ∈ x4))).length ≤ 5 := List.length_filter_le _ _
          have h2 : ∀ m : List ByteArray, (m.flatMap wantO).length = m.length * 2 := fun m => by
            induction m with
            | nil => rfl
            | cons x m ih => rw [List.flatMap_cons, List.length_append, ih]; simp [wantO]; omega
          unfold wantF
          rw [h2]; omega)
        rw [decide_eq_true rfl] at ha
        refine Ev.bind (f := fun k t135 => (if t135 = true then ((law15_awake.f).bind fun t136 => (some t136)) else (some false))) ha ?_
        exact Ev.now _
  | d + 1, j, hd, hj => by
    have h5 := five_length
    have hlt : j < five.length := by omega
    have ih := PO_l1 x4 h4 hl d (j + 1) (by omega) (by omega)
    have hfl := flags_length x4
    have hfj : rdOf false (flags x4) (j : Int) = decide (five[j] ∈ x4) := by
      unfold rdOf flags
      rw [Int.toNat_natCast, List.getD_eq_getElem?_getD, List.getElem?_map, List.getElem?_eq_getElem hlt]
      rfl
    have hlen : (((five.take j).filter fun n => decide (n ∈ x4)).flatMap wantO).length ≤ 10 := by
      have h1 : (((five.take j).filter fun n => decide (n ∈ x4))).length ≤ (five.take j).length := List.length_filter_le _ _
      have h2 : ∀ m : List ByteArray, (m.flatMap wantO).length = m.length * 2 := fun m => by
        induction m with
        | nil => rfl
        | cons x m ih => rw [List.flatMap_cons, List.length_append, ih]; simp [wantO]; omega
      rw [h2]
      rw [List.length_take] at h1
      omega
    have htk : ((five.take (j + 1)).filter fun n => decide (n ∈ x4)).flatMap wantO = ((five.take j).filter fun n => decide (n ∈ x4)).flatMap wantO ++ (if five[j] ∈ x4 then wantO five[j] else []) := by
      rw [List.take_succ_eq_append_getElem hlt, List.filter_append, List.flatMap_append]
      congr 1
      by_cases h : five[j] ∈ x4
      · simp [h]
      · simp [h]
    rw [htk] at ih
    refine Ev.step (f := fun k => if decide (five[j] ∈ x4) = true then (if (((five.take j).filter fun n => decide (n ∈ x4)).flatMap wantO).length + (wantO five[j]).length < 5864062014805 then (freshetlaw15_PickOrder.l1 k five x4 (flags x4) () (((five.take j).filter fun n => decide (n ∈ x4)).flatMap wantO ++ wantO five[j]) (wrap64 ((j : Int) + 1))) else (none)) else (freshetlaw15_PickOrder.l1 k five x4 (flags x4) () (((five.take j).filter fun n => decide (n ∈ x4)).flatMap wantO) (wrap64 ((j : Int) + 1)))) (fun k => ?_) ?_
    · simp only [freshetlaw15_PickOrder.l1]
      rw [if_pos (by omega), if_pos (by omega), if_pos (by rw [hfl]; omega), hfj]
      by_cases h : five[j] ∈ x4
      · rw [if_pos (decide_eq_true h), if_pos (decide_eq_true h), if_pos (by omega), rdOf_nat _ _ _ hlt]
        rfl
      · rw [if_neg (by simpa using h), if_neg (by simpa using h)]
    · rw [w64 (by omega) (by omega)]
      by_cases h : five[j] ∈ x4
      · rw [if_pos h] at ih
        exact Ev.congr (fun k => by rw [if_pos (decide_eq_true h), if_pos (by simp only [wantO, List.length_cons, List.length_nil]; omega)]; rfl) ih
      · rw [if_neg h, List.append_nil] at ih
        exact Ev.congr (fun k => by rw [if_neg (by simpa using h)]; rfl) ih

/-! ### the first loop -/
theorem PO_l0 (l0 : List Int) (hl : l0.length ≤ 12) : ∀ (d i : Nat), l0.length - i = d → i ≤ l0.length → ∀ x4 : List ByteArray, x4.length = i → (∀ x ∈ x4, x ∈ five) → Ev (fun k => freshetlaw15_PickOrder.l0 k l0 five x4 (flags x4) (i : Int)) true
  | 0, i, hd, hi, x4, h, h4 => by
    obtain rfl : i = l0.length := by omega
    refine Ev.step (f := fun k => freshetlaw15_PickOrder.l1 k five x4 (flags x4) () [] ((0 : Nat) : Int)) (fun k => ?_) (PO_l1 x4 h4 (by omega) 5 0 rfl (by omega))
    simp only [freshetlaw15_PickOrder.l0]
    rw [if_neg (by omega)]
    rfl
  | d + 1, i, hd, hi, x4, h, h4 => by
    have h5 := five_length
    obtain ⟨p, hp, hp5⟩ := round_some (Go.Proofs.YtjiheepiobffkaaW.PrintWords.rd l0 (i : Int)) 5 (by omega) (by omega)
    have hpl : p < five.length := by omega
    have ih := PO_l0 l0 hl d (i + 1) (by omega) (by omega) (x4 ++ [five[p]]) (by simp [h]) (fun x hx => by
      rcases List.mem_append.1 hx with hx | hx
      · exact h4 x hx
      · rw [List.mem_singleton.1 hx]; exact List.getElem_mem hpl)
    rw [flags_add x4 p hpl] at ih
    have hfl := flags_length x4
    refine Ev.step (f := fun k => freshetlaw15_PickOrder.l0 k l0 five (x4 ++ [five[p]]) ((flags x4).set p true) ((i + 1 : Nat) : Int)) (fun k => ?_) ih
    simp only [freshetlaw15_PickOrder.l0]
    rw [if_pos (by omega), if_pos (by omega), hp]
    simp only [Option.bind_some]
    rw [if_pos (by omega), if_pos (by omega), if_pos (by omega), if_pos (by rw [hfl]; omega), rdOf_nat _ _ _ hpl, Int.toNat_natCast, w64 (by omega) (by omega)]
    rfl

theorem PickOrder_ev (l0 : List Int) : Ev (fun k => freshetlaw15_PickOrder.f k l0) true := by
  unfold freshetlaw15_PickOrder.f
  by_cases h : (l0.length : Int) > 12
  · exact Ev.congr (f := fun _ => some true) (fun k => by rw [if_pos h]; rfl) (Ev.now _)
  · exact Ev.congr (f := fun k => freshetlaw15_PickOrder.l0 k l0 five [] (flags []) ((0 : Nat) : Int)) (fun k => by rw [if_neg h, if_pos (by omega)]; rfl) (PO_l0 l0 (by omega) l0.length 0 (by omega) (by omega) [] rfl (by simp))

theorem PickOrder_calls (A0 : Option Addr) (c0 : Nat) (l0 : List Int) (w : World) (hr0 : Kd.C (Kd.int .i64) w A0 l0.length l0) (hc0 : l0.length ≤ c0) :
    Calls Try.prog 5 #[.slice A0 l0.length c0] w fun e w' => e = .returned (.bool true) ∧ Below w.heap.size w w' := by
  obtain ⟨K, hK⟩ := PickOrder_ev l0
  exact freshetlaw15_PickOrder.calls K A0 c0 l0 true w hr0 hc0 (hK K (Nat.le_refl _))
end Go.Proofs.Ytjiheepiobffkaa.Fr
