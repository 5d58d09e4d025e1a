/-
  Folding a name's bytes: the text's own pure function (foldB), and the two Go functions that make it: 'name.fold' (range over []byte(s), a store) and the reference's loop in 'freshetref1.Fold'.
-/
import Derived.Test.YtjiheepiobffkaaGreatProg
import Derived.Test.YtjiheepiobffkaaGreatPure
import Derived.Below
import Derived.WalkKit
import Derived.Lib.ConvBytes
import Derived.Laws.BytesArg
import Derived.Lib.Hide
import Derived.KernelRfl
namespace Go.Proofs.YtjiheepiobffkaaGreat.Fr
open Go.RowKit

/-- A text with small letters. -/
def foldB (s : ByteArray) : ByteArray := mkB (foldL (bl s))

/-- The bytes when k of them have been folded. -/
def foldUp (l : List UInt8) (k : Nat) : List UInt8 := (l.take k).map foldByte ++ l.drop k
theorem foldUp_zero (l : List UInt8) : foldUp l 0 = l := by simp [foldUp]
theorem foldUp_all (l : List UInt8) : foldUp l l.length = l.map foldByte := by simp [foldUp]
theorem foldUp_length (l : List UInt8) (k : Nat) : (foldUp l k).length = l.length := by
  simp [foldUp]; omega
theorem foldUp_get (l : List UInt8) (k : Nat) (h : k < l.length) : (foldUp l k)[k]? = some l[k] := by
  unfold foldUp
  rw [List.getElem?_append_right (by simp; omega)]
  simp [List.length_take, Nat.min_eq_left (Nat.le_of_lt h), List.getElem?_eq_getElem h]
theorem foldUp_succ (l : List UInt8) (k : Nat) (h : k < l.length) : foldUp l (k + 1) = (foldUp l k).set k (foldByte l[k]) := by
  unfold foldUp
  rw [List.take_succ_eq_append_getElem h, List.map_append, List.append_assoc, List.set_append_right _ _ (by simp; omega)]
  congr 1
  simp only [List.length_map, List.length_take, Nat.min_eq_left (Nat.le_of_lt h), Nat.sub_self, List.map_cons, List.map_nil]
  rw [List.drop_eq_getElem_cons h]
  rfl

/-- Block g holds just these bytes in its first places, and may be written there. -/
def BlkBytes (w : World) (g : Nat) (l : List UInt8) : Prop :=
  ∃ (cs rest : Array Value) (t : Nat) (lo hi : Nat), w.heap[g]? = some (.cells cs t (lo, hi)) ∧ cs = (l.map fun b => Value.int .u8 b.toNat).toArray ++ rest ∧ l.length ≤ lo
theorem BlkBytes.new (w : World) (e : TypeId) (s : ByteArray) : BlkBytes (Lib.bytesWorld w e s) w.heap.size s.data.toList :=
  ⟨_, _, _, _, _, Lib.bytesWorld_at_new w e s, by unfold Lib.bytesCells; rw [← Array.toList_map], by simp [Lib.bytesCells]⟩
theorem BlkBytes.cell {w : World} {g : Nat} {l : List UInt8} (h : BlkBytes w g l) (k : Nat) (hk : k < l.length) : w.cell? ⟨g, k, none⟩ = some (.int .u8 (l[k].toNat)) := by
  obtain ⟨cs, rest, t, lo, hi, hh, rfl, hlo⟩ := h
  simp [World.cell?, hh, Array.getElem?_append, hk]
theorem BlkBytes.frozen {w : World} {g : Nat} {l : List UInt8} (h : BlkBytes w g l) (k : Nat) (hk : k < l.length) : w.frozen? ⟨g, k, none⟩ = false := by
  obtain ⟨cs, rest, t, lo, hi, hh, rfl, hlo⟩ := h
  simp [World.frozen?, hh]
  omega
theorem BlkBytes.set {w : World} {g : Nat} {l : List UInt8} (h : BlkBytes w g l) (k : Nat) (hk : k < l.length) (c : UInt8) : BlkBytes (w.setCell ⟨g, k, none⟩ (.int .u8 c.toNat)) g (l.set k c) := by
  obtain ⟨cs, rest, t, lo, hi, hh, rfl, hlo⟩ := h
  refine ⟨_, rest, t, lo, hi, ?_, rfl, by simpa using hlo⟩
  simp only [World.setCell, Array.getElem?_modify, if_true, hh, Option.map_some]
  congr 2
  apply Array.ext'
  simp [List.map_set, hk]
theorem BlkBytes.drew {w : World} {g : Nat} {l : List UInt8} (h : BlkBytes w g l) : BlkBytes w.drew g l := h

theorem str_of_map (l : List UInt8) : strOfNums (l.map fun b => ((b.toNat : Nat) : Int)) = ⟨l.toArray⟩ := by
  unfold strOfNums
  rw [List.map_map]
  congr 1
  rw [show ((fun n : Int => UInt8.ofNat n.toNat) ∘ fun b : UInt8 => ((b.toNat : Nat) : Int)) = id from funext fun b => by simp, List.map_id]

theorem foldByte_add (c : UInt8) (h1 : 65 ≤ c.toNat) (h2 : c.toNat ≤ 90) : (foldByte c).toNat = c.toNat + 32 := by
  unfold foldByte
  rw [if_pos ⟨h1, h2⟩, UInt8.toNat_add]
  show (c.toNat + 32) % 256 = _
  omega
theorem foldByte_keep (c : UInt8) (h : ¬ (65 ≤ c.toNat ∧ c.toNat ≤ 90)) : foldByte c = c := by
  unfold foldByte
  rw [if_neg h]


set_option maxRecDepth 100000 in
set_option maxHeartbeats 1000000 in
/-- 'name.fold': every text. -/
theorem fold_any (s : ByteArray) (w : World) (hs : s.size ≤ 9223372036854775807) :
    Calls Tryz.prog 144 #[.string s] w fun e w' => e = .returned (.string (foldB s)) ∧ Below w.heap.size w w' := by
  have hconv := fun W : World => Lib.run_convert_string_bytes (P := Tryz.prog) W 9 91 5 s Tryz.underlying9 Tryz.underlying91 Tryz.underlying5
  go_enter Tryz.func144, Tryz.ntmps144
  go_wp2
  have hb0 : Below w.heap.size w (Lib.bytesWorld w 5 s) := ⟨rfl, rfl, rfl, by rw [Lib.bytesWorld_size]; omega, fun k hk => Lib.bytesWorld_at_old w 5 s k hk⟩
  have hk0 := Lib.hid (BlkBytes.new w 5 s)
  generalize Lib.bytesWorld w 5 s = W0 at hb0 hk0 ⊢
  generalize grownCap w s.size 0 5 = C0
  clear hconv
  have hl : s.data.toList.length = s.size := Array.length_toList
  have HL := Lib.hid hl
  clear hl
  go_loopw [10] (fun i wr => ∃ k : Nat, k ≤ s.size ∧ i = .int .i64 k ∧ Hid (BlkBytes wr w.heap.size (foldUp s.data.toList k)) ∧ Below w.heap.size w wr) (fun i _ => s.size - (intOf i).toNat)
  case atStart => exact ⟨0, Nat.zero_le _, rfl, (by rw [foldUp_zero]; exact hk0), hb0⟩
  case round =>
    obtain ⟨k, hk, rfl, hblk, hb⟩ := hrel
    by_cases hlt : k < s.size
    · have hlen : k < s.data.toList.length := by rw [HL.out]; exact hlt
      have hlen' : k < (foldUp s.data.toList k).length := by rw [foldUp_length]; exact hlen
      have hg := foldUp_get s.data.toList k hlen
      rw [List.getElem?_eq_getElem hlen'] at hg
      injection hg with hg
      have hc := hblk.out.cell k hlen'
      rw [hg] at hc
      have hf := hblk.out.frozen k hlen'
      have HS := Lib.hid (foldUp_succ s.data.toList k hlen)
      have HG := Lib.hid hg
      clear hg
      generalize hcc : s.data.toList[k] = c at hc HS HG
      clear hcc
      have hc255 : c.toNat < 256 := c.toNat_lt
      by_cases h1 : (65 : Int) ≤ (c.toNat : Int)
      · by_cases h2 : (c.toNat : Int) ≤ 90
        · have HF := Lib.hid (foldByte_add c (by omega) (by omega))
          go_wp2
          go_roundw
          case rel =>
            refine ⟨k + 1, by omega, by go_num, ?_, hb.setCell (Nat.le_refl _) _⟩
            have h := hblk.out.set k hlen' (foldByte c)
            rw [HF.out, ← HS.out] at h
            rw [show (c.toNat : Int) + 97 - 65 = ((c.toNat + 32 : Nat) : Int) from by omega]
            exact h
          case measure => simp [intOf]; omega
        · have HF := Lib.hid (foldByte_keep c (by omega))
          go_wp2
          go_roundw
          case rel =>
            refine ⟨k + 1, by omega, by go_num, ?_, hb⟩
            show BlkBytes wr w.heap.size (foldUp s.data.toList (k + 1))
            rw [HS.out, HF.out, ← HG.out, List.set_getElem_self]
            exact hblk.out
          case measure => simp [intOf]; omega
      · have HF := Lib.hid (foldByte_keep c (by omega))
        go_wp2
        go_roundw
        case rel =>
          refine ⟨k + 1, by omega, by go_num, ?_, hb⟩
          show BlkBytes wr w.heap.size (foldUp s.data.toList (k + 1))
          rw [HS.out, HF.out, ← HG.out, List.set_getElem_self]
          exact hblk.out
        case measure => simp [intOf]; omega
    · obtain rfl : k = s.size := by omega
      have hcv := run_convert_bytes_arg (P := Tryz.prog) wr 91 5 Tryz.underlying91 Tryz.underlying5 w.heap.size 0 s.size C0 ((foldUp s.data.toList s.size).map fun b => ((b.toNat : Nat) : Int)) (by rw [List.length_map, foldUp_length, HL.out])
        (fun i hi => by
          have hi' : i < (foldUp s.data.toList s.size).length := by rw [foldUp_length, HL.out]; exact hi
          rw [Nat.zero_add, hblk.out.cell i hi']
          simp [List.getD, List.getElem?_eq_getElem hi']) 9 Tryz.underlying9
      rw [str_of_map] at hcv
      have HE : (⟨(foldUp s.data.toList s.size).toArray⟩ : ByteArray) = foldB s := by
        rw [← HL.out, foldUp_all]
        rfl
      rw [HE] at hcv
      clear HE
      obtain ⟨R, hR⟩ : ∃ R, R = foldB s := ⟨_, rfl⟩
      rw [← hR] at hcv
      have HR := Lib.hid hR
      clear hR hlt hk
      go_wp2
      go_ret
      exact ⟨by rw [← HR.out]; rfl, hb⟩

end Go.Proofs.YtjiheepiobffkaaGreat.Fr
