/-
  Numbers out of hex digits: what strconv.ParseUint at base 16 answers, in plain words.
  The reference's names of segments (layer 9): Digits, Number, Name, First. No conditions.
  The reference's names of segments, walked. No conditions.
-/
import Derived.Test.YtabfcciejhbajaaGreatDoorM13
import Derived.Lib.Strings
import Derived.Lib.ConvBytes
import Derived.Lib.AtoiAllMem
import Derived.Laws.Strings3
namespace Go.Proofs.YtabfcciejhbajaaGreatDoor
open Go Go.RowKit

/-- what a byte says as a digit of base 16, upper letters too -/
def dig16 (c : Nat) : Option Nat :=
  if 48 ≤ c ∧ c ≤ 57 then some (c - 48)
  else if 97 ≤ bits .or .u8 (c : Int) 32 ∧ bits .or .u8 (c : Int) 32 ≤ 102 then some (bits .or .u8 (c : Int) 32 - 87).toNat else none
inductive Pu16 where
  | ok (n : Nat)
  | syn
  | rng
/-- the bytes read on from acc -/
def parse16 : Nat → List UInt8 → Pu16
  | acc, [] => .ok acc
  | acc, c :: l =>
    match dig16 c.toNat with
    | none => .syn
    | some d => if 1152921504606846976 ≤ acc then .rng else parse16 (acc * 16 + d) l
theorem dig_hexD (d : Nat) (h : d < 16) : dig16 (hexD d).toNat = some d := by
  have : ∀ d : Fin 16, dig16 (hexD d.val).toNat = some d.val := by decide
  exact this ⟨d, h⟩
theorem hexD_inj {d e : Nat} (h : d < 16) (h' : e < 16) (q : hexD d = hexD e) : d = e := by
  have h1 := dig_hexD d h
  rw [q, dig_hexD e h'] at h1
  exact (Option.some.inj h1).symm
theorem parse_hexB (v : Nat) : ∀ k acc, acc * 16 ^ k + v % 16 ^ k < 18446744073709551616 → parse16 acc (hexB k v) = .ok (acc * 16 ^ k + v % 16 ^ k) := by
  intro k
  induction k with
  | zero => intro acc _; simp [hexB, parse16, Nat.mod_one]
  | succ k ih =>
    intro acc h
    have hm : v % 16 ^ (k + 1) = v % 16 ^ k + 16 ^ k * (v / 16 ^ k % 16) := by rw [Nat.pow_succ, Nat.mod_mul]
    have he : acc * 16 ^ (k + 1) + v % 16 ^ (k + 1) = (acc * 16 + v / 16 ^ k % 16) * 16 ^ k + v % 16 ^ k := by
      rw [hm, Nat.pow_succ, Nat.add_mul, Nat.mul_comm (v / 16 ^ k % 16), Nat.mul_assoc, Nat.mul_comm 16 (16 ^ k)]
      omega
    have hp : 0 < 16 ^ k := Nat.pow_pos (by omega)
    have hacc : acc < 1152921504606846976 := by
      have : acc * 16 ≤ acc * 16 ^ (k + 1) := Nat.mul_le_mul_left _ (by rw [Nat.pow_succ]; omega)
      omega
    rw [he] at h ⊢
    rw [hexB, parse16, dig_hexD _ (Nat.mod_lt _ (by omega))]
    simp only
    rw [if_neg (by omega)]
    exact ih _ h
theorem parse_hex16 (v : Nat) (h : v < 18446744073709551616) : parse16 0 (hexB 16 v) = .ok v := by
  have hm : v % 16 ^ 16 = v := Nat.mod_eq_of_lt h
  have := parse_hexB v 16 0 (by rw [hm]; omega)
  rw [this, hm, Nat.zero_mul, Nat.zero_add]
theorem hexB_inj {v u : Nat} (h : v < 18446744073709551616) (h' : u < 18446744073709551616) (q : hexB 16 v = hexB 16 u) : v = u := by
  have h1 := parse_hex16 v h
  rw [q, parse_hex16 u h'] at h1
  injection h1 with h2
  exact h2.symm
end Go.Proofs.YtabfcciejhbajaaGreatDoor

namespace Go.Proofs.YtabfcciejhbajaaGreatDoor
open Go Go.RowKit

theorem hexB_snoc (d : Nat) (hd : d < 16) : ∀ k a, hexB (k + 1) (a * 16 + d) = hexB k a ++ [hexD d] := by
  intro k
  induction k with
  | zero =>
    intro a
    have : (a * 16 + d) / 16 ^ 0 % 16 = d := by rw [Nat.pow_zero, Nat.div_one]; omega
    simp only [hexB, this, List.nil_append]
  | succ k ih =>
    intro a
    rw [hexB, ih a, hexB, List.cons_append]
    have : (a * 16 + d) / 16 ^ (k + 1) = a / 16 ^ k := by rw [Nat.pow_succ, Nat.mul_comm (16 ^ k) 16, ← Nat.div_div_eq_div_mul]; congr 1; omega
    rw [this]
theorem hexB_mem (v : Nat) : ∀ k c, c ∈ hexB k v → (48 ≤ c.toNat ∧ c.toNat ≤ 57) ∨ (97 ≤ c.toNat ∧ c.toNat ≤ 102) := by
  intro k
  induction k with
  | zero => intro c h; simp [hexB] at h
  | succ k ih =>
    intro c h
    rw [hexB, List.mem_cons] at h
    rcases h with rfl | h
    · have : ∀ d : Fin 16, (48 ≤ (hexD d.val).toNat ∧ (hexD d.val).toNat ≤ 57) ∨ (97 ≤ (hexD d.val).toNat ∧ (hexD d.val).toNat ≤ 102) := by decide
      exact this ⟨v / 16 ^ k % 16, Nat.mod_lt _ (by omega)⟩
    · exact ih c h
theorem hexD_low (c : UInt8) (h1 : 48 ≤ c.toNat) (h2 : c.toNat ≤ 57) : hexD (c.toNat - 48) = c := by
  unfold hexD
  rw [if_pos (by omega), show 48 + (c.toNat - 48) = c.toNat from by omega]
  exact UInt8.ofNat_toNat
theorem hexD_high (c : UInt8) (h1 : 97 ≤ c.toNat) (h2 : c.toNat ≤ 102) : hexD (c.toNat - 87) = c := by
  unfold hexD
  rw [if_neg (by omega), show 87 + (c.toNat - 87) = c.toNat from by omega]
  exact UInt8.ofNat_toNat
/-- the last cells of a row of 16 bytes hold the k lowest digits -/
def DigRow (w : World) (g k x : Nat) : Prop := ∃ arr : Array Value, w.heap[g]? = some (.cells arr 5 (0, 0)) ∧ arr.size = 16 ∧ arr.toList.drop (16 - k) = (hexB k x).map byteV
theorem DigRow.step {w : World} {g k x i : Nat} (h : DigRow w g k x) (hi : i + k = 16) (hi1 : 1 ≤ i) : DigRow (w.setCell ⟨g, i - 1, none⟩ (.int .u8 (hexD (x / 16 ^ k % 16)).toNat)) g (k + 1) x := by
  obtain ⟨arr, ha, hs, hd⟩ := h
  refine ⟨_, heap_setCell_at ha _ _, by simp [hs], ?_⟩
  rw [show 16 - (k + 1) = i - 1 from by omega, Array.toList_setIfInBounds]
  rw [List.drop_eq_getElem_cons (by simp [hs]; omega)]
  rw [List.getElem_set_self, List.drop_set_of_lt (by omega), show i - 1 + 1 = 16 - k from by omega, hd]
  rfl
theorem DigRow.cell {w : World} {g k x i : Nat} (h : DigRow w g k x) (hi : i < 16) : ∃ v, w.cell? ⟨g, i, none⟩ = some v ∧ w.frozen? ⟨g, i, none⟩ = false ∧ g < w.heap.size := by
  obtain ⟨arr, ha, hs, hd⟩ := h
  exact ⟨_, (cell_at ha i).trans (Array.getElem?_eq_getElem (by omega)), free_at ha i, (Array.getElem?_eq_some_iff.1 ha).1⟩
theorem DigRow.bytes {w : World} {g x : Nat} (h : DigRow w g 16 x) : BytesAt w (.slice (some ⟨g, 0, none⟩) (hexB 16 x).length (hexB 16 x).length) (hexB 16 x) := by
  obtain ⟨arr, ha, hs, hd⟩ := h
  refine .inr ⟨_, _, rfl, Nat.le_refl _, by simp, fun j u hu => ?_⟩
  rw [← hd, List.getElem?_drop] at hu
  rw [addr_add]
  exact (cell_at ha _).trans (by simpa using hu)
theorem dig_get16 : ∀ (j : Nat) (h : j < (⟨#[48, 49, 50, 51, 52, 53, 54, 55, 56, 57, 97, 98, 99, 100, 101, 102]⟩ : ByteArray).size), j < 16 →
    (⟨#[48, 49, 50, 51, 52, 53, 54, 55, 56, 57, 97, 98, 99, 100, 101, 102]⟩ : ByteArray)[j] = hexD j := by
  intro j h h16
  have : ∀ j : Fin 16, (⟨#[48, 49, 50, 51, 52, 53, 54, 55, 56, 57, 97, 98, 99, 100, 101, 102]⟩ : ByteArray)[j.val]'(Nat.lt_of_lt_of_le j.isLt (by decide)) = hexD j.val := by decide
  exact this ⟨j, h16⟩
end Go.Proofs.YtabfcciejhbajaaGreatDoor

namespace Go.Proofs.YtabfcciejhbajaaGreatDoor
open Go Go.RowKit

set_option maxRecDepth 100000 in
set_option maxHeartbeats 1000000 in
theorem ref_digits (w : World) (x : Nat) (hx : x < 18446744073709551616) :
    Calls Tryz.prog 23 #[.int .u64 x] w fun e w' => e = .returned (.string ⟨(hexB 16 x).toArray⟩) ∧ Fr (fun _ => False) w w' := by
  obtain ⟨i0, hi, hz0, hz1, hz2⟩ := info_parts infoByte
  have hmk : ∀ w1 : World, (Instr.makeSlice 38 (.int .i64 16) (.int .i64 16)).run Tryz.prog w1 = .ok (.slice (some ⟨w1.heap.size, 0, none⟩) 16 16) (w1.alloc (.cells (madeCells #[.int .u8 0] 16) 5)) := by
    intro w1
    have hr := run_make (P := Tryz.prog) w1 38 5 i0 _ Tryz.underlying38 hi hz0 .i64 .i64 16 16 (by omega) (by omega) (by rw [hz2]; omega) (by omega)
    simp only [hz1, Nat.mul_one] at hr
    exact hr
  have HB := Lib.hid (show DigRow (w.alloc (.cells (madeCells #[.int .u8 0] 16) 5)) w.heap.size 0 x from ⟨_, (Go.MapKept.heap_alloc w (.cells (madeCells #[.int .u8 0] 16) 5)).1, size_madeCells _ _, by
    show List.drop 16 (madeCells #[.int .u8 0] 16).toList = []; exact List.drop_eq_nil_of_le (Nat.le_of_eq (size_madeCells _ _))⟩)
  have HF0 := Lib.hid ((Fr.refl (fun _ => False) w).alloc (.cells (madeCells #[.int .u8 0] 16) 5))
  have HX := Lib.hid hx
  clear hi hz0 hz1 hz2
  go_enter Tryz.func23, Tryz.ntmps23
  go_wp2_with fail
  obtain ⟨g, hgg⟩ : ∃ g, g = w.heap.size := ⟨_, rfl⟩
  rw [← hgg] at HB ⊢
  have HG := Lib.hid hgg
  clear hgg hmk
  generalize (w.alloc (Obj.cells (madeCells #[.int .u8 0] 16) 5)) = w0 at *
  go_loopw [0, 4] (fun v0 v4 wr => ∃ k : Nat, k ≤ 16 ∧ v4 = .int .i64 (15 - (k : Int)) ∧ v0 = .int .u64 (x / 16 ^ k : Nat) ∧ DigRow wr g k x ∧ Fr (fun b => b = g) w0 wr) (fun _ v4 _ => (intOf v4 + 1).toNat)
  case atStart => exact ⟨0, by omega, rfl, by simp, HB.out, Fr.refl _ _⟩
  case round =>
    obtain ⟨k, hk, rfl, rfl, hrow, hfr⟩ := hrel
    have hu : x / 16 ^ k < 18446744073709551616 := Nat.lt_of_le_of_lt (Nat.div_le_self _ _) HX.out
    obtain ⟨u, hu0⟩ : ∃ u, u = x / 16 ^ k := ⟨_, rfl⟩
    rw [← hu0] at hu ⊢
    have HU := Lib.hid hu0
    clear hu0 hx
    by_cases hlt : k < 16
    · obtain ⟨v0, hc0, hf0, hs0⟩ := hrow.cell (i := 15 - k) (by omega)
      have hi0 : ((15 - k : Nat) : Int) = 15 - (k : Int) := by omega
      obtain ⟨i, hi⟩ : ∃ i, i = 15 - k := ⟨_, rfl⟩
      rw [← hi] at hi0 hc0 hf0
      rw [← hi0]
      have HI := Lib.hid hi
      have HR := Lib.hid hrow
      have HF := Lib.hid hfr
      have hi16 : i < 16 := by omega
      have e1 : ((u : Int)).tmod 16 = ((u % 16 : Nat) : Int) := rfl
      have e2 : ((u : Int)).tdiv 16 = ((u / 16 : Nat) : Int) := rfl
      have hul : u % 16 < 16 := Nat.mod_lt _ (by omega)
      clear hrow hfr hi hi0
      go_wp2_with fail
      rw [dig_get16 _ _ hul]
      have e3 : x / 16 ^ (k + 1) = u / 16 := by rw [Nat.pow_succ, ← Nat.div_div_eq_div_mul, HU.out]
      refine ⟨⟨k + 1, by omega, by congr 1; have := HI.out; omega, by rw [e3]; simp, ?_, HF.out.setCell (fun _ => rfl) _⟩, by have := HI.out; simp [intOf] <;> omega⟩
      have h1 := HR.out.step (i := 16 - k) (by omega) (by omega)
      rw [show 16 - k - 1 = i from by have := HI.out; omega, ← HU.out] at h1
      exact h1
    · have hk16 : k = 16 := by omega
      subst hk16
      have HR := Lib.hid hrow
      have HF := Lib.hid hfr
      have hcv := conv_bytes hrow.bytes
      rw [hexB_length] at hcv
      clear hrow hfr
      go_wp2_with fail
      go_ret
      exact ⟨rfl, Fr.trans' HF0.out HF.out (fun j hj e => by have := HG.out; omega)⟩
set_option maxRecDepth 100000 in
set_option maxHeartbeats 1000000 in
theorem ref_number (w : World) (s : ByteArray) :
    Calls Tryz.prog 20 #[.string s] w fun e w' => (∃ x, x < 18446744073709551616 ∧ s = ⟨(hexB 16 x).toArray⟩ ∧ e = .returned (.tuple #[.int .u64 (x : Nat), .bool true]) ∧ w' = w) ∨ ((∀ v, s ≠ ⟨(hexB 16 v).toArray⟩) ∧ e = .returned (.tuple #[.int .u64 0, .bool false]) ∧ w' = w) := by
  by_cases h16 : s.size = 16
  · go_enter Tryz.func20, Tryz.ntmps20
    go_wp2_with fail
    go_loopw [4, 5] (fun v4 v5 wr => ∃ k acc : Nat, v5 = .int .i64 (k : Int) ∧ v4 = .int .u64 (acc : Nat) ∧ k ≤ 16 ∧ Hid (s.data.toList.take k = hexB k acc ∧ acc < 16 ^ k) ∧ w = wr) (fun _ v5 _ => 16 - (intOf v5).toNat)
    case atStart => exact ⟨0, 0, rfl, rfl, by omega, Lib.hid ⟨rfl, by decide⟩, rfl⟩
    case round =>
      obtain ⟨k, acc, rfl, rfl, hk, hh, rfl⟩ := hrel
      by_cases hlt : k < 16
      · have hacc : acc < 1152921504606846976 := Nat.lt_of_lt_of_le hh.out.2 (show 16 ^ k ≤ 16 ^ 15 from Nat.pow_le_pow_right (by omega) (by omega))
        have hsl : s.data.toList.length = 16 := by rw [← Lib.size_eq]; exact h16
        have hstep : ∀ d : Nat, d < 16 → hexD d = s[k]'(by omega) → Hid (s.data.toList.take (k + 1) = hexB (k + 1) (acc * 16 + d) ∧ acc * 16 + d < 16 ^ (k + 1)) := fun d hd he => Lib.hid ⟨by
          rw [hexB_snoc d hd, List.take_add_one, hh.out.1, List.getElem?_eq_getElem (by omega), he]; rfl, by
          have := hh.out.2; rw [Nat.pow_succ]; omega⟩
        have HM := Lib.hid (show ∀ v, s = ⟨(hexB 16 v).toArray⟩ → (48 ≤ (s[k]'(by omega)).toNat ∧ (s[k]'(by omega)).toNat ≤ 57) ∨ (97 ≤ (s[k]'(by omega)).toNat ∧ (s[k]'(by omega)).toNat ≤ 102) from fun v h => by
          have h1 : s.data.toList = hexB 16 v := by rw [h]
          have h2 : s[k]'(by omega) ∈ hexB 16 v := by rw [← h1]; exact List.getElem_mem (l := s.data.toList) (by omega)
          exact hexB_mem v 16 _ h2)
        have HS := Lib.hid hstep
        clear hstep hh hsl
        have hc256 := (s[k]'(by omega)).toNat_lt
        by_cases hd : 48 ≤ (s[k]'(by omega)).toNat ∧ (s[k]'(by omega)).toNat ≤ 57
        · have hd0 : (48 : Int) ≤ ((s[k]'(by omega)).toNat : Int) := by omega
          have hd1 : ((s[k]'(by omega)).toNat : Int) ≤ 57 := by omega
          have w1 : IntKind.u8.wrap (((s[k]'(by omega)).toNat : Int) - 48) = ((s[k]'(by omega)).toNat : Int) - 48 := by rw [IntKind.wrap_u8]; omega
          have HN := Lib.hid (HS.out ((s[k]'(by omega)).toNat - 48) (by omega) (hexD_low _ hd.1 hd.2))
          have HC := Lib.hid hd
          clear hd HM
          go_wp2_with fail
          refine ⟨⟨k + 1, acc * 16 + ((s[k]'(by omega)).toNat - 48), by go_num, ?_, by omega, HN.out, trivial⟩, by simp [intOf]; omega⟩
          congr 1
          have := HC.out
          omega
        · by_cases hl : 97 ≤ (s[k]'(by omega)).toNat ∧ (s[k]'(by omega)).toNat ≤ 102
          · have hd0 : (97 : Int) ≤ ((s[k]'(by omega)).toNat : Int) := by omega
            have hd1 : ((s[k]'(by omega)).toNat : Int) ≤ 102 := by omega
            have hd2 : ¬ ((s[k]'(by omega)).toNat : Int) ≤ 57 := by omega
            have hd3 : (48 : Int) ≤ ((s[k]'(by omega)).toNat : Int) := by omega
            have w1 : IntKind.u8.wrap (((s[k]'(by omega)).toNat : Int) - 97) = ((s[k]'(by omega)).toNat : Int) - 97 := by rw [IntKind.wrap_u8]; omega
            have HN := Lib.hid (HS.out ((s[k]'(by omega)).toNat - 87) (by omega) (hexD_high _ hl.1 hl.2))
            have HC := Lib.hid hl
            clear hd hl HM
            go_wp2_with fail
            refine ⟨⟨k + 1, acc * 16 + ((s[k]'(by omega)).toNat - 87), by go_num, ?_, by omega, HN.out, trivial⟩, by simp [intOf]; omega⟩
            congr 1
            have := HC.out
            omega
          · have HX := Lib.hid (show ∀ v, s ≠ ⟨(hexB 16 v).toArray⟩ from fun v h => by
              rcases HM.out v h with q | q
              · exact hd q
              · exact hl q)
            rcases (show (s[k]'(by omega)).toNat < 48 ∨ (57 < (s[k]'(by omega)).toNat ∧ (s[k]'(by omega)).toNat < 97) ∨ 102 < (s[k]'(by omega)).toNat from by omega) with hc | hc | hc
            · have hd0 : ¬ (48 : Int) ≤ ((s[k]'(by omega)).toNat : Int) := by omega
              have hd1 : ¬ (97 : Int) ≤ ((s[k]'(by omega)).toNat : Int) := by omega
              clear hd hl hc HM HS
              go_wp2_with fail
              go_ret2
              exact .inr ⟨HX.out, rfl, rfl⟩
            · have hd0 : (48 : Int) ≤ ((s[k]'(by omega)).toNat : Int) := by omega
              have hd2 : ¬ ((s[k]'(by omega)).toNat : Int) ≤ 57 := by omega
              have hd1 : ¬ (97 : Int) ≤ ((s[k]'(by omega)).toNat : Int) := by omega
              clear hd hl hc HM HS
              go_wp2_with fail
              go_ret2
              exact .inr ⟨HX.out, rfl, rfl⟩
            · have hd0 : (48 : Int) ≤ ((s[k]'(by omega)).toNat : Int) := by omega
              have hd2 : ¬ ((s[k]'(by omega)).toNat : Int) ≤ 57 := by omega
              have hd1 : (97 : Int) ≤ ((s[k]'(by omega)).toNat : Int) := by omega
              have hd3 : ¬ ((s[k]'(by omega)).toNat : Int) ≤ 102 := by omega
              clear hd hl hc HM HS
              go_wp2_with fail
              go_ret2
              exact .inr ⟨HX.out, rfl, rfl⟩
      · have hk16 : k = 16 := by omega
        subst hk16
        have HE := Lib.hid (show acc < 18446744073709551616 ∧ s = ⟨(hexB 16 acc).toArray⟩ from ⟨hh.out.2, by
          have h1 := hh.out.1
          rw [List.take_of_length_le (by rw [← Lib.size_eq]; omega)] at h1
          rw [← h1]⟩)
        clear hh
        go_wp2_with fail
        go_ret2
        exact .inl ⟨acc, HE.out.1, HE.out.2, rfl, rfl⟩
  · have hn : ((s.size : Int) != 16) = true := by rw [bne_iff_ne]; omega
    have HN := Lib.hid (show ∀ v, s ≠ ⟨(hexB 16 v).toArray⟩ from fun v h => h16 (by rw [h]; show (hexB 16 v).toArray.size = 16; simp [hexB_length]))
    clear h16
    go_enter Tryz.func20, Tryz.ntmps20
    go_wp2_with fail
    go_ret2
    exact .inr ⟨HN.out, rfl, rfl⟩
end Go.Proofs.YtabfcciejhbajaaGreatDoor
