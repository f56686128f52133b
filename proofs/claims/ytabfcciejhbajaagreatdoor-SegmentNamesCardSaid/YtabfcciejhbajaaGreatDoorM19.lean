/-
  internal/strconv.ParseUint and strconv.ParseUint at base 16, 64 bits. Conditions: the string is no longer than memory lets; the two error variables hold interface values.
-/
import Derived.Test.YtabfcciejhbajaaGreatDoorM18
import Derived.Lib.Walk
import Derived.Lib.AtoiErrMem
import Derived.Laws.Closers25
import Derived.Laws.Closers25b
namespace Go.Proofs.YtabfcciejhbajaaGreatDoor
open Go Go.RowKit

theorem fr_belowN {w w' : World} (h : Below w.heap.size w w') : Fr (fun _ => False) w w' := ⟨h.os, h.tape, h.output, h.size, fun b hb _ => h.block b hb⟩
/-- the answer as a value -/
def pu16V (t : TypeId) : Pu16 → Value
  | .ok n => .tuple #[.int .u64 (n : Nat), .nilIface]
  | .syn => .tuple #[.int .u64 0, .iface t (.int .i64 2)]
  | .rng => .tuple #[.int .u64 18446744073709551615, .iface t (.int .i64 1)]
set_option maxRecDepth 100000 in
theorem sc_lower (c : Int) (w : World) : Calls Tryz.prog 65 #[.int .u8 c] w fun e w' => e = .returned (.int .u8 (bits .or .u8 c 32)) ∧ w' = w := by
  go_enter Tryz.func65, Tryz.ntmps65
  go_wp2
  go_ret
  exact ⟨rfl, rfl⟩
set_option maxHeartbeats 8000000 in
set_option maxRecDepth 100000 in
theorem parse_in (t : ByteArray) (hne : t.size ≠ 0) (hmax : t.size ≤ 9223372036854775806) (w : World) :
    Calls Tryz.prog 34 #[.string t, .int .i64 16, .int .i64 64] w fun e w' => e = .returned (pu16V 104 (parse16 0 t.data.toList)) ∧ Fr (fun _ => False) w w' := by
  have hemp : t.toList.isEmpty = false := by
    rw [← decide_eq_emptyBytes]
    exact decide_eq_false (fun h => hne (by rw [h]; rfl))
  have hcv := Lib.run_convert_string_bytes (P := Tryz.prog) w 9 38 5 t (u := .string) Tryz.underlying9 Tryz.underlying38 Tryz.underlying5
  have hB : ∀ j, j < t.size → (Lib.bytesWorld w 5 t).cell? ⟨w.heap.size, j, none⟩ = some (.int .u8 (t.data.toList.getD j 0).toNat) := fun j hj => Lib.bytesWorld_cell w 5 t j hj
  have HF := Lib.hid (fr_belowN (Lib.bytesWorld_below w 5 t))
  obtain ⟨W1, hW1⟩ : ∃ W1, W1 = Lib.bytesWorld w 5 t := ⟨_, rfl⟩
  rw [← hW1] at hcv hB HF
  clear hW1
  obtain ⟨bs, hL⟩ : ∃ bs, bs = t.data.toList := ⟨_, rfl⟩
  have hLn : bs.length = t.size := by rw [hL, Lib.size_eq]
  rw [← hL] at hB ⊢
  clear hL
  have hmv : IntKind.u64.wrap (IntKind.u64.wrap 18446744073709551616 - 1) = 18446744073709551615 := by
    rw [IntKind.wrap_u64, IntKind.wrap_u64]
    decide
  go_enter Tryz.func34, Tryz.ntmps34
  go_wp2
  go_loop [12, 13, 101] (fun vu vn vi => ∃ (k acc : Nat) (a : Int), vu = .bool false ∧ vn = .int .u64 a ∧ vi = .int .i64 k ∧ k ≤ t.size ∧ Hid (a = (acc : Int) ∧ acc < 18446744073709551616 ∧ parse16 0 bs = parse16 acc (bs.drop k)))
    (fun _ _ vi => t.size - (intOf vi).toNat)
  case atStart => exact ⟨0, 0, 0, rfl, rfl, rfl, by omega, rfl, by omega, rfl⟩
  case round =>
    obtain ⟨k, acc, a, rfl, rfl, rfl, hk, hh⟩ := hrel
    obtain ⟨ha, hacc, hdec⟩ := hh.out
    clear hh
    have a0 : 0 ≤ a := by omega
    have a1 : a < 18446744073709551616 := by omega
    by_cases hkn : k < t.size
    · have hc := hB k hkn
      have hdrop : bs.drop k = bs[k]'(by omega) :: bs.drop (k + 1) := List.drop_eq_getElem_cons (by omega)
      have hget : bs.getD k 0 = bs[k]'(by omega) := by simp [List.getD, List.getElem?_eq_getElem (show k < bs.length by omega)]
      rw [hdrop] at hdec
      rw [hget] at hc
      generalize bs[k]'(by omega) = c at hc hdec
      have hc256 : c.toNat < 256 := c.toNat_lt
      clear hB hdrop hget
      rw [parse16] at hdec
      have hv0 := bits_lo_u8 .or (c.toNat : Int) 32
      have hv1 := bits_hi_u8 .or (c.toNat : Int) 32
      have HL := Lib.hid (fun W => sc_lower (c.toNat : Int) W)
      have hdd : dig16 c.toNat = if 48 ≤ c.toNat ∧ c.toNat ≤ 57 then some (c.toNat - 48) else if 97 ≤ bits .or .u8 (c.toNat : Int) 32 ∧ bits .or .u8 (c.toNat : Int) 32 ≤ 102 then some (bits .or .u8 (c.toNat : Int) 32 - 87).toNat else none := rfl
      have h95 : c.toNat = 95 → bits .or .u8 (c.toNat : Int) 32 = 127 := fun h => by rw [h]; decide
      generalize bits .or .u8 (c.toNat : Int) 32 = l at *
      by_cases hdig : 48 ≤ c.toNat ∧ c.toNat ≤ 57
      · rw [hdd, if_pos hdig] at hdec
        simp only at hdec
        obtain ⟨hd0, hd1⟩ := hdig
        have hbase : (c.toNat : Int) - 48 < 16 := by omega
        by_cases hcut : 1152921504606846976 ≤ acc
        · rw [if_pos hcut] at hdec
          have icut : 1152921504606846976 ≤ a := by omega
          have HD := Lib.hid hdec
          clear hcut hacc ha hdd hdec HL hv0 hv1 h95
          go_wp2
          go_ret2
          exact ⟨by rw [HD.out]; rfl, HF.out⟩
        · rw [if_neg hcut] at hdec
          have HN : Hid (a * 16 + ((c.toNat : Int) - 48) = ((acc * 16 + (c.toNat - 48) : Nat) : Int) ∧ acc * 16 + (c.toNat - 48) < 18446744073709551616 ∧ parse16 0 bs = parse16 (acc * 16 + (c.toNat - 48)) (bs.drop (k + 1))) := Lib.hid ⟨by omega, by omega, hdec⟩
          have icut : a < 1152921504606846976 := by omega
          have iov : a * 16 + ((c.toNat : Int) - 48) < 18446744073709551616 := by omega
          clear hcut hacc hdec ha hdd HL hv0 hv1 h95
          go_wp2
          refine ⟨⟨k + 1, acc * 16 + (c.toNat - 48), a * 16 + ((c.toNat : Int) - 48), rfl, (by first | rfl | (congr 1; omega)), (by first | rfl | (congr 1; omega)), by omega, HN⟩, by simp [intOf]; omega⟩
      · rcases (show c.toNat < 48 ∨ c.toNat = 95 ∨ (57 < c.toNat ∧ c.toNat ≠ 95) from by omega) with hcc | hcc | hcc
        · have gA : (c.toNat : Int) < 48 := by omega
          have g95 : ((c.toNat : Int) == 95) = false := by rw [beq_eq_false_iff_ne]; omega
          clear h95
          by_cases hl1 : 97 ≤ l
          · by_cases hl2 : l ≤ 102
            · rw [hdd, if_neg hdig, if_pos ⟨hl1, hl2⟩] at hdec
              simp only at hdec
              have hl3 : l ≤ 122 := by omega
              have w1 : IntKind.u8.wrap (l - 97) = l - 97 := by rw [IntKind.wrap_u8]; omega
              have w2 : IntKind.u8.wrap (l - 97 + 10) = l - 87 := by rw [IntKind.wrap_u8]; omega
              have hbase : l - 87 < 16 := by omega
              by_cases hcut : 1152921504606846976 ≤ acc
              · rw [if_pos hcut] at hdec
                have icut : 1152921504606846976 ≤ a := by omega
                have HD := Lib.hid hdec
                clear hcut hacc ha hdd hdec hdig
                go_wp2_with fail
                refine (HL.out _).mono ?_
                rintro e w' ⟨rfl, rfl⟩
                go_wp2_with fail
                refine (HL.out _).mono ?_
                rintro e w' ⟨rfl, rfl⟩
                go_wp2_with fail
                refine (HL.out _).mono ?_
                rintro e w' ⟨rfl, rfl⟩
                go_wp2_with fail
                go_ret2
                exact ⟨by rw [HD.out]; rfl, HF.out⟩
              · rw [if_neg hcut] at hdec
                have HN : Hid (a * 16 + (l - 87) = ((acc * 16 + (l - 87).toNat : Nat) : Int) ∧ acc * 16 + (l - 87).toNat < 18446744073709551616 ∧ parse16 0 bs = parse16 (acc * 16 + (l - 87).toNat) (bs.drop (k + 1))) := Lib.hid ⟨by omega, by omega, hdec⟩
                have icut : a < 1152921504606846976 := by omega
                have iov : a * 16 + (l - 87) < 18446744073709551616 := by omega
                clear hcut hacc hdec ha hdd hdig
                go_wp2_with fail
                refine (HL.out _).mono ?_
                rintro e w' ⟨rfl, rfl⟩
                go_wp2_with fail
                refine (HL.out _).mono ?_
                rintro e w' ⟨rfl, rfl⟩
                go_wp2_with fail
                refine (HL.out _).mono ?_
                rintro e w' ⟨rfl, rfl⟩
                go_wp2_with fail
                exact ⟨⟨k + 1, acc * 16 + (l - 87).toNat, a * 16 + (l - 87), rfl, (by first | rfl | (congr 1; omega)), (by first | rfl | (congr 1; omega)), by omega, HN⟩, by simp [intOf]; omega⟩
            · rw [hdd, if_neg hdig, if_neg (fun h => hl2 h.2)] at hdec
              simp only at hdec
              have HD := Lib.hid hdec
              clear hacc ha hdd hdec hdig
              by_cases hl3 : l ≤ 122
              · have w1 : IntKind.u8.wrap (l - 97) = l - 97 := by rw [IntKind.wrap_u8]; omega
                have w2 : IntKind.u8.wrap (l - 97 + 10) = l - 87 := by rw [IntKind.wrap_u8]; omega
                have hbase : 16 ≤ l - 87 := by omega
                go_wp2_with fail
                refine (HL.out _).mono ?_
                rintro e w' ⟨rfl, rfl⟩
                go_wp2_with fail
                refine (HL.out _).mono ?_
                rintro e w' ⟨rfl, rfl⟩
                go_wp2_with fail
                refine (HL.out _).mono ?_
                rintro e w' ⟨rfl, rfl⟩
                go_wp2_with fail
                go_ret2
                exact ⟨by rw [HD.out]; rfl, HF.out⟩
              · go_wp2_with fail
                refine (HL.out _).mono ?_
                rintro e w' ⟨rfl, rfl⟩
                go_wp2_with fail
                refine (HL.out _).mono ?_
                rintro e w' ⟨rfl, rfl⟩
                go_wp2_with fail
                go_ret2
                exact ⟨by rw [HD.out]; rfl, HF.out⟩
          · rw [hdd, if_neg hdig, if_neg (fun h => hl1 h.1)] at hdec
            simp only at hdec
            have HD := Lib.hid hdec
            clear hacc ha hdd hdec hdig
            go_wp2_with fail
            refine (HL.out _).mono ?_
            rintro e w' ⟨rfl, rfl⟩
            go_wp2_with fail
            go_ret2
            exact ⟨by rw [HD.out]; rfl, HF.out⟩
        · have gA : 57 < (c.toNat : Int) := by omega
          have g95 : ((c.toNat : Int) == 95) = true := by rw [beq_iff_eq]; omega
          have hl := h95 hcc
          rw [hdd, if_neg hdig, if_neg (fun h => by omega)] at hdec
          simp only at hdec
          have HD := Lib.hid hdec
          have hl1 : 97 ≤ l := by omega
          have hl3 : ¬ l ≤ 122 := by omega
          clear hacc ha hdd hdec hdig h95 hl hcc
          go_wp2_with fail
          refine (HL.out _).mono ?_
          rintro e w' ⟨rfl, rfl⟩
          go_wp2_with fail
          refine (HL.out _).mono ?_
          rintro e w' ⟨rfl, rfl⟩
          go_wp2_with fail
          go_ret2
          exact ⟨by rw [HD.out]; rfl, HF.out⟩
        · have gA : 57 < (c.toNat : Int) := by omega
          have g95 : ((c.toNat : Int) == 95) = false := by rw [beq_eq_false_iff_ne]; omega
          clear h95
          by_cases hl1 : 97 ≤ l
          · by_cases hl2 : l ≤ 102
            · rw [hdd, if_neg hdig, if_pos ⟨hl1, hl2⟩] at hdec
              simp only at hdec
              have hl3 : l ≤ 122 := by omega
              have w1 : IntKind.u8.wrap (l - 97) = l - 97 := by rw [IntKind.wrap_u8]; omega
              have w2 : IntKind.u8.wrap (l - 97 + 10) = l - 87 := by rw [IntKind.wrap_u8]; omega
              have hbase : l - 87 < 16 := by omega
              by_cases hcut : 1152921504606846976 ≤ acc
              · rw [if_pos hcut] at hdec
                have icut : 1152921504606846976 ≤ a := by omega
                have HD := Lib.hid hdec
                clear hcut hacc ha hdd hdec hdig
                go_wp2_with fail
                refine (HL.out _).mono ?_
                rintro e w' ⟨rfl, rfl⟩
                go_wp2_with fail
                refine (HL.out _).mono ?_
                rintro e w' ⟨rfl, rfl⟩
                go_wp2_with fail
                refine (HL.out _).mono ?_
                rintro e w' ⟨rfl, rfl⟩
                go_wp2_with fail
                go_ret2
                exact ⟨by rw [HD.out]; rfl, HF.out⟩
              · rw [if_neg hcut] at hdec
                have HN : Hid (a * 16 + (l - 87) = ((acc * 16 + (l - 87).toNat : Nat) : Int) ∧ acc * 16 + (l - 87).toNat < 18446744073709551616 ∧ parse16 0 bs = parse16 (acc * 16 + (l - 87).toNat) (bs.drop (k + 1))) := Lib.hid ⟨by omega, by omega, hdec⟩
                have icut : a < 1152921504606846976 := by omega
                have iov : a * 16 + (l - 87) < 18446744073709551616 := by omega
                clear hcut hacc hdec ha hdd hdig
                go_wp2_with fail
                refine (HL.out _).mono ?_
                rintro e w' ⟨rfl, rfl⟩
                go_wp2_with fail
                refine (HL.out _).mono ?_
                rintro e w' ⟨rfl, rfl⟩
                go_wp2_with fail
                refine (HL.out _).mono ?_
                rintro e w' ⟨rfl, rfl⟩
                go_wp2_with fail
                exact ⟨⟨k + 1, acc * 16 + (l - 87).toNat, a * 16 + (l - 87), rfl, (by first | rfl | (congr 1; omega)), (by first | rfl | (congr 1; omega)), by omega, HN⟩, by simp [intOf]; omega⟩
            · rw [hdd, if_neg hdig, if_neg (fun h => hl2 h.2)] at hdec
              simp only at hdec
              have HD := Lib.hid hdec
              clear hacc ha hdd hdec hdig
              by_cases hl3 : l ≤ 122
              · have w1 : IntKind.u8.wrap (l - 97) = l - 97 := by rw [IntKind.wrap_u8]; omega
                have w2 : IntKind.u8.wrap (l - 97 + 10) = l - 87 := by rw [IntKind.wrap_u8]; omega
                have hbase : 16 ≤ l - 87 := by omega
                go_wp2_with fail
                refine (HL.out _).mono ?_
                rintro e w' ⟨rfl, rfl⟩
                go_wp2_with fail
                refine (HL.out _).mono ?_
                rintro e w' ⟨rfl, rfl⟩
                go_wp2_with fail
                refine (HL.out _).mono ?_
                rintro e w' ⟨rfl, rfl⟩
                go_wp2_with fail
                go_ret2
                exact ⟨by rw [HD.out]; rfl, HF.out⟩
              · go_wp2_with fail
                refine (HL.out _).mono ?_
                rintro e w' ⟨rfl, rfl⟩
                go_wp2_with fail
                refine (HL.out _).mono ?_
                rintro e w' ⟨rfl, rfl⟩
                go_wp2_with fail
                go_ret2
                exact ⟨by rw [HD.out]; rfl, HF.out⟩
          · rw [hdd, if_neg hdig, if_neg (fun h => hl1 h.1)] at hdec
            simp only at hdec
            have HD := Lib.hid hdec
            clear hacc ha hdd hdec hdig
            go_wp2_with fail
            refine (HL.out _).mono ?_
            rintro e w' ⟨rfl, rfl⟩
            go_wp2_with fail
            go_ret2
            exact ⟨by rw [HD.out]; rfl, HF.out⟩
    · have hkk : k = t.size := by omega
      subst hkk
      have hF : parse16 acc (bs.drop t.size) = .ok acc := by rw [List.drop_eq_nil_of_le (by omega)]; rfl
      rw [hF] at hdec
      subst ha
      have HD := Lib.hid hdec
      clear hacc hF a0 a1 hdec
      go_wp2
      go_ret2
      exact ⟨by rw [HD.out]; rfl, HF.out⟩
end Go.Proofs.YtabfcciejhbajaaGreatDoor
