/-
  block.Pack, plain: how records are cut into blocks. Conditions: none; no program.
  Pieces of a slice of byte slices. Conditions: none; laws on memory.
  block.Pack. Conditions: the records can be read; the table and the error variables are there.
  strconv.FormatUint at base 16. Conditions: the table of trailing zeros lies there.
  block.Pack: records that go into blocks. Conditions: the records can be read; the table is there.
  What was packed is found again: decoding behind encoding, a scan over good blocks. Conditions: none; no program.
-/
import Derived.Test.YtabfcciejhbajaaGreatDoorM12
import Derived.Test.YtabfcciejhbajaaGreatDoorM10
namespace Go.Proofs.YtabfcciejhbajaaGreatDoor
open Go Go.RowKit

/-- how many records go into one block, so much room being taken -/
def fitN : Nat → List (List UInt8) → Nat
  | _, [] => 0
  | room, r :: rs => if room + 2 + r.length ≤ 494 then 1 + fitN (room + (2 + r.length)) rs else 0
theorem fitN_le (room : Nat) (rs : List (List UInt8)) : fitN room rs ≤ rs.length := by
  induction rs generalizing room with
  | nil => simp [fitN]
  | cons r rs ih =>
    simp only [fitN, List.length_cons]
    split
    · have := ih (room + (2 + r.length)); omega
    · omega
theorem fitN_room (room : Nat) (rs : List (List UInt8)) (h : room ≤ 494) : room + roomB (rs.take (fitN room rs)) ≤ 494 := by
  induction rs generalizing room with
  | nil => simpa [fitN, roomB] using h
  | cons r rs ih =>
    simp only [fitN]
    split
    · rename_i h2
      have := ih (room + (2 + r.length)) (by omega)
      rw [Nat.add_comm 1, List.take_succ_cons]
      simp only [roomB]; omega
    · simpa [roomB] using h
theorem fitN_pos (r : List UInt8) (rs : List (List UInt8)) (h : r.length ≤ 200) : 1 ≤ fitN 0 (r :: rs) := by
  simp only [fitN]
  rw [if_pos (by omega)]; omega
/-- records as blocks, at most m blocks -/
def packN : Nat → Nat → List (List UInt8) → List UInt8
  | 0, _, _ => []
  | m + 1, first, rs => if rs = [] then [] else encodeB first (rs.take (fitN 0 rs)) ++ packN m (first + fitN 0 rs) (rs.drop (fitN 0 rs))
def packB (first : Nat) (rs : List (List UInt8)) : List UInt8 := packN rs.length first rs
/-- why records are refused -/
def packE (first : Nat) (rs : List (List UInt8)) : Option Er :=
  if rs = [] then none else if numbersB first rs.length = false then some .arg else if rs.any (fun r => 200 < r.length) then some .long else none
end Go.Proofs.YtabfcciejhbajaaGreatDoor

namespace Go.Proofs.YtabfcciejhbajaaGreatDoor
open Go Go.RowKit

theorem RecsIn.take {w : World} {o : Option Addr} {n cap m : Nat} {rs : List (List UInt8)} (h : RecsIn w (.slice o n cap) rs) (hn : rs.length = n) (hm : m ≤ n) : RecsIn w (.slice o m cap) (rs.take m) := by
  obtain ⟨vs, h1, h2, h3⟩ := h
  have hl : (rs.take m).length = m := by rw [List.length_take]; omega
  refine ⟨vs.take m, by rw [List.length_take, List.length_take]; omega, ?_, fun j u l hu hl' => ?_⟩
  · rw [hl]
    rcases h2 with ⟨q, q', q2⟩ | ⟨a, c, q, hnc, hlen, hc⟩
    · injection q with q1 _ q3
      exact .inl ⟨by rw [q1, q3, show m = 0 from by omega], by omega, by rw [q2]; simp⟩
    · injection q with q1 _ q3
      refine .inr ⟨a, cap, by rw [q1], by omega, by rw [List.length_take]; omega, fun j u hu => ?_⟩
      rw [List.getElem?_take] at hu
      split at hu
      · exact hc j u hu
      · cases hu
  · rw [List.getElem?_take] at hu hl'
    split at hu
    · rename_i hj
      rw [if_pos hj] at hl'
      exact h3 j u l hu hl'
    · cases hu
theorem RecsIn.drop {w : World} {g off n cap m : Nat} {rs : List (List UInt8)} (h : RecsIn w (.slice (some ⟨g, off, none⟩) n cap) rs) (hn : rs.length = n) (hm : m ≤ n) (c : Nat) (hc : n - m ≤ c) : RecsIn w (.slice (some ⟨g, off + m, none⟩) (n - m) c) (rs.drop m) := by
  obtain ⟨vs, h1, h2, h3⟩ := h
  have hl : (rs.drop m).length = n - m := by rw [List.length_drop]; omega
  refine ⟨vs.drop m, by rw [List.length_drop, List.length_drop]; omega, ?_, fun j u l hu hl' => ?_⟩
  · rw [hl]
    rcases h2 with ⟨q, _⟩ | ⟨a, c', q, hnc, hlen, hcc⟩
    · cases q
    · injection q with q1 _ q3
      injection q1 with q1
      subst q1
      refine .inr ⟨_, c, rfl, hc, by rw [List.length_drop]; omega, fun j u hu => ?_⟩
      rw [List.getElem?_drop] at hu
      have := hcc _ u hu
      rw [addr_add] at this
      rw [addr_add, show off + m + j = off + (m + j) from by omega]; exact this
  · rw [List.getElem?_drop] at hu hl'
    exact h3 _ u l hu hl'
end Go.Proofs.YtabfcciejhbajaaGreatDoor

namespace Go.Proofs.YtabfcciejhbajaaGreatDoor
open Go Go.RowKit

set_option maxRecDepth 100000 in
set_option maxHeartbeats 1000000 in
theorem pack_none (w : World) (first : Nat) (o : Option Addr) (cap : Nat) :
    Calls Tryz.prog 27 #[.int .u64 first, .slice o 0 cap] w fun e w' => e = .returned (.tuple #[.slice none 0 0, .nilIface]) ∧ w' = w := by
  go_enter Tryz.func27, Tryz.ntmps27
  go_wp2_with fail
  go_ret2
  exact ⟨rfl, rfl⟩
set_option maxRecDepth 100000 in
set_option maxHeartbeats 1000000 in
theorem pack_arg (w : World) (K : Nat) (eb : Er → Addr) (S : Er → Bool) (G : Glob w K eb S) (first : Nat) (hf : first < 18446744073709551616) (o : Option Addr) (n cap : Nat) (hn : n ≤ 1099511627776) (h0 : n ≠ 0) (h : numbersB first n = false) :
    Calls Tryz.prog 27 #[.int .u64 first, .slice o n cap] w fun e w' => e = .returned (.tuple #[.slice none 0 0, erV eb (some .arg)]) ∧ Fr (fun _ => False) w w' := by
  have v4 : w.cell? ⟨2, 0, none⟩ = some (.iface 169 (.pointer (some (eb .arg)))) := G.var .arg rfl
  have hn0 : ((n : Int) == 0) = false := by rw [beq_eq_false_iff_ne]; omega
  have HNU := Lib.hid (block_numbers w first n hf (by omega) (by omega))
  rw [h] at HNU
  clear G h0 h
  go_enter Tryz.func27, Tryz.ntmps27
  go_wp2_with fail
  refine HNU.out.mono ?_
  rintro e w1 ⟨rfl, rfl⟩
  go_wp2_with fail
  go_quiet (fail)
  go_wp2_with fail
  go_ret2
  exact ⟨rfl, (Fr.refl _ _).drewN _⟩
set_option maxRecDepth 100000 in
set_option maxHeartbeats 1000000 in
theorem pack_long (w : World) (K : Nat) (eb : Er → Addr) (S : Er → Bool) (G : Glob w K eb S) (first : Nat) (hf : first < 18446744073709551616) (o : Option Addr) (cap : Nat) (rs : List (List UInt8)) (hv : RecsIn w (.slice o rs.length cap) rs) (hn : rs.length ≤ 1099511627776)
    (h0 : rs ≠ []) (hnum : numbersB first rs.length = true) (hlen : ∀ r ∈ rs, r.length ≤ 1099511627776) (h : rs.any (fun r => 200 < r.length) = true) :
    Calls Tryz.prog 27 #[.int .u64 first, .slice o rs.length cap] w fun e w' => e = .returned (.tuple #[.slice none 0 0, erV eb (some .long)]) ∧ Fr (fun _ => False) w w' := by
  have v1 : w.cell? ⟨4, 0, none⟩ = some (.iface 169 (.pointer (some (eb .long)))) := G.var .long rfl
  have hpos : 0 < rs.length := List.length_pos_iff.2 h0
  have hn0 : ((rs.length : Int) == 0) = false := by rw [beq_eq_false_iff_ne]; omega
  have HNU := Lib.hid (block_numbers w first rs.length hf (by omega) (by omega))
  rw [hnum] at HNU
  have HV := Lib.hid hv
  have HL := Lib.hid hlen
  have HH := Lib.hid h
  clear G hv hlen h hnum h0
  go_enter Tryz.func27, Tryz.ntmps27
  go_wp2_with fail
  refine HNU.out.mono ?_
  rintro e w1 ⟨rfl, rfl⟩
  go_wp2_with fail
  go_loopw [24] (fun v24 wr => ∃ k : Nat, k ≤ rs.length ∧ v24 = .int .i64 (k : Int) ∧ Hid (∀ r ∈ rs.take k, r.length ≤ 200) ∧ wr = w1) (fun v24 _ => rs.length - (intOf v24).toNat)
  case atStart => exact ⟨0, Nat.zero_le _, rfl, Lib.hid (by simp), rfl⟩
  case round =>
    obtain ⟨k, hk, rfl, hall, rfl⟩ := hrel
    by_cases hlt : k < rs.length
    · obtain ⟨a, o1, c1, hoa, hcell, _⟩ := recs_at HV.out k hlt
      subst hoa
      have hrl := HL.out rs[k] (List.getElem_mem hlt)
      by_cases h200 : 200 < rs[k].length
      · have g1 : (200 : Int) < (rs[k].length : Int) := by omega
        go_wp2_with fail
        go_quiet (fail)
        go_wp2_with fail
        go_ret2
        exact ⟨rfl, (Fr.refl _ _).drewN _⟩
      · have g1 : ¬ (200 : Int) < (rs[k].length : Int) := by omega
        have hall2 : ∀ r ∈ rs.take (k + 1), r.length ≤ 200 := by
          intro r hr
          rw [List.take_add_one, List.getElem?_eq_getElem hlt] at hr
          rcases List.mem_append.1 hr with hr | hr
          · exact hall.out r hr
          · have : r = rs[k] := by simpa using hr
            subst this; omega
        have HA2 := Lib.hid hall2
        clear hall2
        go_wp2_with fail
        exact ⟨⟨k + 1, by omega, by go_num, HA2, trivial⟩, by simp [intOf]; omega⟩
    · exfalso
      have hkk : k = rs.length := by omega
      have h1 := hall.out
      rw [hkk, List.take_length] at h1
      obtain ⟨r, hr, hr2⟩ := List.any_eq_true.1 HH.out
      have := h1 r hr
      simp at hr2
      omega
end Go.Proofs.YtabfcciejhbajaaGreatDoor

namespace Go.Proofs.YtabfcciejhbajaaGreatDoor
open Go Go.RowKit

/-- a hex digit -/
def hexD (x : Nat) : UInt8 := if x < 10 then UInt8.ofNat (48 + x) else UInt8.ofNat (87 + x)
/-- the k lowest hex digits -/
def hexB : Nat → Nat → List UInt8
  | 0, _ => []
  | k + 1, x => hexD (x / 16 ^ k % 16) :: hexB k x
theorem hexB_length (k x : Nat) : (hexB k x).length = k := by
  induction k with
  | zero => rfl
  | succ k ih => simp [hexB, ih]
set_option maxRecDepth 100000 in
theorem pow2_16 (w : World) : Calls Tryz.prog 103 #[.int .i64 16] w fun e w' => e = .returned (.bool true) ∧ w' = w := by
  have b1 : bits .and .i64 16 15 = 0 := by decide
  go_enter Tryz.func103, Tryz.ntmps103
  go_wp2
  go_ret
  exact ⟨rfl, rfl⟩
set_option maxRecDepth 100000 in
theorem trail64_16 (w : World) (hz : w.cell? ⟨16, 15, none⟩ = some (.int .u8 4)) : Calls Tryz.prog 124 #[.int .u64 16] w fun e w' => e = .returned (.int .i64 4) ∧ w' = w := by
  have b1 : bits .and .u64 16 (IntKind.u64.wrap (-16)) = 16 := by decide
  have b2 : IntKind.u64.wrap (16 * 285870213051353865) = 4573923408821661840 := by decide
  go_enter Tryz.func124, Tryz.ntmps124
  go_wp2
  go_ret
  exact ⟨rfl, rfl⟩
set_option maxRecDepth 100000 in
theorem trail_16 (w : World) (hz : w.cell? ⟨16, 15, none⟩ = some (.int .u8 4)) : Calls Tryz.prog 104 #[.int .u64 16] w fun e w' => e = .returned (.int .i64 4) ∧ w' = w := by
  have HT := Lib.hid (trail64_16 w hz)
  clear hz
  go_enter Tryz.func104, Tryz.ntmps104
  go_wp2_with fail
  refine HT.out.mono ?_
  rintro e w1 ⟨rfl, rfl⟩
  go_wp2_with fail
  go_ret
  exact ⟨rfl, rfl⟩
/-- the last cells of a row of 65 bytes hold the k lowest digits -/
def HexRow (w : World) (g k x : Nat) : Prop := ∃ arr : Array Value, w.heap[g]? = some (.cells arr 142 (0, 0)) ∧ arr.size = 65 ∧ arr.toList.drop (65 - k) = (hexB k x).map byteV
theorem HexRow.start {w : World} {g x : Nat} (h : w.heap[g]? = some (.cells Tryz.zeroCells142 142 (0, 0))) : HexRow w g 0 x :=
  ⟨_, h, by decide, by show List.drop 65 Tryz.zeroCells142.toList = []; exact List.drop_eq_nil_of_le (by decide)⟩
theorem HexRow.step {w : World} {g k x i : Nat} (h : HexRow w g k x) (hi : i + k = 65) (hi1 : 1 ≤ i) : HexRow (w.setCell ⟨g, i - 1, none⟩ (.int .u8 (hexD (x / 16 ^ k % 16)).toNat)) g (k + 1) x := by
  obtain ⟨arr, ha, hs, hd⟩ := h
  refine ⟨_, heap_setCell_at ha _ _, by simp [hs], ?_⟩
  rw [show 65 - (k + 1) = i - 1 from by omega, Array.toList_setIfInBounds]
  rw [List.drop_eq_getElem_cons (by simp [hs]; omega)]
  rw [List.getElem_set_self, List.drop_set_of_lt (by omega), show i - 1 + 1 = 65 - k from by omega, hd]
  rfl
theorem HexRow.cell {w : World} {g k x i : Nat} (h : HexRow w g k x) (hi : i < 65) : ∃ v, w.cell? ⟨g, i, none⟩ = some v ∧ w.frozen? ⟨g, i, none⟩ = false ∧ g < w.heap.size := by
  obtain ⟨arr, ha, hs, hd⟩ := h
  exact ⟨_, (cell_at ha i).trans (Array.getElem?_eq_getElem (by omega)), free_at ha i, (Array.getElem?_eq_some_iff.1 ha).1⟩
theorem HexRow.bytes {w : World} {g k x i c : Nat} (h : HexRow w g k x) (hi : i + k = 65) (hc : k ≤ c) : SliceIs w 1 (.slice (some ⟨g, i, none⟩) k c) k ((hexB k x).map byteV) := by
  obtain ⟨arr, ha, hs, hd⟩ := h
  refine .inr ⟨_, _, rfl, hc, by simp [hexB_length], fun j u hu => ?_⟩
  rw [← hd, List.getElem?_drop, show 65 - k = i from by omega] at hu
  rw [addr_add]
  exact (cell_at ha _).trans (by simpa using hu)
theorem dig_get : ∀ (j : Nat) (h : j < (⟨#[48, 49, 50, 51, 52, 53, 54, 55, 56, 57, 97, 98, 99, 100, 101, 102, 103, 104, 105, 106, 107, 108, 109, 110, 111, 112, 113, 114, 115, 116, 117, 118, 119, 120, 121, 122]⟩ : ByteArray).size), j < 16 →
    (⟨#[48, 49, 50, 51, 52, 53, 54, 55, 56, 57, 97, 98, 99, 100, 101, 102, 103, 104, 105, 106, 107, 108, 109, 110, 111, 112, 113, 114, 115, 116, 117, 118, 119, 120, 121, 122]⟩ : ByteArray)[j] = hexD j := by
  intro j h h16
  have : ∀ j : Fin 16, (⟨#[48, 49, 50, 51, 52, 53, 54, 55, 56, 57, 97, 98, 99, 100, 101, 102, 103, 104, 105, 106, 107, 108, 109, 110, 111, 112, 113, 114, 115, 116, 117, 118, 119, 120, 121, 122]⟩ : ByteArray)[j.val]'(Nat.lt_trans j.isLt (by decide)) = hexD j.val := by decide
  exact this ⟨j, h16⟩
theorem len65 : Tryz.prog.arrayLen 142 = 65 := by kernel_rfl
theorem elem65 : Tryz.prog.elem 142 = 5 := by kernel_rfl
theorem size_u8 (w : World) : (sizeOf 5).run Tryz.prog w = .ok 1 w := by kernel_rfl
set_option maxRecDepth 100000 in
theorem slice65 (w : World) (g i : Nat) (h1 : 50 ≤ i) (h2 : i ≤ 65) : (Instr.sliceAt 142 (.pointer (some ⟨g, 0, none⟩)) (some (.int .i64 ((i : Int) - 1))) none none).run Tryz.prog w = .ok (.slice (some ⟨g, i - 1, none⟩) (65 - (i - 1)) (65 - (i - 1))) w := by
  rw [run_sliceAt_array_l (P := Tryz.prog) w 142 _ Tryz.underlying142 .i64 _ (by omega) (by rw [len65]; omega), elem65, size_u8, len65]
  have e : ((i : Int) - 1).toNat = i - 1 := by omega
  simp only [Result.andThen, slicedAt, e]
  rw [if_neg (by omega), addr_add, Nat.mul_one, Nat.zero_add]
set_option maxRecDepth 100000 in
set_option maxHeartbeats 1000000 in
theorem format_bits (w : World) (x : Nat) (hx : x < 18446744073709551616) (hz : w.cell? ⟨16, 15, none⟩ = some (.int .u8 4)) (hg : 16 < w.heap.size) :
    Calls Tryz.prog 74 #[.slice none 0 0, .int .u64 x, .int .i64 16, .bool false, .bool false] w fun e w' => ∃ k, x < 16 ^ (k + 1) ∧ k ≤ 15 ∧ e = .returned (.tuple #[.slice none 0 0, .string ⟨(hexB (k + 1) x).toArray⟩]) ∧ Fr (fun _ => False) w w' := by
  have HP := Lib.hid pow2_16
  have HT := Lib.hid (trail_16)
  have HZ := Lib.hid hz
  clear hz
  go_enter Tryz.func74, Tryz.ntmps74
  go_wp2_with fail
  refine (HP.out _).mono ?_
  rintro e w1 ⟨rfl, rfl⟩
  go_wp2_with fail
  refine (HT.out _ ((World.cell?_alloc_past _ _ _ hg).trans HZ.out)).mono ?_
  rintro e w1 ⟨rfl, rfl⟩
  have HB := Lib.hid (Go.MapKept.heap_alloc w (.cells Tryz.zeroCells142 142)).1
  have HF0 := Lib.hid ((Fr.refl (fun _ => False) w).alloc (.cells Tryz.zeroCells142 142))
  go_wp2_with fail
  obtain ⟨g, hgg⟩ : ∃ g, g = w.heap.size := ⟨_, rfl⟩
  rw [← hgg] at HB ⊢
  have HG := Lib.hid hgg
  clear hgg
  generalize (w.alloc (Obj.cells Tryz.zeroCells142 142)) = w0 at *
  clear HZ HP HT
  go_loopw [1, 13] (fun vu vi wr => ∃ k i : Nat, i + k = 65 ∧ k ≤ 15 ∧ vi = .int .i64 (i : Int) ∧ vu = .int .u64 (x / 16 ^ k : Nat) ∧ HexRow wr g k x ∧ Fr (fun b => b = g) w0 wr) (fun vu _ _ => (intOf vu).toNat)
  case atStart => exact ⟨0, 65, rfl, by omega, rfl, by simp, .start HB.out, Fr.refl _ _⟩
  case round =>
    obtain ⟨k, i, hik, hk, rfl, rfl, hrow, hfr⟩ := hrel
    obtain ⟨v0, hc0, hf0, hs0⟩ := hrow.cell (i := i - 1) (by omega)
    have hu : x / 16 ^ k < 18446744073709551616 := Nat.lt_of_le_of_lt (Nat.div_le_self _ _) hx
    obtain ⟨u, hu0⟩ : ∃ u, u = x / 16 ^ k := ⟨_, rfl⟩
    rw [← hu0] at hu ⊢
    have HU := Lib.hid hu0
    have HI := Lib.hid hik
    have hi1 : 50 ≤ i := by omega
    have hi2 : i ≤ 65 := by omega
    clear hu0 hik
    have HR := Lib.hid hrow
    have HF := Lib.hid hfr
    clear hrow hfr
    by_cases hge : 16 ≤ u
    · have g1 : (16 : Int) ≤ (u : Int) := by omega
      have b1 : bits .and .u64 (u : Int) 15 = ((u % 16 : Nat) : Int) := by rw [show (15 : Int) = ((15 : Nat) : Int) from rfl, bits_and_u64_nat _ _ (by omega) (by omega)]; congr 1; exact Nat.and_two_pow_sub_one_eq_mod u 4
      go_wp2_with fail
      rw [dig_get _ _ (by omega)]
      have e1 : x / 16 ^ (k + 1) = u / 16 := by rw [Nat.pow_succ, ← Nat.div_div_eq_div_mul, HU.out]
      have hk1 : k + 1 ≤ 15 := by
        rcases Nat.lt_or_ge k 15 with h | h
        · omega
        · exfalso
          have : k = 15 := by omega
          rw [HU.out, this] at hge
          have : x / 16 ^ 15 < 16 := Nat.div_lt_of_lt_mul (by omega)
          omega
      refine ⟨⟨k + 1, i - 1, by have := HI.out; omega, hk1, by congr 1; omega, by rw [e1]; simp, ?_, HF.out.setCell (fun _ => rfl) _⟩, by simp [intOf]; omega⟩
      have := HR.out.step HI.out (by omega)
      rw [HU.out]; exact this
    · have hul : u < 16 := by omega
      go_wp2_with fail
      rw [dig_get _ _ hul]
      have hrow2 : HexRow (wr.setCell ⟨g, i - 1, none⟩ (.int .u8 (hexD u).toNat)) g (k + 1) x := by
        have := HR.out.step HI.out (by omega)
        rw [← HU.out, Nat.mod_eq_of_lt hul] at this; exact this
      have hfr2 : Fr (fun b => b = g) w0 (wr.setCell ⟨g, i - 1, none⟩ (.int .u8 (hexD u).toNat)) := HF.out.setCell (fun _ => rfl) _
      generalize wr.setCell ⟨g, i - 1, none⟩ (.int .u8 (hexD u).toNat) = w3 at *
      rw [slice65 w3 g i hi1 hi2]
      have hlen : 65 - (i - 1) = k + 1 := by have := HI.out; omega
      have hcv := conv_bytes (l := hexB (k + 1) x) (show BytesAt w3 (.slice (some ⟨g, i - 1, none⟩) (hexB (k + 1) x).length (hexB (k + 1) x).length) _ from by
        have := hrow2.bytes (i := i - 1) (c := k + 1) (by have := HI.out; omega) (Nat.le_refl _)
        rw [hexB_length]; unfold BytesAt; rw [hexB_length]; exact this)
      rw [hexB_length, ← hlen] at hcv
      have HR2 := Lib.hid hrow2
      have HF2 := Lib.hid hfr2
      have HL := Lib.hid hlen
      clear hrow2 hfr2 hlen
      go_wp2_with fail
      go_ret2
      refine ⟨k, ?_, hk, by rw [HL.out]; rfl, Fr.trans' HF0.out HF2.out (fun j hj e => ?_)⟩
      · rw [Nat.pow_succ]
        have := HU.out
        have h0 : 0 < 16 ^ k := Nat.pow_pos (by omega)
        have := Nat.div_add_mod x (16 ^ k)
        have hm := Nat.mod_lt x h0
        rw [← HU.out] at this
        have : 16 ^ k * u ≤ 16 ^ k * 15 := Nat.mul_le_mul_left _ (by omega)
        omega
      · have := HG.out; omega
end Go.Proofs.YtabfcciejhbajaaGreatDoor

namespace Go.Proofs.YtabfcciejhbajaaGreatDoor
open Go Go.RowKit

theorem packN_step (m first : Nat) (rs : List (List UInt8)) (h : rs ≠ []) : packN (m + 1) first rs = encodeB first (rs.take (fitN 0 rs)) ++ packN m (first + fitN 0 rs) (rs.drop (fitN 0 rs)) := by
  simp only [packN]; rw [if_neg h]
theorem packN_nil (m first : Nat) : packN m first [] = [] := by
  cases m with
  | zero => rfl
  | succ m => simp [packN]
/-- what the blocks come to so far -/
def Packed (first : Nat) (rs : List (List UInt8)) (f : Nat) (rest : List (List UInt8)) (out : List UInt8) : Prop :=
  ∃ m, rest.length ≤ m ∧ packB first rs = out ++ packN m f rest
theorem Packed.start (first : Nat) (rs : List (List UInt8)) : Packed first rs first rs [] := ⟨rs.length, Nat.le_refl _, by simp [packB]⟩
theorem Packed.done {first f : Nat} {rs : List (List UInt8)} {out : List UInt8} (h : Packed first rs f [] out) : packB first rs = out := by
  obtain ⟨m, _, h⟩ := h
  rw [h, packN_nil]; simp
theorem Packed.next {first f : Nat} {rs rest : List (List UInt8)} {out : List UInt8} (h : Packed first rs f rest out) (hne : rest ≠ []) (hpos : 1 ≤ fitN 0 rest) :
    Packed first rs (f + fitN 0 rest) (rest.drop (fitN 0 rest)) (out ++ encodeB f (rest.take (fitN 0 rest))) := by
  obtain ⟨m, hm, h⟩ := h
  have hl := List.length_pos_iff.2 hne
  obtain ⟨m, rfl⟩ : ∃ m', m = m' + 1 := ⟨m - 1, by omega⟩
  refine ⟨m, by rw [List.length_drop]; omega, ?_⟩
  rw [h, packN_step m f rest hne, List.append_assoc]
theorem numbersB_drop {f n k : Nat} (h : numbersB f n = true) (hk : k < n) : numbersB (f + k) (n - k) = true := by
  unfold numbersB at *
  have := of_decide_eq_true h
  exact decide_eq_true ⟨by omega, by omega, by omega⟩
theorem numbersB_take {f n k : Nat} (h : numbersB f n = true) (hk : k ≤ n) : numbersB f k = true := by
  unfold numbersB at *
  have := of_decide_eq_true h
  exact decide_eq_true ⟨by omega, by omega, by omega⟩
theorem numbersB_lt {f n : Nat} (h : numbersB f n = true) (_hn : 1 ≤ n) : f + n ≤ 4611686018427387905 := by
  unfold numbersB at h
  have := of_decide_eq_true h
  omega

/-- how far the cutting into blocks is -/
structure PackSt (w : World) (g o1 c1 first : Nat) (rs : List (List UInt8)) (f : Nat) (rest : List (List UInt8)) (out : List UInt8) : Prop where
  recs : RecsIn w (.slice (some ⟨g, o1, none⟩) rest.length c1) rest
  packed : Packed first rs f rest out
  num : rest ≠ [] → numbersB f rest.length = true
  short : ∀ r ∈ rest, r.length ≤ 200
  room : out.length + 512 * rest.length ≤ 512 * rs.length
def sliceLen : Value → Nat
  | .slice _ n _ => n
  | _ => 0
set_option maxRecDepth 100000 in
set_option maxHeartbeats 2000000 in
theorem pack_ok (w : World) (K first : Nat) (hT : Tab w K) (hf : first < 18446744073709551616) (g off cap : Nat) (rs : List (List UInt8)) (hv : RecsIn w (.slice (some ⟨g, off, none⟩) rs.length cap) rs) (hcap : rs.length ≤ cap) (hn : rs.length ≤ 1073741824)
    (h0 : rs ≠ []) (hnum : numbersB first rs.length = true) (h1 : ∀ r ∈ rs, r.length ≤ 200) :
    Calls Tryz.prog 27 #[.int .u64 first, .slice (some ⟨g, off, none⟩) rs.length cap] w fun e w' => ∃ v, e = .returned (.tuple #[v, .nilIface]) ∧ OwnBytes w' w.heap.size v (packB first rs) ∧ Fr (fun _ => False) w w' := by
  have hpos : 0 < rs.length := List.length_pos_iff.2 h0
  have hn0 : ((rs.length : Int) == 0) = false := by rw [beq_eq_false_iff_ne]; omega
  have HNU := Lib.hid (block_numbers w first rs.length hf (by omega) (by omega))
  rw [hnum] at HNU
  have HNB := Lib.hid hnum
  have HV := Lib.hid hv
  have HA := Lib.hid h1
  have HT := Lib.hid hT
  have HA2 := Lib.hid h1
  clear hv hnum h0 h1 hT
  go_enter Tryz.func27, Tryz.ntmps27
  go_wp2_with fail
  refine HNU.out.mono ?_
  rintro e w1 ⟨rfl, rfl⟩
  go_wp2_with fail
  go_loopw [24] (fun v24 wr => ∃ k : Nat, k ≤ rs.length ∧ v24 = .int .i64 (k : Int) ∧ w1 = wr) (fun v24 _ => rs.length - (intOf v24).toNat)
  case atStart => exact ⟨0, Nat.zero_le _, rfl, rfl⟩
  case round =>
    obtain ⟨k, hk, rfl, rfl⟩ := hrel
    by_cases hlt : k < rs.length
    · obtain ⟨a, o1, c1, hoa, hcell, _⟩ := recs_at HV.out k hlt
      cases hoa
      rw [addr_add] at hcell
      have hrl := HA.out rs[k] (List.getElem_mem hlt)
      have g1 : ¬ (200 : Int) < (rs[k].length : Int) := by omega
      go_wp2_with fail
      exact ⟨⟨k + 1, by omega, by go_num, trivial⟩, by simp [intOf]; omega⟩
    · have hkk : k = rs.length := by omega
      subst hkk
      clear HA
      go_wp2_with fail
      go_loopw [0, 1, 8] (fun v0 v1 v8 wr => ∃ (f o1 c1 : Nat) (rest : List (List UInt8)) (out : List UInt8), v0 = .int .u64 (f : Int) ∧ v1 = .slice (some ⟨g, o1, none⟩) rest.length c1 ∧ rest.length ≤ c1 ∧ f < 18446744073709551616 ∧ OwnBytes wr w1.heap.size v8 out ∧ PackSt w1 g o1 c1 first rs f rest out ∧ Fr (fun _ => False) w1 wr) (fun _ v1 _ _ => sliceLen v1)
      case atStart => exact ⟨first, off, cap, rs, [], rfl, rfl, hcap, hf, World.ownsRow_nil _ _ _ _, ⟨HV.out, .start _ _, fun _ => HNB.out, HA2.out, by simp⟩, Fr.refl _ _⟩
      case round =>
        obtain ⟨f, o1, c1, rest, out, rfl, rfl, hc1, hfl, hown, hst, hfr⟩ := hrel
        have HO := Lib.hid hown
        have HS := Lib.hid hst
        have HF := Lib.hid hfr
        obtain ⟨o8, c8, hv8⟩ := (ownsRow_slice hown).form
        subst hv8
        clear hown hst hfr
        by_cases hr : rest = []
        · subst hr
          go_wp2_with fail
          go_ret2
          refine ⟨_, rfl, ?_, HF.out⟩
          rw [HS.out.packed.done]; exact HO.out
        · have hrp : 0 < rest.length := List.length_pos_iff.2 hr
          obtain ⟨P, hP⟩ : ∃ P, P = fitN 0 rest := ⟨_, rfl⟩
          have HP := Lib.hid hP
          have HFA := Lib.hid (show (0 : Nat) + fitN (roomB (rest.take 0)) (rest.drop 0) = P from by rw [hP]; simp [roomB])
          have hP1 : P ≤ rest.length := by rw [hP]; exact fitN_le _ _
          have hP2 : 1 ≤ P := by
            obtain ⟨r, rest', hh⟩ := List.exists_cons_of_ne_nil hr
            rw [hP, hh]; exact fitN_pos r rest' (HS.out.short r (by rw [hh]; simp))
          have hP3 : roomB (rest.take P) ≤ 494 := by have := fitN_room 0 rest (by omega); rw [← hP] at this; omega
          have hrl : rest.length ≤ 1073741824 := by have := HS.out.room; omega
          have HRC := Lib.hid (RecsIn.fr HS.out.recs HF.out)
          have HRNE := Lib.hid hr
          clear hP hr
          go_wp2_with fail
          go_loopw [9, 10] (fun v9 v10 wr' => ∃ k r : Nat, k ≤ rest.length ∧ r = roomB (rest.take k) ∧ r ≤ 494 ∧ v9 = .int .i64 (k : Int) ∧ v10 = .int .i64 (r : Int) ∧ Hid (k + fitN r (rest.drop k) = P) ∧ wr = wr') (fun v9 _ _ => rest.length - (intOf v9).toNat)
          case atStart => exact ⟨0, 0, Nat.zero_le _, by simp [roomB], by omega, rfl, rfl, HFA, rfl⟩
          case round =>
            obtain ⟨k, r, hk, hr0, hr1, rfl, rfl, hfit, rfl⟩ := hrel
            have HR0 := Lib.hid hr0
            clear hr0
            by_cases hin : k < rest.length ∧ r + 2 + (rest.getD k []).length ≤ 494
            · obtain ⟨hlt, hfits⟩ := hin
              obtain ⟨a, o2, c2, hoa, hcell, _⟩ := recs_at HRC.out k hlt
              cases hoa
              rw [addr_add] at hcell
              have hgd : rest.getD k [] = rest[k] := by simp [List.getD, List.getElem?_eq_getElem hlt]
              rw [hgd] at hfits
              have hrl2 := HS.out.short rest[k] (List.getElem_mem hlt)
              have g1 : (r : Int) + 2 + (rest[k].length : Int) ≤ 494 := by omega
              have hnext : (k + 1) + fitN (r + (2 + rest[k].length)) (rest.drop (k + 1)) = P := by
                have := hfit.out
                rw [List.drop_eq_getElem_cons hlt, fitN, if_pos hfits] at this
                omega
              have hroom : roomB (rest.take (k + 1)) = r + (2 + rest[k].length) := by
                rw [List.take_add_one, List.getElem?_eq_getElem hlt, HR0.out, roomB_append]; simp [roomB]
              have HN1 := Lib.hid hnext
              have HN2 := Lib.hid hroom
              clear hnext hroom hgd
              go_wp2_with fail
              exact ⟨⟨k + 1, r + (2 + rest[k].length), by omega, HN2.out.symm, by omega, by go_num, by go_num, HN1, trivial⟩, by simp [intOf]; omega⟩
            · have hkP : k = P := by
                have := hfit.out
                rcases Nat.lt_or_ge k rest.length with h | h
                · rw [List.drop_eq_getElem_cons h, fitN, if_neg (fun q => hin ⟨h, by simpa [List.getD, List.getElem?_eq_getElem h] using q⟩)] at this; omega
                · rw [List.drop_of_length_le h, fitN] at this; omega
              have HE := Lib.hid (encode_ok wr K f (HT.out.fr HF.out (fun _ h => h.elim)) hfl (some ⟨g, o1, none⟩) c1 (rest.take P)
                (by rw [List.length_take, Nat.min_eq_left hP1]; exact RecsIn.take HRC.out rfl hP1) (by
                  intro e
                  have := congrArg List.length e
                  rw [List.length_take, Nat.min_eq_left hP1] at this
                  simp at this; omega)
                (by rw [List.length_take, Nat.min_eq_left hP1]; exact numbersB_take (HS.out.num HRNE.out) hP1) (fun r hr => HS.out.short r (List.mem_of_mem_take hr)) hP3)
              rw [List.length_take, Nat.min_eq_left hP1] at HE
              have hout : out.length ≤ 549755813888 := by have := HS.out.room; omega
              have HEL := Lib.hid (encodeB_length f (rest.take P) hP3)
              have hPc : (P : Int) ≤ (c1 : Int) := by omega
              have hPl : (P : Int) ≤ (rest.length : Int) := by omega
              have hff : f + P ≤ 4611686018427387905 := by have := numbersB_lt (HS.out.num HRNE.out) (by omega); omega
              have w3 : IntKind.u64.wrap (P : Int) = P := by rw [IntKind.wrap_u64]; omega
              have w4 : IntKind.u64.wrap ((f : Int) + (P : Int)) = ((f + P : Nat) : Int) := by rw [IntKind.wrap_u64]; omega
              obtain ⟨i0, hi, hi0, hi1, hi2⟩ := info_parts infoByte
              have hways : (k < rest.length ∧ ¬ c1 = k ∧ ∃ o2 L c2, wr.cell? ⟨g, o1 + k, none⟩ = some (.slice o2 L c2) ∧ ¬ (r : Int) + 2 + (L : Int) ≤ 494 ∧ L ≤ 200) ∨ (¬ k < rest.length ∧ ¬ c1 = k) ∨ (¬ k < rest.length ∧ k = c1) := by
                by_cases hlt : k < rest.length
                · obtain ⟨a, o2, c2, hoa, hcell, _⟩ := recs_at HRC.out k hlt
                  cases hoa
                  rw [addr_add] at hcell
                  have hrl2 := HS.out.short rest[k] (List.getElem_mem hlt)
                  refine .inl ⟨hlt, by omega, _, _, _, hcell, ?_, hrl2⟩
                  intro q
                  exact hin ⟨hlt, by simp only [List.getD, List.getElem?_eq_getElem hlt, Option.getD_some]; omega⟩
                · by_cases q : c1 = k
                  · exact .inr (.inr ⟨hlt, q.symm⟩)
                  · exact .inr (.inl ⟨hlt, q⟩)
              have HKP := Lib.hid hkP
              rw [← hkP] at hP1 hP2 hP3 HE HEL hPc hPl hff w3 w4
              clear hin hfit hkP
              rcases hways with ⟨hlt, hck, o2, L, c2, hcell, g1, hL2⟩ | ⟨hlt, hck⟩ | ⟨hlt, hck⟩
              all_goals try subst hck
              all_goals
                go_wp2_with fail
                refine HE.out.mono ?_
                rintro e w5 ⟨v, rfl, hown5, hfr5⟩
                obtain ⟨g9, c9, hv9, hg9⟩ : ∃ g9 c9, v = .slice (some ⟨g9, 0, none⟩) 512 c9 ∧ wr.heap.size ≤ g9 := by
                  rcases hown5.2 with ⟨_, q⟩ | ⟨g9, c9, cur, q, q1, q2, _⟩
                  · rw [HEL.out] at q; omega
                  · exact ⟨g9, c9, by rw [q, HEL.out], q1⟩
                subst hv9
                have hzz := HF.out.size
                have hz5 := hfr5.size
                have HB5 := Lib.hid (hown5.cells rfl)
                have HBL := Lib.hid (show (List.map byteV (encodeB f (rest.take k))).length = 512 * 1 from by rw [List.length_map, HEL.out])
                have HO5 := Lib.hid (show OwnBytes w5 w1.heap.size (.slice o8 out.length c8) out from ownsRow_keep HO.out (fun j hj => hfr5.block j (HO.out.lt j hj).2 (fun h => h)))
                have HF5 := Lib.hid hfr5
                obtain ⟨blk, hblk⟩ : ∃ b, b = encodeB f (rest.take k) := ⟨_, rfl⟩
                rw [← hblk] at HEL HB5 HBL
                have HEX := Lib.hid hblk
                clear hown5 hfr5 hblk
                go_wp2_with (at_builtin; refine wpList_append_own_at _ rfl (.tmp 72) (.tmp 73) 38 rfl w1.heap.size 5 i0 _ 1 1 Tryz.underlying38 hi hi0 hi1 hi2 rfl (by decide) (.slice o8 out.length c8) out.length _ rfl HO5.out ⟨g9, 0, none⟩ 512 c9 (blk.map byteV) rfl HBL.out HB5.out (by simp [byteV, Value.oneCell']) (by unfold maxLen; omega) (by omega) (by omega) ?_; intro v6 w6 hown6 hgrow6 hnil6 hat6; have HO6 := Lib.hid hown6; have HG6 := Lib.hid hgrow6; clear hown6 hgrow6 hnil6 hat6)
                go_quiet (fail)
                go_wp2_with fail
                have hO : OwnBytes (w6.drewN nq) w1.heap.size v6 (out ++ blk) := by
                  unfold OwnBytes; rw [List.length_append, List.map_append, show blk.length = 512 from HEL.out]; exact HO6.out
                have hFr : Fr (fun _ => False) w1 (w6.drewN nq) := (Fr.trans' (Fr.trans HF.out HF5.out) ((Fr.refl (fun i => (Value.slice o8 out.length c8).ownBlock = some i) w5).grown HG6.out (fun i hi _ => hi)) (fun i hi e => by have := (HO5.out.lt i e).1; omega)).drewN nq
                have hstep : ∀ o' c', RecsIn w1 (.slice (some ⟨g, o', none⟩) (rest.drop k).length c') (rest.drop k) → PackSt w1 g o' c' first rs (f + k) (rest.drop k) (out ++ blk) := by
                  intro o' c' hrec
                  have hkk : fitN 0 rest = k := by rw [HKP.out, HP.out]
                  refine ⟨hrec, ?_, ?_, fun r hr => HS.out.short r (List.mem_of_mem_drop hr), ?_⟩
                  · have := HS.out.packed.next HRNE.out (by rw [hkk]; exact hP2)
                    rw [hkk, ← HEX.out] at this; exact this
                  · intro hne
                    rw [List.length_drop]
                    refine numbersB_drop (HS.out.num HRNE.out) ?_
                    have := List.length_pos_iff.2 hne
                    rw [List.length_drop] at this; omega
                  · rw [List.length_append, List.length_drop, show blk.length = 512 from HEL.out]
                    have := HS.out.room
                    omega
                have hfin := hstep
                clear hstep
              · exact ⟨⟨f + k, o1 + k, c1 - k, rest.drop k, out ++ blk, by go_num, by rw [List.length_drop], by rw [List.length_drop]; omega, by omega, hO, hfin _ _ (by rw [List.length_drop]; exact RecsIn.drop HS.out.recs rfl hP1 _ (by omega)), hFr⟩, by simp only [sliceLen]; omega⟩
              · exact ⟨⟨f + k, o1 + k, c1 - k, rest.drop k, out ++ blk, by go_num, by rw [List.length_drop], by rw [List.length_drop]; omega, by omega, hO, hfin _ _ (by rw [List.length_drop]; exact RecsIn.drop HS.out.recs rfl hP1 _ (by omega)), hFr⟩, by simp only [sliceLen]; omega⟩
              · have hnil : rest.drop k = [] := List.drop_of_length_le (by omega)
                exact ⟨⟨f + k, o1, 0, rest.drop k, out ++ blk, by go_num, by rw [hnil]; rfl, by rw [hnil]; simp, by omega, hO, hfin _ _ (by rw [hnil]; exact ⟨[], rfl, .inr ⟨_, _, rfl, Nat.le_refl _, rfl, fun j u h => by simp at h⟩, fun j u l h => by simp at h⟩), hFr⟩, by simp only [sliceLen]; omega⟩
end Go.Proofs.YtabfcciejhbajaaGreatDoor

namespace Go.Proofs.YtabfcciejhbajaaGreatDoor
open Go Go.RowKit

theorem textOf_body (t l : List UInt8) (h : t.length ≤ 200) : textOf (leB 2 t.length ++ t ++ l) = some (t, l) := by
  have h2 : (leB 2 t.length ++ t ++ l).take 2 = leB 2 t.length := by
    rw [List.append_assoc, List.take_append_of_le_length (by rw [leB_length]; omega), List.take_of_length_le (by rw [leB_length]; omega)]
  have h3 : (leB 2 t.length ++ t ++ l).drop 2 = t ++ l := by
    rw [List.append_assoc, List.drop_append, List.drop_of_length_le (by rw [leB_length]; omega), leB_length]; simp
  unfold textOf
  rw [h2, h3, leNat_leB _ _ (by omega), if_neg (by simp [leB_length]), if_neg (by simp)]
  simp
theorem textsOf_body (rs : List (List UInt8)) (l : List UInt8) (h : ∀ r ∈ rs, r.length ≤ 200) : textsOf rs.length (bodyB rs ++ l) = some (rs, l) := by
  induction rs with
  | nil => simp [textsOf, bodyB]
  | cons r rs ih =>
    simp only [List.length_cons, textsOf, bodyB]
    rw [show leB 2 r.length ++ r ++ bodyB rs ++ l = leB 2 r.length ++ r ++ (bodyB rs ++ l) from by simp, textOf_body r _ (h r (by simp))]
    have h1 := h r (by simp)
    simp only
    rw [if_neg (by omega), ih (fun x hx => h x (by simp [hx]))]
/-- the parts of a block -/
theorem encodeB_parts (first : Nat) (rs : List (List UInt8)) : ∃ s : Nat, s = sumB (rawB first rs) ∧ encodeB first rs = magicB ++ (leB 8 first ++ (leB 2 rs.length ++ (leB 4 s ++ (bodyB rs ++ List.replicate (512 - (18 + roomB rs)) 0)))) ∧ sumB (encodeB first rs) = s := by
  have l4 : magicB.length = 4 := rfl
  have t14 : (rawB first rs).take 14 = magicB ++ (leB 8 first ++ leB 2 rs.length) := by
    rw [rawB, show magicB ++ leB 8 first ++ leB 2 rs.length ++ leB 4 0 ++ bodyB rs ++ List.replicate (512 - (18 + roomB rs)) 0 = (magicB ++ (leB 8 first ++ leB 2 rs.length)) ++ (leB 4 0 ++ (bodyB rs ++ List.replicate (512 - (18 + roomB rs)) 0)) from by simp]
    rw [List.take_append_of_le_length (by simp [leB_length, l4]), List.take_of_length_le (by simp [leB_length, l4])]
  have d18 : (rawB first rs).drop 18 = bodyB rs ++ List.replicate (512 - (18 + roomB rs)) 0 := by
    rw [rawB, show magicB ++ leB 8 first ++ leB 2 rs.length ++ leB 4 0 ++ bodyB rs ++ List.replicate (512 - (18 + roomB rs)) 0 = (magicB ++ (leB 8 first ++ (leB 2 rs.length ++ leB 4 0))) ++ (bodyB rs ++ List.replicate (512 - (18 + roomB rs)) 0) from by simp]
    rw [List.drop_append, List.drop_of_length_le (by simp [leB_length, l4])]; simp [leB_length, l4]
  refine ⟨_, rfl, ?_, ?_⟩
  · rw [encodeB, t14, d18]; simp
  · unfold sumB
    have e14 : (encodeB first rs).take 14 = (rawB first rs).take 14 := by
      rw [encodeB, t14, List.append_assoc, List.take_append_of_le_length (by simp [leB_length, l4]), List.take_of_length_le (by simp [leB_length, l4])]
    have e18 : (encodeB first rs).drop 18 = (rawB first rs).drop 18 := by
      rw [encodeB, List.drop_append, List.drop_of_length_le (by rw [t14]; simp [leB_length, l4])]
      rw [t14]; simp [leB_length, l4]
    rw [e14, e18]
theorem take_app {α : Type} (a b : List α) (n : Nat) (h : a.length = n) : (a ++ b).take n = a := by subst h; simp
theorem drop_app {α : Type} (a b : List α) (n : Nat) (h : a.length = n) : (a ++ b).drop n = b := by subst h; simp
theorem numbersB_first {first n : Nat} (h : numbersB first n = true) : first < 18446744073709551616 := by
  unfold numbersB at h
  have := of_decide_eq_true h
  omega
/-- what was encoded is decoded -/
theorem decode_encode (first : Nat) (rs : List (List UInt8)) (h0 : rs ≠ []) (hnum : numbersB first rs.length = true) (h1 : ∀ r ∈ rs, r.length ≤ 200) (hl : rs.length < 65536) :
    decodeB (encodeB first rs) = .inr (first, rs) := by
  obtain ⟨s, hs, he, hse⟩ := encodeB_parts first rs
  have hslt : s < 4294967296 := by rw [hs]; exact crcAdd_lt _ _
  have hpos : 0 < rs.length := List.length_pos_iff.2 h0
  have hf := numbersB_first hnum
  unfold decodeB
  rw [hse]
  have a0 : (encodeB first rs).take 4 = magicB := by rw [he, take_app _ _ 4 rfl]
  have a1 : (encodeB first rs).drop 4 = leB 8 first ++ (leB 2 rs.length ++ (leB 4 s ++ (bodyB rs ++ List.replicate (512 - (18 + roomB rs)) 0))) := by rw [he, drop_app _ _ 4 rfl]
  have a2 : ((encodeB first rs).drop 4).take 14 = leB 8 first ++ (leB 2 rs.length ++ leB 4 s) := by
    rw [a1, show leB 8 first ++ (leB 2 rs.length ++ (leB 4 s ++ (bodyB rs ++ List.replicate (512 - (18 + roomB rs)) 0))) = (leB 8 first ++ (leB 2 rs.length ++ leB 4 s)) ++ (bodyB rs ++ List.replicate (512 - (18 + roomB rs)) 0) from by simp, take_app _ _ 14 (by simp [leB_length])]
  have a3 : (((encodeB first rs).drop 4).take 14).take 8 = leB 8 first := by rw [a2, take_app _ _ 8 (by simp [leB_length])]
  have a4 : (((encodeB first rs).drop 4).take 14).drop 8 = leB 2 rs.length ++ leB 4 s := by rw [a2, drop_app _ _ 8 (by simp [leB_length])]
  have a5 : (((encodeB first rs).drop 4).take 14).drop 10 = leB 4 s := by
    rw [show (10 : Nat) = 8 + 2 from rfl, ← List.drop_drop, a4, drop_app _ _ 2 (by simp [leB_length])]
  have a6 : ((((encodeB first rs).drop 4).take 14).drop 8).take 2 = leB 2 rs.length := by rw [a4, take_app _ _ 2 (by simp [leB_length])]
  have a7 : (encodeB first rs).drop 18 = bodyB rs ++ List.replicate (512 - (18 + roomB rs)) 0 := by
    rw [he, show magicB ++ (leB 8 first ++ (leB 2 rs.length ++ (leB 4 s ++ (bodyB rs ++ List.replicate (512 - (18 + roomB rs)) 0)))) = (magicB ++ (leB 8 first ++ (leB 2 rs.length ++ leB 4 s))) ++ (bodyB rs ++ List.replicate (512 - (18 + roomB rs)) 0) from by simp, drop_app _ _ 18 (by simp [leB_length, magicB])]
  rw [a0, a3, a5, a6, a7, leNat_leB 8 first (by omega), leNat_leB 2 _ (by omega), leNat_leB 4 s (by omega), textsOf_body rs _ h1]
  rw [if_neg (by simp), if_neg (by simp), if_neg (by rw [hnum]; simp; omega)]
  simp
theorem roomB_count (rs : List (List UInt8)) : 2 * rs.length ≤ roomB rs := by
  induction rs with
  | nil => simp
  | cons r rs ih => simp only [List.length_cons, roomB]; omega
theorem blkB_shift (pre tail : List UInt8) (p k : Nat) (hp : pre.length = p * 512) : blkB (pre ++ tail) (p + k) = blkB tail k := by
  unfold blkB
  rw [List.drop_append, List.drop_of_length_le (by omega)]
  rw [show (p + k) * 512 - pre.length = k * 512 from by omega]; simp
theorem scanN_shift (pre tail : List UInt8) (p : Nat) (hp : pre.length = p * 512) (m k f : Nat) :
    scanN (pre ++ tail) [] m (p + k) f = ((scanN tail [] m k f).1, p + (scanN tail [] m k f).2) := by
  induction m generalizing k f with
  | zero => rfl
  | succ m ih =>
    simp only [scanN, List.contains_nil, Bool.false_eq_true, if_false]
    rw [blkB_shift pre tail p k hp]
    cases decodeB (blkB tail k) with
    | inl x => rfl
    | inr y =>
      obtain ⟨a, rs⟩ := y
      simp only
      split
      · rw [Nat.add_assoc, ih (k + 1)]
      · rfl
/-- bytes that are good blocks: what a scan finds in them, whatever stands behind -/
def GoodAt (first : Nat) (data : List UInt8) (all : List (List UInt8)) (n : Nat) : Prop :=
  data.length = n * 512 ∧ ∀ tail, scanB (data ++ tail) [] first = (all ++ (scanB tail [] (first + all.length)).1, n + (scanB tail [] (first + all.length)).2)
theorem GoodAt.nil (first : Nat) : GoodAt first [] [] 0 := ⟨rfl, fun tail => by simp⟩
theorem GoodAt.append {first : Nat} {d1 d2 : List UInt8} {a1 a2 : List (List UInt8)} {n1 n2 : Nat} (h1 : GoodAt first d1 a1 n1) (h2 : GoodAt (first + a1.length) d2 a2 n2) :
    GoodAt first (d1 ++ d2) (a1 ++ a2) (n1 + n2) := by
  refine ⟨by rw [List.length_append, h1.1, h2.1]; omega, fun tail => ?_⟩
  rw [List.append_assoc, h1.2, h2.2]
  simp [Nat.add_assoc]
theorem GoodAt.one {first : Nat} {b : List UInt8} {rs : List (List UInt8)} (hb : b.length = 512) (hd : decodeB b = .inr (first, rs)) : GoodAt first b rs 1 := by
  refine ⟨by omega, fun tail => ?_⟩
  have e : (b ++ tail).length / 512 = tail.length / 512 + 1 := by rw [List.length_append]; omega
  have hk : blkB (b ++ tail) 0 = b := by
    unfold blkB
    rw [Nat.zero_mul, List.drop_zero, ← hb, List.take_left' rfl]
  unfold scanB
  rw [e, scanN_good (k := 0) rfl (by rw [hk]; exact hd), scanN_shift b tail 1 (by omega) _ 0]
theorem GoodAt.scan {first n : Nat} {d : List UInt8} {a : List (List UInt8)} (h : GoodAt first d a n) : scanB d [] first = (a, n) := by
  have := h.2 []
  rw [List.append_nil] at this
  rw [this]
  simp [scanB, scanN]
theorem packN_good (m first : Nat) (rs : List (List UInt8)) (hm : rs.length ≤ m) (hnum : rs = [] ∨ numbersB first rs.length = true) (h1 : ∀ r ∈ rs, r.length ≤ 200) :
    ∃ n, GoodAt first (packN m first rs) rs n := by
  induction m generalizing first rs with
  | zero =>
    have : rs = [] := List.eq_nil_of_length_eq_zero (by omega)
    subst this
    exact ⟨0, GoodAt.nil first⟩
  | succ m ih =>
    simp only [packN]
    split
    · rename_i h; subst h; exact ⟨0, GoodAt.nil first⟩
    · rename_i h0
      have hnum' : numbersB first rs.length = true := hnum.resolve_left h0
      obtain ⟨r, rs', rfl⟩ := List.exists_cons_of_ne_nil h0
      have hp := fitN_pos r rs' (h1 r (by simp))
      have hle := fitN_le 0 (r :: rs')
      have hroom := fitN_room 0 (r :: rs') (by omega)
      generalize fitN 0 (r :: rs') = k at *
      generalize r :: rs' = L at *
      rw [Nat.zero_add] at hroom
      have hlt : (L.take k).length = k := by rw [List.length_take]; omega
      have hcount := roomB_count (L.take k)
      have hd := decode_encode first (L.take k) (by intro e; rw [e] at hlt; simp at hlt; omega) (by rw [hlt]; exact numbersB_take hnum' hle) (fun r hr => h1 r (List.mem_of_mem_take hr)) (by omega)
      have g1 := GoodAt.one (encodeB_length _ _ hroom) hd
      obtain ⟨n, g2⟩ := ih (first + k) (L.drop k) (by rw [List.length_drop]; omega) (by
        rcases Nat.lt_or_ge k L.length with hk | hk
        · right; rw [List.length_drop]; exact numbersB_drop hnum' hk
        · left; exact List.drop_of_length_le hk) (fun r hr => h1 r (List.mem_of_mem_drop hr))
      have := GoodAt.append g1 (by rw [hlt]; exact g2)
      rw [List.take_append_drop] at this
      exact ⟨_, this⟩
theorem packB_good (first : Nat) (rs : List (List UInt8)) (hnum : rs = [] ∨ numbersB first rs.length = true) (h1 : ∀ r ∈ rs, r.length ≤ 200) :
    GoodAt first (packB first rs) rs ((packB first rs).length / 512) := by
  obtain ⟨n, h⟩ := packN_good rs.length first rs (Nat.le_refl _) hnum h1
  have e : (packB first rs).length / 512 = n := by unfold packB; rw [h.1]; omega
  rw [e]; exact h
end Go.Proofs.YtabfcciejhbajaaGreatDoor
