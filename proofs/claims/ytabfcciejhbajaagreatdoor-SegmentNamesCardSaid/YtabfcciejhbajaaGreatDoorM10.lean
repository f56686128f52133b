/-
  pack.put and what leans on it: numbers in bytes, the lowest first. Conditions: the bytes can be read; the lengths are small.
  pack.Reader: what it takes off the front. Conditions: the reader's cells are known.
  pack's numbers and texts off the front. Conditions: the reader's cells are known.
  pack.Reader's methods. Conditions: the reader's cells are known.
  crc.Add, crc.SumOf. Conditions: the table of halves is there.
  block.numbers, block.sum. Conditions: the bytes can be read; the table of halves is there.
  A slice of byte slices in memory of its own; []byte(s). Conditions: none; laws on memory.
-/
import Derived.Test.YtabfcciejhbajaaGreatDoorM05
import Derived.Laws.CopyOwn
import Derived.Test.YtabfcciejhbajaaGreatDoorM01
import Derived.Laws.Bits64b
import Derived.Laws.BytesArg
import Derived.Laws.IdiomStrings
import Derived.Laws.BitsAllLaws
namespace Go.Proofs.YtabfcciejhbajaaGreatDoor
open Go Go.RowKit

theorem Fr.below {w w' : World} (h : Below w.heap.size w w') : Fr (fun _ => False) w w' := ⟨h.os, h.tape, h.output, h.size, fun k hk _ => h.block k hk⟩
/-- a slice of bytes, wherever it lies -/
abbrev BytesAt (w : World) (v : Value) (l : List UInt8) : Prop := SliceIs w 1 v l.length (l.map byteV)
/-- a slice of bytes in memory of its own, from block B on -/
abbrev OwnBytes (w : World) (B : Nat) (v : Value) (l : List UInt8) : Prop := w.ownsRow B 5 1 v l.length (l.map byteV)
/-- the lowest n bytes of x, the lowest first -/
def leB : Nat → Nat → List UInt8
  | 0, _ => []
  | n + 1, x => UInt8.ofNat (x % 256) :: leB n (x / 256)
theorem leB_length (n x : Nat) : (leB n x).length = n := by
  induction n generalizing x with
  | zero => rfl
  | succ n ih => simp [leB, ih]
theorem byteV_ofNat (x : Nat) : byteV (UInt8.ofNat (x % 256)) = .int .u8 ((x % 256 : Nat) : Int) := by
  unfold byteV
  have : (UInt8.ofNat (x % 256)).toNat = x % 256 := by simp
  rw [this]
theorem u8_wrap (x : Nat) : IntKind.u8.wrap (x : Int) = ((x % 256 : Nat) : Int) := by rw [IntKind.wrap_u8]; omega

set_option maxRecDepth 100000 in
set_option maxHeartbeats 1000000 in
theorem pack_put (w : World) (v : Value) (b : List UInt8) (x n : Nat) (hv : BytesAt w v b) (hx : x < 18446744073709551616) (hn : n ≤ 8) (hb : b.length ≤ 1099511627776) :
    Calls Tryz.prog 109 #[v, .int .u64 x, .int .i64 n] w fun e w' => ∃ v', e = .returned v' ∧ OwnBytes w' w.heap.size v' (b ++ leB n x) ∧ Fr (fun _ => False) w w' := by
  obtain ⟨o, cp, hv'⟩ := hv.form
  subst hv'
  obtain ⟨i0, hi, hi0, hi1, hi2⟩ := info_parts infoByte
  have hmk : ∀ w1 : World, (Instr.makeSlice 38 (.int .i64 (b.length : Int)) (.int .i64 ((b.length : Int) + (n : Int)))).run Tryz.prog w1 = .ok (.slice (some ⟨w1.heap.size, 0, none⟩) b.length (b.length + n)) (w1.alloc (.cells (madeCells #[.int .u8 0] (b.length + n)) 5)) := by
    intro w1
    have hr := run_make (P := Tryz.prog) w1 38 5 i0 _ Tryz.underlying38 hi hi0 .i64 .i64 b.length (b.length + n) (by omega) (by omega) (by rw [hi2]; omega) (by omega)
    simp only [hi1, Nat.mul_one] at hr
    exact hr
  have HV := Lib.hid hv
  have hll : (b.length : Int) + n ≤ 1099511627784 := by omega
  clear hv
  go_enter Tryz.func109, Tryz.ntmps109
  have hsz1 : (Tryz.prog.info? 5).map (·.size) = some 1 := by kernel_rfl
  have HG0 := Lib.hid (show (w.alloc (.cells (madeCells #[.int .u8 0] (b.length + n)) 5)).heap[w.heap.size]? = some (.cells (madeCells #[.int .u8 0] (b.length + n)).toList.toArray 5 (0, 0)) from by rw [Array.toArray_toList]; exact heap_alloc_new _ _)
  have HSR := Lib.hid (fun (hpos : 0 < (b.map byteV).length) => (show (some (⟨w.heap.size, 0, none⟩ : Addr) = some ⟨w.heap.size, 0, none⟩ ∧ ∃ ad, o = some ad ∧ ∀ (j : Nat) u, (b.map byteV)[j]? = some u → (w.alloc (.cells (madeCells #[.int .u8 0] (b.length + n)) 5)).cell? (ad.add j) = some u) from by
    rcases HV.out with ⟨q, q', _⟩ | ⟨a, c', q, _, _, hc⟩
    · exfalso; rw [List.length_map] at hpos; omega
    · injection q with q1 q2 q3
      exact ⟨rfl, a, q1, fun j u hu => (World.cell?_of_block (heap_alloc_old _ _ (World.block_lt_of_cell? _ _ (hc j u hu)))).trans (hc j u hu)⟩))
  go_wp2_with (with_reducible refine wpList_copy_splice rfl (.tmp 15) (.tmp 16) 38 38 rfl 5 Tryz.underlying38 hsz1 _ _ _ _ _ _ rfl rfl w.heap.size 0 (madeCells #[.int .u8 0] (b.length + n)).toList 5 HG0.out (b.map byteV) (by simp) HSR.out (by simp [size_madeCells]) (by simp [byteV, Value.oneCell']) w.heap.size w ((Below.refl _ w).alloc (Nat.le_refl _) _) (Nat.le_refl _) ?_; intro w2 HG2 hB2)
  have hrow : OwnBytes w2 w.heap.size (.slice (some ⟨w.heap.size, 0, none⟩) b.length (b.length + n)) b := by
    refine ⟨by simp, .inr ⟨w.heap.size, b.length + n, _, rfl, Nat.le_refl _, HG2.out, by omega, by unfold maxLen; omega, ?_, ?_⟩⟩
    · simp [splice, size_madeCells]
    · simp [splice]
  have hF2 := Fr.below hB2
  have HR := Lib.hid hrow
  have HF2 := Lib.hid hF2
  clear HG2 hB2 hrow hF2 HG0 HSR HV
  go_loopw [1, 7, 19] (fun vx v7 vi wr => ∃ (k xc : Nat) (acc : List UInt8), k ≤ n ∧ vi = .int .i64 (k : Int) ∧ vx = .int .u64 (xc : Int) ∧ xc < 18446744073709551616 ∧ OwnBytes wr w.heap.size v7 acc ∧ acc.length = b.length + k ∧ acc ++ leB (n - k) xc = b ++ leB n x ∧ Fr (fun _ => False) w wr) (fun _ _ vi _ => n - (intOf vi).toNat)
  case atStart => exact ⟨0, x, b, Nat.zero_le _, rfl, rfl, hx, HR.out, rfl, rfl, HF2.out⟩
  case round =>
    obtain ⟨k, xc, acc, hk, rfl, rfl, hxc, hown, hal, hacc, hF⟩ := hrel
    obtain ⟨o3, c3, hv3⟩ := (ownsRow_slice hown).form
    subst hv3
    have HO := Lib.hid hown
    have HA := Lib.hid hacc
    have HF := Lib.hid hF
    have hsz := hF.size
    clear hown hacc hF HR HF2
    by_cases hlt : k < n
    · have hu8 := u8_wrap xc
      have hnew := Lib.hid (fun (o : Obj) => heap_alloc_new wr o)
      go_wp2_with (at_builtin; refine wpList_append_own_at _ rfl (.tmp 21) (.tmp 24) 38 rfl w.heap.size 5 i0 _ 1 1 Tryz.underlying38 hi hi0 hi1 hi2 rfl (by decide) (.slice o3 acc.length c3) acc.length _ rfl (HO.out.alloc _) ⟨wr.heap.size, 0, none⟩ 1 1 [.int .u8 ((xc % 256 : Nat) : Int)] rfl rfl (World.news_of_block (hnew.out _)) (by simp [Value.oneCell']) (by unfold maxLen; omega) (by omega) (by simp; omega) ?_; intro v4 w4 hown4 hgrow4 hnil4 hat4)
      have hacc' : (acc ++ [UInt8.ofNat (xc % 256)]) ++ leB (n - (k + 1)) (xc / 256) = b ++ leB n x := by
        rw [← HA.out, show n - k = (n - (k + 1)) + 1 from by omega]; simp [leB]
      refine ⟨⟨k + 1, xc / 256, acc ++ [UInt8.ofNat (xc % 256)], by omega, by go_num, by simp, by omega, ?_, by simp; omega, hacc', ?_⟩, by simp [intOf]; omega⟩
      · have := hown4
        unfold OwnBytes
        rw [List.length_append, List.map_append, List.map_cons, byteV_ofNat, List.map_nil]
        exact this
      · exact ((HF.out.alloc _).grown hgrow4 (fun i hi hlt => by have := (HO.out.lt i hi).1; omega))
    · have hkk : k = n := by omega
      subst hkk
      have hfin : acc = b ++ leB k x := by rw [← HA.out]; simp [leB]
      have HFIN := Lib.hid hfin
      clear hfin
      go_wp2_with fail
      go_ret
      exact ⟨_, rfl, by rw [← HFIN.out]; exact HO.out, HF.out⟩
theorem own_bytes {w : World} {B : Nat} {v : Value} {l : List UInt8} (h : OwnBytes w B v l) : BytesAt w v l := ownsRow_slice h

set_option maxRecDepth 100000 in
theorem put_u64 (w : World) (v : Value) (b : List UInt8) (x : Nat) (hv : BytesAt w v b) (hx : x < 18446744073709551616) (hb : b.length ≤ 1099511627776) :
    Calls Tryz.prog 82 #[v, .int .u64 x] w fun e w' => ∃ v', e = .returned v' ∧ OwnBytes w' w.heap.size v' (b ++ leB 8 x) ∧ Fr (fun _ => False) w w' := by
  have HP := Lib.hid (pack_put w v b x 8 hv hx (by omega) hb)
  obtain ⟨o, cp, hv'⟩ := hv.form
  subst hv'
  clear hv
  go_enter Tryz.func82, Tryz.ntmps82
  go_wp2_with fail
  refine HP.out.mono ?_
  rintro e w1 ⟨v', rfl, h1, h2⟩
  have H1 := Lib.hid h1
  clear h1
  go_wp2_with fail
  go_ret
  exact ⟨_, rfl, H1.out, h2⟩
set_option maxRecDepth 100000 in
theorem put_u32 (w : World) (v : Value) (b : List UInt8) (x : Nat) (hv : BytesAt w v b) (hx : x < 4294967296) (hb : b.length ≤ 1099511627776) :
    Calls Tryz.prog 83 #[v, .int .u32 x] w fun e w' => ∃ v', e = .returned v' ∧ OwnBytes w' w.heap.size v' (b ++ leB 4 x) ∧ Fr (fun _ => False) w w' := by
  have HP := Lib.hid (pack_put w v b x 4 hv (by omega) (by omega) hb)
  have hc : IntKind.u64.wrap (x : Int) = x := by rw [IntKind.wrap_u64]; omega
  obtain ⟨o, cp, hv'⟩ := hv.form
  subst hv'
  clear hv
  go_enter Tryz.func83, Tryz.ntmps83
  go_wp2_with fail
  refine HP.out.mono ?_
  rintro e w1 ⟨v', rfl, h1, h2⟩
  have H1 := Lib.hid h1
  clear h1
  go_wp2_with fail
  go_ret
  exact ⟨_, rfl, H1.out, h2⟩
set_option maxRecDepth 100000 in
theorem put_u16 (w : World) (v : Value) (b : List UInt8) (x : Nat) (hv : BytesAt w v b) (hx : x < 65536) (hb : b.length ≤ 1099511627776) :
    Calls Tryz.prog 81 #[v, .int .u16 x] w fun e w' => ∃ v', e = .returned v' ∧ OwnBytes w' w.heap.size v' (b ++ leB 2 x) ∧ Fr (fun _ => False) w w' := by
  have HP := Lib.hid (pack_put w v b x 2 hv (by omega) (by omega) hb)
  have hc : IntKind.u64.wrap (x : Int) = x := by rw [IntKind.wrap_u64]; omega
  obtain ⟨o, cp, hv'⟩ := hv.form
  subst hv'
  clear hv
  go_enter Tryz.func81, Tryz.ntmps81
  go_wp2_with fail
  refine HP.out.mono ?_
  rintro e w1 ⟨v', rfl, h1, h2⟩
  have H1 := Lib.hid h1
  clear h1
  go_wp2_with fail
  go_ret
  exact ⟨_, rfl, H1.out, h2⟩
end Go.Proofs.YtabfcciejhbajaaGreatDoor

namespace Go.Proofs.YtabfcciejhbajaaGreatDoor
open Go Go.RowKit

theorem neq_er (a : Addr) (w : World) : (binOp .neq 32 (.iface 169 (.pointer (some a))) .nilIface).run Tryz.prog w = .ok (.bool true) w := by kernel_rfl
theorem neq_nilE (w : World) : (binOp .neq 32 .nilIface .nilIface).run Tryz.prog w = .ok (.bool false) w := by kernel_rfl
theorem cell_far {w : World} {r i : Nat} {v : Value} {a : Addr} (h : a.block ≠ r) : (w.setCell ⟨r, i, none⟩ v).cell? a = w.cell? a := World.cell?_of_block (Below.heap_setCell _ _ _ _ h)
/-- a reader at block r; its bytes lie at ⟨g, off⟩ -/
structure RdAt (w : World) (eb : Er → Addr) (r g off cap : Nat) (l : List UInt8) (f : Option Er) : Prop where
  cells : w.heap[r]? = some (.cells #[.slice (some ⟨g, off, none⟩) l.length cap, erV eb f] 160 (0, 0))
  room : l.length ≤ cap
  row : ∀ (j : Nat) u, (l.map byteV)[j]? = some u → w.cell? ⟨g, off + j, none⟩ = some u
  ne : g ≠ r
theorem RdAt.fr {w w' : World} {eb : Er → Addr} {r g off cap : Nat} {l : List UInt8} {f : Option Er} {S : Nat → Prop} (h : RdAt w eb r g off cap l f) (hf : Fr S w w') (hr : ¬ S r) (hg : ¬ S g) : RdAt w' eb r g off cap l f :=
  ⟨(hf.block r (World.block_lt_of_cell? _ _ (cell_at h.cells 0 : w.cell? ⟨r, 0, none⟩ = _)) hr).trans h.cells, h.room, fun j u hu => (hf.cell (World.block_lt_of_cell? _ _ (h.row j u hu)) hg).trans (h.row j u hu), h.ne⟩

set_option maxRecDepth 100000 in
set_option maxHeartbeats 1000000 in
theorem take_ok (w : World) (eb : Er → Addr) (r g off cap : Nat) (l : List UInt8) (n : Nat) (h : RdAt w eb r g off cap l none) (hn : n ≤ l.length) (_hl : l.length ≤ 1099511627776) :
    Calls Tryz.prog 136 #[.pointer (some ⟨r, 0, none⟩), .int .i64 n] w fun e w' => e = .returned (.tuple #[.slice (some ⟨g, off, none⟩) n cap, .bool true]) ∧ ∃ off' cap', RdAt w' eb r g off' cap' (l.drop n) none ∧ Fr (fun b => b = r) w w' := by
  have c0 : w.cell? ⟨r, 0, none⟩ = some (.slice (some ⟨g, off, none⟩) l.length cap) := cell_at h.cells 0
  have c1 : w.cell? ⟨r, 1, none⟩ = some .nilIface := cell_at h.cells 1
  have f0 := free_at h.cells 0
  have e1 := eql_nil
  have hnc : n ≤ cap := Nat.le_trans hn h.room
  have hlc := h.room
  have HH := Lib.hid h
  clear h
  by_cases hcap : n = cap
  · subst hcap
    have hll : l.length = n := by omega
    go_enter Tryz.func136, Tryz.ntmps136
    go_wp2_with fail
    all_goals
      refine bodyPost_ret (v := .tuple #[.slice (some ⟨g, off, none⟩) n n, .bool true]) (by simp [results, Tryz.results136, go_sem]) rfl ⟨rfl, off, 0, ⟨?_, ?_, ?_, HH.out.ne⟩, (Fr.refl (fun b => b = r) w).setCell (fun _ => rfl) _⟩
      · rw [List.length_drop, show l.length - n = 0 from by omega]; exact heap_setCell_at HH.out.cells 0 _
      · rw [List.length_drop]; omega
      · intro j u hu
        rw [List.drop_of_length_le (by omega)] at hu
        simp at hu
  · have hlt : n < cap := by omega
    go_enter Tryz.func136, Tryz.ntmps136
    go_wp2_with fail
    all_goals
      refine bodyPost_ret (v := .tuple #[.slice (some ⟨g, off, none⟩) n cap, .bool true]) (by simp [results, Tryz.results136, go_sem]) rfl ⟨rfl, off + n, cap - n, ⟨?_, ?_, ?_, HH.out.ne⟩, (Fr.refl (fun b => b = r) w).setCell (fun _ => rfl) _⟩
      · rw [List.length_drop]; exact heap_setCell_at HH.out.cells 0 _
      · rw [List.length_drop]; omega
      · intro j u hu
        rw [List.map_drop, List.getElem?_drop] at hu
        rw [cell_far (show (⟨g, _, none⟩ : Addr).block ≠ r from HH.out.ne), show off + n + j = off + (n + j) from by omega]
        exact HH.out.row _ u hu

set_option maxRecDepth 100000 in
set_option maxHeartbeats 1000000 in
theorem take_short (w : World) (K : Nat) (eb : Er → Addr) (S : Er → Bool) (G : Glob w K eb S) (r g off cap : Nat) (l : List UInt8) (n : Nat) (h : RdAt w eb r g off cap l none) (hn : l.length < n) (_hl : n ≤ 1099511627776) :
    Calls Tryz.prog 136 #[.pointer (some ⟨r, 0, none⟩), .int .i64 n] w fun e w' => e = .returned (.tuple #[.slice none 0 0, .bool false]) ∧ RdAt w' eb r g off cap l (some .short) ∧ Fr (fun b => b = r) w w' := by
  have c0 : w.cell? ⟨r, 0, none⟩ = some (.slice (some ⟨g, off, none⟩) l.length cap) := cell_at h.cells 0
  have c1 : w.cell? ⟨r, 1, none⟩ = some .nilIface := cell_at h.cells 1
  have f1 := free_at h.cells 1
  have v1 : w.cell? ⟨8, 0, none⟩ = some (.iface 169 (.pointer (some (eb .short)))) := G.var .short rfl
  have e1 := eql_nil
  have e2 := neq_er
  have HH := Lib.hid h
  clear h G
  go_enter Tryz.func136, Tryz.ntmps136
  go_wp2_with fail
  refine bodyPost_ret (v := .tuple #[.slice none 0 0, .bool false]) (by simp [results, Tryz.results136, go_sem]) rfl ⟨rfl, ⟨heap_setCell_at HH.out.cells 1 _, HH.out.room, fun j u hu => ?_, HH.out.ne⟩, (Fr.refl (fun b => b = r) w).setCell (fun _ => rfl) _⟩
  rw [cell_far (show (⟨g, _, none⟩ : Addr).block ≠ r from HH.out.ne)]
  exact HH.out.row _ u hu
set_option maxRecDepth 100000 in
set_option maxHeartbeats 1000000 in
theorem take_fault (w : World) (eb : Er → Addr) (r g off cap : Nat) (l : List UInt8) (n : Int) (x : Er) (h : RdAt w eb r g off cap l (some x)) :
    Calls Tryz.prog 136 #[.pointer (some ⟨r, 0, none⟩), .int .i64 n] w fun e w' => e = .returned (.tuple #[.slice none 0 0, .bool false]) ∧ w' = w := by
  have c1 : w.cell? ⟨r, 1, none⟩ = some (.iface 169 (.pointer (some (eb x)))) := cell_at h.cells 1
  have e1 := eql_er
  have e2 := neq_er
  clear h
  go_enter Tryz.func136, Tryz.ntmps136
  go_wp2_with fail
  exact bodyPost_ret (v := .tuple #[.slice none 0 0, .bool false]) (by simp [results, Tryz.results136, go_sem]) rfl ⟨rfl, rfl⟩
end Go.Proofs.YtabfcciejhbajaaGreatDoor

namespace Go.Proofs.YtabfcciejhbajaaGreatDoor
open Go Go.RowKit

theorem addr_add (g off j : Nat) : (⟨g, off, none⟩ : Addr).add j = ⟨g, off + j, none⟩ := by unfold Addr.add; split <;> simp_all
/-- a number of bytes, the lowest first -/
def leNat : List UInt8 → Nat
  | [] => 0
  | b :: l => b.toNat + 256 * leNat l
theorem leNat_lt (l : List UInt8) : leNat l < 256 ^ l.length := by
  induction l with
  | nil => simp [leNat]
  | cons b l ih =>
    have := b.toNat_lt
    simp only [leNat, List.length_cons, Nat.pow_succ]
    omega
theorem leNat_leB (n x : Nat) (h : x < 256 ^ n) : leNat (leB n x) = x := by
  induction n generalizing x with
  | zero => simp [leB, leNat]; rw [Nat.pow_zero] at h; omega
  | succ n ih =>
    simp only [leB, leNat]
    rw [ih (x / 256) (by rw [Nat.pow_succ] at h; omega)]
    have : (UInt8.ofNat (x % 256)).toNat = x % 256 := by simp
    rw [this]; omega
set_option maxRecDepth 100000 in
set_option maxHeartbeats 1000000 in
theorem number_ok (w : World) (eb : Er → Addr) (r g off cap : Nat) (l : List UInt8) (n : Nat) (h : RdAt w eb r g off cap l none) (hn : n ≤ l.length) (hl : l.length ≤ 1099511627776) (hn8 : n ≤ 8) :
    Calls Tryz.prog 113 #[.pointer (some ⟨r, 0, none⟩), .int .i64 n] w fun e w' => e = .returned (.int .u64 (leNat (l.take n))) ∧ ∃ off' cap', RdAt w' eb r g off' cap' (l.drop n) none ∧ Fr (fun b => b = r) w w' := by
  have HT := Lib.hid (take_ok w eb r g off cap l n h hn hl)
  have HH := Lib.hid h
  clear h
  go_enter Tryz.func113, Tryz.ntmps113
  go_wp2_with fail
  refine HT.out.mono ?_
  rintro e w1 ⟨rfl, off', cap', hrd, hfr⟩
  have HR := Lib.hid hrd
  have HF := Lib.hid hfr
  have HC := Lib.hid (fun (j : Nat) (hj : j < n) => (show ∃ hj' : j < l.length, w1.cell? ⟨g, off + j, none⟩ = some (.int .u8 (l[j].toNat : Nat)) from by
    have hj' : j < l.length := by omega
    have hc := HH.out.row j (byteV l[j]) (by simp [hj'])
    exact ⟨hj', (hfr.cell (World.block_lt_of_cell? _ _ hc) HH.out.ne).trans hc⟩))
  clear hrd hfr HT
  go_wp2_with fail
  go_loopw [7, 8] (fun vx vi wr => ∃ k : Nat, k ≤ n ∧ vi = .int .i64 ((k : Int) - 1) ∧ vx = .int .u64 (leNat ((l.take n).drop k) : Nat) ∧ wr = w1) (fun _ vi _ => (intOf vi + 1).toNat)
  case atStart => exact ⟨n, Nat.le_refl _, rfl, by simp [leNat], rfl⟩
  case round =>
    obtain ⟨k, hk, rfl, rfl, rfl⟩ := hrel
    by_cases hk0 : k = 0
    · subst hk0
      go_wp2_with fail
      go_ret
      exact ⟨by simp, off', cap', HR.out, HF.out⟩
    · obtain ⟨m, rfl⟩ : ∃ m, k = m + 1 := ⟨k - 1, by omega⟩
      obtain ⟨hm, hc⟩ := HC.out m (by omega)
      have hb := l[m].toNat_lt
      have hmm : ((m + 1 : Nat) : Int) - 1 = (m : Int) := by omega
      rw [hmm]
      generalize hX : leNat ((l.take n).drop (m + 1)) = X
      go_wp2_with fail
      have hXl : X < 72057594037927936 := by
        rw [← hX]
        refine Nat.lt_of_lt_of_le (leNat_lt _) ?_
        refine Nat.le_trans (Nat.pow_le_pow_right (by omega) (show _ ≤ 7 from ?_)) (by decide)
        rw [List.length_drop, List.length_take]; omega
      have hbits : bits .or .u64 (IntKind.u64.wrap ((X : Int) * 256)) ((l[m].toNat : Nat) : Int) = ((leNat ((l.take n).drop m) : Nat) : Int) := by
        rw [show IntKind.u64.wrap ((X : Int) * 256) = ((256 * X : Nat) : Int) from by rw [IntKind.wrap_u64]; omega]
        rw [bits_or_u64_nat _ _ (by omega) (by omega)]
        have e1 := Nat.two_pow_add_eq_or_of_lt (i := 8) (b := l[m].toNat) (by omega) X
        rw [show (2 : Nat) ^ 8 = 256 from rfl] at e1
        rw [← e1]
        have e2 : (l.take n).drop m = l[m] :: (l.take n).drop (m + 1) := by
          rw [List.drop_eq_getElem_cons (by rw [List.length_take]; omega)]; simp
        rw [e2, leNat, hX, Nat.add_comm]
      rw [hbits]
      exact ⟨⟨m, by omega, rfl, rfl, trivial⟩, by simp [intOf]⟩
set_option maxRecDepth 100000 in
set_option maxHeartbeats 1000000 in
theorem number_short (w : World) (K : Nat) (eb : Er → Addr) (S : Er → Bool) (G : Glob w K eb S) (r g off cap : Nat) (l : List UInt8) (n : Nat) (h : RdAt w eb r g off cap l none) (hn : l.length < n) (hl : n ≤ 1099511627776) :
    Calls Tryz.prog 113 #[.pointer (some ⟨r, 0, none⟩), .int .i64 n] w fun e w' => e = .returned (.int .u64 0) ∧ RdAt w' eb r g off cap l (some .short) ∧ Fr (fun b => b = r) w w' := by
  have HT := Lib.hid (take_short w K eb S G r g off cap l n h hn hl)
  clear h G
  go_enter Tryz.func113, Tryz.ntmps113
  go_wp2_with fail
  refine HT.out.mono ?_
  rintro e w1 ⟨rfl, hrd, hfr⟩
  have HR := Lib.hid hrd
  have HF := Lib.hid hfr
  clear hrd hfr HT
  go_wp2_with fail
  refine wp_loop_rounds 1 ?_
  rw [rounds_succ]
  go_wp2_with fail
  go_ret
  exact ⟨rfl, HR.out, HF.out⟩
theorem conv_bytes {w : World} {v : Value} {l : List UInt8} (h : BytesAt w v l) : (convert 38 9 v).run Tryz.prog w = .ok (.string ⟨l.toArray⟩) w := by
  rcases h with ⟨rfl, h0, _⟩ | ⟨a, c, rfl, _, _, hc⟩
  · have : l = [] := List.eq_nil_of_length_eq_zero h0
    subst this
    exact run_convert_bytes_nil w 38 5 Tryz.underlying38 Tryz.underlying5 0 0 9 Tryz.underlying9
  · refine run_convert_bytes_back w 38 9 5 a c l Tryz.underlying38 Tryz.underlying5 Tryz.underlying9 (fun j hj => ?_)
    exact hc j _ (by rw [List.getElem?_map, List.getElem?_eq_getElem hj]; rfl)
theorem RdAt.bytes {w : World} {eb : Er → Addr} {r g off cap : Nat} {l : List UInt8} {f : Option Er} (h : RdAt w eb r g off cap l f) : BytesAt w (.slice (some ⟨g, off, none⟩) l.length cap) l :=
  .inr ⟨_, _, rfl, h.room, by simp, fun j u hu => by rw [addr_add]; exact h.row j u hu⟩

set_option maxRecDepth 100000 in
set_option maxHeartbeats 1000000 in
theorem text_ok (w : World) (eb : Er → Addr) (r g off cap : Nat) (l : List UInt8) (n : Nat) (h : RdAt w eb r g off cap l none) (hl : l.length ≤ 1099511627776) (h2 : 2 ≤ l.length) (hn : leNat (l.take 2) = n) (hn2 : n ≤ (l.drop 2).length) :
    Calls Tryz.prog 114 #[.pointer (some ⟨r, 0, none⟩)] w fun e w' => e = .returned (.string ⟨((l.drop 2).take n).toArray⟩) ∧ ∃ off' cap', RdAt w' eb r g off' cap' ((l.drop 2).drop n) none ∧ Fr (fun b => b = r) w w' := by
  have c0 : w.cell? ⟨r, 0, none⟩ = some (.slice (some ⟨g, off, none⟩) l.length cap) := cell_at h.cells 0
  have HN := Lib.hid (number_ok w eb r g off cap l 2 h h2 hl (by omega))
  rw [hn] at HN
  have hns : n < 65536 := by rw [← hn]; refine Nat.lt_of_lt_of_le (leNat_lt _) ?_; rw [List.length_take, Nat.min_eq_left h2]; decide
  have hnw : IntKind.i64.wrap (n : Int) = n := IntWalk.i64_in _ (by omega)
  have hll : (l.drop 2).length ≤ 1099511627776 := by rw [List.length_drop]; omega
  clear h
  go_enter Tryz.func114, Tryz.ntmps114
  go_wp2_with fail
  refine HN.out.mono ?_
  rintro e w1 ⟨rfl, off1, cap1, hrd, hfr⟩
  have HT := Lib.hid (take_ok w1 eb r g off1 cap1 (l.drop 2) n hrd hn2 hll)
  have HR := Lib.hid hrd
  have HF := Lib.hid hfr
  clear hrd hfr HN c0
  go_wp2_with fail
  refine HT.out.mono ?_
  rintro e w2 ⟨rfl, off2, cap2, hrd2, hfr2⟩
  have hb : BytesAt w2 (.slice (some ⟨g, off1, none⟩) n cap1) ((l.drop 2).take n) := by
    have hlen : ((l.drop 2).take n).length = n := by rw [List.length_take]; omega
    unfold BytesAt
    rw [hlen]
    refine .inr ⟨_, _, rfl, Nat.le_trans hn2 HR.out.room, by rw [List.length_map]; omega, fun j u hu => ?_⟩
    rw [addr_add]
    rw [List.map_take, List.getElem?_take] at hu
    split at hu
    · have := HR.out.row j u hu
      exact (hfr2.cell (World.block_lt_of_cell? _ _ this) HR.out.ne).trans this
    · cases hu
  have hcv := conv_bytes hb
  have HR2 := Lib.hid hrd2
  have HF2 := Lib.hid hfr2
  clear hrd2 hfr2 hb HT
  go_wp2_with fail
  go_ret
  exact ⟨rfl, off2, cap2, HR2.out, Fr.trans HF.out HF2.out⟩
set_option maxRecDepth 100000 in
set_option maxHeartbeats 1000000 in
theorem text_short (w : World) (K : Nat) (eb : Er → Addr) (S : Er → Bool) (G : Glob w K eb S) (r g off cap : Nat) (l : List UInt8) (h : RdAt w eb r g off cap l none) (h2 : l.length < 2) :
    Calls Tryz.prog 114 #[.pointer (some ⟨r, 0, none⟩)] w fun e w' => e = .returned (.string ByteArray.empty) ∧ RdAt w' eb r g off cap l (some .short) ∧ Fr (fun b => b = r) w w' := by
  have c0 : w.cell? ⟨r, 0, none⟩ = some (.slice (some ⟨g, off, none⟩) l.length cap) := cell_at h.cells 0
  have HN := Lib.hid (number_short w K eb S G r g off cap l 2 h (by omega) (by omega))
  have hcv := fun (w : World) => run_convert_bytes_nil (P := Tryz.prog) w 38 5 Tryz.underlying38 Tryz.underlying5 0 0 9 Tryz.underlying9
  clear h G
  go_enter Tryz.func114, Tryz.ntmps114
  go_wp2_with fail
  refine HN.out.mono ?_
  rintro e w1 ⟨rfl, hrd, hfr⟩
  have HT := Lib.hid (take_fault w1 eb r g off cap l 0 .short hrd)
  have HR := Lib.hid hrd
  have HF := Lib.hid hfr
  have d0 : w1.cell? ⟨r, 0, none⟩ = some (.slice (some ⟨g, off, none⟩) l.length cap) := cell_at hrd.cells 0
  have f0 := free_at hrd.cells 0
  clear hrd hfr HN c0
  go_wp2_with fail
  refine HT.out.mono ?_
  rintro e w2 ⟨rfl, rfl⟩
  clear HT
  go_wp2_with fail
  go_ret
  refine ⟨rfl, ⟨heap_setCell_at HR.out.cells 0 _, HR.out.room, fun j u hu => ?_, HR.out.ne⟩, HF.out.setCell (fun _ => rfl) _⟩
  rw [cell_far (show (⟨g, _, none⟩ : Addr).block ≠ r from HR.out.ne)]
  exact HR.out.row _ u hu
set_option maxRecDepth 100000 in
set_option maxHeartbeats 1000000 in
theorem text_far (w : World) (K : Nat) (eb : Er → Addr) (S : Er → Bool) (G : Glob w K eb S) (r g off cap : Nat) (hrK : K ≤ r) (l : List UInt8) (n : Nat) (h : RdAt w eb r g off cap l none) (hl : l.length ≤ 1099511627776) (h2 : 2 ≤ l.length) (hn : leNat (l.take 2) = n) (hn2 : (l.drop 2).length < n) :
    Calls Tryz.prog 114 #[.pointer (some ⟨r, 0, none⟩)] w fun e w' => e = .returned (.string ByteArray.empty) ∧ RdAt w' eb r g off cap l (some .short) ∧ Fr (fun b => b = r) w w' := by
  have c0 : w.cell? ⟨r, 0, none⟩ = some (.slice (some ⟨g, off, none⟩) l.length cap) := cell_at h.cells 0
  have HN := Lib.hid (number_ok w eb r g off cap l 2 h h2 hl (by omega))
  rw [hn] at HN
  have hns : n < 65536 := by rw [← hn]; refine Nat.lt_of_lt_of_le (leNat_lt _) ?_; rw [List.length_take, Nat.min_eq_left h2]; decide
  have hnw : IntKind.i64.wrap (n : Int) = n := IntWalk.i64_in _ (by omega)
  have hcv := fun (w : World) => run_convert_bytes_nil (P := Tryz.prog) w 38 5 Tryz.underlying38 Tryz.underlying5 0 0 9 Tryz.underlying9
  have HH := Lib.hid h
  have HG := Lib.hid (fun (w1 : World) (hf : Fr (fun b => b = r) w w1) => G.fr hf (fun b hb => by subst hb; exact hrK))
  clear h G
  go_enter Tryz.func114, Tryz.ntmps114
  go_wp2_with fail
  refine HN.out.mono ?_
  rintro e w1 ⟨rfl, off1, cap1, hrd, hfr⟩
  have HT := Lib.hid (take_short w1 K eb S (HG.out w1 hfr) r g off1 cap1 (l.drop 2) n hrd hn2 (by omega))
  have HF := Lib.hid hfr
  clear hrd hfr HN c0
  go_wp2_with fail
  refine HT.out.mono ?_
  rintro e w2 ⟨rfl, hrd2, hfr2⟩
  have HR := Lib.hid hrd2
  have d0 : w2.cell? ⟨r, 0, none⟩ = some (.slice (some ⟨g, off1, none⟩) (l.drop 2).length cap1) := cell_at hrd2.cells 0
  have f0 := free_at hrd2.cells 0
  have HF2 := Lib.hid (Fr.trans HF.out hfr2)
  clear hrd2 hfr2 HT
  go_wp2_with fail
  go_ret
  refine ⟨rfl, ⟨heap_setCell_at HR.out.cells 0 _, HH.out.room, fun j u hu => ?_, HH.out.ne⟩, HF2.out.setCell (fun _ => rfl) _⟩
  rw [cell_far (show (⟨g, _, none⟩ : Addr).block ≠ r from HH.out.ne)]
  have := HH.out.row _ u hu
  exact (HF2.out.cell (World.block_lt_of_cell? _ _ this) HH.out.ne).trans this
end Go.Proofs.YtabfcciejhbajaaGreatDoor

namespace Go.Proofs.YtabfcciejhbajaaGreatDoor
open Go Go.RowKit

theorem eql_rd (r : Nat) (w : World) : (binOp .eql 132 (.pointer (some ⟨r, 0, none⟩)) (.pointer none)).run Tryz.prog w = .ok (.bool false) w := by kernel_rfl
theorem build_cursor (o : Option Addr) (n c : Nat) (w : World) : (Instr.build 158 #[(0, .slice o n c)]).run Tryz.prog w = .ok (.agg #[.slice o n c, .nilIface]) w := by kernel_rfl
theorem build_reader (o : Option Addr) (n c : Nat) (w : World) : (Instr.build 160 #[(0, .agg #[.slice o n c, .nilIface])]).run Tryz.prog w = .ok (.agg #[.slice o n c, .nilIface]) w := by kernel_rfl

set_option maxRecDepth 100000 in
set_option maxHeartbeats 1000000 in
theorem new_reader (w : World) (eb : Er → Addr) (v : Value) (l : List UInt8) (hv : BytesAt w v l) (hne : l ≠ []) (hl : l.length ≤ 1099511627776) :
    Calls Tryz.prog 89 #[v] w fun e w' => ∃ r g cap, e = .returned (.pointer (some ⟨r, 0, none⟩)) ∧ RdAt w' eb r g 0 cap l none ∧ w.heap.size ≤ r ∧ w.heap.size ≤ g ∧ Fr (fun _ => False) w w' := by
  obtain ⟨i0, hi, hi0, hi1, hi2⟩ := info_parts infoByte
  have hpos : 0 < l.length := List.length_pos_iff.2 hne
  rcases hv with ⟨_, h0, _⟩ | ⟨a, c, rfl, hnc, hlen, hc⟩
  · omega
  have HC := Lib.hid hc
  have bc := build_cursor
  have br := build_reader
  clear hc
  go_enter Tryz.func89, Tryz.ntmps89
  go_wp2_with (at_builtin; refine wpList_append_own_at _ rfl (.const (.slice none 0 0)) (.tmp 3) 38 rfl w.heap.size 5 i0 _ 1 1 Tryz.underlying38 hi hi0 hi1 hi2 rfl (by decide) (.slice none 0 0) 0 [] rfl (World.ownsRow_nil _ _ _ _) a l.length c (l.map byteV) rfl hlen HC.out (by simp [byteV, Value.oneCell']) (by unfold maxLen; omega) (by omega) (Nat.le_refl _) ?_; intro v4 w4 hown4 hgrow4 hnil4 hat4; obtain ⟨g, cap, hv4, hg4, hcap4⟩ : ∃ g cap, v4 = .slice (some ⟨g, 0, none⟩) l.length cap ∧ w.heap.size ≤ g ∧ l.length ≤ cap := (by
    rcases hown4.2 with ⟨_, q⟩ | ⟨g, cap, cur, q, q1, _, q3, _⟩
    · omega
    · exact ⟨g, cap, by rw [q, Nat.zero_add], q1, by omega⟩); subst hv4; have HO := Lib.hid hown4; have HG := Lib.hid hgrow4; clear hown4 hgrow4 hnil4 hat4)
  go_ret
  have hgl : g < w4.heap.size := (HO.out.lt g rfl).2
  refine ⟨_, g, cap, rfl, ⟨heap_alloc_new _ _, hcap4, fun j u hu => ?_, by omega⟩, HG.out.size, hg4, ((Fr.refl _ _).grown HG.out (fun k hk _ => by cases hk)).alloc _⟩
  have := HO.out.cells rfl j u (by simpa using hu)
  rw [addr_add] at this
  exact (World.cell?_of_block (heap_alloc_old _ _ hgl)).trans this
set_option maxRecDepth 100000 in
set_option maxHeartbeats 1000000 in
theorem reader_U64 (w : World) (eb : Er → Addr) (r g off cap : Nat) (l : List UInt8) (h : RdAt w eb r g off cap l none) (hn : 8 ≤ l.length) (hl : l.length ≤ 1099511627776) :
    Calls Tryz.prog 90 #[.pointer (some ⟨r, 0, none⟩)] w fun e w' => e = .returned (.int .u64 (leNat (l.take 8))) ∧ ∃ off' cap', RdAt w' eb r g off' cap' (l.drop 8) none ∧ Fr (fun b => b = r) w w' := by
  have HN := Lib.hid (number_ok w eb r g off cap l 8 h hn hl (by omega))
  have e1 := eql_rd
  have hX : leNat (l.take 8) < 2 ^ 64 := by
    refine Nat.lt_of_lt_of_le (leNat_lt _) ?_
    rw [List.length_take, Nat.min_eq_left hn]; decide
  generalize leNat (l.take 8) = X at *
  clear h
  go_enter Tryz.func90, Tryz.ntmps90
  go_wp2_with fail
  refine HN.out.mono ?_
  rintro e w1 ⟨rfl, off1, cap1, hrd, hfr⟩
  have HR := Lib.hid hrd
  have HF := Lib.hid hfr
  clear hrd hfr HN
  go_wp2_with fail
  go_ret
  exact ⟨rfl, off1, cap1, HR.out, HF.out⟩
set_option maxRecDepth 100000 in
set_option maxHeartbeats 1000000 in
theorem reader_U32 (w : World) (eb : Er → Addr) (r g off cap : Nat) (l : List UInt8) (h : RdAt w eb r g off cap l none) (hn : 4 ≤ l.length) (hl : l.length ≤ 1099511627776) :
    Calls Tryz.prog 92 #[.pointer (some ⟨r, 0, none⟩)] w fun e w' => e = .returned (.int .u32 (leNat (l.take 4))) ∧ ∃ off' cap', RdAt w' eb r g off' cap' (l.drop 4) none ∧ Fr (fun b => b = r) w w' := by
  have HN := Lib.hid (number_ok w eb r g off cap l 4 h hn hl (by omega))
  have e1 := eql_rd
  have hX : leNat (l.take 4) < 2 ^ 32 := by
    refine Nat.lt_of_lt_of_le (leNat_lt _) ?_
    rw [List.length_take, Nat.min_eq_left hn]; decide
  generalize leNat (l.take 4) = X at *
  have hw : IntKind.u32.wrap (X : Int) = X := IntWalk.u32_in _ (by omega)
  clear h
  go_enter Tryz.func92, Tryz.ntmps92
  go_wp2_with fail
  refine HN.out.mono ?_
  rintro e w1 ⟨rfl, off1, cap1, hrd, hfr⟩
  have HR := Lib.hid hrd
  have HF := Lib.hid hfr
  clear hrd hfr HN
  go_wp2_with fail
  go_ret
  exact ⟨rfl, off1, cap1, HR.out, HF.out⟩
set_option maxRecDepth 100000 in
set_option maxHeartbeats 1000000 in
theorem reader_U16 (w : World) (eb : Er → Addr) (r g off cap : Nat) (l : List UInt8) (h : RdAt w eb r g off cap l none) (hn : 2 ≤ l.length) (hl : l.length ≤ 1099511627776) :
    Calls Tryz.prog 91 #[.pointer (some ⟨r, 0, none⟩)] w fun e w' => e = .returned (.int .u16 (leNat (l.take 2))) ∧ ∃ off' cap', RdAt w' eb r g off' cap' (l.drop 2) none ∧ Fr (fun b => b = r) w w' := by
  have HN := Lib.hid (number_ok w eb r g off cap l 2 h hn hl (by omega))
  have e1 := eql_rd
  have hX : leNat (l.take 2) < 2 ^ 16 := by
    refine Nat.lt_of_lt_of_le (leNat_lt _) ?_
    rw [List.length_take, Nat.min_eq_left hn]; decide
  generalize leNat (l.take 2) = X at *
  have hw : IntKind.u16.wrap (X : Int) = X := IntWalk.u16_in _ (by omega)
  clear h
  go_enter Tryz.func91, Tryz.ntmps91
  go_wp2_with fail
  refine HN.out.mono ?_
  rintro e w1 ⟨rfl, off1, cap1, hrd, hfr⟩
  have HR := Lib.hid hrd
  have HF := Lib.hid hfr
  clear hrd hfr HN
  go_wp2_with fail
  go_ret
  exact ⟨rfl, off1, cap1, HR.out, HF.out⟩
theorem reader_Err (w : World) (eb : Er → Addr) (r g off cap : Nat) (l : List UInt8) (f : Option Er) (h : RdAt w eb r g off cap l f) :
    Calls Tryz.prog 94 #[.pointer (some ⟨r, 0, none⟩)] w fun e w' => e = .returned (erV eb f) ∧ w' = w := by
  have c1 : w.cell? ⟨r, 1, none⟩ = some (erV eb f) := cell_at h.cells 1
  have e1 := eql_rd
  clear h
  go_enter Tryz.func94, Tryz.ntmps94
  go_wp2_with fail
  go_ret
  exact ⟨rfl, rfl⟩
theorem reader_Left (w : World) (eb : Er → Addr) (r g off cap : Nat) (l : List UInt8) (f : Option Er) (h : RdAt w eb r g off cap l f) :
    Calls Tryz.prog 95 #[.pointer (some ⟨r, 0, none⟩)] w fun e w' => e = .returned (.int .i64 (l.length : Int)) ∧ w' = w := by
  have c0 : w.cell? ⟨r, 0, none⟩ = some (.slice (some ⟨g, off, none⟩) l.length cap) := cell_at h.cells 0
  have e1 := eql_rd
  clear h
  go_enter Tryz.func95, Tryz.ntmps95
  go_wp2_with fail
  go_ret
  exact ⟨rfl, rfl⟩
/-- the next text of bytes, and what is behind it -/
def textOf (l : List UInt8) : Option (List UInt8 × List UInt8) :=
  if l.length < 2 then none else if (l.drop 2).length < leNat (l.take 2) then none else some ((l.drop 2).take (leNat (l.take 2)), (l.drop 2).drop (leNat (l.take 2)))
/-- what a text leaves of a reader -/
def TextIs (w' : World) (eb : Er → Addr) (r g : Nat) (l : List UInt8) (s : ByteArray) : Prop :=
  (textOf l = none ∧ s = ByteArray.empty ∧ ∃ off' cap', RdAt w' eb r g off' cap' l (some .short)) ∨ ∃ t l', textOf l = some (t, l') ∧ s = ⟨t.toArray⟩ ∧ ∃ off' cap', RdAt w' eb r g off' cap' l' none
theorem cursor_text (w : World) (K : Nat) (eb : Er → Addr) (S : Er → Bool) (G : Glob w K eb S) (r g off cap : Nat) (hrK : K ≤ r) (l : List UInt8) (h : RdAt w eb r g off cap l none) (hl : l.length ≤ 1099511627776) :
    Calls Tryz.prog 114 #[.pointer (some ⟨r, 0, none⟩)] w fun e w' => ∃ s, e = .returned (.string s) ∧ Fr (fun b => b = r) w w' ∧ TextIs w' eb r g l s := by
  by_cases h2 : l.length < 2
  · refine (text_short w K eb S G r g off cap l h h2).mono ?_
    rintro e w' ⟨rfl, hr, hf⟩
    exact ⟨_, rfl, hf, .inl ⟨by unfold textOf; rw [if_pos h2], rfl, off, cap, hr⟩⟩
  · by_cases h3 : (l.drop 2).length < leNat (l.take 2)
    · refine (text_far w K eb S G r g off cap hrK l _ h hl (by omega) rfl h3).mono ?_
      rintro e w' ⟨rfl, hr, hf⟩
      exact ⟨_, rfl, hf, .inl ⟨by unfold textOf; rw [if_neg h2, if_pos h3], rfl, off, cap, hr⟩⟩
    · refine (text_ok w eb r g off cap l _ h hl (by omega) rfl (by omega)).mono ?_
      rintro e w' ⟨rfl, off', cap', hr, hf⟩
      exact ⟨_, rfl, hf, .inr ⟨_, _, by unfold textOf; rw [if_neg h2, if_neg h3], rfl, off', cap', hr⟩⟩
set_option maxRecDepth 100000 in
theorem reader_Text (w : World) (K : Nat) (eb : Er → Addr) (S : Er → Bool) (G : Glob w K eb S) (r g off cap : Nat) (hrK : K ≤ r) (l : List UInt8) (h : RdAt w eb r g off cap l none) (hl : l.length ≤ 1099511627776) :
    Calls Tryz.prog 93 #[.pointer (some ⟨r, 0, none⟩)] w fun e w' => ∃ s, e = .returned (.string s) ∧ Fr (fun b => b = r) w w' ∧ TextIs w' eb r g l s := by
  have e1 := eql_rd
  have HM := Lib.hid (cursor_text w K eb S G r g off cap hrK l h hl)
  clear h G
  go_enter Tryz.func93, Tryz.ntmps93
  go_wp2_with fail
  refine HM.out.mono ?_
  rintro e w1 ⟨s, rfl, hf, hx⟩
  have HF := Lib.hid hf
  have HX := Lib.hid hx
  clear hf hx HM
  go_wp2_with fail
  go_ret
  exact ⟨s, rfl, HF.out, HX.out⟩
end Go.Proofs.YtabfcciejhbajaaGreatDoor

namespace Go.Proofs.YtabfcciejhbajaaGreatDoor
open Go Go.RowKit

def halves : List Nat := [0, 274646895, 549293790, 820201905, 1098587580, 1361435347, 1640403810, 1905808397, 2197175160, 2460548119, 2722870694, 2987750089, 3280807620, 3553878443, 3811616794, 4084100981]
/-- four steps -/
def nib (x : Nat) : Nat := (x / 16) ^^^ halves.getD (x % 16) 0
def crcByte (x : Nat) (c : UInt8) : Nat := nib (nib (x ^^^ c.toNat))
def crcAdd (s : Nat) (l : List UInt8) : Nat := 4294967295 - l.foldl crcByte (4294967295 - s)
theorem halves_lt (j : Nat) : halves.getD j 0 < 4294967296 := by
  by_cases h : j < 16
  · have : ∀ j : Fin 16, halves.getD j.1 0 < 4294967296 := by decide
    exact this ⟨j, h⟩
  · have : halves.getD j 0 = 0 := by
      rw [List.getD_eq_getElem?_getD, List.getElem?_eq_none (by simp [halves]; omega)]; rfl
    rw [this]; decide
theorem nib_lt (x : Nat) (h : x < 4294967296) : nib x < 4294967296 := by
  unfold nib
  exact Nat.xor_lt_two_pow (n := 32) (by omega) (halves_lt _)
theorem crcByte_lt (x : Nat) (c : UInt8) (h : x < 4294967296) : crcByte x c < 4294967296 :=
  nib_lt _ (nib_lt _ (Nat.xor_lt_two_pow (n := 32) h (by have := c.toNat_lt; omega)))
theorem crcFold_lt (l : List UInt8) (x : Nat) (h : x < 4294967296) : l.foldl crcByte x < 4294967296 := by
  induction l generalizing x with
  | nil => exact h
  | cons c l ih => exact ih _ (crcByte_lt x c h)
theorem crcAdd_lt (s : Nat) (l : List UInt8) : crcAdd s l < 4294967296 := by unfold crcAdd; omega
theorem crcAdd_append (s : Nat) (a b : List UInt8) (h : s < 4294967296) : crcAdd (crcAdd s a) b = crcAdd s (a ++ b) := by
  unfold crcAdd
  have := crcFold_lt a (4294967295 - s) (by omega)
  rw [List.foldl_append, show 4294967295 - (4294967295 - a.foldl crcByte (4294967295 - s)) = a.foldl crcByte (4294967295 - s) from by omega]
theorem nat_not (s : Nat) (h : s < 4294967296) : 4294967295 ^^^ s = 4294967295 - s := by
  have e := congrArg BitVec.toNat (BitVec.allOnes_xor (x := BitVec.ofNat 32 s))
  rw [BitVec.toNat_xor, BitVec.toNat_not, BitVec.toNat_allOnes, BitVec.toNat_ofNat, Nat.mod_eq_of_lt (by omega)] at e
  simpa using e
theorem u32_not (s : Nat) (h : s < 4294967296) : bits .xor .u32 IntKind.u32.max (s : Int) = ((4294967295 - s : Nat) : Int) := by
  rw [show IntKind.u32.max = ((4294967295 : Nat) : Int) from rfl, u32_xor_nat _ _ (by omega) h, nat_not s h]
/-- the table lies below block K -/
structure Tab (w : World) (K : Nat) : Prop where
  cell : ∀ j, j < 16 → w.cell? ⟨17, j, none⟩ = some (.int .u32 (halves.getD j 0 : Nat))
  lt : 17 < K
  size : K ≤ w.heap.size
theorem Tab.fr {w w' : World} {K : Nat} {T : Nat → Prop} (h : Tab w K) (hf : Fr T w w') (hT : ∀ b, T b → K ≤ b) : Tab w' K :=
  ⟨fun j hj => (hf.cell (World.block_lt_of_cell? _ _ (h.cell j hj)) (fun e => by have := hT _ e; have := h.lt; simp only at *; omega)).trans (h.cell j hj), h.lt, Nat.le_trans h.size hf.size⟩

set_option maxRecDepth 100000 in
set_option maxHeartbeats 1000000 in
theorem crc_add (w : World) (K s : Nat) (v : Value) (l : List UInt8) (hT : Tab w K) (hv : BytesAt w v l) (hs : s < 4294967296) (hl : l.length ≤ 1099511627776) :
    Calls Tryz.prog 125 #[.int .u32 s, v] w fun e w' => e = .returned (.int .u32 (crcAdd s l)) ∧ w' = w := by
  obtain ⟨o, cp, hv'⟩ := hv.form
  subst hv'
  have HT := Lib.hid hT
  have HV := Lib.hid hv
  clear hT hv
  go_enter Tryz.func125, Tryz.ntmps125
  go_wp2_with fail
  have hS : ∃ x0, x0 = 4294967295 - s := ⟨_, rfl⟩
  obtain ⟨x0, hx0⟩ := hS
  have hX0 := Lib.hid hx0
  have hx0l : x0 < 4294967296 := by omega
  clear hx0
  go_loopw [5, 12] (fun vx vi wr => ∃ k x : Nat, k ≤ l.length ∧ vi = .int .i64 (k : Int) ∧ vx = .int .u32 (x : Int) ∧ x < 4294967296 ∧ (l.drop k).foldl crcByte x = l.foldl crcByte x0 ∧ wr = w) (fun _ vi _ => l.length - (intOf vi).toNat)
  case atStart =>
    exact ⟨0, x0, Nat.zero_le _, rfl, by rw [u32_not s hs, ← hX0.out], hx0l, by simp, rfl⟩
  case round =>
    obtain ⟨k, x, hk, rfl, rfl, hx, hfold, rfl⟩ := hrel
    have HFO := Lib.hid hfold
    clear hfold
    by_cases hlt : k < l.length
    · obtain ⟨a, hoa, hca⟩ : ∃ a, o = some a ∧ wr.cell? (a.add k) = some (.int .u8 (l[k].toNat : Nat)) := by
        rcases HV.out with ⟨q, q', _⟩ | ⟨a, c', q, _, _, hc⟩
        · omega
        · injection q with q1 q2 q3
          exact ⟨a, q1, hc k _ (by rw [List.getElem?_map, List.getElem?_eq_getElem hlt]; rfl)⟩
      subst hoa
      obtain ⟨c, hc⟩ : ∃ c : Nat, c = l[k].toNat := ⟨_, rfl⟩
      have hc256 : c < 256 := by rw [hc]; exact l[k].toNat_lt
      rw [← hc] at hca
      obtain ⟨x1, hx1⟩ : ∃ x1, x1 = x ^^^ c := ⟨_, rfl⟩
      have hx1l : x1 < 4294967296 := by rw [hx1]; exact Nat.xor_lt_two_pow (n := 32) hx (by omega)
      obtain ⟨j1, hj1⟩ : ∃ j, j = x1 % 16 := ⟨_, rfl⟩
      obtain ⟨y1, hy1⟩ : ∃ y, y = halves.getD j1 0 := ⟨_, rfl⟩
      obtain ⟨x2, hx2⟩ : ∃ x2, x2 = nib x1 := ⟨_, rfl⟩
      have hx2l : x2 < 4294967296 := by rw [hx2]; exact nib_lt _ hx1l
      obtain ⟨j2, hj2⟩ : ∃ j, j = x2 % 16 := ⟨_, rfl⟩
      obtain ⟨y2, hy2⟩ : ∃ y, y = halves.getD j2 0 := ⟨_, rfl⟩
      obtain ⟨x3, hx3⟩ : ∃ x3, x3 = nib x2 := ⟨_, rfl⟩
      have hx3l : x3 < 4294967296 := by rw [hx3]; exact nib_lt _ hx2l
      have hj1l : j1 < 16 := by omega
      have hj2l : j2 < 16 := by omega
      have hy1l : y1 < 4294967296 := by rw [hy1]; exact halves_lt _
      have hy2l : y2 < 4294967296 := by rw [hy2]; exact halves_lt _
      have t1 := HT.out.cell j1 hj1l
      have t2 := HT.out.cell j2 hj2l
      rw [← hy1] at t1
      rw [← hy2] at t2
      have b0 : IntKind.u32.wrap (c : Int) = c := IntWalk.u32_in _ (by omega)
      have b1 : bits .xor .u32 (x : Int) (c : Int) = (x1 : Int) := by rw [u32_xor_nat _ _ hx (by omega), hx1]
      have b2 : bits .and .u32 (x1 : Int) 15 = (j1 : Int) := by rw [show (15 : Int) = ((15 : Nat) : Int) from rfl, u32_and_nat _ _ hx1l (by omega), hj1]; congr 1; exact Nat.and_two_pow_sub_one_eq_mod x1 4
      have b3 : bits .xor .u32 ((x1 : Int) / 16) (y1 : Int) = (x2 : Int) := by rw [show (x1 : Int) / 16 = ((x1 / 16 : Nat) : Int) from by simp, u32_xor_nat _ _ (by omega) hy1l, hx2, hy1, hj1]; rfl
      have b4 : bits .and .u32 (x2 : Int) 15 = (j2 : Int) := by rw [show (15 : Int) = ((15 : Nat) : Int) from rfl, u32_and_nat _ _ hx2l (by omega), hj2]; congr 1; exact Nat.and_two_pow_sub_one_eq_mod x2 4
      have b5 : bits .xor .u32 ((x2 : Int) / 16) (y2 : Int) = (x3 : Int) := by rw [show (x2 : Int) / 16 = ((x2 / 16 : Nat) : Int) from by simp, u32_xor_nat _ _ (by omega) hy2l, hx3, hy2, hj2]; rfl
      have hstep : (l.drop (k + 1)).foldl crcByte x3 = l.foldl crcByte x0 := by
        rw [← HFO.out, List.drop_eq_getElem_cons hlt, List.foldl_cons, hx3, hx2, hx1, hc]; rfl
      have HST := Lib.hid hstep
      clear hstep hx1 hx2 hx3 hj1 hj2 hy1 hy2 hc
      go_wp2_with fail
      exact ⟨⟨k + 1, x3, by omega, by go_num, rfl, hx3l, HST.out, trivial⟩, by simp [intOf]; omega⟩
    · have hkk : k = l.length := by omega
      subst hkk
      have hn := u32_not x hx
      have hfin : x = l.foldl crcByte x0 := by have := HFO.out; simpa using this
      have HFIN := Lib.hid hfin
      clear hfin
      go_wp2_with fail
      go_ret
      exact ⟨retv (by show Value.int IntKind.u32 ((4294967295 - x : Nat) : Int) = _; unfold crcAdd; rw [← hX0.out, ← HFIN.out]), rfl⟩
/-- a slice of three slices of bytes -/
def crcOf (ls : List (List UInt8)) : Nat := crcAdd 0 ls.flatten
theorem crcOf_snoc (ls : List (List UInt8)) (l : List UInt8) : crcAdd (crcOf ls) l = crcOf (ls ++ [l]) := by
  unfold crcOf
  rw [crcAdd_append _ _ _ (by omega)]; simp
set_option maxRecDepth 100000 in
set_option maxHeartbeats 1000000 in
theorem crc_sumOf (w : World) (K : Nat) (a : Addr) (cap : Nat) (vs : List Value) (ls : List (List UInt8)) (hT : Tab w K) (hl : vs.length = ls.length) (hlb : ls.length ≤ 1099511627776) (hc : ∀ (j : Nat) u, vs[j]? = some u → w.cell? (a.add j) = some u)
    (hv : ∀ (j : Nat) u l, vs[j]? = some u → ls[j]? = some l → BytesAt w u l ∧ l.length ≤ 1099511627776) :
    Calls Tryz.prog 110 #[.slice (some a) ls.length cap] w fun e w' => e = .returned (.int .u32 (crcOf ls)) ∧ w' = w := by
  have HT := Lib.hid hT
  have HV := Lib.hid hv
  have HC := Lib.hid hc
  have HL := Lib.hid hl
  clear hT hv hc hl
  go_enter Tryz.func110, Tryz.ntmps110
  go_wp2_with fail
  go_loopw [3, 8] (fun vx vi wr => ∃ k : Nat, k ≤ ls.length ∧ vi = .int .i64 (k : Int) ∧ vx = .int .u32 (crcOf (ls.take k) : Nat) ∧ wr = w) (fun _ vi _ => ls.length - (intOf vi).toNat)
  case atStart => exact ⟨0, Nat.zero_le _, rfl, by simp [crcOf, crcAdd], rfl⟩
  case round =>
    obtain ⟨k, hk, rfl, rfl, rfl⟩ := hrel
    by_cases hlt : k < ls.length
    · have hlt' : k < vs.length := by have := HL.out; omega
      have hcell := HC.out k _ (List.getElem?_eq_getElem hlt')
      obtain ⟨hb, hbl⟩ := HV.out k _ _ (List.getElem?_eq_getElem hlt') (List.getElem?_eq_getElem hlt)
      have hnext : crcAdd (crcOf (ls.take k)) ls[k] = crcOf (ls.take (k + 1)) := by rw [crcOf_snoc, List.take_add_one, List.getElem?_eq_getElem hlt]; rfl
      obtain ⟨o, cp, hvk⟩ := hb.form
      rw [hvk] at hcell hb
      have HA := Lib.hid (crc_add wr K (crcOf (ls.take k)) _ _ HT.out hb (crcAdd_lt _ _) hbl)
      have HN := Lib.hid hnext
      clear hnext hb hvk hlt'
      generalize crcOf (ls.take k) = X at *
      go_wp2_with fail
      refine HA.out.mono ?_
      rintro e w' ⟨rfl, rfl⟩
      rw [HN.out]
      go_wp2_with fail
      go_roundw
      case rel => exact ⟨k + 1, by omega, by go_num, rfl, trivial⟩
      case measure => simp [intOf]; omega
    · have hkk : k = ls.length := by omega
      subst hkk
      go_wp2_with fail
      go_ret
      exact ⟨by rw [List.take_length]; rfl, rfl⟩
end Go.Proofs.YtabfcciejhbajaaGreatDoor

namespace Go.Proofs.YtabfcciejhbajaaGreatDoor
open Go Go.RowKit

/-- whether so many records from first on have numbers -/
def numbersB (first : Nat) (n : Nat) : Bool := decide (1 ≤ first ∧ first ≤ 4611686018427387904 ∧ ((n : Int) - 1) ≤ 4611686018427387904 - (first : Int))
theorem block_numbers (w : World) (first n : Nat) (hf : first < 18446744073709551616) (hn : 1 ≤ n) (hn2 : n ≤ 9223372036854775807) :
    Calls Tryz.prog 51 #[.int .u64 first, .int .i64 n] w fun e w' => e = .returned (.bool (numbersB first n)) ∧ w' = w := by
  have w1 : IntKind.u64.wrap (n : Int) = n := by rw [IntKind.wrap_u64]; omega
  have w2 : IntKind.u64.wrap ((n : Int) - 1) = (n : Int) - 1 := by rw [IntKind.wrap_u64]; omega
  unfold numbersB
  by_cases h1 : 1 ≤ first
  · by_cases h2 : first ≤ 4611686018427387904
    · have w3 : IntKind.u64.wrap (4611686018427387904 - (first : Int)) = 4611686018427387904 - (first : Int) := by rw [IntKind.wrap_u64]; omega
      have g1 : (1 : Int) ≤ (first : Int) := by omega
      have g2 : (first : Int) ≤ 4611686018427387904 := by omega
      by_cases h3 : ((n : Int) - 1) ≤ 4611686018427387904 - (first : Int)
      · rw [show decide (1 ≤ first ∧ first ≤ 4611686018427387904 ∧ ((n : Int) - 1) ≤ 4611686018427387904 - (first : Int)) = true from decide_eq_true ⟨h1, h2, h3⟩]
        go_enter Tryz.func51, Tryz.ntmps51
        go_wp2_with fail
        go_ret
        exact ⟨rfl, rfl⟩
      · rw [show decide (1 ≤ first ∧ first ≤ 4611686018427387904 ∧ ((n : Int) - 1) ≤ 4611686018427387904 - (first : Int)) = false from decide_eq_false (fun h => h3 h.2.2)]
        go_enter Tryz.func51, Tryz.ntmps51
        go_wp2_with fail
        go_ret
        exact ⟨rfl, rfl⟩
    · rw [show decide (1 ≤ first ∧ first ≤ 4611686018427387904 ∧ ((n : Int) - 1) ≤ 4611686018427387904 - (first : Int)) = false from decide_eq_false (fun h => h2 h.2.1)]
      have g1 : (1 : Int) ≤ (first : Int) := by omega
      have g2 : ¬ (first : Int) ≤ 4611686018427387904 := by omega
      go_enter Tryz.func51, Tryz.ntmps51
      go_wp2_with fail
      go_ret
      exact ⟨rfl, rfl⟩
  · rw [show decide (1 ≤ first ∧ first ≤ 4611686018427387904 ∧ ((n : Int) - 1) ≤ 4611686018427387904 - (first : Int)) = false from decide_eq_false (fun h => h1 h.1)]
    have g1 : ¬ (1 : Int) ≤ (first : Int) := by omega
    go_enter Tryz.func51, Tryz.ntmps51
    go_wp2_with fail
    go_ret
    exact ⟨rfl, rfl⟩
/-- the sum of a block with zeros in the place of its sum -/
def sumB (b : List UInt8) : Nat := crcOf [b.take 14, [0, 0, 0, 0], b.drop 18]
set_option maxRecDepth 100000 in
set_option maxHeartbeats 1000000 in
theorem block_sum (w : World) (K : Nat) (g off cap : Nat) (l : List UInt8) (hT : Tab w K) (hv : BytesAt w (.slice (some ⟨g, off, none⟩) 512 cap) l) (hl : l.length = 512) :
    Calls Tryz.prog 84 #[.slice (some ⟨g, off, none⟩) 512 cap] w fun e w' => e = .returned (.int .u32 (sumB l)) ∧ Fr (fun _ => False) w w' := by
  obtain ⟨i0, hi, hi0, hi1, hi2⟩ := info_parts infoByte
  have hmk : ∀ w1 : World, (Instr.makeSlice 38 (.int .i64 4) (.int .i64 4)).run Tryz.prog w1 = .ok (.slice (some ⟨w1.heap.size, 0, none⟩) 4 4) (w1.alloc (.cells #[.int .u8 0, .int .u8 0, .int .u8 0, .int .u8 0] 5)) := by
    intro w1
    have hr := run_make (P := Tryz.prog) w1 38 5 i0 _ Tryz.underlying38 hi hi0 .i64 .i64 4 4 (by omega) (by omega) (by rw [hi2]; omega) (by omega)
    rw [hr, hi1]
    congr 3
    kernel_rfl
  have hcap : 512 ≤ cap := by
    rcases hv with ⟨q, _⟩ | ⟨a, c', q, hnc, _⟩
    · cases q
    · injection q with _ _ q3; omega
  have hcn : ¬ cap = 18 := by omega
  have hc1 : (14 : Int) ≤ cap := by omega
  have hc2 : (18 : Int) < cap := by omega
  have hrow : ∀ (j : Nat) u, (l.map byteV)[j]? = some u → w.cell? ⟨g, off + j, none⟩ = some u := by
    rcases hv with ⟨q, _⟩ | ⟨a, c', q, _, _, hc⟩
    · cases q
    · injection q with q1 _ _
      injection q1 with q1
      subst q1
      intro j u hu
      have := hc j u hu
      rwa [addr_add] at this
  obtain ⟨o1, ho1⟩ : ∃ o : Obj, o = .cells #[.int .u8 0, .int .u8 0, .int .u8 0, .int .u8 0] 5 := ⟨_, rfl⟩
  obtain ⟨o2, ho2⟩ : ∃ o : Obj, o = .cells #[.slice (some ⟨g, off, none⟩) 14 cap, .slice (some ⟨w.heap.size, 0, none⟩) 4 4, .slice (some ⟨g, off + 18, none⟩) 494 (cap - 18)] 38 := ⟨_, rfl⟩
  have hS : Calls Tryz.prog 110 #[.slice (some ⟨w.heap.size + 1, 0, none⟩) 3 3] ((w.alloc o1).alloc o2).drew fun e w' => e = .returned (.int .u32 (sumB l)) ∧ w' = ((w.alloc o1).alloc o2).drew := by
    have hz : (((w.alloc o1).alloc o2).drew).heap[w.heap.size]? = some (.cells #[.int .u8 0, .int .u8 0, .int .u8 0, .int .u8 0] 5 (0, 0)) := (heap_alloc_old (w.alloc o1) o2 (by simp)).trans (by rw [ho1]; exact heap_alloc_new _ _)
    have hp : (((w.alloc o1).alloc o2).drew).heap[w.heap.size + 1]? = some (.cells #[.slice (some ⟨g, off, none⟩) 14 cap, .slice (some ⟨w.heap.size, 0, none⟩) 4 4, .slice (some ⟨g, off + 18, none⟩) 494 (cap - 18)] 38 (0, 0)) := by rw [ho2]; exact heap_new_at _ _ (by simp)
    have hF : Fr (fun _ => False) w ((w.alloc o1).alloc o2).drew := (((Fr.refl _ _).alloc _).alloc _).drew
    have hT2 := hT.fr hF (fun _ h => h.elim)
    have hrow2 : ∀ (j : Nat) u, (l.map byteV)[j]? = some u → (((w.alloc o1).alloc o2).drew).cell? ⟨g, off + j, none⟩ = some u := fun j u hu => (hF.cell (World.block_lt_of_cell? _ _ (hrow j u hu)) (fun h => h)).trans (hrow j u hu)
    generalize ((w.alloc o1).alloc o2).drew = w2 at *
    refine crc_sumOf w2 K ⟨w.heap.size + 1, 0, none⟩ 3 [.slice (some ⟨g, off, none⟩) 14 cap, .slice (some ⟨w.heap.size, 0, none⟩) 4 4, .slice (some ⟨g, off + 18, none⟩) 494 (cap - 18)] [l.take 14, [0, 0, 0, 0], l.drop 18] hT2 rfl (by simp) ?_ ?_
    · intro j u hu
      rw [addr_add, cell_at hp]
      rw [Nat.zero_add, ← hu]; simp
    · intro j u l' hu hl'
      match j, hu, hl' with
      | 0, hu, hl' =>
        cases hu; cases hl'
        have hlen : (l.take 14).length = 14 := by rw [List.length_take]; omega
        refine ⟨?_, by omega⟩
        unfold BytesAt; rw [hlen]
        refine .inr ⟨_, _, rfl, by omega, by rw [List.length_map]; omega, fun i u hu => ?_⟩
        rw [addr_add]
        rw [List.map_take, List.getElem?_take] at hu
        split at hu
        · exact hrow2 i u hu
        · cases hu
      | 1, hu, hl' =>
        cases hu; cases hl'
        refine ⟨.inr ⟨_, _, rfl, by decide, rfl, fun i u hu => ?_⟩, by decide⟩
        rw [addr_add, cell_at hz, Nat.zero_add, ← hu]
        match i with
        | 0 => rfl
        | 1 => rfl
        | 2 => rfl
        | 3 => rfl
        | i + 4 => simp
      | 2, hu, hl' =>
        cases hu; cases hl'
        have hlen : (l.drop 18).length = 494 := by rw [List.length_drop]; omega
        refine ⟨?_, by omega⟩
        unfold BytesAt; rw [hlen]
        refine .inr ⟨_, _, rfl, by omega, by rw [List.length_map]; omega, fun i u hu => ?_⟩
        rw [addr_add]
        rw [List.map_drop, List.getElem?_drop] at hu
        rw [show off + 18 + i = off + (18 + i) from by omega]
        exact hrow2 _ u hu
      | j + 3, hu, hl' => simp at hu
  subst ho1
  subst ho2
  have HS := Lib.hid hS
  clear hS hT hv hrow hl
  go_enter Tryz.func84, Tryz.ntmps84
  go_wp2_with fail
  go_region_with (first
    | (go_at_call 110; refine HS.out.mono ?_; rintro e w' ⟨rfl, rfl⟩))
  all_goals
    go_wp2_with fail
    go_ret
    exact ⟨rfl, (((Fr.refl _ _).alloc _).alloc _).drew⟩
end Go.Proofs.YtabfcciejhbajaaGreatDoor

namespace Go.Proofs.YtabfcciejhbajaaGreatDoor
open Go Go.RowKit

/-- a slice of byte slices, all in memory from block B on -/
def RecsNew (w : World) (B : Nat) (v : Value) (rs : List (List UInt8)) : Prop :=
  ∃ vs : List Value, vs.length = rs.length ∧ w.ownsRow B 38 1 v rs.length vs ∧ ∀ (j : Nat) u l, vs[j]? = some u → rs[j]? = some l → BytesAt w u l ∧ ∀ a n c, u = .slice (some a) n c → B ≤ a.block ∧ a.block < w.heap.size ∧ v.ownBlock ≠ some a.block
theorem RecsNew.nil (w : World) (B : Nat) : RecsNew w B (.slice none 0 0) [] := ⟨[], rfl, World.ownsRow_nil _ _ _ _, fun j u l h => by simp at h⟩
theorem RecsNew.fr {w w' : World} {B : Nat} {v : Value} {rs : List (List UInt8)} {S : Nat → Prop} (h : RecsNew w B v rs) (hf : Fr S w w') (hS : ∀ b, B ≤ b → b < w.heap.size → ¬ S b) : RecsNew w' B v rs := by
  obtain ⟨vs, h1, h2, h3⟩ := h
  refine ⟨vs, h1, ownsRow_keep h2 (fun g hg => hf.block g (h2.lt g hg).2 (hS g (h2.lt g hg).1 (h2.lt g hg).2)), fun j u l hu hl => ?_⟩
  obtain ⟨hb, ha⟩ := h3 j u l hu hl
  refine ⟨?_, fun a n c e => ⟨(ha a n c e).1, Nat.lt_of_lt_of_le (ha a n c e).2.1 hf.size, (ha a n c e).2.2⟩⟩
  exact hb.fr hf (fun a n c e => hS a.block (ha a n c e).1 (ha a n c e).2.1)
theorem RecsNew.one {w : World} {B : Nat} {v : Value} {rs : List (List UInt8)} (h : RecsNew w B v rs) : ∃ vs : List Value, vs.length = rs.length ∧ w.ownsRow B 38 1 v rs.length vs ∧ ∀ (j : Nat) u l, vs[j]? = some u → rs[j]? = some l → BytesAt w u l ∧ ∀ a n c, u = .slice (some a) n c → B ≤ a.block ∧ a.block < w.heap.size ∧ v.ownBlock ≠ some a.block := h
/-- a byte slice pushed behind the others -/
theorem RecsNew.push {w w1 w2 : World} {B : Nat} {v v2 : Value} {rs : List (List UInt8)} {vs : List Value} (h1 : vs.length = rs.length)
    (h3 : ∀ (j : Nat) u l, vs[j]? = some u → rs[j]? = some l → BytesAt w u l ∧ ∀ a n c, u = .slice (some a) n c → B ≤ a.block ∧ a.block < w.heap.size ∧ v.ownBlock ≠ some a.block)
    (hf : Fr (fun _ => False) w w1) (u0 : Value) (l0 : List UInt8) (hb0 : BytesAt w1 u0 l0) (ha0 : ∀ a n c, u0 = .slice (some a) n c → B ≤ a.block ∧ a.block < w1.heap.size ∧ v.ownBlock ≠ some a.block)
    (hg : w1.grownBy w2 v.ownBlock) (hown : w2.ownsRow B 38 1 v2 (rs.length + 1) (vs ++ [u0])) (hat : v2.ownBlock = v.ownBlock ∨ v2.ownBlock = some w1.heap.size) : RecsNew w2 B v2 (rs ++ [l0]) := by
  have hs1 := hf.size
  have hf2 : Fr (fun b => v.ownBlock = some b) w1 w2 := (Fr.refl _ _).grown hg (fun k hk _ => hk)
  have hs2 := hf2.size
  refine ⟨vs ++ [u0], by simp [h1], by simpa using hown, fun j u l hu hl => ?_⟩
  have key : ∀ (x : Value) (m : List UInt8), BytesAt w1 x m → (∀ a n c, x = .slice (some a) n c → B ≤ a.block ∧ a.block < w1.heap.size ∧ v.ownBlock ≠ some a.block) →
      BytesAt w2 x m ∧ ∀ a n c, x = .slice (some a) n c → B ≤ a.block ∧ a.block < w2.heap.size ∧ v2.ownBlock ≠ some a.block := by
    intro x m hb ha
    refine ⟨hb.fr hf2 (fun a n c e q => (ha a n c e).2.2 q), fun a n c e => ⟨(ha a n c e).1, Nat.lt_of_lt_of_le (ha a n c e).2.1 hs2, fun q => ?_⟩⟩
    rcases hat with q' | q'
    · exact (ha a n c e).2.2 (q' ▸ q)
    · rw [q'] at q; injection q with q; have := (ha a n c e).2.1; omega
  rcases Nat.lt_or_ge j vs.length with hj | hj
  · rw [List.getElem?_append_left hj] at hu
    rw [List.getElem?_append_left (by omega)] at hl
    obtain ⟨hb, ha⟩ := h3 j u l hu hl
    exact key u l (hb.fr hf (fun _ _ _ _ h => h)) (fun a n c e => ⟨(ha a n c e).1, Nat.lt_of_lt_of_le (ha a n c e).2.1 hs1, (ha a n c e).2.2⟩)
  · rw [List.getElem?_append_right hj] at hu
    rw [List.getElem?_append_right (by omega), ← h1] at hl
    have h0 : j - vs.length = 0 := by
      have := (List.getElem?_eq_some_iff.1 hu).1
      simp at this; omega
    rw [h0] at hu hl
    simp at hu hl
    subst hu; subst hl
    exact key _ _ hb0 ha0
theorem conv_str (w : World) (l : List UInt8) : ∃ c w', (convert 9 38 (.string ⟨l.toArray⟩)).run Tryz.prog w = .ok (.slice (some ⟨w.heap.size, 0, none⟩) l.length c) w' ∧ BytesAt w' (.slice (some ⟨w.heap.size, 0, none⟩) l.length c) l ∧ Fr (fun _ => False) w w' ∧ w'.heap.size = w.heap.size + 1 := by
  have hr := run_bytes_of_string (P := Tryz.prog) w 9 38 5 ⟨l.toArray⟩ Tryz.underlying9 Tryz.underlying38 Tryz.underlying5
  have hsz : (⟨l.toArray⟩ : ByteArray).size = l.length := by simp [ByteArray.size]
  rw [hsz] at hr
  refine ⟨_, _, hr, .inr ⟨_, _, rfl, grownCap_ge _ _ _ _, by simp, fun j u hu => ?_⟩, (Fr.refl _ _).drew.alloc _, by simp⟩
  rw [addr_add, cell_at (c := bytesRow ⟨l.toArray⟩ (grownCap w l.length 0 5)) (by exact heap_alloc_new _ _), Nat.zero_add]
  have hj : j < l.length := by
    have := (List.getElem?_eq_some_iff.1 hu).1
    simpa using this
  unfold bytesRow
  rw [Array.getElem?_append_left (by simpa using hj)]
  rw [List.getElem?_map] at hu
  simpa [byteV] using hu
end Go.Proofs.YtabfcciejhbajaaGreatDoor
