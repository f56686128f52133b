/-
  The disk's small functions: what each answers and leaves. Conditions: the disk lies in memory as DiskIs says.
  What was armed for the operation that is under way. Conditions: the disk's cells are known.
-/
import Derived.Test.YtabfcciejhbajaaGreatDoorM01
import Derived.Deep.QuietTactic
import Derived.BigQuiet
import Derived.Lib.Hide
namespace Go.Proofs.YtabfcciejhbajaaGreatDoor
open Go Go.RowKit
open Go.ChangeMaps (setBlock)

theorem cell_at {w : World} {b : Nat} {c : Array Value} {t : TypeId} {z : Nat × Nat} (h : w.heap[b]? = some (.cells c t z)) (i : Nat) : w.cell? ⟨b, i, none⟩ = c[i]? := by
  simp [World.cell?, h]
theorem free_at {w : World} {b : Nat} {c : Array Value} {t : TypeId} (h : w.heap[b]? = some (.cells c t (0, 0))) (i : Nat) : w.frozen? ⟨b, i, none⟩ = false := by
  simp [World.frozen?, h]

theorem disk_new (w : World) :
    Calls Tryz.prog 9 #[] w fun e w' => e = .returned (.pointer (some ⟨w.heap.size + 2, 0, none⟩)) ∧
      w' = ((w.alloc (.map #[] 0)).alloc (.map #[] 0)).alloc (.cells #[.map (some w.heap.size), .map (some (w.heap.size + 1)), .slice none 0 0, .int .i64 0, .int .i64 0, .int .i64 0, .slice none 0 0, .int .i64 0, .bool false] 54) := by
  have hmm := @run_makeMap Tryz.prog
  go_enter Tryz.func9, Tryz.ntmps9
  go_wp2
  go_ret
  exact ⟨rfl, rfl⟩

theorem disk_newFile (w : World) (bd : Nat) (n : Int) (hc : w.cell? ⟨bd, 3, none⟩ = some (.int .i64 n)) (hf : w.frozen? ⟨bd, 3, none⟩ = false) :
    Calls Tryz.prog 46 #[.pointer (some ⟨bd, 0, none⟩)] w fun e w' => e = .returned (.pointer (some ⟨w.heap.size + 3, 0, none⟩)) ∧
      w' = ((((w.setCell ⟨bd, 3, none⟩ (.int .i64 (wrap64 (n + 1)))).alloc (.map #[] 0)).alloc (.map #[] 0)).alloc (.map #[] 0)).alloc
        (.cells #[.int .i64 (wrap64 (n + 1)), .slice none 0 0, .map (some w.heap.size), .slice none 0 0, .map (some (w.heap.size + 1)), .map (some (w.heap.size + 2))] 96) := by
  have hmm := @run_makeMap Tryz.prog
  go_enter Tryz.func46, Tryz.ntmps46
  go_wp2
  go_ret
  exact ⟨rfl, rfl⟩

theorem disk_sectors (n : Int) (w : World) (h0 : 0 ≤ n) (h1 : n ≤ 9223372036854775000) :
    Calls Tryz.prog 85 #[.int .i64 n] w fun e w' => e = .returned (.int .i64 ((n + 511) / 512)) ∧ w = w' := by
  go_enter Tryz.func85, Tryz.ntmps85
  go_wp2
  go_ret
  exact ⟨by show Ending.returned (Value.int IntKind.i64 ((n + 512 - 1) / 512)) = _; rw [show n + 512 - 1 = n + 511 from by omega], rfl⟩

theorem retv {a b : Value} (h : a = b) : Ending.returned a = Ending.returned b := by rw [h]
def goodName (s : ByteArray) : Bool := decide (1 ≤ s.size) && decide (s.size ≤ 64)
theorem disk_goodName (s : ByteArray) (w : World) (h : s.size ≤ 9223372036854775807) :
    Calls Tryz.prog 47 #[.string s] w fun e w' => e = .returned (.bool (goodName s)) ∧ w = w' := by
  go_enter Tryz.func47, Tryz.ntmps47
  go_wp2
  all_goals go_ret
  · have h1 : 1 ≤ (s.size : Int) := by assumption
    refine ⟨retv ?_, rfl⟩
    show Value.bool (decide ((s.size : Int) ≤ 64)) = _
    unfold goodName
    rw [decide_eq_true (p := 1 ≤ s.size) (by omega), Bool.true_and]
    congr 1
    exact decide_eq_decide.2 (by omega)
  · have h1 : (s.size : Int) < 1 := by assumption
    refine ⟨retv ?_, rfl⟩
    show Value.bool false = _
    unfold goodName
    rw [decide_eq_false (by omega)]; rfl

theorem zeroP (w : World) : (zeroValue 83).run Tryz.prog w = .ok (.pointer none) w := by kernel_rfl
theorem look_none {w : World} {bn : Nat} {m : ByteArray → Option Nat} {nm : ByteArray} (hm : MapAt strE fileV w bn m) (h : m nm = none) :
    (Instr.lookup 50 (.map (some bn)) (.string nm) false).run Tryz.prog w = .ok (.pointer none) w := by
  have hl := hm.lookup (P := Tryz.prog) Tryz.underlying50 Tryz.underlying9 (zeroP w) nm
  rw [h] at hl; exact hl
theorem look_some {w : World} {bn : Nat} {m : ByteArray → Option Nat} {nm : ByteArray} {f : Nat} (hm : MapAt strE fileV w bn m) (h : m nm = some f) :
    (Instr.lookup 50 (.map (some bn)) (.string nm) false).run Tryz.prog w = .ok (.pointer (some ⟨f, 0, none⟩)) w := by
  have hl := hm.lookup (P := Tryz.prog) Tryz.underlying50 Tryz.underlying9 (zeroP w) nm
  rw [h] at hl; exact hl

def goneE (m : ByteArray → Option Nat) (nm : ByteArray) : Option Er := if (m nm).isNone then some .gone else none
set_option maxRecDepth 100000 in
theorem disk_gone (w : World) (K : Nat) (eb : Er → Addr) (S : Er → Bool) (bd bn : Nat) (m : ByteArray → Option Nat) (nm : ByteArray)
    (hc : w.cell? ⟨bd, 0, none⟩ = some (.map (some bn))) (hm : MapAt strE fileV w bn m) (G : Glob w K eb S) :
    Calls Tryz.prog 54 #[.pointer (some ⟨bd, 0, none⟩), .string nm] w fun e w' => e = .returned (erV eb (goneE m nm)) ∧ w = w' := by
  have hv : w.cell? ⟨6, 0, none⟩ = some (ptrE (eb .gone)) := G.var .gone rfl
  unfold goneE
  cases hq : m nm
  · have hl' := look_none hm hq
    clear hm G hq
    go_enter Tryz.func54, Tryz.ntmps54
    go_wp2
    go_ret
    exact ⟨rfl, rfl⟩
  · have hl' := look_some hm hq
    clear hm G hq hv
    go_enter Tryz.func54, Tryz.ntmps54
    go_wp2
    go_ret
    exact ⟨rfl, rfl⟩
end Go.Proofs.YtabfcciejhbajaaGreatDoor

namespace Go.Proofs.YtabfcciejhbajaaGreatDoor
open Go Go.RowKit
open Go.ChangeMaps (setBlock)

def armedOf (since cut : Int) (fails : List (Int × Int)) : Int × Option Er :=
  if since = cut then (0, some .down) else match fails.find? (fun f => f.1 = since) with
    | some f => (f.2, some .io)
    | none => (0, none)
theorem fail_cells (fs : List (Int × Int)) (k : Nat) (h : k < fs.length) : (fs.flatMap failCells)[k * 2]? = some (.int .i64 fs[k].1) ∧ (fs.flatMap failCells)[k * 2 + 1]? = some (.int .i64 fs[k].2) := by
  induction fs generalizing k with
  | nil => simp at h
  | cons f fs ih =>
    cases k with
    | zero => simp [failCells]
    | succ k =>
      have := ih k (by simpa using h)
      rw [show (k + 1) * 2 = (k * 2) + 1 + 1 from by omega]
      simpa [failCells] using this
theorem fail_len (fs : List (Int × Int)) : (fs.flatMap failCells).length = fs.length * 2 := by
  induction fs with
  | nil => rfl
  | cons f fs ih => simp [failCells, ih]; omega

set_option maxRecDepth 100000 in
theorem armed_cut (w : World) (K : Nat) (eb : Er → Addr) (S : Er → Bool) (bd : Nat) (n : Int)
    (h5 : w.cell? ⟨bd, 5, none⟩ = some (.int .i64 n)) (h7 : w.cell? ⟨bd, 7, none⟩ = some (.int .i64 n)) (G : Glob w K eb S) :
    Calls Tryz.prog 79 #[.pointer (some ⟨bd, 0, none⟩)] w fun e w' => e = .returned (.tuple #[.int .i64 0, ptrE (eb .down)]) ∧ Fr (fun _ => False) w w' := by
  have hv : w.cell? ⟨5, 0, none⟩ = some (ptrE (eb .down)) := G.var .down rfl
  clear G
  go_enter Tryz.func79, Tryz.ntmps79
  go_wp2_with fail
  go_quiet (fail)
  go_wp2_with fail
  go_quiet (fail)
  go_wp2_with fail
  go_ret2
  exact ⟨rfl, ((Fr.refl _ _).drewN _).drewN _⟩
theorem armedOf_none {since cut : Int} {fs : List (Int × Int)} (hne : since ≠ cut) (h : ∀ (j : Nat) (hj : j < fs.length), fs[j].1 ≠ since) : armedOf since cut fs = (0, none) := by
  unfold armedOf
  rw [if_neg hne]
  have : fs.find? (fun f => decide (f.1 = since)) = none := by
    rw [List.find?_eq_none]
    intro x hx
    obtain ⟨j, hj, rfl⟩ := List.getElem_of_mem hx
    simpa using h j hj
  rw [this]
theorem armedOf_some {since cut : Int} {fs : List (Int × Int)} (hne : since ≠ cut) (k : Nat) (hk : k < fs.length) (h : ∀ (j : Nat) (hj : j < fs.length), j < k → fs[j].1 ≠ since) (he : fs[k].1 = since) : armedOf since cut fs = (fs[k].2, some .io) := by
  unfold armedOf
  rw [if_neg hne]
  have : fs.find? (fun f => decide (f.1 = since)) = some fs[k] := by
    rw [List.find?_eq_some_iff_getElem]
    refine ⟨by simpa using he, k, hk, rfl, fun j hj => ?_⟩
    simpa using h j (by omega) hj
  rw [this]
set_option maxRecDepth 100000 in
theorem armed_nil (w : World) (bd : Nat) (n c : Int) (hne : n ≠ c)
    (h5 : w.cell? ⟨bd, 5, none⟩ = some (.int .i64 n)) (h7 : w.cell? ⟨bd, 7, none⟩ = some (.int .i64 c)) (h6 : w.cell? ⟨bd, 6, none⟩ = some (.slice none 0 0)) :
    Calls Tryz.prog 79 #[.pointer (some ⟨bd, 0, none⟩)] w fun e w' => e = .returned (.tuple #[.int .i64 0, .nilIface]) ∧ Fr (fun _ => False) w w' := by
  have hd : (n == c) = false := by simpa using hne
  clear hne
  go_enter Tryz.func79, Tryz.ntmps79
  go_wp2_with fail
  go_quiet (fail)
  go_wp2_with fail
  refine wp_loop_rounds 1 ?_
  rw [rounds_succ]
  go_wp2_with fail
  go_ret2
  exact ⟨rfl, ((Fr.refl _ _).drewN _)⟩
set_option maxRecDepth 100000 in
theorem armed_some (w : World) (K : Nat) (eb : Er → Addr) (S : Er → Bool) (bd g cap : Nat) (fs : List (Int × Int)) (n c : Int) (hne : n ≠ c)
    (h5 : w.cell? ⟨bd, 5, none⟩ = some (.int .i64 n)) (h7 : w.cell? ⟨bd, 7, none⟩ = some (.int .i64 c)) (h6 : w.cell? ⟨bd, 6, none⟩ = some (.slice (some ⟨g, 0, none⟩) fs.length cap))
    (hr : w.ownsRow 0 149 2 (.slice (some ⟨g, 0, none⟩) fs.length cap) fs.length (fs.flatMap failCells)) (hl : fs.length ≤ 4611686018427387904)
    (G : Glob w K eb S) :
    Calls Tryz.prog 79 #[.pointer (some ⟨bd, 0, none⟩)] w fun e w' => e = .returned (.tuple #[.int .i64 (armedOf n c fs).1, erV eb (armedOf n c fs).2]) ∧ Fr (fun _ => False) w w' := by
  have hd : (n == c) = false := by simpa using hne
  have HN := Lib.hid hne
  clear hne
  go_enter Tryz.func79, Tryz.ntmps79
  go_wp2_with fail
  go_quiet (fail)
  go_wp2_with fail
  go_loopw [21] (fun i wr => ∃ k : Nat, k ≤ fs.length ∧ i = .int .i64 k ∧ Fr (fun _ => False) w wr ∧ Hid (∀ (j : Nat) (hj : j < fs.length), j < k → fs[j].1 ≠ n)) (fun i _ => fs.length - (intOf i).toNat)
  case atStart => exact ⟨0, Nat.zero_le _, rfl, (Fr.refl _ _).drewN _, Lib.hid (fun j hj h => absurd h (Nat.not_lt_zero j))⟩
  case round =>
    obtain ⟨k, hk, rfl, hf, hH⟩ := hrel
    have f5 : wr.cell? ⟨bd, 5, none⟩ = some (.int .i64 n) := (hf.cell (World.block_lt_of_cell? _ _ h5) (fun h => h)).trans h5
    by_cases hlt : k < fs.length
    · have hc1 := (hr.cellAt (k * 2) (by omega)).trans (fail_cells fs k hlt).1
      have hc2 := (hr.cellAt (k * 2 + 1) (by omega)).trans (fail_cells fs k hlt).2
      have g1 : wr.cell? ⟨g, k * 2, none⟩ = some (.int .i64 fs[k].1) := (hf.cell (World.block_lt_of_cell? _ _ hc1) (fun h => h)).trans hc1
      have g2 : wr.cell? ⟨g, k * 2 + 1, none⟩ = some (.int .i64 fs[k].2) := (hf.cell (World.block_lt_of_cell? _ _ hc2) (fun h => h)).trans hc2
      have hv0 : w.cell? ⟨7, 0, none⟩ = some (ptrE (eb .io)) := G.var .io rfl
      have hv : wr.cell? ⟨7, 0, none⟩ = some (ptrE (eb .io)) := (hf.cell (World.block_lt_of_cell? _ _ hv0) (fun h => h)).trans hv0
      have b1 := World.block_lt_of_cell? _ _ f5
      have b2 := World.block_lt_of_cell? _ _ hv
      simp only at b1 b2
      clear hv0 hc1 hc2
      by_cases he : fs[k].1 = n
      · have hA := Lib.hid (armedOf_some HN.out k hlt hH.out he)
        have hq : (fs[k].1 == n) = true := by simpa using he
        clear he
        go_wp2_with fail
        go_quiet (fail)
        go_wp2_with fail
        go_quiet (fail)
        go_wp2_with fail
        go_ret2
        exact ⟨by rw [hA.out]; rfl, ((hf.alloc _).drewN _).drewN _⟩
      · have hq : (fs[k].1 == n) = false := by simpa using he
        have HE := Lib.hid he
        clear he
        go_wp2_with fail
        go_quiet (fail)
        go_wp2_with fail
        go_roundw
        case rel =>
          exact ⟨k + 1, by omega, by go_num, (hf.alloc _).drewN _, Lib.hid (fun j hj h => by
            rcases Nat.lt_or_ge j k with q | q
            · exact hH.out j hj q
            · have : j = k := by omega
              subst this; exact HE.out)⟩
        case measure => simp [intOf]; omega
    · have hA := Lib.hid (armedOf_none HN.out (fun j hj => hH.out j hj (by omega)))
      go_wp2_with fail
      go_ret2
      exact ⟨by rw [hA.out]; rfl, hf⟩
theorem disk_armed {w : World} {bd : Nat} {D : ADisk} {ow : Own} {K : Nat} {c : DCells} {eb : Er → Addr} {S : Er → Bool} (h : DiskIs w bd D ow K c) (G : Glob w K eb S) :
    Calls Tryz.prog 79 #[.pointer (some ⟨bd, 0, none⟩)] w fun e w' => e = .returned (.tuple #[.int .i64 (armedOf D.since D.cut D.fails).1, erV eb (armedOf D.since D.cut D.fails).2]) ∧ Fr (fun _ => False) w w' := by
  have h5 : w.cell? ⟨bd, 5, none⟩ = some (.int .i64 D.since) := cell_at h.cells 5
  have h7 : w.cell? ⟨bd, 7, none⟩ = some (.int .i64 D.cut) := cell_at h.cells 7
  have h6 : w.cell? ⟨bd, 6, none⟩ = some c.vf := cell_at h.cells 6
  by_cases hc : D.since = D.cut
  · refine (armed_cut w K eb S bd D.since h5 (hc ▸ h7) G).mono ?_
    rintro e w' ⟨rfl, hf⟩
    exact ⟨by unfold armedOf; rw [if_pos hc]; rfl, hf⟩
  · have hr := h.fails.row
    rcases hr.2 with ⟨hv, h0⟩ | ⟨g, cap, cur, hv, _⟩
    · rw [hv] at h6
      refine (armed_nil w bd D.since D.cut hc h5 h7 h6).mono ?_
      rintro e w' ⟨rfl, hf⟩
      have : D.fails = [] := List.eq_nil_of_length_eq_zero h0
      refine ⟨?_, hf⟩
      rw [this, armedOf_none (fs := []) hc (fun j hj => absurd hj (Nat.not_lt_zero j))]; rfl
    · rw [hv] at h6 hr
      exact armed_some w K eb S bd g cap D.fails D.since D.cut hc h5 h7 h6 hr h.failsLen G
end Go.Proofs.YtabfcciejhbajaaGreatDoor
