/-
  segment.Open. Conditions: the disk lies in memory as DiskAt says.
  What the laws of layer 9 share: groups of records as they came in, a disk at rest, the new disk. Conditions: none.
  lists: whether two lists of records are the same. Conditions: the records can be read.
  The new disk, and a disk at which nothing is armed: what its operations leave. Conditions: none.
  A segment's steps on a disk at which nothing is armed. Conditions: as the contracts' of segment.
  awake: the layer's answers that the document fixes. Conditions: the table and the error variables are there.
-/
import Derived.Test.YtdfnaphkppphkaaGreatDoorM16
namespace Go.Proofs.YtdfnaphkppphkaaGreatDoor
open Go Go.RowKit

theorem sorted_len {l : List Int} {a N : Int} (h : l.Pairwise (· < ·)) (ha : ∀ k ∈ l, a ≤ k) (hN : ∀ k ∈ l, k < N) (haN : a ≤ N) : (l.length : Int) ≤ N - a := by
  induction l generalizing a with
  | nil => simp; omega
  | cons x l ih =>
    rw [List.pairwise_cons] at h
    have hx := hN x (by simp)
    have hax := ha x (by simp)
    have := ih (a := x + 1) h.2 (fun k hk => by have := h.1 k hk; omega) (fun k hk => hN k (by simp [hk])) (by omega)
    simp only [List.length_cons]
    omega
theorem bad_len {s : Side} {l : List Int} (hw : WFSide s) (hl : ListOf s.bad l) : l.length ≤ 1099511627776 := by
  have hm : (s.data.length : Int) ≤ 1099511627776 := by have := hw.len; unfold maxData at this; omega
  have := sorted_len (a := 0) (N := 1099511627776) hl.1 (fun k hk => (hw.bad k ((hl.2 k).1 hk)).1) (fun k hk => by have := hw.bad k ((hl.2 k).1 hk); omega) (by omega)
  omega
theorem scanN_count (data : List UInt8) (bad : List Int) (m k first : Nat) (h : (k + m) * 512 ≤ data.length) : (scanN data bad m k first).1.length ≤ 247 * m ∧ (scanN data bad m k first).2 ≤ k + m := by
  induction m generalizing k first with
  | zero => simp [scanN]
  | succ m ih =>
    simp only [scanN]
    split
    · simp
    · split
      · simp
      · rename_i a rs hd
        have hb : (blkB data k).length = 512 := by
          unfold blkB
          have := Nat.mul_le_mul_right 512 (show k + 1 ≤ k + (m + 1) from by omega)
          rw [List.length_take, List.length_drop]; omega
        have hr := decodeB_room hd hb
        split
        · have := ih (k + 1) (first + rs.length) (by rw [show k + 1 + m = k + (m + 1) from by omega]; exact h)
          simp only [List.length_append]
          omega
        · simp
theorem scanB_count (data : List UInt8) (bad : List Int) (first : Nat) : (scanB data bad first).1.length ≤ 247 * (data.length / 512) ∧ (scanB data bad first).2 ≤ data.length / 512 := by
  have := scanN_count data bad (data.length / 512) 0 first (by omega)
  rw [Nat.zero_add] at this
  exact this
/-- the segment that Open answers -/
def openSeg (data : List UInt8) (bad : List Int) (first : Nat) : ASeg :=
  { name := nameB first, next := first + (scanB data bad first).1.length, blocks := (scanB data bad first).2, whole := decide (data.length = (scanB data bad first).2 * 512), sick := false }
section
variable {w : World} {bd K : Nat} {eb : Er → Addr} {S : Er → Bool} {D : ADisk} {ow : Own}
set_option maxRecDepth 100000 in
set_option maxHeartbeats 1000000 in
theorem seg_open_err (hD : DiskAt w bd D ow K) (E : Env w K eb S) (first : Nat) (hg : goodB first = true) (x : Er) (hx : readE D (nameB first) = some x) :
    Calls Tryz.prog 15 #[.pointer (some ⟨bd, 0, none⟩), .int .u64 first] w fun e w' => e = .returned (.tuple #[.pointer none, .slice none 0 0, erV eb (some x)]) ∧ Fr (fun _ => False) w w' := by
  have hf64 : first < 18446744073709551616 := by unfold goodB at hg; have := of_decide_eq_true hg; omega
  have HC := Lib.hid (seg_check w K eb S E.G bd first)
  rw [show erV eb (checkE first) = .nilIface from by unfold checkE; rw [if_pos hg]; rfl] at HC
  have HN := Lib.hid (seg_name w K eb S E first hf64)
  have HD := Lib.hid hD
  have HE := Lib.hid E
  have HX := Lib.hid hx
  have e2 := neq_er
  have e3 := neq_nilE
  clear hD E hg hx
  go_enter Tryz.func15, Tryz.ntmps15
  go_wp2_with fail
  refine HC.out.mono ?_
  rintro e w1 ⟨rfl, rfl⟩
  go_wp2_with fail
  refine HN.out.mono ?_
  rintro e w2 ⟨rfl, hf2⟩
  obtain ⟨c, hc⟩ := HD.out.out hf2 (fun _ _ h => h)
  have HR := Lib.hid (read_err hc (HE.out.G.fr hf2 (fun _ h => h.elim)) (nameB first) x HX.out)
  have HF2 := Lib.hid hf2
  clear hf2 hc HN HC
  go_wp2_with fail
  refine HR.out.mono ?_
  rintro e w3 ⟨rfl, hf3⟩
  have HF3 := Lib.hid hf3
  clear hf3 HR
  rw [show erV eb (some x) = .iface 211 (.pointer (some (eb x))) from rfl]
  go_wp2_with fail
  go_ret3
  exact ⟨rfl, Fr.trans HF2.out HF3.out⟩
set_option maxRecDepth 100000 in
set_option maxHeartbeats 1000000 in
theorem seg_open_ok (hD : DiskAt w bd D ow K) (E : Env w K eb S) (first : Nat) (hg : goodB first = true) (f : Nat) (hd : D.down = false) (hf : D.names (nameB first) = some f) :
    Calls Tryz.prog 15 #[.pointer (some ⟨bd, 0, none⟩), .int .u64 first] w fun e w' => ∃ bs v l, e = .returned (.tuple #[.pointer (some ⟨bs, 0, none⟩), v, .nilIface]) ∧ ListOf (D.file f).seen.bad l ∧
      RecsNew w' w.heap.size v (scanB (D.file f).seen.data l first).1 ∧ SegAt w' bd bs (openSeg (D.file f).seen.data l first) ∧ w.heap.size ≤ bs ∧ Fr (fun _ => False) w w' := by
  have hfl : first ≤ 4611686018427387904 := by unfold goodB at hg; have := of_decide_eq_true hg; omega
  have hf64 : first < 18446744073709551616 := by omega
  have HC := Lib.hid (seg_check w K eb S E.G bd first)
  rw [show erV eb (checkE first) = .nilIface from by unfold checkE; rw [if_pos hg]; rfl] at HC
  have HN := Lib.hid (seg_name w K eb S E first hf64)
  have HD := Lib.hid hD
  have HE := Lib.hid E
  have HFF := Lib.hid hf
  have HDN := Lib.hid hd
  have e3 := neq_nilE
  obtain ⟨data, hdata⟩ : ∃ d, d = (D.file f).seen.data := ⟨_, rfl⟩
  rw [← hdata]
  have HDA := Lib.hid hdata
  clear hD E hg hf hd hdata
  go_enter Tryz.func15, Tryz.ntmps15
  go_wp2_with fail
  refine HC.out.mono ?_
  rintro e w1 ⟨rfl, rfl⟩
  go_wp2_with fail
  refine HN.out.mono ?_
  rintro e w2 ⟨rfl, hf2⟩
  obtain ⟨c, hc⟩ := HD.out.out hf2 (fun _ _ h => h)
  have HWF := Lib.hid (show WFSide (D.file f).seen from by
    obtain ⟨fc, hfc⟩ := hc.files f (hc.inNames _ f HFF.out)
    exact hfc.wf.seen)
  have hR := read_ok hc (nameB first) f HDN.out HFF.out
  rw [← HDA.out] at hR
  have HR := Lib.hid hR
  have HF2 := Lib.hid hf2
  have hz2 := hf2.size
  clear hf2 hc HN HC hR
  go_wp2_with fail
  refine HR.out.mono ?_
  rintro e w3 ⟨v, v2, l, rfl, hrow, hlist, hrow2, hf3⟩
  have hbl := bad_len HWF.out hlist
  have hdl : data.length ≤ 1099511627776 := by rw [HDA.out]; have := HWF.out.len; unfold maxData at this; exact this
  have HLI := Lib.hid hlist
  have HF3 := Lib.hid (Fr.trans HF2.out hf3)
  have hz3 := hf3.size
  obtain ⟨o, cap, hv, ho⟩ : ∃ o cap, v = .slice o data.length cap ∧ ∀ a, o = some a → a.spot = none := by
    rcases hrow.2 with ⟨q, q2⟩ | ⟨g, cap, cur, q, _⟩
    · exact ⟨none, 0, by rw [q, show data.length = 0 from q2], fun a h => by cases h⟩
    · exact ⟨some ⟨g, 0, none⟩, cap, q, fun a h => by cases h; rfl⟩
  obtain ⟨o2, c2, hv2, ho2⟩ : ∃ o cap, v2 = .slice o l.length cap ∧ ∀ a, o = some a → a.spot = none := by
    rcases hrow2.2 with ⟨q, q2⟩ | ⟨g, cap, cur, q, _⟩
    · exact ⟨none, 0, by rw [q, show l.length = 0 from q2], fun a h => by cases h⟩
    · exact ⟨some ⟨g, 0, none⟩, cap, q, fun a h => by cases h; rfl⟩
  subst hv
  subst hv2
  have hE3 := HE.out.fr HF3.out (fun _ h => h.elim)
  have HS := Lib.hid (block_scan w3 K eb S hE3.G hE3.T o o2 cap c2 data l first (ownsRow_slice hrow) ho (ownsRow_slice hrow2) ho2 hf64 hdl hbl)
  have HN2 := Lib.hid (fun w4 (h : Fr (fun _ => False) w3 w4) => seg_name w4 K eb S (hE3.fr h (fun _ h => h.elim)) first hf64)
  have hcnt := scanB_count data l first
  obtain ⟨rs, n, hsc⟩ : ∃ rs n, scanB data l first = (rs, n) := ⟨_, _, rfl⟩
  have HOS := Lib.hid (show openSeg data l first = ⟨nameB first, first + rs.length, n, decide (data.length = n * 512), false⟩ from by unfold openSeg; rw [hsc])
  rw [hsc] at HS hcnt
  simp only at HS hcnt
  have HSC := Lib.hid hsc
  clear hrow hrow2 hf3 hlist hE3 hsc HR ho ho2
  go_wp2_with fail
  refine HS.out.mono ?_
  rintro e w4 ⟨v4, rfl, hrecs, hf4⟩
  obtain ⟨vs4, hvl4, hvo4, hve4⟩ := id hrecs
  obtain ⟨o4, c4, hv4⟩ := (ownsRow_slice hvo4).form
  subst hv4
  have HRE := Lib.hid hrecs
  have HN4 := Lib.hid (HN2.out w4 hf4)
  have HF4 := Lib.hid (Fr.trans HF3.out hf4)
  have hz4 := hf4.size
  clear hrecs hf4 hvl4 hvo4 hve4 HN2 HS
  go_wp2_with fail
  refine HN4.out.mono ?_
  rintro e w5 ⟨rfl, hf5⟩
  have HF5 := Lib.hid (Fr.trans HF4.out hf5)
  have HR5 := Lib.hid (RecsNew.fr HRE.out hf5 (fun _ _ _ h => h))
  have hz5 := hf5.size
  have u1 : IntKind.u64.wrap (rs.length : Int) = rs.length := by rw [IntKind.wrap_u64]; omega
  have u2 : IntKind.u64.wrap ((first : Int) + (rs.length : Int)) = ((first + rs.length : Nat) : Int) := by rw [IntKind.wrap_u64]; omega
  have u3 : IntKind.i64.wrap ((n : Int) * 512) = (n : Int) * 512 := IntWalk.i64_in _ (by omega)
  clear hf5 HRE HN4
  go_wp2_with fail
  go_ret3
  have hbool : ((data.length : Int) == (n : Int) * 512) = decide (data.length = n * 512) := by
    by_cases h : data.length = n * 512
    · rw [decide_eq_true h, beq_iff_eq]; omega
    · rw [decide_eq_false h, beq_eq_false_iff_ne]; omega
  refine ⟨w5.heap.size, _, l, rfl, HLI.out, ?_, ?_, by omega, HF5.out.alloc _⟩
  · rw [HSC.out]
    exact RecsNew.base (RecsNew.fr HR5.out ((Fr.refl (fun _ => False) w5).alloc _) (fun _ _ _ h => h)) (by omega)
  · rw [HOS.out]
    have := (Go.MapKept.heap_alloc w5 (.cells #[.pointer (some ⟨bd, 0, none⟩), .string (nameB first), .int .u64 ((first : Int) + (rs.length : Int)), .int .i64 (n : Nat), .bool ((data.length : Int) == (n : Int) * 512), .bool false] 63)).1
    unfold SegAt
    rw [this, hbool]
    rfl
end
end Go.Proofs.YtdfnaphkppphkaaGreatDoor

namespace Go.Proofs.YtdfnaphkppphkaaGreatDoor
open Go Go.RowKit

/-- records that are appended at once -/
structure AGroup where
  recs : List (List UInt8)
  sync : Bool
/-- groups as they came in -/
structure GrpsIn (w : World) (v : Value) (gs : List AGroup) : Prop where
  form : (v = .slice none 0 0 ∧ gs = []) ∨ ∃ g off cap, v = .slice (some ⟨g, off, none⟩) gs.length cap ∧ gs.length ≤ cap ∧
    ∀ i (h : i < gs.length), ∃ o c, w.cell? ⟨g, off + i * 2, none⟩ = some (.slice o gs[i].recs.length c) ∧ w.cell? ⟨g, off + i * 2 + 1, none⟩ = some (.bool gs[i].sync) ∧ RecsIn w (.slice o gs[i].recs.length c) gs[i].recs
  len : gs.length ≤ 140737488355328
  lens : ∀ g ∈ gs, g.recs.length ≤ 140737488355328
  lens2 : ∀ g ∈ gs, ∀ r ∈ g.recs, r.length ≤ 140737488355328
/-- what is read below the first block is not touched above it -/
abbrev FrUp (K : Nat) (w w' : World) : Prop := Fr (fun b => K ≤ b) w w'
theorem SliceIs.low {w w' : World} {size n : Nat} {v : Value} {xs : List Value} (h : SliceIs w size v n xs) (hf : FrUp w.heap.size w w') : SliceIs w' size v n xs := by
  rcases h with h | ⟨a, c, h1, h2, h3, h4⟩
  · exact .inl h
  · exact .inr ⟨a, c, h1, h2, h3, fun j u hu => (hf.cell (World.block_lt_of_cell? _ _ (h4 j u hu)) (by have := World.block_lt_of_cell? _ _ (h4 j u hu); omega)).trans (h4 j u hu)⟩
theorem RecsIn.low {w w' : World} {v : Value} {rs : List (List UInt8)} (h : RecsIn w v rs) (hf : FrUp w.heap.size w w') : RecsIn w' v rs := by
  obtain ⟨vs, h1, h2, h3⟩ := h
  exact ⟨vs, h1, h2.low hf, fun j u l hu hl => SliceIs.low (h3 j u l hu hl) hf⟩
theorem GrpsIn.low {w w' : World} {v : Value} {gs : List AGroup} (h : GrpsIn w v gs) (hf : FrUp w.heap.size w w') : GrpsIn w' v gs := by
  refine ⟨?_, h.len, h.lens, h.lens2⟩
  rcases h.form with h | ⟨g, off, cap, h1, h2, h3⟩
  · exact .inl h
  · refine .inr ⟨g, off, cap, h1, h2, fun i hi => ?_⟩
    obtain ⟨o, c, c1, c2, hr⟩ := h3 i hi
    have l1 := World.block_lt_of_cell? _ _ c1
    exact ⟨o, c, (hf.cell l1 (by omega)).trans c1, (hf.cell (a := ⟨g, off + i * 2 + 1, none⟩) l1 (by simp only at *; omega)).trans c2, hr.low hf⟩
theorem FrUp.none {K : Nat} {w w' : World} (h : Fr (fun _ => False) w w') : FrUp K w w' := h.mono (fun _ _ h => h.elim)
/-- how much groups weigh -/
def weighR : List (List UInt8) → Nat
  | [] => 0
  | r :: rs => r.length + 8 + weighR rs
def weigh : List AGroup → Nat
  | [] => 0
  | g :: gs => 1 + weighR g.recs + weigh gs
theorem weighR_append (a b : List (List UInt8)) : weighR (a ++ b) = weighR a + weighR b := by
  induction a with
  | nil => simp [weighR]
  | cons r a ih => simp [weighR, ih]; omega
theorem weigh_append (a b : List AGroup) : weigh (a ++ b) = weigh a + weigh b := by
  induction a with
  | nil => simp [weigh]
  | cons r a ih => simp [weigh, ih]; omega
theorem weighR_take (rs : List (List UInt8)) (k : Nat) (h : k < rs.length) : weighR (rs.take (k + 1)) = weighR (rs.take k) + (rs[k].length + 8) := by
  rw [List.take_add_one, List.getElem?_eq_getElem h, weighR_append]; simp [weighR]
theorem weighR_le (rs : List (List UInt8)) (k : Nat) : weighR (rs.take k) ≤ weighR rs := by
  conv => rhs; rw [← List.take_append_drop k rs, weighR_append]
  omega
theorem weigh_take (gs : List AGroup) (k : Nat) (h : k < gs.length) : weigh (gs.take (k + 1)) = weigh (gs.take k) + (1 + weighR gs[k].recs) := by
  rw [List.take_add_one, List.getElem?_eq_getElem h, weigh_append]; simp [weigh]
theorem weigh_le (gs : List AGroup) (k : Nat) : weigh (gs.take k) ≤ weigh gs := by
  conv => rhs; rw [← List.take_append_drop k gs, weigh_append]
  omega
theorem weighR_count (rs : List (List UInt8)) : 8 * rs.length ≤ weighR rs := by
  induction rs with
  | nil => simp
  | cons r rs ih => simp only [List.length_cons, weighR]; omega
theorem weigh_count (gs : List AGroup) : gs.length ≤ weigh gs := by
  induction gs with
  | nil => simp
  | cons r rs ih => simp only [List.length_cons, weigh]; omega
theorem weighR_mem (r : List UInt8) (rs : List (List UInt8)) (h : r ∈ rs) : r.length ≤ weighR rs := by
  induction rs with
  | nil => cases h
  | cons a rs ih =>
    simp only [weighR]
    rcases List.mem_cons.1 h with h | h
    · subst h; omega
    · have := ih h; omega
theorem weigh_mem (g : AGroup) (gs : List AGroup) (h : g ∈ gs) : weighR g.recs ≤ weigh gs := by
  induction gs with
  | nil => cases h
  | cons a gs ih =>
    simp only [weigh]
    rcases List.mem_cons.1 h with h | h
    · subst h; omega
    · have := ih h; omega
set_option maxRecDepth 100000 in
set_option maxHeartbeats 1000000 in
theorem law_heavy (w : World) (v : Value) (gs : List AGroup) (hv : GrpsIn w v gs) :
    Calls Tryz.prog 6 #[v] w fun e w' => e = .returned (.bool (decide (4194304 < weigh gs))) ∧ w' = w := by
  obtain ⟨o, cap, hvv⟩ : ∃ o cap, v = .slice o gs.length cap := by
    rcases hv.form with ⟨h, h2⟩ | ⟨g, off, cap, h, _⟩
    · exact ⟨none, 0, by rw [h, h2]; rfl⟩
    · exact ⟨_, _, h⟩
  subst hvv
  have HV := Lib.hid hv
  have hlen := hv.len
  clear hv
  obtain ⟨W, hW⟩ : ∃ W, W = weigh gs := ⟨_, rfl⟩
  rw [← hW]
  have HW := Lib.hid hW
  clear hW
  go_enter Tryz.func6, Tryz.ntmps6
  go_wp2_with fail
  go_loopw [3, 4] (fun v3 v4 wr => ∃ k n : Nat, k ≤ gs.length ∧ v4 = .int .i64 (k : Int) ∧ v3 = .int .i64 (n : Int) ∧ n ≤ 281474976710656 ∧ Hid (n = weigh (gs.take k) ∨ (4194304 < n ∧ n ≤ weigh (gs.take k))) ∧ w = wr) (fun _ v4 _ => gs.length - (intOf v4).toNat)
  case atStart => exact ⟨0, 0, Nat.zero_le _, rfl, rfl, by omega, Lib.hid (.inl (by simp [weigh])), rfl⟩
  case round =>
    obtain ⟨k, n, hk, rfl, rfl, hn, hnw, rfl⟩ := hrel
    by_cases hlt : k < gs.length
    · by_cases hle : n ≤ 4194304
      · have g1 : (n : Int) ≤ 4194304 := by omega
        obtain ⟨g, off, ho, o1, c1, q1, q2, hrecs⟩ : ∃ g off, o = some ⟨g, off, none⟩ ∧ ∃ o1 c1, w.cell? ⟨g, off + k * 2, none⟩ = some (.slice o1 gs[k].recs.length c1) ∧ w.cell? ⟨g, off + k * 2 + 1, none⟩ = some (.bool gs[k].sync) ∧ RecsIn w (.slice o1 gs[k].recs.length c1) gs[k].recs := by
          rcases HV.out.form with ⟨h, h2⟩ | ⟨g, off, cap', h, _, h3⟩
          · subst h2; simp at hlt
          · injection h with h1
            exact ⟨g, off, h1, h3 k hlt⟩
        subst ho
        have hll := HV.out.lens gs[k] (List.getElem_mem hlt)
        have hrl := HV.out.lens2 gs[k] (List.getElem_mem hlt)
        have hwt := weigh_take gs k hlt
        have hn0 : n = weigh (gs.take k) := by rcases hnw.out with h | ⟨h, _⟩ <;> omega
        obtain ⟨rs, hrs⟩ : ∃ rs, rs = gs[k].recs := ⟨_, rfl⟩
        rw [← hrs] at hll hrl hwt hrecs q1
        have HRE := Lib.hid hrecs
        have HRL := Lib.hid hrl
        have HWT := Lib.hid (show weigh (gs.take (k + 1)) = n + (1 + weighR rs) from by rw [hwt, hn0])
        clear hwt hn0 hrs hrecs hnw hrl q2
        go_wp2_with fail
        go_loopw [3, 5] (fun v3 v5 wr => ∃ j m : Nat, j ≤ rs.length ∧ v5 = .int .i64 (j : Int) ∧ v3 = .int .i64 (m : Int) ∧ m ≤ 281474976710656 ∧ Hid (m = n + (1 + weighR (rs.take j))) ∧ w = wr) (fun _ v5 _ => rs.length - (intOf v5).toNat)
        case atStart => exact ⟨0, n + 1, Nat.zero_le _, rfl, by go_num, by omega, Lib.hid (by simp [weighR]), rfl⟩
        case round =>
          obtain ⟨j, m, hj, rfl, rfl, hm, hmw, rfl⟩ := hrel
          by_cases hjl : j < rs.length
          · by_cases hml : m ≤ 4194304
            · have g2 : (m : Int) ≤ 4194304 := by omega
              obtain ⟨a, o2, c2, hoa, hcell, _⟩ := recs_at HRE.out j hjl
              subst hoa
              have hlj := HRL.out rs[j] (List.getElem_mem hjl)
              have HN := Lib.hid (show m + (rs[j].length + 8) = n + (1 + weighR (rs.take (j + 1))) from by rw [weighR_take rs j hjl]; have := hmw.out; omega)
              go_wp2_with fail
              exact ⟨⟨j + 1, m + (rs[j].length + 8), by omega, by go_num, by go_num, by omega, HN, trivial⟩, by simp [intOf]; omega⟩
            · have hm1 : m ≤ n + (1 + weighR rs) := by have := weighR_le rs j; have := hmw.out; omega
              have HN := Lib.hid (show m = weigh (gs.take (k + 1)) ∨ (4194304 < m ∧ m ≤ weigh (gs.take (k + 1))) from by rw [HWT.out]; exact .inr ⟨by omega, hm1⟩)
              clear hm1
              go_wp2_with fail
              exact ⟨⟨k + 1, m, by omega, by go_num, rfl, hm, HN, trivial⟩, by simp [intOf]; omega⟩
          · have hjj : j = rs.length := by omega
            have hmm : m = n + (1 + weighR rs) := by have := hmw.out; rw [hjj, List.take_length] at this; exact this
            have HN := Lib.hid (show m = weigh (gs.take (k + 1)) ∨ (4194304 < m ∧ m ≤ weigh (gs.take (k + 1))) from by rw [HWT.out]; exact .inl hmm)
            clear hmm hjj
            go_wp2_with fail
            exact ⟨⟨k + 1, m, by omega, by go_num, rfl, hm, HN, trivial⟩, by simp [intOf]; omega⟩
      · have hW1 : decide (4194304 < W) = true := by
          have := weigh_le gs k
          have h1 := HW.out
          have h2 := hnw.out
          rw [decide_eq_true_eq]
          rcases h2 with h2 | ⟨h2, h3⟩ <;> omega
        have HW1 := Lib.hid hW1
        clear hW1
        go_wp2_with fail
        go_ret
        exact ⟨by rw [HW1.out]; rfl, rfl⟩
    · have hW1 : decide (4194304 < (n : Int)) = decide (4194304 < W) := by
        have hkk : k = gs.length := by omega
        have h1 := HW.out
        have h2 := hnw.out
        rw [hkk, List.take_length, ← h1] at h2
        congr 1
        simp only [eq_iff_iff]
        rcases h2 with h2 | ⟨h2, h3⟩
        · subst h2; omega
        · exact ⟨fun _ => by omega, fun _ => by omega⟩
      have HW1 := Lib.hid hW1
      clear hW1
      go_wp2_with fail
      go_ret
      exact ⟨by rw [← HW1.out]; rfl, rfl⟩
end Go.Proofs.YtdfnaphkppphkaaGreatDoor

namespace Go.Proofs.YtdfnaphkppphkaaGreatDoor
open Go Go.RowKit

theorem RecsIn.form {w : World} {v : Value} {rs : List (List UInt8)} (h : RecsIn w v rs) : ∃ o c, v = .slice o rs.length c := by
  obtain ⟨vs, _, h2, _⟩ := h
  exact h2.form
theorem take_eq_succ {xs ys : List (List UInt8)} {k : Nat} (ha : k < xs.length) (hb : k < ys.length) (h : xs.take k = ys.take k) (he : xs[k] = ys[k]) : xs.take (k + 1) = ys.take (k + 1) := by
  rw [List.take_add_one, List.take_add_one, List.getElem?_eq_getElem ha, List.getElem?_eq_getElem hb, h, he]
set_option maxRecDepth 100000 in
set_option maxHeartbeats 1000000 in
theorem law_lists (w : World) (va vb : Value) (xs ys : List (List UInt8)) (ha : RecsIn w va xs) (hb : RecsIn w vb ys) (hla : xs.length ≤ 140737488355328) (_hlb : ys.length ≤ 140737488355328) :
    Calls Tryz.prog 16 #[va, vb] w fun e w' => e = .returned (.bool (decide (xs = ys))) ∧ Fr (fun _ => False) w w' := by
  obtain ⟨oa, ca, hva⟩ := ha.form
  obtain ⟨ob, cb, hvb⟩ := hb.form
  subst hva
  subst hvb
  have HA := Lib.hid ha
  have HB := Lib.hid hb
  clear ha hb
  by_cases hll : xs.length = ys.length
  · have HLL := Lib.hid hll
    have hlab : xs.length ≤ ys.length := by omega
    have hlba : ys.length ≤ xs.length := by omega
    have hne : ((xs.length : Int) != (ys.length : Int)) = false := by simp; omega
    clear hll
    go_enter Tryz.func16, Tryz.ntmps16
    go_wp2_with fail
    go_loopw [5] (fun v5 wr => ∃ k : Nat, k ≤ xs.length ∧ v5 = .int .i64 (k : Int) ∧ Hid (xs.take k = ys.take k) ∧ Fr (fun _ => False) w wr) (fun v5 _ => xs.length - (intOf v5).toNat)
    case atStart => exact ⟨0, Nat.zero_le _, rfl, Lib.hid (by simp), Fr.refl _ _⟩
    case round =>
      obtain ⟨k, hk, rfl, htk, hfr⟩ := hrel
      by_cases hlt : k < xs.length
      · have hlt2 : k < ys.length := by omega
        obtain ⟨a1, o1, c1, hoa, q1, b1⟩ := recs_at (HA.out.fr hfr) k hlt
        obtain ⟨a2, o2, c2, hob, q2, b2⟩ := recs_at (HB.out.fr hfr) k hlt2
        subst hoa
        subst hob
        have HF := Lib.hid hfr
        have hc1 : ∀ n, (convert 24 9 (.slice o1 xs[k].length c1)).run Tryz.prog (wr.drewN n) = .ok (.string ⟨xs[k].toArray⟩) (wr.drewN n) := fun n => conv_bytes (w := wr.drewN n) b1
        have hc2 : ∀ n, (convert 24 9 (.slice o2 ys[k].length c2)).run Tryz.prog (wr.drewN n) = .ok (.string ⟨ys[k].toArray⟩) (wr.drewN n) := fun n => conv_bytes (w := wr.drewN n) b2
        clear b1 b2 hfr
        by_cases he : xs[k] = ys[k]
        · have HT := Lib.hid (take_eq_succ hlt hlt2 htk.out he)
          have hs : (xs[k] == ys[k]) = true := beq_iff_eq.2 he
          clear he htk
          go_wp2_with fail
          go_quiet (fail)
          go_wp2_with fail
          exact ⟨⟨k + 1, by omega, by go_num, HT, HF.out.drewN nq⟩, by simp [intOf]; omega⟩
        · have HN := Lib.hid (show decide (xs = ys) = false from decide_eq_false (fun e => he (by simp only [e])))
          have hs : (xs[k] == ys[k]) = false := beq_eq_false_iff_ne.2 he
          clear he htk
          go_wp2_with fail
          go_quiet (fail)
          go_wp2_with fail
          go_ret
          exact ⟨by rw [HN.out]; rfl, HF.out.drewN nq⟩
      · have HN := Lib.hid (show decide (xs = ys) = true from by
          have := htk.out
          rw [List.take_of_length_le (by omega), List.take_of_length_le (by omega)] at this
          exact decide_eq_true this)
        have HF := Lib.hid hfr
        clear hfr htk
        go_wp2_with fail
        go_ret
        exact ⟨by rw [HN.out]; rfl, HF.out⟩
  · have HN := Lib.hid (show decide (xs = ys) = false from decide_eq_false (fun e => hll (by rw [e])))
    have hne : ((xs.length : Int) != (ys.length : Int)) = true := by simp; omega
    clear hll
    go_enter Tryz.func16, Tryz.ntmps16
    go_wp2_with fail
    go_ret
    exact ⟨by rw [HN.out]; rfl, Fr.refl _ _⟩
end Go.Proofs.YtdfnaphkppphkaaGreatDoor

namespace Go.Proofs.YtdfnaphkppphkaaGreatDoor
open Go Go.RowKit

def emptyD : ADisk := { names := fun _ => none, safe := fun _ => none, waiting := [], born := 0, ops := 0, since := 0, fails := [], cut := 0, down := false, file := fun _ => newAFile 0 }
def emptyO (n : Nat) : Own := fun b => if b = n then some .names else if b = n + 1 then some .safe else if b = n + 2 then some .disk else none
theorem emptyO_lt {n b : Nat} {r : Role} (h : emptyO n b = some r) : n ≤ b ∧ b < n + 3 := by
  unfold emptyO at h
  split at h
  · omega
  · split at h
    · omega
    · split at h
      · omega
      · cases h
theorem new_disk (w : World) (K : Nat) (hK : K ≤ w.heap.size) :
    Calls Tryz.prog 7 #[] w fun e w' => ∃ bd ow, e = .returned (.pointer (some ⟨bd, 0, none⟩)) ∧ DiskAt w' bd emptyD ow K ∧ Fr (fun _ => False) w w' ∧ w.heap.size ≤ bd := by
  refine (disk_new w).mono ?_
  rintro e w' ⟨rfl, rfl⟩
  refine ⟨_, emptyO w.heap.size, rfl, ?_, (((Fr.refl _ _).alloc _).alloc _).alloc _, by omega⟩
  have s1 : (w.alloc (.map #[] 0)).heap.size = w.heap.size + 1 := by simp
  have s2 : ((w.alloc (.map #[] 0)).alloc (.map #[] 0)).heap.size = w.heap.size + 2 := by simp
  have m0 : MapAt strE fileV (w.alloc (.map #[] 0)) w.heap.size (fun _ => none) := MapAt.made w
  have m1 : MapAt strE fileV ((w.alloc (.map #[] 0)).alloc (.map #[] 0)) (w.heap.size + 1) (fun _ => none) := by have := MapAt.made (E := strE) (V := fileV) (w.alloc (.map #[] 0)); rw [s1] at this; exact this
  have hb : ∀ (o : Obj) (w1 : World) (b : Nat), b < w1.heap.size → (w1.alloc o).heap[b]? = w1.heap[b]? := fun o w1 b h => (Go.MapKept.heap_alloc w1 o).2 b h
  refine ⟨⟨w.heap.size, w.heap.size + 1, .slice none 0 0, .slice none 0 0⟩, ?_⟩
  constructor
  · intro b r h
    have := emptyO_lt h
    exact ⟨by omega, by simp; omega⟩
  · simp [emptyO]
  · have := (Go.MapKept.heap_alloc ((w.alloc (.map #[] 0)).alloc (.map #[] 0)) (.cells #[.map (some w.heap.size), .map (some (w.heap.size + 1)), .slice none 0 0, .int .i64 0, .int .i64 0, .int .i64 0, .slice none 0 0, .int .i64 0, .bool false] 60)).1
    rw [s2] at this
    exact this
  · simp [emptyO]
  · exact m0.of_block ((hb _ _ _ (by omega)).trans (hb _ _ _ (by omega)))
  · simp [emptyO]
  · exact m1.of_block (hb _ _ _ (by omega))
  · exact ⟨World.ownsRow_nil _ _ _ _, fun g h => by cases h⟩
  · exact ⟨World.ownsRow_nil _ _ _ _, fun g h => by cases h⟩
  · intro f h
    unfold emptyO at h
    split at h
    · cases h
    · split at h
      · cases h
      · split at h
        · cases h
        · cases h
  · simp [emptyD]
  · intro n f h; cases h
  · intro n f h; cases h
  · intro c h; simp [emptyD] at h
/-- nothing is armed, the power is on, at most N operations so far -/
structure Calm (D : ADisk) (N : Nat) : Prop where
  down : D.down = false
  fails : D.fails = []
  cut : D.cut = 0
  since : 0 ≤ D.since ∧ D.since ≤ N
  ops : 0 ≤ D.ops ∧ D.ops ≤ N
theorem emptyD_calm : Calm emptyD 0 := ⟨rfl, rfl, rfl, by simp [emptyD], by simp [emptyD]⟩
theorem tick_ops {D : ADisk} {N : Nat} (h : Calm D N) (hN : N ≤ 1099511627776) : D.tick.ops = D.ops + 1 ∧ D.tick.since = D.since + 1 := by
  have h1 := h.ops
  have h2 := h.since
  exact ⟨IntWalk.wrap64_in _ (by omega), IntWalk.wrap64_in _ (by omega)⟩
theorem Calm.tick {D : ADisk} {N : Nat} (h : Calm D N) (hN : N ≤ 1099511627776) : Calm D.tick (N + 1) := by
  obtain ⟨q1, q2⟩ := tick_ops h hN
  have h1 := h.ops
  have h2 := h.since
  exact ⟨h.down, h.fails, h.cut, by rw [q2]; omega, by rw [q1]; omega⟩
theorem Calm.arm {D : ADisk} {N : Nat} (h : Calm D N) (hN : N ≤ 1099511627776) : D.arm = (0, none) := by
  have h1 := (h.tick hN).since
  obtain ⟨_, q2⟩ := tick_ops h hN
  have h2 := h.since
  unfold ADisk.arm armedOf
  rw [(h.tick hN).fails, (h.tick hN).cut, if_neg (by rw [q2]; omega)]
  rfl
theorem Calm.opE {D : ADisk} {N : Nat} (h : Calm D N) (hN : N ≤ 1099511627776) (ref : Option Er) : opE D ref = ref := by
  unfold Go.Proofs.YtdfnaphkppphkaaGreatDoor.opE runE
  rw [if_neg (by rw [h.down]; decide), h.arm hN]
theorem Calm.op {D : ADisk} {N : Nat} (h : Calm D N) (hN : N ≤ 1099511627776) {waits part : Bool} {f : ADisk → ADisk → Prop} {g : Int → ADisk → ADisk → Prop} {D' : ADisk} (ho : OpR D none waits part f g D') : f D.tick D' :=
  (op_none (h.opE hN none) ho).2.2.2
/-- the disk holds a file of these bytes, all of them readable -/
structure DSt (D : ADisk) (nm : ByteArray) (f : Nat) (data : List UInt8) (N : Nat) : Prop where
  calm : Calm D N
  has : D.names nm = some f
  data : (D.file f).seen.data = data
  bad : ∀ k, (D.file f).seen.bad k = none
theorem DSt.tick {D : ADisk} {nm : ByteArray} {f : Nat} {data : List UInt8} {N : Nat} (h : DSt D nm f data N) (hN : N ≤ 1099511627776) : DSt D.tick nm f data (N + 1) :=
  ⟨h.calm.tick hN, h.has, h.data, h.bad⟩
theorem DSt.gone {D : ADisk} {nm : ByteArray} {f : Nat} {data : List UInt8} {N : Nat} (h : DSt D nm f data N) : goneE D.names nm = none := by
  unfold goneE; rw [h.has]; rfl
theorem addF_data (x : AFile) (l : List UInt8) : (addF x l).seen.data = x.seen.data ++ l := by
  unfold addF
  split
  · rename_i h; rw [h, List.append_nil]
  · rfl
theorem addF_bad (x : AFile) (l : List UInt8) (h : ∀ k, x.seen.bad k = none) (k : Int) : (addF x l).seen.bad k = none := by
  unfold addF
  split
  · exact h k
  · simp only [rng]
    split
    · rfl
    · exact h k
theorem DSt.append {D D' : ADisk} {nm : ByteArray} {f : Nat} {data l : List UInt8} {N : Nat} (h : DSt D nm f data N) (hd : D' = appendD nm l D) : DSt D' nm f (data ++ l) N := by
  rw [appendD_some h.has] at hd
  subst hd
  refine ⟨⟨h.calm.down, h.calm.fails, h.calm.cut, h.calm.since, h.calm.ops⟩, h.has, ?_, fun k => ?_⟩
  · simp only [upd_same, addF_data, h.data]
  · simp only [upd_same]; exact addF_bad _ _ h.bad k
theorem DSt.trunc {D D' : ADisk} {nm : ByteArray} {f : Nat} {data : List UInt8} {N : Nat} {n : Int} (h : DSt D nm f data N) (hd : D' = truncD nm n D) : DSt D' nm f (data.take n.toNat) N := by
  have he : truncD nm n D = { D with file := upd D.file f (truncF n (D.file f)) } := by unfold truncD; rw [h.has]
  rw [he] at hd
  subst hd
  refine ⟨⟨h.calm.down, h.calm.fails, h.calm.cut, h.calm.since, h.calm.ops⟩, h.has, ?_, fun k => ?_⟩
  · simp only [upd_same, truncF, cutSide, h.data]
  · simp only [upd_same, truncF, cutSide, cutSet]
    split
    · rfl
    · exact h.bad k
theorem DSt.sync {D D' : ADisk} {nm : ByteArray} {f : Nat} {data : List UInt8} {N : Nat} (h : DSt D nm f data N) (hd : D' = syncD nm D) : DSt D' nm f data N := by
  have he : syncD nm D = { D with file := upd D.file f (syncF (D.file f)) } := by unfold syncD; rw [h.has]
  rw [he] at hd
  subst hd
  refine ⟨⟨h.calm.down, h.calm.fails, h.calm.cut, h.calm.since, h.calm.ops⟩, h.has, ?_, fun k => ?_⟩
  · simp only [upd_same, syncF, h.data]
  · simp only [upd_same, syncF]; exact h.bad k
theorem DSt.truncE {D : ADisk} {nm : ByteArray} {f : Nat} {data : List UInt8} {N : Nat} (h : DSt D nm f data N) (n : Nat) (hn : n * 512 ≤ data.length) : truncE D nm ((n : Int) * 512) = none := by
  unfold Go.Proofs.YtdfnaphkppphkaaGreatDoor.truncE
  rw [h.has]
  simp only
  rw [if_neg]
  rw [h.data]
  intro q
  rcases q with q | q | q
  · omega
  · exact q (Int.mul_tmod_left _ _)
  · omega
theorem DSt.list {D : ADisk} {nm : ByteArray} {f : Nat} {data : List UInt8} {N : Nat} {l : List Int} (h : DSt D nm f data N) (hl : ListOf (D.file f).seen.bad l) : l = [] := by
  cases l with
  | nil => rfl
  | cons x l => exact absurd (h.bad x) ((hl.2 x).1 (by simp))
/-- a segment made on a disk at rest -/
theorem create_calm {D D1 : ADisk} {nm : ByteArray} {N : Nat} (h : Calm D N) (hN : N ≤ 1099511627770) (hc : createR nm D.tick D1) : ∃ f, DSt D1 nm f [] (N + 1) ∧ DSt (syncNamesD D1.tick) nm f [] (N + 2) := by
  obtain ⟨b, _, rfl⟩ := hc
  have ht := h.tick (by omega)
  have h1 : DSt (createD nm D.tick b) nm b [] (N + 1) :=
    ⟨⟨ht.down, ht.fails, ht.cut, ht.since, ht.ops⟩, by simp [createD, upd_same], by simp [createD, upd_same, newAFile], by simp [createD, upd_same, newAFile]⟩
  have h2 := h1.tick (by omega)
  exact ⟨b, h1, ⟨⟨h2.calm.down, h2.calm.fails, h2.calm.cut, h2.calm.since, h2.calm.ops⟩, h2.has, h2.data, h2.bad⟩⟩
end Go.Proofs.YtdfnaphkppphkaaGreatDoor

namespace Go.Proofs.YtdfnaphkppphkaaGreatDoor
open Go Go.RowKit

/-- a segment and its disk lie in memory, the disk holding the segment's file -/
structure SegSt (w : World) (bd bs K : Nat) (D : ADisk) (ow : Own) (s : ASeg) (f : Nat) (data : List UInt8) (N : Nat) : Prop where
  disk : DiskAt w bd D ow K
  st : DSt D s.name f data N
  seg : SegAt w bd bs s
  out : ow bs = none
  up : K ≤ bs
/-- behind a step: only the disk's blocks and the segment's have changed -/
def StepTo (w : World) (_bd _bs K : Nat) (P : ADisk → Own → World → Prop) (w' : World) : Prop := ∃ D' ow', P D' ow' w' ∧ FrUp K w w'
theorem SegSt.fr {w w' : World} {bd bs K : Nat} {D : ADisk} {ow : Own} {s : ASeg} {f : Nat} {data : List UInt8} {N : Nat} (h : SegSt w bd bs K D ow s f data N) (hf : Fr (fun _ => False) w w') : SegSt w' bd bs K D ow s f data N :=
  ⟨h.disk.out hf (fun _ _ h => h), h.st, h.seg.fr hf (fun h => h), h.out, h.up⟩
theorem SegSt.off {w w' : World} {bd bs K : Nat} {D : ADisk} {ow : Own} {s : ASeg} {f : Nat} {data : List UInt8} {N : Nat} {T : Nat → Prop} (h : SegSt w bd bs K D ow s f data N) (hf : Fr T w w') (hT : ∀ b, T b → ow b = none ∧ b ≠ bs) : SegSt w' bd bs K D ow s f data N :=
  ⟨h.disk.out hf (fun b hb ht => hb (hT b ht).1), h.st, h.seg.fr hf (fun ht => (hT bs ht).2 rfl), h.out, h.up⟩
theorem owUp {w w' : World} {bd bs K : Nat} {D : ADisk} {ow : Own} {s : ASeg} {f : Nat} {data : List UInt8} {N : Nat} (h : SegSt w bd bs K D ow s f data N) (hf : Fr (fun b => ow.has b ∨ b = bs) w w') : FrUp K w w' :=
  hf.mono (fun b _ q => by
    rcases q with q | q
    · exact own_geD h.disk b q
    · rw [q]; exact h.up)
theorem new_create {w : World} {bd K : Nat} {eb : Er → Addr} {S : Er → Bool} {ow : Own} (hD : DiskAt w bd emptyD ow K) (E : Env w K eb S) (first : Nat) (hg : goodB first = true) :
    Calls Tryz.prog 8 #[.pointer (some ⟨bd, 0, none⟩), .int .u64 first] w fun e w' => ∃ bs D2 ow2 f, e = .returned (.tuple #[.pointer (some ⟨bs, 0, none⟩), .nilIface]) ∧
      SegSt w' bd bs K D2 ow2 ⟨nameB first, first, 0, true, false⟩ f [] 2 ∧ FrUp K w w' := by
  refine (seg_create hD E first hg (by simp [emptyD])).mono ?_
  rintro e w' h
  have hce : createE emptyD (nameB first) = none := by unfold createE; rw [nameB_good]; simp [emptyD]
  have ho : opE emptyD (createE emptyD (nameB first)) = none := by rw [emptyD_calm.opE (by omega), hce]
  rcases h with ⟨x, hx, _⟩ | ⟨_, D1, hcr, h⟩
  · rw [ho] at hx; cases hx
  · obtain ⟨f, h1, h2⟩ := create_calm emptyD_calm (by omega) hcr
    rcases h with ⟨x, hx, _⟩ | ⟨_, bs, ow2, he, hD2, hfr, hext, hseg, hbw, hbn⟩
    · rw [h1.calm.opE (by omega)] at hx; cases hx
    · exact ⟨bs, _, ow2, f, he, ⟨hD2, h2, hseg, hbn, Nat.le_trans E.G.size hbw⟩, hfr.mono (fun b _ q => own_geD hD b q)⟩
section
variable {w : World} {bd bs K : Nat} {eb : Er → Addr} {S : Er → Bool} {D : ADisk} {ow : Own} {s : ASeg} {f : Nat} {data : List UInt8} {N : Nat}
theorem step_append (h : SegSt w bd bs K D ow s f data N) (E : Env w K eb S) (h5 : s.sick = false) (h4 : s.whole = true) (hnx : s.next < 18446744073709551616) (hbl : s.blocks ≤ 4398046511104) (hN : N ≤ 1099511627776)
    (g off cap : Nat) (rs : List (List UInt8)) (hv : RecsIn w (.slice (some ⟨g, off, none⟩) rs.length cap) rs) (hcap : rs.length ≤ cap) (hn : rs.length ≤ 1073741824) (h0 : rs ≠ []) (hx : packE s.next rs = none) (hd : data.length + 512 * rs.length ≤ 1099511627776) :
    Calls Tryz.prog 9 #[.pointer (some ⟨bs, 0, none⟩), .slice (some ⟨g, off, none⟩) rs.length cap] w fun e w' => e = .returned .nilIface ∧
      ∃ D' ow', SegSt w' bd bs K D' ow' { s with next := s.next + rs.length, blocks := s.blocks + (packB s.next rs).length / 512 } f (data ++ packB s.next rs) (N + 1) ∧ FrUp K w w' ∧ Fr (fun b => ow.has b ∨ b = bs) w w' ∧ ow.ext ow' w := by
  refine (seg_append_go h.seg h.disk h.out E h5 h4 hnx hbl g off cap rs hv hcap hn h0 hx (fun f' hf' => ?_)).mono ?_
  · have : f' = f := by have := h.st.has; rw [hf'] at this; cases this; rfl
    subst this
    rw [h.st.data]
    have := packB_length s.next rs
    unfold maxData; omega
  · rintro e w' ⟨rfl, D', ow', hR, hD', hfr, hext, hseg⟩
    have hop : opE D (goneE D.names s.name) = none := by rw [h.st.gone, h.st.calm.opE hN]
    rw [hop] at hseg ⊢
    rw [h.st.gone] at hR
    have hd' := h.st.calm.op hN hR
    exact ⟨rfl, D', ow', ⟨hD', (h.st.tick hN).append hd', hseg, hext bs h.seg.lt h.out, h.up⟩, owUp h hfr, hfr, hext⟩
theorem step_sync (h : SegSt w bd bs K D ow s f data N) (E : Env w K eb S) (h5 : s.sick = false) (hN : N ≤ 1099511627776) :
    Calls Tryz.prog 22 #[.pointer (some ⟨bs, 0, none⟩)] w fun e w' => e = .returned .nilIface ∧ ∃ D' ow', SegSt w' bd bs K D' ow' s f data (N + 1) ∧ FrUp K w w' ∧ Fr (fun b => ow.has b ∨ b = bs) w w' ∧ ow.ext ow' w := by
  refine (seg_sync_go h.seg h.disk h.out E.G h5).mono ?_
  rintro e w' ⟨rfl, D', ow', hR, hD', hfr, hext, hseg, hb⟩
  have hop : opE D (goneE D.names s.name) = none := by rw [h.st.gone, h.st.calm.opE hN]
  rw [hop] at hseg ⊢
  rw [h.st.gone] at hR
  have hd' := h.st.calm.op hN hR
  have hs : ({ s with sick := (none : Option Er).isSome } : ASeg) = s := by cases s; simp only at h5; subst h5; rfl
  rw [hs] at hseg
  exact ⟨rfl, D', ow', ⟨hD', (h.st.tick hN).sync hd', hseg, hb, h.up⟩, owUp h hfr, hfr, hext⟩
theorem step_cut (h : SegSt w bd bs K D ow s f data N) (E : Env w K eb S) (h5 : s.sick = false) (h4 : s.whole = false) (hbl : s.blocks ≤ 4398046511104) (hN : N ≤ 1099511627776) (hd : s.blocks * 512 ≤ data.length) :
    Calls Tryz.prog 19 #[.pointer (some ⟨bs, 0, none⟩)] w fun e w' => e = .returned .nilIface ∧ ∃ D' ow', SegSt w' bd bs K D' ow' { s with whole := true } f (data.take (s.blocks * 512)) (N + 1) ∧ D'.ops = D.ops + 1 ∧ FrUp K w w' ∧ Fr (fun b => ow.has b ∨ b = bs) w w' ∧ ow.ext ow' w := by
  refine (seg_cut_go h.seg h.disk h.out E.G h5 h4 hbl).mono ?_
  rintro e w' ⟨rfl, D', ow', hR, hD', hfr, hext, hseg, hb⟩
  have hte := h.st.truncE s.blocks hd
  have hop : opE D (truncE D s.name ((s.blocks : Int) * 512)) = none := by rw [hte, h.st.calm.opE hN]
  rw [hop] at hseg ⊢
  rw [hte] at hR
  have hd' := h.st.calm.op hN hR
  have hs : ({ s with sick := (none : Option Er).isSome, whole := (none : Option Er).isNone } : ASeg) = { s with whole := true } := by cases s; simp only at h5; subst h5; rfl
  rw [hs] at hseg
  have ht := (h.st.tick hN).trunc hd'
  rw [show ((s.blocks : Int) * 512).toNat = s.blocks * 512 from by omega] at ht
  refine ⟨rfl, D', ow', ⟨hD', ht, hseg, hb, h.up⟩, ?_, owUp h hfr, hfr, hext⟩
  have he : D'.ops = D.tick.ops := by
    rw [hd']; unfold truncD; split <;> rfl
  rw [he, (tick_ops h.st.calm hN).1]
theorem step_open (h : SegSt w bd bs K D ow s f data N) (E : Env w K eb S) (first : Nat) (hg : goodB first = true) (hnm : s.name = nameB first) :
    Calls Tryz.prog 15 #[.pointer (some ⟨bd, 0, none⟩), .int .u64 first] w fun e w' => ∃ bt v, e = .returned (.tuple #[.pointer (some ⟨bt, 0, none⟩), v, .nilIface]) ∧
      RecsNew w' w.heap.size v (scanB data [] first).1 ∧ SegSt w' bd bt K D ow (openSeg data [] first) f data N ∧ w.heap.size ≤ bt ∧ Fr (fun _ => False) w w' := by
  refine (seg_open_ok h.disk E first hg f h.st.calm.down (by rw [← hnm]; exact h.st.has)).mono ?_
  rintro e w' ⟨bt, v, l, rfl, hl, hrec, hseg, hbt, hfr⟩
  have hl0 := h.st.list hl
  subst hl0
  rw [h.st.data] at hrec hseg
  exact ⟨bt, v, rfl, hrec, ⟨h.disk.out hfr (fun _ _ h => h), by have := h.st; rw [hnm] at this; exact this, hseg, own_none h.disk hbt, Nat.le_trans E.G.size hbt⟩, hbt, hfr⟩
theorem step_junk (h : SegSt w bd bs K D ow s f data N) (E : Env w K eb S) (hN : N ≤ 1099511627776) (v : Value) (l : List UInt8) (hv : BytesAt w v l) (hvo : OutOf ow v) (hd : data.length + l.length ≤ 1099511627776) :
    Calls Tryz.prog 11 #[.pointer (some ⟨bd, 0, none⟩), .string s.name, v] w fun e w' => e = .returned .nilIface ∧ ∃ D' ow', SegSt w' bd bs K D' ow' s f (data ++ l) (N + 1) ∧ FrUp K w w' ∧ Fr (fun b => ow.has b ∨ b = bs) w w' ∧ ow.ext ow' w := by
  refine (disk_append h.disk E.G s.name v l hv hvo (fun f' hf' => ?_)).mono ?_
  · have : f' = f := by have := h.st.has; rw [hf'] at this; cases this; rfl
    subst this
    rw [h.st.data]
    unfold maxData; exact hd
  · rintro e w' ⟨rfl, D', ow', hR, hD', hfr, hext⟩
    have hop : opE D (goneE D.names s.name) = none := by rw [h.st.gone, h.st.calm.opE hN]
    rw [hop]
    rw [h.st.gone] at hR
    have hd' := h.st.calm.op hN hR
    exact ⟨rfl, D', ow', ⟨hD', (h.st.tick hN).append hd', h.seg.fr hfr (fun q => q h.out), hext bs h.seg.lt h.out, h.up⟩, owUp h (hfr.mono (fun b _ q => .inl q)), hfr.mono (fun b _ q => .inl q), hext⟩
end
end Go.Proofs.YtdfnaphkppphkaaGreatDoor

namespace Go.Proofs.YtdfnaphkppphkaaGreatDoor
open Go Go.RowKit

theorem FrUp.env {w w' : World} {K : Nat} {eb : Er → Addr} {S : Er → Bool} (E : Env w K eb S) (hf : FrUp K w w') : Env w' K eb S := E.fr hf (fun _ h => h)
theorem bytes_block {w : World} {b : Nat} {l : List UInt8} {arr : Array Value} {t : TypeId} {z : Nat × Nat} (h : w.heap[b]? = some (.cells arr t z)) (ha : arr.toList = l.map byteV) (n : Nat) (hn : l.length = n) :
    BytesAt w (.slice (some ⟨b, 0, none⟩) n n) l := by
  subst hn
  refine .inr ⟨_, _, rfl, Nat.le_refl _, by simp, fun j u hu => ?_⟩
  rw [addr_add, cell_at h, Nat.zero_add, ← Array.getElem?_toList, ha]
  exact hu
theorem recs_two (w : World) : RecsIn (((w.alloc (.cells #[.int .u8 97, .int .u8 98] 5 (2, 3))).alloc (.cells #[.int .u8 99] 5 (1, 2))).alloc
    (.cells #[.slice (some ⟨w.heap.size, 0, none⟩) 2 2, .slice (some ⟨w.heap.size + 1, 0, none⟩) 1 1] 24)) (.slice (some ⟨w.heap.size + 1 + 1, 0, none⟩) 2 2) [[97, 98], [99]] := by
  have hb : ∀ (o : Obj) (w1 : World) (b : Nat), b < w1.heap.size → (w1.alloc o).heap[b]? = w1.heap[b]? := fun o w1 b h => (Go.MapKept.heap_alloc w1 o).2 b h
  have hn : ∀ (o : Obj) (w1 : World), (w1.alloc o).heap[w1.heap.size]? = some o := fun o w1 => (Go.MapKept.heap_alloc w1 o).1
  have s1 : (w.alloc (.cells #[.int .u8 97, .int .u8 98] 5 (2, 3))).heap.size = w.heap.size + 1 := by simp
  have s2 : ((w.alloc (.cells #[.int .u8 97, .int .u8 98] 5 (2, 3))).alloc (.cells #[.int .u8 99] 5 (1, 2))).heap.size = w.heap.size + 1 + 1 := by simp
  have h1 := hn (.cells #[.int .u8 97, .int .u8 98] 5 (2, 3)) w
  have h2 := hn (.cells #[.int .u8 99] 5 (1, 2)) (w.alloc (.cells #[.int .u8 97, .int .u8 98] 5 (2, 3)))
  have h3 := hn (.cells #[.slice (some ⟨w.heap.size, 0, none⟩) 2 2, .slice (some ⟨w.heap.size + 1, 0, none⟩) 1 1] 24) ((w.alloc (.cells #[.int .u8 97, .int .u8 98] 5 (2, 3))).alloc (.cells #[.int .u8 99] 5 (1, 2)))
  rw [s1] at h2
  rw [s2] at h3
  refine ⟨[.slice (some ⟨w.heap.size, 0, none⟩) 2 2, .slice (some ⟨w.heap.size + 1, 0, none⟩) 1 1], rfl, .inr ⟨_, 2, rfl, by simp, rfl, fun j u hu => ?_⟩, fun j u l hu hl => ?_⟩
  · rw [addr_add, cell_at h3, Nat.zero_add, ← Array.getElem?_toList]; exact hu
  · match j, hu, hl with
    | 0, hu, hl =>
      cases hu; cases hl
      exact bytes_block ((hb _ _ _ (by omega)).trans ((hb _ _ _ (by omega)).trans h1)) rfl 2 rfl
    | 1, hu, hl =>
      cases hu; cases hl
      exact bytes_block ((hb _ _ _ (by omega)).trans h2) rfl 1 rfl
    | j + 2, hu, _ => simp at hu
theorem pack7 : packE 7 [[97, 98], [99]] = none := by decide
theorem pack7_length : (packB 7 [[97, 98], [99]]).length = 512 := by
  have h : packB 7 [[97, 98], [99]] = encodeB 7 [[97, 98], [99]] := by simp [packB, packN, fitN]
  rw [h]
  exact encodeB_length _ _ (by decide)
theorem good7 : GoodAt 7 (packB 7 [[97, 98], [99]]) [[97, 98], [99]] 1 := by
  have := packB_good 7 [[97, 98], [99]] (.inr (by decide)) (by decide)
  rw [pack7_length] at this
  exact this
set_option maxRecDepth 100000 in
set_option maxHeartbeats 2000000 in
theorem law_awake (w : World) (K : Nat) (eb : Er → Addr) (S : Er → Bool) (E : Env w K eb S) :
    Calls Tryz.prog 5 #[] w fun e w' => e = .returned (.bool true) ∧ FrUp K w w' := by
  have HN := Lib.hid (new_disk w K E.G.size)
  have HE := Lib.hid E
  have hKw := E.G.size
  clear E
  have e2 := neq_er
  have e3 := neq_nilE
  have e4 := eql_nil
  go_enter Tryz.func5, Tryz.ntmps5
  go_wp2_with fail
  refine HN.out.mono ?_
  rintro e w1 ⟨bd, ow, rfl, hD, hfr, hbd⟩
  have HF1 := Lib.hid (FrUp.none (K := K) hfr)
  have HC := Lib.hid (new_create hD (HF1.out.env HE.out) 7 (by decide))
  clear hD hfr HN
  go_wp2_with fail
  refine HC.out.mono ?_
  rintro e w2 ⟨bs, D, ow2, f, rfl, hst, hfr⟩
  have HF2 := Lib.hid (Fr.trans HF1.out hfr)
  have HS := Lib.hid hst
  have HX1 := Lib.hid (seg_next hst.seg)
  have HX2 := Lib.hid (seg_blocks hst.seg)
  have HX3 := Lib.hid (seg_whole hst.seg)
  clear hst hfr HC
  go_wp2_with fail
  refine HX1.out.mono ?_
  rintro e w' ⟨rfl, rfl⟩
  go_wp2_with fail
  refine HX2.out.mono ?_
  rintro e w'' ⟨rfl, rfl⟩
  go_wp2_with fail
  refine HX3.out.mono ?_
  rintro e w3 ⟨rfl, rfl⟩
  have cs1 : (convert 24 24 (.slice (some ⟨w3.heap.size, 0, none⟩) 2 2)).run Tryz.prog (w3.alloc (.cells #[.int .u8 97, .int .u8 98] 5)) = .ok (.slice (some ⟨w3.heap.size, 0, none⟩) 2 2) (w3.alloc (.cells #[.int .u8 97, .int .u8 98] 5 (2, 3))) := Lib.run_convert_bytes_const w3 24 5 #[.int .u8 97, .int .u8 98] 2 2 Tryz.underlying24 Tryz.underlying5
  have cs2 : (convert 24 24 (.slice (some ⟨w3.heap.size + 1, 0, none⟩) 1 1)).run Tryz.prog ((w3.alloc (.cells #[.int .u8 97, .int .u8 98] 5 (2, 3))).alloc (.cells #[.int .u8 99] 5)) = .ok (.slice (some ⟨w3.heap.size + 1, 0, none⟩) 1 1) ((w3.alloc (.cells #[.int .u8 97, .int .u8 98] 5 (2, 3))).alloc (.cells #[.int .u8 99] 5 (1, 2))) := by
    have := Lib.run_convert_bytes_const (w3.alloc (.cells #[.int .u8 97, .int .u8 98] 5 (2, 3))) 24 5 #[.int .u8 99] 1 1 Tryz.underlying24 Tryz.underlying5
    rw [show (w3.alloc (.cells #[.int .u8 97, .int .u8 98] 5 (2, 3))).heap.size = w3.heap.size + 1 from by simp] at this
    exact this
  go_wp2_with fail
  have hrec := recs_two w3
  have hf4 : Fr (fun _ => False) w3 (((w3.alloc (.cells #[.int .u8 97, .int .u8 98] 5 (2, 3))).alloc (.cells #[.int .u8 99] 5 (1, 2))).alloc (.cells #[.slice (some ⟨w3.heap.size, 0, none⟩) 2 2, .slice (some ⟨w3.heap.size + 1, 0, none⟩) 1 1] 24)) := (((Fr.refl _ _).alloc _).alloc _).alloc _
  clear cs1 cs2
  generalize (((w3.alloc (.cells #[.int .u8 97, .int .u8 98] 5 (2, 3))).alloc (.cells #[.int .u8 99] 5 (1, 2))).alloc (.cells #[.slice (some ⟨w3.heap.size, 0, none⟩) 2 2, .slice (some ⟨w3.heap.size + 1, 0, none⟩) 1 1] 24)) = w4 at *
  generalize w3.heap.size + 1 + 1 = z at *
  have HA := Lib.hid (step_append (HS.out.fr hf4) (FrUp.env HE.out (Fr.trans HF2.out (FrUp.none hf4))) rfl rfl (by decide) (by decide) (by decide) z 0 2 [[97, 98], [99]] hrec (by decide) (by decide) (by simp) pack7 (by decide))
  rw [pack7_length] at HA
  have HF4 := Lib.hid (Fr.trans HF2.out (FrUp.none (K := K) hf4))
  clear hrec hf4
  refine HA.out.mono ?_
  rintro e w5 ⟨rfl, D5, ow5, hst5, hf5, _, _⟩
  have HF5 := Lib.hid (Fr.trans HF4.out hf5)
  have HY := Lib.hid (step_sync hst5 (FrUp.env HE.out HF5.out) rfl (by decide))
  clear hst5 hf5 HA
  go_wp2_with fail
  refine HY.out.mono ?_
  rintro e w6 ⟨rfl, D6, ow6, hst6, hf6, _, _⟩
  have HF6 := Lib.hid (Fr.trans HF5.out hf6)
  have hO := step_open hst6 (FrUp.env HE.out HF6.out) 7 (by decide) rfl
  rw [List.nil_append] at hO
  have hos : openSeg (packB 7 [[97, 98], [99]]) [] 7 = ⟨nameB 7, 9, 1, true, false⟩ := by
    unfold openSeg
    rw [good7.scan, pack7_length]
    rfl
  rw [hos, good7.scan] at hO
  have HO := Lib.hid hO
  clear hst6 hf6 HY hO hos
  go_wp2_with fail
  refine HO.out.mono ?_
  rintro e w7 ⟨bt, v, rfl, hrec7, hst7, hbt, hf7⟩
  have HF7 := Lib.hid (Fr.trans HF6.out (FrUp.none (K := K) hf7))
  obtain ⟨g, c, rfl⟩ : ∃ g c, v = .slice (some ⟨g, 0, none⟩) 2 c := by
    obtain ⟨vs, _, h2, _⟩ := hrec7
    rcases h2.2 with ⟨_, q⟩ | ⟨g, c, cur, q, _⟩
    · cases q
    · exact ⟨g, c, q⟩
  obtain ⟨a1, o1, c1, q1, k1, b1⟩ := recs_at (rs := [[97, 98], [99]]) hrec7.seen 0 (by decide)
  cases q1
  obtain ⟨a2, o2, c2, q2, k2, b2⟩ := recs_at (rs := [[97, 98], [99]]) hrec7.seen 1 (by decide)
  cases q2
  have k1' : w7.cell? ⟨g, 0, none⟩ = some (.slice o1 2 c1) := k1
  have k2' : w7.cell? ⟨g, 1, none⟩ = some (.slice o2 1 c2) := k2
  have v1 : (convert 24 9 (.slice o1 2 c1)).run Tryz.prog w7 = .ok (.string ⟨#[97, 98]⟩) w7 := conv_bytes b1
  have v2 : (convert 24 9 (.slice o2 1 c2)).run Tryz.prog w7 = .ok (.string ⟨#[99]⟩) w7 := conv_bytes b2
  have HY1 := Lib.hid (seg_next hst7.seg)
  have HY2 := Lib.hid (seg_blocks hst7.seg)
  have HY3 := Lib.hid (seg_name w7 K eb S (FrUp.env HE.out HF7.out) 255 (by decide))
  clear hrec7 hst7 hf7 HO k1 k2 b1 b2
  go_wp2_with fail
  refine HY1.out.mono ?_
  rintro e w8 ⟨rfl, rfl⟩
  go_wp2_with fail
  refine HY2.out.mono ?_
  rintro e w9 ⟨rfl, rfl⟩
  go_wp2_with fail
  refine HY3.out.mono ?_
  rintro e wA ⟨rfl, hfA⟩
  have HFA := Lib.hid (Fr.trans HF7.out (FrUp.none (K := K) hfA))
  have hn : ((nameB 255).toList == [108, 111, 103, 46, 48, 48, 48, 48, 48, 48, 48, 48, 48, 48, 48, 48, 48, 48, 102, 102]) = true := by
    unfold nameB
    rw [ByteArray.toList_mk]
    decide
  generalize nameB 255 = nm at *
  clear hfA
  go_wp2_with fail
  trace_state
  go_ret
  exact ⟨rfl, HFA.out⟩
end Go.Proofs.YtdfnaphkppphkaaGreatDoor
