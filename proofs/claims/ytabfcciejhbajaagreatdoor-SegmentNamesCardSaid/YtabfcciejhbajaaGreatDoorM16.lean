/-
  Sync of a segment. Conditions: the segment lies in memory as SegAt says.
  segment.Open. Conditions: the disk lies in memory as DiskAt says.
  What stands below the first block stays. Conditions: none.
  The new disk, and a disk at which nothing is armed: what its operations leave. Conditions: none.
  A segment's steps on a disk at which nothing is armed. Conditions: as the contracts' of segment.
  awake: the layer's answers that the document fixes. Conditions: the table and the error variables are there.
-/
import Derived.Test.YtabfcciejhbajaaGreatDoorM15
namespace Go.Proofs.YtabfcciejhbajaaGreatDoor
open Go Go.RowKit

/-- behind the disk's operation -/
def OpMid (w : World) (bd bs K : Nat) (R : ADisk → Prop) (s : ASeg) (ow : Own) (w3 : World) : Prop :=
  ∃ D' ow', R D' ∧ DiskAt w3 bd D' ow' K ∧ Fr (fun b => ow.has b ∨ b = bs) w w3 ∧ ow.ext ow' w ∧ SegAt w3 bd bs s ∧ ow' bs = none
theorem opMid_of {w w0 w3 : World} {bd bs K : Nat} {R : ADisk → Prop} {s : ASeg} {ow : Own} (hf : Fr (fun _ => False) w w0) (hs : SegAt w0 bd bs s) (hb : ow bs = none) (h : After bd ow K w0 R w3) : OpMid w bd bs K R s ow w3 := by
  obtain ⟨D', ow', hR, hD', hfr, hext⟩ := h
  exact ⟨D', ow', hR, hD', Fr.trans (hf.mono (fun _ _ h => h.elim)) (hfr.mono (fun b _ h => .inl h)), fun b hb hn => hext b (Nat.lt_of_lt_of_le hb hf.size) hn, hs.fr hfr (fun h => h hb), hext bs hs.lt hb⟩
theorem OpMid.set {w w3 : World} {bd bs K : Nat} {R : ADisk → Prop} {s s' : ASeg} {ow : Own} {i : Nat} {v : Value} (h : OpMid w bd bs K R s ow w3)
    (he : #[.pointer (some ⟨bd, 0, none⟩), .string s'.name, .int .u64 (s'.next : Nat), .int .i64 (s'.blocks : Nat), .bool s'.whole, .bool s'.sick] = (#[.pointer (some ⟨bd, 0, none⟩), .string s.name, .int .u64 (s.next : Nat), .int .i64 (s.blocks : Nat), .bool s.whole, .bool s.sick] : Array Value).setIfInBounds i v) :
    OpMid w bd bs K R s' ow (w3.setCell ⟨bs, i, none⟩ v) := by
  obtain ⟨D', ow', hR, hD', hfr, hext, hS3, hb3⟩ := h
  exact ⟨D', ow', hR, hD'.out ((Fr.refl (fun b => b = bs) w3).setCell (fun _ => rfl) _) (fun b hb e => hb (e ▸ hb3)), hfr.setCell (fun _ => .inr rfl) _, hext, hS3.set he, hb3⟩
theorem opMid_met {w w3 : World} {eb : Er → Addr} {bd bs K : Nat} {R : ADisk → Prop} {s : ASeg} {ow : Own} (h : OpMid w bd bs K R s ow w3) (h5 : s.sick = false) (x : Option Er) :
    Calls Tryz.prog 28 #[.pointer (some ⟨bs, 0, none⟩), erV eb x] w3 fun e w4 => e = .returned (erV eb x) ∧ OpMid w bd bs K R { s with sick := x.isSome } ow w4 := by
  have h' := h
  obtain ⟨D', ow', hR, hD', hfr, hext, hS3, hb3⟩ := h
  refine (seg_met (eb := eb) hS3 x).mono (fun e w4 q => ⟨q.1, ?_⟩)
  obtain ⟨_, rfl⟩ := q
  exact h'.set (by rw [h5]; rfl)
section
variable {w : World} {bd bs K : Nat} {eb : Er → Addr} {S : Er → Bool} {s : ASeg}
set_option maxRecDepth 100000 in
theorem seg_sync_sick (h : SegAt w bd bs s) (G : Glob w K eb S) (hS : S .sick = true) (hk : s.sick = true) :
    Calls Tryz.prog 15 #[.pointer (some ⟨bs, 0, none⟩)] w fun e w' => e = .returned (erV eb (some .sick)) ∧ w' = w := by
  have c5 : w.cell? ⟨bs, 5, none⟩ = some (.bool s.sick) := cell_at h 5
  have vs : w.cell? ⟨1, 0, none⟩ = some (.iface 169 (.pointer (some (eb .sick)))) := G.var' .sick hS
  rw [hk] at c5
  clear h G hS hk
  go_enter Tryz.func15, Tryz.ntmps15
  go_wp2_with fail
  go_ret
  exact ⟨rfl, rfl⟩
set_option maxRecDepth 100000 in
set_option maxHeartbeats 1000000 in
theorem seg_sync_go {D : ADisk} {ow : Own} (h : SegAt w bd bs s) (hD : DiskAt w bd D ow K) (hbn : ow bs = none) (G : Glob w K eb S) (h5 : s.sick = false) :
    Calls Tryz.prog 15 #[.pointer (some ⟨bs, 0, none⟩)] w fun e w' => e = .returned (erV eb (opE D (goneE D.names s.name))) ∧
      OpMid w bd bs K (OpR D (goneE D.names s.name) false false (fun D D' => D' = syncD s.name D) (fun _ _ _ => False)) { s with sick := (opE D (goneE D.names s.name)).isSome } ow w' := by
  have c5 : w.cell? ⟨bs, 5, none⟩ = some (.bool s.sick) := cell_at h 5
  have c0 : w.cell? ⟨bs, 0, none⟩ = some (.pointer (some ⟨bd, 0, none⟩)) := cell_at h 0
  have c1 : w.cell? ⟨bs, 1, none⟩ = some (.string s.name) := cell_at h 1
  rw [h5] at c5
  have hF1 : Fr (fun _ => False) w w.drew := (Fr.refl _ w).drew
  obtain ⟨x, hx⟩ : ∃ x, x = opE D (goneE D.names s.name) := ⟨_, rfl⟩
  rw [← hx]
  have HA := Lib.hid ((disk_sync hD.drew (G.fr hF1 (fun _ h => h.elim)) s.name).mono (R' := fun e w3 => e = .returned (erV eb x) ∧ OpMid w bd bs K (OpR D (goneE D.names s.name) false false (fun D D' => D' = syncD s.name D) (fun _ _ _ => False)) s ow w3) (fun e w3 q => ⟨by rw [q.1, hx], opMid_of hF1 h hbn q.2⟩))
  have HM := Lib.hid (fun w3 (q : OpMid w bd bs K (OpR D (goneE D.names s.name) false false (fun D D' => D' = syncD s.name D) (fun _ _ _ => False)) s ow w3) => opMid_met (eb := eb) q h5 x)
  clear h hD hbn G h5 hF1 hx
  go_enter Tryz.func15, Tryz.ntmps15
  go_wp2_with fail
  go_region_with (first
    | (go_at_call 30; refine HA.out.mono ?_; rintro e w3 ⟨rfl, hm3⟩; have HM3 := Lib.hid hm3; clear hm3)
    | (go_at_call 28; refine (HM.out _ HM3.out).mono ?_; rintro e w4 ⟨rfl, hm4⟩; have HM4 := Lib.hid hm4; clear hm4))
  all_goals
    go_wp2_with fail
    go_ret
    exact ⟨rfl, HM4.out⟩
end
end Go.Proofs.YtabfcciejhbajaaGreatDoor

namespace Go.Proofs.YtabfcciejhbajaaGreatDoor
open Go Go.RowKit

theorem sorted_len {l : List Int} {a N : Int} (h : l.Pairwise (· < ·)) (ha : ∀ k ∈ l, a ≤ k) (hN : ∀ k ∈ l, k < N) (haN : a ≤ N) : (l.length : Int) ≤ N - a := by
  induction l generalizing a with
  | nil => simp; omega
  | cons x l ih =>
    rw [List.pairwise_cons] at h
    have hx := hN x (by simp)
    have hax := ha x (by simp)
    have := ih (a := x + 1) h.2 (fun k hk => by have := h.1 k hk; omega) (fun k hk => hN k (by simp [hk])) (by omega)
    simp only [List.length_cons]
    omega
theorem bad_len {s : Side} {l : List Int} (hw : WFSide s) (hl : ListOf s.bad l) : l.length ≤ 1099511627776 := by
  have hm : (s.data.length : Int) ≤ 1099511627776 := by have := hw.len; unfold maxData at this; omega
  have := sorted_len (a := 0) (N := 1099511627776) hl.1 (fun k hk => (hw.bad k ((hl.2 k).1 hk)).1) (fun k hk => by have := hw.bad k ((hl.2 k).1 hk); omega) (by omega)
  omega
theorem scanN_count (data : List UInt8) (bad : List Int) (m k first : Nat) (h : (k + m) * 512 ≤ data.length) : (scanN data bad m k first).1.length ≤ 247 * m ∧ (scanN data bad m k first).2 ≤ k + m := by
  induction m generalizing k first with
  | zero => simp [scanN]
  | succ m ih =>
    simp only [scanN]
    split
    · simp
    · split
      · simp
      · rename_i a rs hd
        have hb : (blkB data k).length = 512 := by
          unfold blkB
          have := Nat.mul_le_mul_right 512 (show k + 1 ≤ k + (m + 1) from by omega)
          rw [List.length_take, List.length_drop]; omega
        have hr := decodeB_room hd hb
        split
        · have := ih (k + 1) (first + rs.length) (by rw [show k + 1 + m = k + (m + 1) from by omega]; exact h)
          simp only [List.length_append]
          omega
        · simp
theorem scanB_count (data : List UInt8) (bad : List Int) (first : Nat) : (scanB data bad first).1.length ≤ 247 * (data.length / 512) ∧ (scanB data bad first).2 ≤ data.length / 512 := by
  have := scanN_count data bad (data.length / 512) 0 first (by omega)
  rw [Nat.zero_add] at this
  exact this
/-- the segment that Open answers -/
def openSeg (data : List UInt8) (bad : List Int) (first : Nat) : ASeg :=
  { name := nameB first, next := first + (scanB data bad first).1.length, blocks := (scanB data bad first).2, whole := decide (data.length = (scanB data bad first).2 * 512), sick := false }
section
variable {w : World} {bd K : Nat} {eb : Er → Addr} {S : Er → Bool} {D : ADisk} {ow : Own}
set_option maxRecDepth 100000 in
set_option maxHeartbeats 1000000 in
theorem seg_open_err (hD : DiskAt w bd D ow K) (E : Env w K eb S) (first : Nat) (hg : goodB first = true) (x : Er) (hx : readE D (nameB first) = some x) :
    Calls Tryz.prog 16 #[.pointer (some ⟨bd, 0, none⟩), .int .u64 first] w fun e w' => e = .returned (.tuple #[.pointer none, .slice none 0 0, erV eb (some x)]) ∧ Fr (fun _ => False) w w' := by
  have hf64 : first < 18446744073709551616 := by unfold goodB at hg; have := of_decide_eq_true hg; omega
  have HC := Lib.hid (seg_check w K eb S E.G bd first)
  rw [show erV eb (checkE first) = .nilIface from by unfold checkE; rw [if_pos hg]; rfl] at HC
  have HN := Lib.hid (seg_name w K eb S E first hf64)
  have HD := Lib.hid hD
  have HE := Lib.hid E
  have HX := Lib.hid hx
  have e2 := neq_er
  have e3 := neq_nilE
  clear hD E hg hx
  go_enter Tryz.func16, Tryz.ntmps16
  go_wp2_with fail
  refine HC.out.mono ?_
  rintro e w1 ⟨rfl, rfl⟩
  go_wp2_with fail
  refine HN.out.mono ?_
  rintro e w2 ⟨rfl, hf2⟩
  obtain ⟨c, hc⟩ := HD.out.out hf2 (fun _ _ h => h)
  have HR := Lib.hid (read_err hc (HE.out.G.fr hf2 (fun _ h => h.elim)) (nameB first) x HX.out)
  have HF2 := Lib.hid hf2
  clear hf2 hc HN HC
  go_wp2_with fail
  refine HR.out.mono ?_
  rintro e w3 ⟨rfl, hf3⟩
  have HF3 := Lib.hid hf3
  clear hf3 HR
  rw [show erV eb (some x) = .iface 169 (.pointer (some (eb x))) from rfl]
  go_wp2_with fail
  go_ret3
  exact ⟨rfl, Fr.trans HF2.out HF3.out⟩
set_option maxRecDepth 100000 in
set_option maxHeartbeats 1000000 in
theorem seg_open_ok (hD : DiskAt w bd D ow K) (E : Env w K eb S) (first : Nat) (hg : goodB first = true) (f : Nat) (hd : D.down = false) (hf : D.names (nameB first) = some f) :
    Calls Tryz.prog 16 #[.pointer (some ⟨bd, 0, none⟩), .int .u64 first] w fun e w' => ∃ bs v l, e = .returned (.tuple #[.pointer (some ⟨bs, 0, none⟩), v, .nilIface]) ∧ ListOf (D.file f).seen.bad l ∧
      RecsNew w' w.heap.size v (scanB (D.file f).seen.data l first).1 ∧ SegAt w' bd bs (openSeg (D.file f).seen.data l first) ∧ w.heap.size ≤ bs ∧ Fr (fun _ => False) w w' := by
  have hfl : first ≤ 4611686018427387904 := by unfold goodB at hg; have := of_decide_eq_true hg; omega
  have hf64 : first < 18446744073709551616 := by omega
  have HC := Lib.hid (seg_check w K eb S E.G bd first)
  rw [show erV eb (checkE first) = .nilIface from by unfold checkE; rw [if_pos hg]; rfl] at HC
  have HN := Lib.hid (seg_name w K eb S E first hf64)
  have HD := Lib.hid hD
  have HE := Lib.hid E
  have HFF := Lib.hid hf
  have HDN := Lib.hid hd
  have e3 := neq_nilE
  obtain ⟨data, hdata⟩ : ∃ d, d = (D.file f).seen.data := ⟨_, rfl⟩
  rw [← hdata]
  have HDA := Lib.hid hdata
  clear hD E hg hf hd hdata
  go_enter Tryz.func16, Tryz.ntmps16
  go_wp2_with fail
  refine HC.out.mono ?_
  rintro e w1 ⟨rfl, rfl⟩
  go_wp2_with fail
  refine HN.out.mono ?_
  rintro e w2 ⟨rfl, hf2⟩
  obtain ⟨c, hc⟩ := HD.out.out hf2 (fun _ _ h => h)
  have HWF := Lib.hid (show WFSide (D.file f).seen from by
    obtain ⟨fc, hfc⟩ := hc.files f (hc.inNames _ f HFF.out)
    exact hfc.wf.seen)
  have hR := read_ok hc (nameB first) f HDN.out HFF.out
  rw [← HDA.out] at hR
  have HR := Lib.hid hR
  have HF2 := Lib.hid hf2
  have hz2 := hf2.size
  clear hf2 hc HN HC hR
  go_wp2_with fail
  refine HR.out.mono ?_
  rintro e w3 ⟨v, v2, l, rfl, hrow, hlist, hrow2, hf3⟩
  have hbl := bad_len HWF.out hlist
  have hdl : data.length ≤ 1099511627776 := by rw [HDA.out]; have := HWF.out.len; unfold maxData at this; exact this
  have HLI := Lib.hid hlist
  have HF3 := Lib.hid (Fr.trans HF2.out hf3)
  have hz3 := hf3.size
  obtain ⟨o, cap, hv, ho⟩ : ∃ o cap, v = .slice o data.length cap ∧ ∀ a, o = some a → a.spot = none := by
    rcases hrow.2 with ⟨q, q2⟩ | ⟨g, cap, cur, q, _⟩
    · exact ⟨none, 0, by rw [q, show data.length = 0 from q2], fun a h => by cases h⟩
    · exact ⟨some ⟨g, 0, none⟩, cap, q, fun a h => by cases h; rfl⟩
  obtain ⟨o2, c2, hv2, ho2⟩ : ∃ o cap, v2 = .slice o l.length cap ∧ ∀ a, o = some a → a.spot = none := by
    rcases hrow2.2 with ⟨q, q2⟩ | ⟨g, cap, cur, q, _⟩
    · exact ⟨none, 0, by rw [q, show l.length = 0 from q2], fun a h => by cases h⟩
    · exact ⟨some ⟨g, 0, none⟩, cap, q, fun a h => by cases h; rfl⟩
  subst hv
  subst hv2
  have hE3 := HE.out.fr HF3.out (fun _ h => h.elim)
  have HS := Lib.hid (block_scan w3 K eb S hE3.G hE3.T o o2 cap c2 data l first (ownsRow_slice hrow) ho (ownsRow_slice hrow2) ho2 hf64 hdl hbl)
  have HN2 := Lib.hid (fun w4 (h : Fr (fun _ => False) w3 w4) => seg_name w4 K eb S (hE3.fr h (fun _ h => h.elim)) first hf64)
  have hcnt := scanB_count data l first
  obtain ⟨rs, n, hsc⟩ : ∃ rs n, scanB data l first = (rs, n) := ⟨_, _, rfl⟩
  have HOS := Lib.hid (show openSeg data l first = ⟨nameB first, first + rs.length, n, decide (data.length = n * 512), false⟩ from by unfold openSeg; rw [hsc])
  rw [hsc] at HS hcnt
  simp only at HS hcnt
  have HSC := Lib.hid hsc
  clear hrow hrow2 hf3 hlist hE3 hsc HR ho ho2
  go_wp2_with fail
  refine HS.out.mono ?_
  rintro e w4 ⟨v4, rfl, hrecs, hf4⟩
  obtain ⟨vs4, hvl4, hvo4, hve4⟩ := id hrecs
  obtain ⟨o4, c4, hv4⟩ := (ownsRow_slice hvo4).form
  subst hv4
  have HRE := Lib.hid hrecs
  have HN4 := Lib.hid (HN2.out w4 hf4)
  have HF4 := Lib.hid (Fr.trans HF3.out hf4)
  have hz4 := hf4.size
  clear hrecs hf4 hvl4 hvo4 hve4 HN2 HS
  go_wp2_with fail
  refine HN4.out.mono ?_
  rintro e w5 ⟨rfl, hf5⟩
  have HF5 := Lib.hid (Fr.trans HF4.out hf5)
  have HR5 := Lib.hid (RecsNew.fr HRE.out hf5 (fun _ _ _ h => h))
  have hz5 := hf5.size
  have u1 : IntKind.u64.wrap (rs.length : Int) = rs.length := by rw [IntKind.wrap_u64]; omega
  have u2 : IntKind.u64.wrap ((first : Int) + (rs.length : Int)) = ((first + rs.length : Nat) : Int) := by rw [IntKind.wrap_u64]; omega
  have u3 : IntKind.i64.wrap ((n : Int) * 512) = (n : Int) * 512 := IntWalk.i64_in _ (by omega)
  clear hf5 HRE HN4
  go_wp2_with fail
  go_ret3
  have hbool : ((data.length : Int) == (n : Int) * 512) = decide (data.length = n * 512) := by
    by_cases h : data.length = n * 512
    · rw [decide_eq_true h, beq_iff_eq]; omega
    · rw [decide_eq_false h, beq_eq_false_iff_ne]; omega
  refine ⟨w5.heap.size, _, l, rfl, HLI.out, ?_, ?_, by omega, HF5.out.alloc _⟩
  · rw [HSC.out]
    exact RecsNew.base (RecsNew.fr HR5.out ((Fr.refl (fun _ => False) w5).alloc _) (fun _ _ _ h => h)) (by omega)
  · rw [HOS.out]
    have := (Go.MapKept.heap_alloc w5 (.cells #[.pointer (some ⟨bd, 0, none⟩), .string (nameB first), .int .u64 ((first : Int) + (rs.length : Int)), .int .i64 (n : Nat), .bool ((data.length : Int) == (n : Int) * 512), .bool false] 57)).1
    unfold SegAt
    rw [this, hbool]
    rfl
end
end Go.Proofs.YtabfcciejhbajaaGreatDoor

namespace Go.Proofs.YtabfcciejhbajaaGreatDoor
open Go Go.RowKit

/-- what is read below the first block is not touched above it -/
abbrev FrUp (K : Nat) (w w' : World) : Prop := Fr (fun b => K ≤ b) w w'
theorem SliceIs.low {w w' : World} {size n : Nat} {v : Value} {xs : List Value} (h : SliceIs w size v n xs) (hf : FrUp w.heap.size w w') : SliceIs w' size v n xs := by
  rcases h with h | ⟨a, c, h1, h2, h3, h4⟩
  · exact .inl h
  · exact .inr ⟨a, c, h1, h2, h3, fun j u hu => (hf.cell (World.block_lt_of_cell? _ _ (h4 j u hu)) (by have := World.block_lt_of_cell? _ _ (h4 j u hu); omega)).trans (h4 j u hu)⟩
theorem RecsIn.low {w w' : World} {v : Value} {rs : List (List UInt8)} (h : RecsIn w v rs) (hf : FrUp w.heap.size w w') : RecsIn w' v rs := by
  obtain ⟨vs, h1, h2, h3⟩ := h
  exact ⟨vs, h1, h2.low hf, fun j u l hu hl => SliceIs.low (h3 j u l hu hl) hf⟩
theorem FrUp.none {K : Nat} {w w' : World} (h : Fr (fun _ => False) w w') : FrUp K w w' := h.mono (fun _ _ h => h.elim)
theorem RecsIn.form {w : World} {v : Value} {rs : List (List UInt8)} (h : RecsIn w v rs) : ∃ o c, v = .slice o rs.length c := by
  obtain ⟨vs, _, h2, _⟩ := h
  exact h2.form
end Go.Proofs.YtabfcciejhbajaaGreatDoor

namespace Go.Proofs.YtabfcciejhbajaaGreatDoor
open Go Go.RowKit

def emptyD : ADisk := { names := fun _ => none, safe := fun _ => none, waiting := [], born := 0, ops := 0, since := 0, fails := [], cut := 0, down := false, file := fun _ => newAFile 0 }
def emptyO (n : Nat) : Own := fun b => if b = n then some .names else if b = n + 1 then some .safe else if b = n + 2 then some .disk else none
theorem emptyO_lt {n b : Nat} {r : Role} (h : emptyO n b = some r) : n ≤ b ∧ b < n + 3 := by
  unfold emptyO at h
  split at h
  · omega
  · split at h
    · omega
    · split at h
      · omega
      · cases h
theorem new_disk (w : World) (K : Nat) (hK : K ≤ w.heap.size) :
    Calls Tryz.prog 9 #[] w fun e w' => ∃ bd ow, e = .returned (.pointer (some ⟨bd, 0, none⟩)) ∧ DiskAt w' bd emptyD ow K ∧ Fr (fun _ => False) w w' ∧ w.heap.size ≤ bd := by
  refine (disk_new w).mono ?_
  rintro e w' ⟨rfl, rfl⟩
  refine ⟨_, emptyO w.heap.size, rfl, ?_, (((Fr.refl _ _).alloc _).alloc _).alloc _, by omega⟩
  have s1 : (w.alloc (.map #[] 0)).heap.size = w.heap.size + 1 := by simp
  have s2 : ((w.alloc (.map #[] 0)).alloc (.map #[] 0)).heap.size = w.heap.size + 2 := by simp
  have m0 : MapAt strE fileV (w.alloc (.map #[] 0)) w.heap.size (fun _ => none) := MapAt.made w
  have m1 : MapAt strE fileV ((w.alloc (.map #[] 0)).alloc (.map #[] 0)) (w.heap.size + 1) (fun _ => none) := by have := MapAt.made (E := strE) (V := fileV) (w.alloc (.map #[] 0)); rw [s1] at this; exact this
  have hb : ∀ (o : Obj) (w1 : World) (b : Nat), b < w1.heap.size → (w1.alloc o).heap[b]? = w1.heap[b]? := fun o w1 b h => (Go.MapKept.heap_alloc w1 o).2 b h
  refine ⟨⟨w.heap.size, w.heap.size + 1, .slice none 0 0, .slice none 0 0⟩, ?_⟩
  constructor
  · intro b r h
    have := emptyO_lt h
    exact ⟨by omega, by simp; omega⟩
  · simp [emptyO]
  · have := (Go.MapKept.heap_alloc ((w.alloc (.map #[] 0)).alloc (.map #[] 0)) (.cells #[.map (some w.heap.size), .map (some (w.heap.size + 1)), .slice none 0 0, .int .i64 0, .int .i64 0, .int .i64 0, .slice none 0 0, .int .i64 0, .bool false] 54)).1
    rw [s2] at this
    exact this
  · simp [emptyO]
  · exact m0.of_block ((hb _ _ _ (by omega)).trans (hb _ _ _ (by omega)))
  · simp [emptyO]
  · exact m1.of_block (hb _ _ _ (by omega))
  · exact ⟨World.ownsRow_nil _ _ _ _, fun g h => by cases h⟩
  · exact ⟨World.ownsRow_nil _ _ _ _, fun g h => by cases h⟩
  · intro f h
    unfold emptyO at h
    split at h
    · cases h
    · split at h
      · cases h
      · split at h
        · cases h
        · cases h
  · simp [emptyD]
  · intro n f h; cases h
  · intro n f h; cases h
  · intro c h; simp [emptyD] at h
/-- nothing is armed, the power is on, at most N operations so far -/
structure Calm (D : ADisk) (N : Nat) : Prop where
  down : D.down = false
  fails : D.fails = []
  cut : D.cut = 0
  since : 0 ≤ D.since ∧ D.since ≤ N
  ops : 0 ≤ D.ops ∧ D.ops ≤ N
theorem emptyD_calm : Calm emptyD 0 := ⟨rfl, rfl, rfl, by simp [emptyD], by simp [emptyD]⟩
theorem tick_ops {D : ADisk} {N : Nat} (h : Calm D N) (hN : N ≤ 1099511627776) : D.tick.ops = D.ops + 1 ∧ D.tick.since = D.since + 1 := by
  have h1 := h.ops
  have h2 := h.since
  exact ⟨IntWalk.wrap64_in _ (by omega), IntWalk.wrap64_in _ (by omega)⟩
theorem Calm.tick {D : ADisk} {N : Nat} (h : Calm D N) (hN : N ≤ 1099511627776) : Calm D.tick (N + 1) := by
  obtain ⟨q1, q2⟩ := tick_ops h hN
  have h1 := h.ops
  have h2 := h.since
  exact ⟨h.down, h.fails, h.cut, by rw [q2]; omega, by rw [q1]; omega⟩
theorem Calm.arm {D : ADisk} {N : Nat} (h : Calm D N) (hN : N ≤ 1099511627776) : D.arm = (0, none) := by
  have h1 := (h.tick hN).since
  obtain ⟨_, q2⟩ := tick_ops h hN
  have h2 := h.since
  unfold ADisk.arm armedOf
  rw [(h.tick hN).fails, (h.tick hN).cut, if_neg (by rw [q2]; omega)]
  rfl
theorem Calm.opE {D : ADisk} {N : Nat} (h : Calm D N) (hN : N ≤ 1099511627776) (ref : Option Er) : opE D ref = ref := by
  unfold Go.Proofs.YtabfcciejhbajaaGreatDoor.opE runE
  rw [if_neg (by rw [h.down]; decide), h.arm hN]
theorem Calm.op {D : ADisk} {N : Nat} (h : Calm D N) (hN : N ≤ 1099511627776) {waits part : Bool} {f : ADisk → ADisk → Prop} {g : Int → ADisk → ADisk → Prop} {D' : ADisk} (ho : OpR D none waits part f g D') : f D.tick D' :=
  (op_none (h.opE hN none) ho).2.2.2
/-- the disk holds a file of these bytes, all of them readable -/
structure DSt (D : ADisk) (nm : ByteArray) (f : Nat) (data : List UInt8) (N : Nat) : Prop where
  calm : Calm D N
  has : D.names nm = some f
  data : (D.file f).seen.data = data
  bad : ∀ k, (D.file f).seen.bad k = none
theorem DSt.tick {D : ADisk} {nm : ByteArray} {f : Nat} {data : List UInt8} {N : Nat} (h : DSt D nm f data N) (hN : N ≤ 1099511627776) : DSt D.tick nm f data (N + 1) :=
  ⟨h.calm.tick hN, h.has, h.data, h.bad⟩
theorem DSt.gone {D : ADisk} {nm : ByteArray} {f : Nat} {data : List UInt8} {N : Nat} (h : DSt D nm f data N) : goneE D.names nm = none := by
  unfold goneE; rw [h.has]; rfl
theorem addF_data (x : AFile) (l : List UInt8) : (addF x l).seen.data = x.seen.data ++ l := by
  unfold addF
  split
  · rename_i h; rw [h, List.append_nil]
  · rfl
theorem addF_bad (x : AFile) (l : List UInt8) (h : ∀ k, x.seen.bad k = none) (k : Int) : (addF x l).seen.bad k = none := by
  unfold addF
  split
  · exact h k
  · simp only [rng]
    split
    · rfl
    · exact h k
theorem DSt.append {D D' : ADisk} {nm : ByteArray} {f : Nat} {data l : List UInt8} {N : Nat} (h : DSt D nm f data N) (hd : D' = appendD nm l D) : DSt D' nm f (data ++ l) N := by
  rw [appendD_some h.has] at hd
  subst hd
  refine ⟨⟨h.calm.down, h.calm.fails, h.calm.cut, h.calm.since, h.calm.ops⟩, h.has, ?_, fun k => ?_⟩
  · simp only [upd_same, addF_data, h.data]
  · simp only [upd_same]; exact addF_bad _ _ h.bad k
theorem DSt.sync {D D' : ADisk} {nm : ByteArray} {f : Nat} {data : List UInt8} {N : Nat} (h : DSt D nm f data N) (hd : D' = syncD nm D) : DSt D' nm f data N := by
  have he : syncD nm D = { D with file := upd D.file f (syncF (D.file f)) } := by unfold syncD; rw [h.has]
  rw [he] at hd
  subst hd
  refine ⟨⟨h.calm.down, h.calm.fails, h.calm.cut, h.calm.since, h.calm.ops⟩, h.has, ?_, fun k => ?_⟩
  · simp only [upd_same, syncF, h.data]
  · simp only [upd_same, syncF]; exact h.bad k
theorem DSt.list {D : ADisk} {nm : ByteArray} {f : Nat} {data : List UInt8} {N : Nat} {l : List Int} (h : DSt D nm f data N) (hl : ListOf (D.file f).seen.bad l) : l = [] := by
  cases l with
  | nil => rfl
  | cons x l => exact absurd (h.bad x) ((hl.2 x).1 (by simp))
/-- a segment made on a disk at rest -/
theorem create_calm {D D1 : ADisk} {nm : ByteArray} {N : Nat} (h : Calm D N) (hN : N ≤ 1099511627770) (hc : createR nm D.tick D1) : ∃ f, DSt D1 nm f [] (N + 1) ∧ DSt (syncNamesD D1.tick) nm f [] (N + 2) := by
  obtain ⟨b, _, rfl⟩ := hc
  have ht := h.tick (by omega)
  have h1 : DSt (createD nm D.tick b) nm b [] (N + 1) :=
    ⟨⟨ht.down, ht.fails, ht.cut, ht.since, ht.ops⟩, by simp [createD, upd_same], by simp [createD, upd_same, newAFile], by simp [createD, upd_same, newAFile]⟩
  have h2 := h1.tick (by omega)
  exact ⟨b, h1, ⟨⟨h2.calm.down, h2.calm.fails, h2.calm.cut, h2.calm.since, h2.calm.ops⟩, h2.has, h2.data, h2.bad⟩⟩
end Go.Proofs.YtabfcciejhbajaaGreatDoor

namespace Go.Proofs.YtabfcciejhbajaaGreatDoor
open Go Go.RowKit

/-- a segment and its disk lie in memory, the disk holding the segment's file -/
structure SegSt (w : World) (bd bs K : Nat) (D : ADisk) (ow : Own) (s : ASeg) (f : Nat) (data : List UInt8) (N : Nat) : Prop where
  disk : DiskAt w bd D ow K
  st : DSt D s.name f data N
  seg : SegAt w bd bs s
  out : ow bs = none
  up : K ≤ bs
/-- behind a step: only the disk's blocks and the segment's have changed -/
def StepTo (w : World) (_bd _bs K : Nat) (P : ADisk → Own → World → Prop) (w' : World) : Prop := ∃ D' ow', P D' ow' w' ∧ FrUp K w w'
theorem SegSt.fr {w w' : World} {bd bs K : Nat} {D : ADisk} {ow : Own} {s : ASeg} {f : Nat} {data : List UInt8} {N : Nat} (h : SegSt w bd bs K D ow s f data N) (hf : Fr (fun _ => False) w w') : SegSt w' bd bs K D ow s f data N :=
  ⟨h.disk.out hf (fun _ _ h => h), h.st, h.seg.fr hf (fun h => h), h.out, h.up⟩
theorem SegSt.off {w w' : World} {bd bs K : Nat} {D : ADisk} {ow : Own} {s : ASeg} {f : Nat} {data : List UInt8} {N : Nat} {T : Nat → Prop} (h : SegSt w bd bs K D ow s f data N) (hf : Fr T w w') (hT : ∀ b, T b → ow b = none ∧ b ≠ bs) : SegSt w' bd bs K D ow s f data N :=
  ⟨h.disk.out hf (fun b hb ht => hb (hT b ht).1), h.st, h.seg.fr hf (fun ht => (hT bs ht).2 rfl), h.out, h.up⟩
theorem owUp {w w' : World} {bd bs K : Nat} {D : ADisk} {ow : Own} {s : ASeg} {f : Nat} {data : List UInt8} {N : Nat} (h : SegSt w bd bs K D ow s f data N) (hf : Fr (fun b => ow.has b ∨ b = bs) w w') : FrUp K w w' :=
  hf.mono (fun b _ q => by
    rcases q with q | q
    · exact own_geD h.disk b q
    · rw [q]; exact h.up)
theorem new_create {w : World} {bd K : Nat} {eb : Er → Addr} {S : Er → Bool} {ow : Own} (hD : DiskAt w bd emptyD ow K) (E : Env w K eb S) (first : Nat) (hg : goodB first = true) :
    Calls Tryz.prog 10 #[.pointer (some ⟨bd, 0, none⟩), .int .u64 first] w fun e w' => ∃ bs D2 ow2 f, e = .returned (.tuple #[.pointer (some ⟨bs, 0, none⟩), .nilIface]) ∧
      SegSt w' bd bs K D2 ow2 ⟨nameB first, first, 0, true, false⟩ f [] 2 ∧ FrUp K w w' := by
  refine (seg_create hD E first hg (by simp [emptyD])).mono ?_
  rintro e w' h
  have hce : createE emptyD (nameB first) = none := by unfold createE; rw [nameB_good]; simp [emptyD]
  have ho : opE emptyD (createE emptyD (nameB first)) = none := by rw [emptyD_calm.opE (by omega), hce]
  rcases h with ⟨x, hx, _⟩ | ⟨_, D1, hcr, h⟩
  · rw [ho] at hx; cases hx
  · obtain ⟨f, h1, h2⟩ := create_calm emptyD_calm (by omega) hcr
    rcases h with ⟨x, hx, _⟩ | ⟨_, bs, ow2, he, hD2, hfr, hext, hseg, hbw, hbn⟩
    · rw [h1.calm.opE (by omega)] at hx; cases hx
    · exact ⟨bs, _, ow2, f, he, ⟨hD2, h2, hseg, hbn, Nat.le_trans E.G.size hbw⟩, hfr.mono (fun b _ q => own_geD hD b q)⟩
section
variable {w : World} {bd bs K : Nat} {eb : Er → Addr} {S : Er → Bool} {D : ADisk} {ow : Own} {s : ASeg} {f : Nat} {data : List UInt8} {N : Nat}
theorem step_append (h : SegSt w bd bs K D ow s f data N) (E : Env w K eb S) (h5 : s.sick = false) (h4 : s.whole = true) (hnx : s.next < 18446744073709551616) (hbl : s.blocks ≤ 4398046511104) (hN : N ≤ 1099511627776)
    (g off cap : Nat) (rs : List (List UInt8)) (hv : RecsIn w (.slice (some ⟨g, off, none⟩) rs.length cap) rs) (hcap : rs.length ≤ cap) (hn : rs.length ≤ 1073741824) (h0 : rs ≠ []) (hx : packE s.next rs = none) (hd : data.length + 512 * rs.length ≤ 1099511627776) :
    Calls Tryz.prog 14 #[.pointer (some ⟨bs, 0, none⟩), .slice (some ⟨g, off, none⟩) rs.length cap] w fun e w' => e = .returned .nilIface ∧
      ∃ D' ow', SegSt w' bd bs K D' ow' { s with next := s.next + rs.length, blocks := s.blocks + (packB s.next rs).length / 512 } f (data ++ packB s.next rs) (N + 1) ∧ FrUp K w w' ∧ Fr (fun b => ow.has b ∨ b = bs) w w' ∧ ow.ext ow' w := by
  refine (seg_append_go h.seg h.disk h.out E h5 h4 hnx hbl g off cap rs hv hcap hn h0 hx (fun f' hf' => ?_)).mono ?_
  · have : f' = f := by have := h.st.has; rw [hf'] at this; cases this; rfl
    subst this
    rw [h.st.data]
    have := packB_length s.next rs
    unfold maxData; omega
  · rintro e w' ⟨rfl, D', ow', hR, hD', hfr, hext, hseg⟩
    have hop : opE D (goneE D.names s.name) = none := by rw [h.st.gone, h.st.calm.opE hN]
    rw [hop] at hseg ⊢
    rw [h.st.gone] at hR
    have hd' := h.st.calm.op hN hR
    exact ⟨rfl, D', ow', ⟨hD', (h.st.tick hN).append hd', hseg, hext bs h.seg.lt h.out, h.up⟩, owUp h hfr, hfr, hext⟩
theorem step_sync (h : SegSt w bd bs K D ow s f data N) (E : Env w K eb S) (h5 : s.sick = false) (hN : N ≤ 1099511627776) :
    Calls Tryz.prog 15 #[.pointer (some ⟨bs, 0, none⟩)] w fun e w' => e = .returned .nilIface ∧ ∃ D' ow', SegSt w' bd bs K D' ow' s f data (N + 1) ∧ FrUp K w w' ∧ Fr (fun b => ow.has b ∨ b = bs) w w' ∧ ow.ext ow' w := by
  refine (seg_sync_go h.seg h.disk h.out E.G h5).mono ?_
  rintro e w' ⟨rfl, D', ow', hR, hD', hfr, hext, hseg, hb⟩
  have hop : opE D (goneE D.names s.name) = none := by rw [h.st.gone, h.st.calm.opE hN]
  rw [hop] at hseg ⊢
  rw [h.st.gone] at hR
  have hd' := h.st.calm.op hN hR
  have hs : ({ s with sick := (none : Option Er).isSome } : ASeg) = s := by cases s; simp only at h5; subst h5; rfl
  rw [hs] at hseg
  exact ⟨rfl, D', ow', ⟨hD', (h.st.tick hN).sync hd', hseg, hb, h.up⟩, owUp h hfr, hfr, hext⟩
theorem step_open (h : SegSt w bd bs K D ow s f data N) (E : Env w K eb S) (first : Nat) (hg : goodB first = true) (hnm : s.name = nameB first) :
    Calls Tryz.prog 16 #[.pointer (some ⟨bd, 0, none⟩), .int .u64 first] w fun e w' => ∃ bt v, e = .returned (.tuple #[.pointer (some ⟨bt, 0, none⟩), v, .nilIface]) ∧
      RecsNew w' w.heap.size v (scanB data [] first).1 ∧ SegSt w' bd bt K D ow (openSeg data [] first) f data N ∧ w.heap.size ≤ bt ∧ Fr (fun _ => False) w w' := by
  refine (seg_open_ok h.disk E first hg f h.st.calm.down (by rw [← hnm]; exact h.st.has)).mono ?_
  rintro e w' ⟨bt, v, l, rfl, hl, hrec, hseg, hbt, hfr⟩
  have hl0 := h.st.list hl
  subst hl0
  rw [h.st.data] at hrec hseg
  exact ⟨bt, v, rfl, hrec, ⟨h.disk.out hfr (fun _ _ h => h), by have := h.st; rw [hnm] at this; exact this, hseg, own_none h.disk hbt, Nat.le_trans E.G.size hbt⟩, hbt, hfr⟩
theorem step_junk (h : SegSt w bd bs K D ow s f data N) (E : Env w K eb S) (hN : N ≤ 1099511627776) (v : Value) (l : List UInt8) (hv : BytesAt w v l) (hvo : OutOf ow v) (hd : data.length + l.length ≤ 1099511627776) :
    Calls Tryz.prog 29 #[.pointer (some ⟨bd, 0, none⟩), .string s.name, v] w fun e w' => e = .returned .nilIface ∧ ∃ D' ow', SegSt w' bd bs K D' ow' s f (data ++ l) (N + 1) ∧ FrUp K w w' ∧ Fr (fun b => ow.has b ∨ b = bs) w w' ∧ ow.ext ow' w := by
  refine (disk_append h.disk E.G s.name v l hv hvo (fun f' hf' => ?_)).mono ?_
  · have : f' = f := by have := h.st.has; rw [hf'] at this; cases this; rfl
    subst this
    rw [h.st.data]
    unfold maxData; exact hd
  · rintro e w' ⟨rfl, D', ow', hR, hD', hfr, hext⟩
    have hop : opE D (goneE D.names s.name) = none := by rw [h.st.gone, h.st.calm.opE hN]
    rw [hop]
    rw [h.st.gone] at hR
    have hd' := h.st.calm.op hN hR
    exact ⟨rfl, D', ow', ⟨hD', (h.st.tick hN).append hd', h.seg.fr hfr (fun q => q h.out), hext bs h.seg.lt h.out, h.up⟩, owUp h (hfr.mono (fun b _ q => .inl q)), hfr.mono (fun b _ q => .inl q), hext⟩
end
end Go.Proofs.YtabfcciejhbajaaGreatDoor

namespace Go.Proofs.YtabfcciejhbajaaGreatDoor
open Go Go.RowKit

theorem FrUp.env {w w' : World} {K : Nat} {eb : Er → Addr} {S : Er → Bool} (E : Env w K eb S) (hf : FrUp K w w') : Env w' K eb S := E.fr hf (fun _ h => h)
theorem bytes_block {w : World} {b : Nat} {l : List UInt8} {arr : Array Value} {t : TypeId} {z : Nat × Nat} (h : w.heap[b]? = some (.cells arr t z)) (ha : arr.toList = l.map byteV) (n : Nat) (hn : l.length = n) :
    BytesAt w (.slice (some ⟨b, 0, none⟩) n n) l := by
  subst hn
  refine .inr ⟨_, _, rfl, Nat.le_refl _, by simp, fun j u hu => ?_⟩
  rw [addr_add, cell_at h, Nat.zero_add, ← Array.getElem?_toList, ha]
  exact hu
theorem recs_two (w : World) : RecsIn (((w.alloc (.cells #[.int .u8 97, .int .u8 98] 5 (2, 3))).alloc (.cells #[.int .u8 99] 5 (1, 2))).alloc
    (.cells #[.slice (some ⟨w.heap.size, 0, none⟩) 2 2, .slice (some ⟨w.heap.size + 1, 0, none⟩) 1 1] 38)) (.slice (some ⟨w.heap.size + 1 + 1, 0, none⟩) 2 2) [[97, 98], [99]] := by
  have hb : ∀ (o : Obj) (w1 : World) (b : Nat), b < w1.heap.size → (w1.alloc o).heap[b]? = w1.heap[b]? := fun o w1 b h => (Go.MapKept.heap_alloc w1 o).2 b h
  have hn : ∀ (o : Obj) (w1 : World), (w1.alloc o).heap[w1.heap.size]? = some o := fun o w1 => (Go.MapKept.heap_alloc w1 o).1
  have s1 : (w.alloc (.cells #[.int .u8 97, .int .u8 98] 5 (2, 3))).heap.size = w.heap.size + 1 := by simp
  have s2 : ((w.alloc (.cells #[.int .u8 97, .int .u8 98] 5 (2, 3))).alloc (.cells #[.int .u8 99] 5 (1, 2))).heap.size = w.heap.size + 1 + 1 := by simp
  have h1 := hn (.cells #[.int .u8 97, .int .u8 98] 5 (2, 3)) w
  have h2 := hn (.cells #[.int .u8 99] 5 (1, 2)) (w.alloc (.cells #[.int .u8 97, .int .u8 98] 5 (2, 3)))
  have h3 := hn (.cells #[.slice (some ⟨w.heap.size, 0, none⟩) 2 2, .slice (some ⟨w.heap.size + 1, 0, none⟩) 1 1] 38) ((w.alloc (.cells #[.int .u8 97, .int .u8 98] 5 (2, 3))).alloc (.cells #[.int .u8 99] 5 (1, 2)))
  rw [s1] at h2
  rw [s2] at h3
  refine ⟨[.slice (some ⟨w.heap.size, 0, none⟩) 2 2, .slice (some ⟨w.heap.size + 1, 0, none⟩) 1 1], rfl, .inr ⟨_, 2, rfl, by simp, rfl, fun j u hu => ?_⟩, fun j u l hu hl => ?_⟩
  · rw [addr_add, cell_at h3, Nat.zero_add, ← Array.getElem?_toList]; exact hu
  · match j, hu, hl with
    | 0, hu, hl =>
      cases hu; cases hl
      exact bytes_block ((hb _ _ _ (by omega)).trans ((hb _ _ _ (by omega)).trans h1)) rfl 2 rfl
    | 1, hu, hl =>
      cases hu; cases hl
      exact bytes_block ((hb _ _ _ (by omega)).trans h2) rfl 1 rfl
    | j + 2, hu, _ => simp at hu
theorem pack7 : packE 7 [[97, 98], [99]] = none := by decide
theorem pack7_length : (packB 7 [[97, 98], [99]]).length = 512 := by
  have h : packB 7 [[97, 98], [99]] = encodeB 7 [[97, 98], [99]] := by simp [packB, packN, fitN]
  rw [h]
  exact encodeB_length _ _ (by decide)
theorem good7 : GoodAt 7 (packB 7 [[97, 98], [99]]) [[97, 98], [99]] 1 := by
  have := packB_good 7 [[97, 98], [99]] (.inr (by decide)) (by decide)
  rw [pack7_length] at this
  exact this
set_option maxRecDepth 100000 in
set_option maxHeartbeats 2000000 in
theorem law_awake (w : World) (K : Nat) (eb : Er → Addr) (S : Er → Bool) (E : Env w K eb S) :
    Calls Tryz.prog 4 #[] w fun e w' => e = .returned (.bool true) ∧ FrUp K w w' := by
  have HN := Lib.hid (new_disk w K E.G.size)
  have HE := Lib.hid E
  have hKw := E.G.size
  clear E
  have e2 := neq_er
  have e3 := neq_nilE
  have e4 := eql_nil
  go_enter Tryz.func4, Tryz.ntmps4
  go_wp2_with fail
  refine HN.out.mono ?_
  rintro e w1 ⟨bd, ow, rfl, hD, hfr, hbd⟩
  have HF1 := Lib.hid (FrUp.none (K := K) hfr)
  have HC := Lib.hid (new_create hD (HF1.out.env HE.out) 7 (by decide))
  clear hD hfr HN
  go_wp2_with fail
  refine HC.out.mono ?_
  rintro e w2 ⟨bs, D, ow2, f, rfl, hst, hfr⟩
  have HF2 := Lib.hid (Fr.trans HF1.out hfr)
  have HS := Lib.hid hst
  have HX1 := Lib.hid (seg_next hst.seg)
  have HX2 := Lib.hid (seg_blocks hst.seg)
  have HX3 := Lib.hid (seg_whole hst.seg)
  clear hst hfr HC
  go_wp2_with fail
  refine HX1.out.mono ?_
  rintro e w' ⟨rfl, rfl⟩
  go_wp2_with fail
  refine HX2.out.mono ?_
  rintro e w'' ⟨rfl, rfl⟩
  go_wp2_with fail
  refine HX3.out.mono ?_
  rintro e w3 ⟨rfl, rfl⟩
  have cs1 : (convert 38 38 (.slice (some ⟨w3.heap.size, 0, none⟩) 2 2)).run Tryz.prog (w3.alloc (.cells #[.int .u8 97, .int .u8 98] 5)) = .ok (.slice (some ⟨w3.heap.size, 0, none⟩) 2 2) (w3.alloc (.cells #[.int .u8 97, .int .u8 98] 5 (2, 3))) := Lib.run_convert_bytes_const w3 38 5 #[.int .u8 97, .int .u8 98] 2 2 Tryz.underlying38 Tryz.underlying5
  have cs2 : (convert 38 38 (.slice (some ⟨w3.heap.size + 1, 0, none⟩) 1 1)).run Tryz.prog ((w3.alloc (.cells #[.int .u8 97, .int .u8 98] 5 (2, 3))).alloc (.cells #[.int .u8 99] 5)) = .ok (.slice (some ⟨w3.heap.size + 1, 0, none⟩) 1 1) ((w3.alloc (.cells #[.int .u8 97, .int .u8 98] 5 (2, 3))).alloc (.cells #[.int .u8 99] 5 (1, 2))) := by
    have := Lib.run_convert_bytes_const (w3.alloc (.cells #[.int .u8 97, .int .u8 98] 5 (2, 3))) 38 5 #[.int .u8 99] 1 1 Tryz.underlying38 Tryz.underlying5
    rw [show (w3.alloc (.cells #[.int .u8 97, .int .u8 98] 5 (2, 3))).heap.size = w3.heap.size + 1 from by simp] at this
    exact this
  go_wp2_with fail
  have hrec := recs_two w3
  have hf4 : Fr (fun _ => False) w3 (((w3.alloc (.cells #[.int .u8 97, .int .u8 98] 5 (2, 3))).alloc (.cells #[.int .u8 99] 5 (1, 2))).alloc (.cells #[.slice (some ⟨w3.heap.size, 0, none⟩) 2 2, .slice (some ⟨w3.heap.size + 1, 0, none⟩) 1 1] 38)) := (((Fr.refl _ _).alloc _).alloc _).alloc _
  clear cs1 cs2
  generalize (((w3.alloc (.cells #[.int .u8 97, .int .u8 98] 5 (2, 3))).alloc (.cells #[.int .u8 99] 5 (1, 2))).alloc (.cells #[.slice (some ⟨w3.heap.size, 0, none⟩) 2 2, .slice (some ⟨w3.heap.size + 1, 0, none⟩) 1 1] 38)) = w4 at *
  generalize w3.heap.size + 1 + 1 = z at *
  have HA := Lib.hid (step_append (HS.out.fr hf4) (FrUp.env HE.out (Fr.trans HF2.out (FrUp.none hf4))) rfl rfl (by decide) (by decide) (by decide) z 0 2 [[97, 98], [99]] hrec (by decide) (by decide) (by simp) pack7 (by decide))
  rw [pack7_length] at HA
  have HF4 := Lib.hid (Fr.trans HF2.out (FrUp.none (K := K) hf4))
  clear hrec hf4
  refine HA.out.mono ?_
  rintro e w5 ⟨rfl, D5, ow5, hst5, hf5, _, _⟩
  have HF5 := Lib.hid (Fr.trans HF4.out hf5)
  have HY := Lib.hid (step_sync hst5 (FrUp.env HE.out HF5.out) rfl (by decide))
  clear hst5 hf5 HA
  go_wp2_with fail
  refine HY.out.mono ?_
  rintro e w6 ⟨rfl, D6, ow6, hst6, hf6, _, _⟩
  have HF6 := Lib.hid (Fr.trans HF5.out hf6)
  have hO := step_open hst6 (FrUp.env HE.out HF6.out) 7 (by decide) rfl
  rw [List.nil_append] at hO
  have hos : openSeg (packB 7 [[97, 98], [99]]) [] 7 = ⟨nameB 7, 9, 1, true, false⟩ := by
    unfold openSeg
    rw [good7.scan, pack7_length]
    rfl
  rw [hos, good7.scan] at hO
  have HO := Lib.hid hO
  clear hst6 hf6 HY hO hos
  go_wp2_with fail
  refine HO.out.mono ?_
  rintro e w7 ⟨bt, v, rfl, hrec7, hst7, hbt, hf7⟩
  have HF7 := Lib.hid (Fr.trans HF6.out (FrUp.none (K := K) hf7))
  obtain ⟨g, c, rfl⟩ : ∃ g c, v = .slice (some ⟨g, 0, none⟩) 2 c := by
    obtain ⟨vs, _, h2, _⟩ := hrec7
    rcases h2.2 with ⟨_, q⟩ | ⟨g, c, cur, q, _⟩
    · cases q
    · exact ⟨g, c, q⟩
  obtain ⟨a1, o1, c1, q1, k1, b1⟩ := recs_at (rs := [[97, 98], [99]]) hrec7.seen 0 (by decide)
  cases q1
  obtain ⟨a2, o2, c2, q2, k2, b2⟩ := recs_at (rs := [[97, 98], [99]]) hrec7.seen 1 (by decide)
  cases q2
  have k1' : w7.cell? ⟨g, 0, none⟩ = some (.slice o1 2 c1) := k1
  have k2' : w7.cell? ⟨g, 1, none⟩ = some (.slice o2 1 c2) := k2
  have v1 : (convert 38 9 (.slice o1 2 c1)).run Tryz.prog w7 = .ok (.string ⟨#[97, 98]⟩) w7 := conv_bytes b1
  have v2 : (convert 38 9 (.slice o2 1 c2)).run Tryz.prog w7 = .ok (.string ⟨#[99]⟩) w7 := conv_bytes b2
  have HY1 := Lib.hid (seg_next hst7.seg)
  have HY2 := Lib.hid (seg_blocks hst7.seg)
  have HY3 := Lib.hid (seg_name w7 K eb S (FrUp.env HE.out HF7.out) 255 (by decide))
  clear hrec7 hst7 hf7 HO k1 k2 b1 b2
  go_wp2_with fail
  refine HY1.out.mono ?_
  rintro e w8 ⟨rfl, rfl⟩
  go_wp2_with fail
  refine HY2.out.mono ?_
  rintro e w9 ⟨rfl, rfl⟩
  go_wp2_with fail
  refine HY3.out.mono ?_
  rintro e wA ⟨rfl, hfA⟩
  have HFA := Lib.hid (Fr.trans HF7.out (FrUp.none (K := K) hfA))
  have hn : ((nameB 255).toList == [108, 111, 103, 46, 48, 48, 48, 48, 48, 48, 48, 48, 48, 48, 48, 48, 48, 48, 102, 102]) = true := by
    unfold nameB
    rw [ByteArray.toList_mk]
    decide
  generalize nameB 255 = nm at *
  clear hfA
  go_wp2_with fail
  trace_state
  go_ret
  exact ⟨rfl, HFA.out⟩
end Go.Proofs.YtabfcciejhbajaaGreatDoor
