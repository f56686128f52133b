/-
  (*Segment).Append. Conditions: the segment and its disk lie in memory; the records can be read.
-/
import Derived.Test.YtabfcciejhbajaaGreatDoorM14
namespace Go.Proofs.YtabfcciejhbajaaGreatDoor
open Go Go.RowKit

theorem packN_length (m first : Nat) (rs : List (List UInt8)) : (packN m first rs).length ≤ 512 * m := by
  induction m generalizing first rs with
  | zero => simp [packN]
  | succ m ih =>
    simp only [packN]
    split
    · simp
    · rw [List.length_append, encodeB_length _ _ (by have := fitN_room 0 rs (by omega); omega)]
      have := ih (first + fitN 0 rs) (rs.drop (fitN 0 rs))
      omega
theorem packB_length (first : Nat) (rs : List (List UInt8)) : (packB first rs).length ≤ 512 * rs.length := packN_length _ _ _
/-- block.Pack that refuses -/
theorem pack_bad (w : World) (K : Nat) (eb : Er → Addr) (S : Er → Bool) (G : Glob w K eb S) (first : Nat) (hf : first < 18446744073709551616) (o : Option Addr) (cap : Nat) (rs : List (List UInt8)) (hv : RecsIn w (.slice o rs.length cap) rs) (hn : rs.length ≤ 1099511627776)
    (hlen : ∀ r ∈ rs, r.length ≤ 1099511627776) (x : Er) (hx : packE first rs = some x) :
    Calls Tryz.prog 27 #[.int .u64 first, .slice o rs.length cap] w fun e w' => e = .returned (.tuple #[.slice none 0 0, erV eb (some x)]) ∧ Fr (fun _ => False) w w' := by
  unfold packE at hx
  split at hx
  · cases hx
  · rename_i h0
    split at hx
    · rename_i h1
      cases hx
      exact pack_arg w K eb S G first hf o rs.length cap hn (fun h => h0 (List.eq_nil_of_length_eq_zero h)) h1
    · rename_i h1
      split at hx
      · rename_i h2
        cases hx
        exact pack_long w K eb S G first hf o cap rs hv hn h0 (by simpa using h1) hlen h2
      · cases hx
theorem packE_none {first : Nat} {rs : List (List UInt8)} (h : packE first rs = none) : rs = [] ∨ (rs ≠ [] ∧ numbersB first rs.length = true ∧ ∀ r ∈ rs, r.length ≤ 200) := by
  unfold packE at h
  split at h
  · exact .inl ‹_›
  · rename_i h0
    split at h
    · cases h
    · rename_i h1
      split at h
      · cases h
      · rename_i h2
        refine .inr ⟨h0, by simpa using h1, fun r hr => ?_⟩
        rcases Nat.lt_or_ge 200 r.length with q | q
        · exact absurd (List.any_eq_true.2 ⟨r, hr, by simpa using q⟩) h2
        · exact q
/-- the segment behind an Append of n records in m blocks that answered x -/
def ASeg.after (s : ASeg) (x : Option Er) (n m : Nat) : ASeg := match x with
  | none => { s with next := s.next + n, blocks := s.blocks + m }
  | some _ => { s with sick := true }
/-- behind the disk's Append -/
def AppMid (w : World) (bd bs K : Nat) (D : ADisk) (s : ASeg) (data : List UInt8) (ow : Own) (w3 : World) : Prop :=
  ∃ D' ow', OpR D (goneE D.names s.name) true true (fun D D' => D' = appendD s.name data D) (fun x D D' => D' = appendD s.name (data.take x.toNat) D) D' ∧ DiskAt w3 bd D' ow' K ∧ FrO ow w w3 ∧ ow.ext ow' w ∧ SegAt w3 bd bs s ∧ ow' bs = none
/-- behind met -/
def AppMid2 (w : World) (bd bs K : Nat) (D : ADisk) (s : ASeg) (data : List UInt8) (ow : Own) (x : Option Er) (w3 : World) : Prop :=
  ∃ D' ow', OpR D (goneE D.names s.name) true true (fun D D' => D' = appendD s.name data D) (fun x D D' => D' = appendD s.name (data.take x.toNat) D) D' ∧ DiskAt w3 bd D' ow' K ∧ Fr (fun b => ow.has b ∨ b = bs) w w3 ∧ ow.ext ow' w ∧ SegAt w3 bd bs { s with sick := x.isSome } ∧ ow' bs = none
section
variable {w : World} {bd bs K : Nat} {eb : Er → Addr} {S : Er → Bool} {s : ASeg}
set_option maxRecDepth 100000 in
theorem seg_append_sick (h : SegAt w bd bs s) (G : Glob w K eb S) (hS : S .sick = true) (hk : s.sick = true ∨ s.whole = false) (v : Value) :
    Calls Tryz.prog 14 #[.pointer (some ⟨bs, 0, none⟩), v] w fun e w' => e = .returned (erV eb (some .sick)) ∧ w' = w := by
  have c5 : w.cell? ⟨bs, 5, none⟩ = some (.bool s.sick) := cell_at h 5
  have c4 : w.cell? ⟨bs, 4, none⟩ = some (.bool s.whole) := cell_at h 4
  have vs : w.cell? ⟨1, 0, none⟩ = some (.iface 169 (.pointer (some (eb .sick)))) := G.var' .sick hS
  clear h G hS
  generalize s.sick = b5 at *
  generalize s.whole = b4 at *
  cases b5
  · cases b4
    · clear hk
      go_enter Tryz.func14, Tryz.ntmps14
      go_wp2_with fail
      go_ret
      exact ⟨rfl, rfl⟩
    · simp at hk
  · clear hk
    go_enter Tryz.func14, Tryz.ntmps14
    go_wp2_with fail
    go_ret
    exact ⟨rfl, rfl⟩
set_option maxRecDepth 100000 in
theorem seg_append_none (h : SegAt w bd bs s) (h5 : s.sick = false) (h4 : s.whole = true) (o : Option Addr) (cap : Nat) :
    Calls Tryz.prog 14 #[.pointer (some ⟨bs, 0, none⟩), .slice o 0 cap] w fun e w' => e = .returned .nilIface ∧ w' = w := by
  have c5 : w.cell? ⟨bs, 5, none⟩ = some (.bool s.sick) := cell_at h 5
  have c4 : w.cell? ⟨bs, 4, none⟩ = some (.bool s.whole) := cell_at h 4
  rw [h5] at c5
  rw [h4] at c4
  clear h h5 h4
  go_enter Tryz.func14, Tryz.ntmps14
  go_wp2_with fail
  go_ret
  exact ⟨rfl, rfl⟩
set_option maxRecDepth 100000 in
theorem seg_append_bad (h : SegAt w bd bs s) (G : Glob w K eb S) (h5 : s.sick = false) (h4 : s.whole = true) (hnx : s.next < 18446744073709551616) (o : Option Addr) (cap : Nat) (rs : List (List UInt8)) (hv : RecsIn w (.slice o rs.length cap) rs)
    (hn : rs.length ≤ 1099511627776) (hlen : ∀ r ∈ rs, r.length ≤ 1099511627776) (x : Er) (hx : packE s.next rs = some x) :
    Calls Tryz.prog 14 #[.pointer (some ⟨bs, 0, none⟩), .slice o rs.length cap] w fun e w' => e = .returned (erV eb (some x)) ∧ Fr (fun _ => False) w w' := by
  have c5 : w.cell? ⟨bs, 5, none⟩ = some (.bool s.sick) := cell_at h 5
  have c4 : w.cell? ⟨bs, 4, none⟩ = some (.bool s.whole) := cell_at h 4
  have c2 : w.cell? ⟨bs, 2, none⟩ = some (.int .u64 (s.next : Nat)) := cell_at h 2
  rw [h5] at c5
  rw [h4] at c4
  have HP := Lib.hid (pack_bad w K eb S G s.next hnx o cap rs hv hn hlen x hx)
  have hne : ((rs.length : Int) == 0) = false := by
    rw [beq_eq_false_iff_ne]
    intro q
    have : rs = [] := List.eq_nil_of_length_eq_zero (by omega)
    subst this
    simp [packE] at hx
  have e2 := neq_er
  clear h h5 h4 hv hn hlen hx G
  generalize s.next = nx at *
  go_enter Tryz.func14, Tryz.ntmps14
  go_wp2_with fail
  refine HP.out.mono ?_
  rintro e w1 ⟨rfl, hf⟩
  have HF := Lib.hid hf
  clear hf HP
  rw [show erV eb (some x) = .iface 169 (.pointer (some (eb x))) from rfl]
  go_wp2_with fail
  go_ret
  exact ⟨rfl, HF.out⟩
set_option maxRecDepth 100000 in
set_option maxHeartbeats 1000000 in
theorem seg_append_go {D : ADisk} {ow : Own} (h : SegAt w bd bs s) (hD : DiskAt w bd D ow K) (hbn : ow bs = none) (E : Env w K eb S) (h5 : s.sick = false) (h4 : s.whole = true) (hnx : s.next < 18446744073709551616) (hbl : s.blocks ≤ 4398046511104)
    (g off cap : Nat) (rs : List (List UInt8)) (hv : RecsIn w (.slice (some ⟨g, off, none⟩) rs.length cap) rs) (hcap : rs.length ≤ cap) (hn : rs.length ≤ 1073741824) (h0 : rs ≠ []) (hx : packE s.next rs = none)
    (hb : ∀ f, D.names s.name = some f → (D.file f).seen.data.length + (packB s.next rs).length ≤ maxData) :
    Calls Tryz.prog 14 #[.pointer (some ⟨bs, 0, none⟩), .slice (some ⟨g, off, none⟩) rs.length cap] w fun e w' => e = .returned (erV eb (opE D (goneE D.names s.name))) ∧
      ∃ D' ow', OpR D (goneE D.names s.name) true true (fun D D' => D' = appendD s.name (packB s.next rs) D) (fun x D D' => D' = appendD s.name ((packB s.next rs).take x.toNat) D) D' ∧ DiskAt w' bd D' ow' K ∧
        Fr (fun b => ow.has b ∨ b = bs) w w' ∧ ow.ext ow' w ∧ SegAt w' bd bs (s.after (opE D (goneE D.names s.name)) rs.length ((packB s.next rs).length / 512)) := by
  have c5 : w.cell? ⟨bs, 5, none⟩ = some (.bool s.sick) := cell_at h 5
  have c4 : w.cell? ⟨bs, 4, none⟩ = some (.bool s.whole) := cell_at h 4
  have c2 : w.cell? ⟨bs, 2, none⟩ = some (.int .u64 (s.next : Nat)) := cell_at h 2
  rw [h5] at c5
  rw [h4] at c4
  obtain ⟨hnum, hshort⟩ := ((packE_none hx).resolve_left h0).2
  have HP := Lib.hid (pack_ok w K s.next E.T hnx g off cap rs hv hcap hn h0 hnum hshort)
  have hne : ((rs.length : Int) == 0) = false := by
    rw [beq_eq_false_iff_ne]
    have := List.length_pos_iff.2 h0
    omega
  have HS := Lib.hid h
  have HD := Lib.hid hD
  have HBN := Lib.hid hbn
  have HE := Lib.hid E
  have HB := Lib.hid hb
  have HNL := Lib.hid (numbersB_lt hnum (List.length_pos_iff.2 h0))
  have H5 := Lib.hid h5
  have H4 := Lib.hid h4
  have hpl := packB_length s.next rs
  have e2 := neq_er
  have e3 := neq_nilE
  obtain ⟨data, hdata⟩ : ∃ d, d = packB s.next rs := ⟨_, rfl⟩
  rw [← hdata] at HP HB hpl ⊢
  have HDA := Lib.hid hdata
  have hn1 := hn
  clear h hD hbn E h5 h4 hv hcap hn h0 hx hb hnum hshort hdata
  go_enter Tryz.func14, Tryz.ntmps14
  go_wp2_with fail
  refine HP.out.mono ?_
  rintro e w1 ⟨v, rfl, hown, hf⟩
  have hS1 := HS.out.fr hf (fun h => h)
  have b0 : w1.cell? ⟨bs, 0, none⟩ = some (.pointer (some ⟨bd, 0, none⟩)) := cell_at hS1 0
  have b1 : w1.cell? ⟨bs, 1, none⟩ = some (.string s.name) := cell_at hS1 1
  have HS1 := Lib.hid hS1
  have HF := Lib.hid hf
  have HO := Lib.hid hown
  obtain ⟨o8, c8, hv8⟩ := (ownsRow_slice hown).form
  subst hv8
  clear hS1 hf hown HP c5 c4 c2
  go_wp2_with fail
  have hD1 : DiskAt w1.drew bd D ow K := (HD.out.out HF.out (fun _ _ h => h)).drew
  have hF1 : Fr (fun _ => False) w w1.drew := HF.out.drew
  have hS1 : SegAt w1.drew bd bs s := HS1.out
  have hsl : SliceIs w1.drew 1 (.slice o8 data.length c8) data.length (data.map byteV) := ownsRow_slice HO.out
  have hvo : OutOf ow (.slice o8 data.length c8) := by
    intro a n c q
    injection q with q1 q2 q3
    have := HO.out.lt a.block (by rw [q1]; rfl)
    exact own_none HD.out (by omega)
  have hE1 := HE.out.fr hF1 (fun _ h => h.elim)
  obtain ⟨x, hx⟩ : ∃ x, x = opE D (goneE D.names s.name) := ⟨_, rfl⟩
  have HA := Lib.hid ((disk_append hD1 hE1.G s.name _ data hsl hvo HB.out).mono (R' := fun e w3 => e = .returned (erV eb x) ∧ AppMid w1.drew bd bs K D s data ow w3) (fun e w3 h => by
    obtain ⟨he, D', ow', hR, hD', hfr, hext⟩ := h
    exact ⟨by rw [he, hx], ⟨D', ow', hR, hD', hfr, hext, hS1.fr hfr (fun h => h HBN.out), hext bs hS1.lt HBN.out⟩⟩))
  have HM := Lib.hid (fun w3 (h : AppMid w1.drew bd bs K D s data ow w3) => (show Calls Tryz.prog 28 #[.pointer (some ⟨bs, 0, none⟩), erV eb x] w3 fun e w4 => e = .returned (erV eb x) ∧ AppMid2 w1.drew bd bs K D s data ow x w4 from by
    obtain ⟨D', ow', hR, hD', hfr, hext, hS3, hb3⟩ := h
    refine (seg_met (eb := eb) hS3 x).mono (fun e w4 h => ⟨h.1, ?_⟩)
    obtain ⟨_, rfl⟩ := h
    refine ⟨D', ow', hR, hD'.out ((Fr.refl (fun b => b = bs) w3).setCell (fun _ => rfl) _) (fun b hb e => hb (e ▸ hb3)), Fr.trans (hfr.mono (fun b _ h => .inl h)) ((Fr.refl _ w3).setCell (fun _ => .inr rfl) _), hext, ?_, hb3⟩
    refine hS3.set (s' := { s with sick := x.isSome }) ?_
    rw [H5.out]; rfl))
  have HXE := Lib.hid hx
  have HF1 := Lib.hid hF1
  clear hD1 hF1 hS1 hsl hvo hE1 hx
  cases x with
  | none =>
    rw [show erV eb none = .nilIface from rfl] at HA HM
    go_region_with (first
      | (go_at_call 29; refine HA.out.mono ?_; rintro e w3 ⟨rfl, hm3⟩; have HM3 := Lib.hid hm3; clear hm3)
      | (go_at_call 28; refine (HM.out _ HM3.out).mono ?_; rintro e w4 ⟨rfl, hm4⟩; have HM4 := Lib.hid hm4; clear hm4))
    all_goals
      obtain ⟨D', ow', hR, hD', hfr, hext, hS4, hb4⟩ := HM4.out
      have k2 : w4.cell? ⟨bs, 2, none⟩ = some (.int .u64 (s.next : Nat)) := cell_at hS4 2
      have k3 : w4.cell? ⟨bs, 3, none⟩ = some (.int .i64 (s.blocks : Nat)) := cell_at hS4 3
      have j2 : w4.frozen? ⟨bs, 2, none⟩ = false := free_at hS4 2
      have j3 : w4.frozen? ⟨bs, 3, none⟩ = false := free_at hS4 3
      have hl4 : bs < w4.heap.size := hS4.lt
      have u1 : IntKind.u64.wrap (rs.length : Int) = rs.length := by rw [IntKind.wrap_u64]; omega
      have u2 : IntKind.u64.wrap ((s.next : Int) + (rs.length : Int)) = ((s.next + rs.length : Nat) : Int) := by have := HNL.out; rw [IntKind.wrap_u64]; omega
      have HR4 := Lib.hid hR
      have HD4 := Lib.hid hD'
      have HFR4 := Lib.hid hfr
      have HX4 := Lib.hid hext
      have HS4 := Lib.hid hS4
      have HB4 := Lib.hid hb4
      clear hR hD' hfr hext hS4 hb4
      go_wp2_with fail
      go_ret
      rw [← HXE.out]
      refine ⟨rfl, D', ow', HR4.out, HD4.out.out (((Fr.refl (fun b => b = bs) w4).setCell (fun _ => rfl) _).setCell (fun _ => rfl) _) (fun b hb e => hb (e ▸ HB4.out)), ?_, fun b hb hn => HX4.out b (Nat.lt_of_lt_of_le hb HF1.out.size) hn, ?_⟩
      · exact Fr.trans (HF1.out.mono (fun _ _ h => h.elim)) ((HFR4.out.setCell (fun _ => .inr rfl) _).setCell (fun _ => .inr rfl) _)
      · refine (HS4.out.set (s' := { s with sick := false, next := s.next + rs.length }) (i := 2) ?_).set (s' := s.after none rs.length (data.length / 512)) (i := 3) ?_
        · simp
        · simp [ASeg.after, H5.out]
  | some x =>
    rw [show erV eb (some x) = .iface 169 (.pointer (some (eb x))) from rfl] at HA HM
    go_region_with (first
      | (go_at_call 29; refine HA.out.mono ?_; rintro e w3 ⟨rfl, hm3⟩; have HM3 := Lib.hid hm3; clear hm3)
      | (go_at_call 28; refine (HM.out _ HM3.out).mono ?_; rintro e w4 ⟨rfl, hm4⟩; have HM4 := Lib.hid hm4; clear hm4))
    all_goals
      obtain ⟨D', ow', hR, hD', hfr, hext, hS4, hb4⟩ := HM4.out
      have HR4 := Lib.hid hR
      have HD4 := Lib.hid hD'
      have HFR4 := Lib.hid hfr
      have HX4 := Lib.hid hext
      have HS4 := Lib.hid hS4
      clear hR hD' hfr hext hS4 hb4
      go_wp2_with fail
      go_ret
      rw [← HXE.out]
      refine ⟨rfl, D', ow', HR4.out, HD4.out, ?_, fun b hb hn => HX4.out b (Nat.lt_of_lt_of_le hb HF1.out.size) hn, HS4.out⟩
      exact Fr.trans (HF1.out.mono (fun _ _ h => h.elim)) HFR4.out
end
end Go.Proofs.YtabfcciejhbajaaGreatDoor
