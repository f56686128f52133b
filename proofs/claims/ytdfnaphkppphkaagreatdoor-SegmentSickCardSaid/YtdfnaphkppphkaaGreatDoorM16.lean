/-
  (*Segment).Cut and Sync. Conditions: the segment and its disk lie in memory.
-/
import Derived.Test.YtdfnaphkppphkaaGreatDoorM15
namespace Go.Proofs.YtdfnaphkppphkaaGreatDoor
open Go Go.RowKit

/-- behind the disk's operation -/
def OpMid (w : World) (bd bs K : Nat) (R : ADisk → Prop) (s : ASeg) (ow : Own) (w3 : World) : Prop :=
  ∃ D' ow', R D' ∧ DiskAt w3 bd D' ow' K ∧ Fr (fun b => ow.has b ∨ b = bs) w w3 ∧ ow.ext ow' w ∧ SegAt w3 bd bs s ∧ ow' bs = none
theorem opMid_of {w w0 w3 : World} {bd bs K : Nat} {R : ADisk → Prop} {s : ASeg} {ow : Own} (hf : Fr (fun _ => False) w w0) (hs : SegAt w0 bd bs s) (hb : ow bs = none) (h : After bd ow K w0 R w3) : OpMid w bd bs K R s ow w3 := by
  obtain ⟨D', ow', hR, hD', hfr, hext⟩ := h
  exact ⟨D', ow', hR, hD', Fr.trans (hf.mono (fun _ _ h => h.elim)) (hfr.mono (fun b _ h => .inl h)), fun b hb hn => hext b (Nat.lt_of_lt_of_le hb hf.size) hn, hs.fr hfr (fun h => h hb), hext bs hs.lt hb⟩
theorem OpMid.set {w w3 : World} {bd bs K : Nat} {R : ADisk → Prop} {s s' : ASeg} {ow : Own} {i : Nat} {v : Value} (h : OpMid w bd bs K R s ow w3)
    (he : #[.pointer (some ⟨bd, 0, none⟩), .string s'.name, .int .u64 (s'.next : Nat), .int .i64 (s'.blocks : Nat), .bool s'.whole, .bool s'.sick] = (#[.pointer (some ⟨bd, 0, none⟩), .string s.name, .int .u64 (s.next : Nat), .int .i64 (s.blocks : Nat), .bool s.whole, .bool s.sick] : Array Value).setIfInBounds i v) :
    OpMid w bd bs K R s' ow (w3.setCell ⟨bs, i, none⟩ v) := by
  obtain ⟨D', ow', hR, hD', hfr, hext, hS3, hb3⟩ := h
  exact ⟨D', ow', hR, hD'.out ((Fr.refl (fun b => b = bs) w3).setCell (fun _ => rfl) _) (fun b hb e => hb (e ▸ hb3)), hfr.setCell (fun _ => .inr rfl) _, hext, hS3.set he, hb3⟩
theorem opMid_met {w w3 : World} {eb : Er → Addr} {bd bs K : Nat} {R : ADisk → Prop} {s : ASeg} {ow : Own} (h : OpMid w bd bs K R s ow w3) (h5 : s.sick = false) (x : Option Er) :
    Calls Tryz.prog 27 #[.pointer (some ⟨bs, 0, none⟩), erV eb x] w3 fun e w4 => e = .returned (erV eb x) ∧ OpMid w bd bs K R { s with sick := x.isSome } ow w4 := by
  have h' := h
  obtain ⟨D', ow', hR, hD', hfr, hext, hS3, hb3⟩ := h
  refine (seg_met (eb := eb) hS3 x).mono (fun e w4 q => ⟨q.1, ?_⟩)
  obtain ⟨_, rfl⟩ := q
  exact h'.set (by rw [h5]; rfl)
section
variable {w : World} {bd bs K : Nat} {eb : Er → Addr} {S : Er → Bool} {s : ASeg}
set_option maxRecDepth 100000 in
theorem seg_cut_sick (h : SegAt w bd bs s) (G : Glob w K eb S) (hS : S .sick = true) (hk : s.sick = true) :
    Calls Tryz.prog 19 #[.pointer (some ⟨bs, 0, none⟩)] w fun e w' => e = .returned (erV eb (some .sick)) ∧ w' = w := by
  have c5 : w.cell? ⟨bs, 5, none⟩ = some (.bool s.sick) := cell_at h 5
  have vs : w.cell? ⟨0, 0, none⟩ = some (.iface 211 (.pointer (some (eb .sick)))) := G.var' .sick hS
  rw [hk] at c5
  clear h G hS hk
  go_enter Tryz.func19, Tryz.ntmps19
  go_wp2_with fail
  go_ret
  exact ⟨rfl, rfl⟩
set_option maxRecDepth 100000 in
theorem seg_sync_sick (h : SegAt w bd bs s) (G : Glob w K eb S) (hS : S .sick = true) (hk : s.sick = true) :
    Calls Tryz.prog 22 #[.pointer (some ⟨bs, 0, none⟩)] w fun e w' => e = .returned (erV eb (some .sick)) ∧ w' = w := by
  have c5 : w.cell? ⟨bs, 5, none⟩ = some (.bool s.sick) := cell_at h 5
  have vs : w.cell? ⟨0, 0, none⟩ = some (.iface 211 (.pointer (some (eb .sick)))) := G.var' .sick hS
  rw [hk] at c5
  clear h G hS hk
  go_enter Tryz.func22, Tryz.ntmps22
  go_wp2_with fail
  go_ret
  exact ⟨rfl, rfl⟩
set_option maxRecDepth 100000 in
theorem seg_cut_whole (h : SegAt w bd bs s) (h5 : s.sick = false) (h4 : s.whole = true) :
    Calls Tryz.prog 19 #[.pointer (some ⟨bs, 0, none⟩)] w fun e w' => e = .returned .nilIface ∧ w' = w := by
  have c5 : w.cell? ⟨bs, 5, none⟩ = some (.bool s.sick) := cell_at h 5
  have c4 : w.cell? ⟨bs, 4, none⟩ = some (.bool s.whole) := cell_at h 4
  rw [h5] at c5
  rw [h4] at c4
  clear h h5 h4
  go_enter Tryz.func19, Tryz.ntmps19
  go_wp2_with fail
  go_ret
  exact ⟨rfl, rfl⟩
set_option maxRecDepth 100000 in
set_option maxHeartbeats 1000000 in
theorem seg_sync_go {D : ADisk} {ow : Own} (h : SegAt w bd bs s) (hD : DiskAt w bd D ow K) (hbn : ow bs = none) (G : Glob w K eb S) (h5 : s.sick = false) :
    Calls Tryz.prog 22 #[.pointer (some ⟨bs, 0, none⟩)] w fun e w' => e = .returned (erV eb (opE D (goneE D.names s.name))) ∧
      OpMid w bd bs K (OpR D (goneE D.names s.name) false false (fun D D' => D' = syncD s.name D) (fun _ _ _ => False)) { s with sick := (opE D (goneE D.names s.name)).isSome } ow w' := by
  have c5 : w.cell? ⟨bs, 5, none⟩ = some (.bool s.sick) := cell_at h 5
  have c0 : w.cell? ⟨bs, 0, none⟩ = some (.pointer (some ⟨bd, 0, none⟩)) := cell_at h 0
  have c1 : w.cell? ⟨bs, 1, none⟩ = some (.string s.name) := cell_at h 1
  rw [h5] at c5
  have hF1 : Fr (fun _ => False) w w.drew := (Fr.refl _ w).drew
  obtain ⟨x, hx⟩ : ∃ x, x = opE D (goneE D.names s.name) := ⟨_, rfl⟩
  rw [← hx]
  have HA := Lib.hid ((disk_sync hD.drew (G.fr hF1 (fun _ h => h.elim)) s.name).mono (R' := fun e w3 => e = .returned (erV eb x) ∧ OpMid w bd bs K (OpR D (goneE D.names s.name) false false (fun D D' => D' = syncD s.name D) (fun _ _ _ => False)) s ow w3) (fun e w3 q => ⟨by rw [q.1, hx], opMid_of hF1 h hbn q.2⟩))
  have HM := Lib.hid (fun w3 (q : OpMid w bd bs K (OpR D (goneE D.names s.name) false false (fun D D' => D' = syncD s.name D) (fun _ _ _ => False)) s ow w3) => opMid_met (eb := eb) q h5 x)
  clear h hD hbn G h5 hF1 hx
  go_enter Tryz.func22, Tryz.ntmps22
  go_wp2_with fail
  go_region_with (first
    | (go_at_call 41; refine HA.out.mono ?_; rintro e w3 ⟨rfl, hm3⟩; have HM3 := Lib.hid hm3; clear hm3)
    | (go_at_call 27; refine (HM.out _ HM3.out).mono ?_; rintro e w4 ⟨rfl, hm4⟩; have HM4 := Lib.hid hm4; clear hm4))
  all_goals
    go_wp2_with fail
    go_ret
    exact ⟨rfl, HM4.out⟩
set_option maxRecDepth 100000 in
set_option maxHeartbeats 1000000 in
theorem seg_cut_go {D : ADisk} {ow : Own} (h : SegAt w bd bs s) (hD : DiskAt w bd D ow K) (hbn : ow bs = none) (G : Glob w K eb S) (h5 : s.sick = false) (h4 : s.whole = false) (hbl : s.blocks ≤ 4398046511104) :
    Calls Tryz.prog 19 #[.pointer (some ⟨bs, 0, none⟩)] w fun e w' => e = .returned (erV eb (opE D (truncE D s.name ((s.blocks : Int) * 512)))) ∧
      OpMid w bd bs K (OpR D (truncE D s.name ((s.blocks : Int) * 512)) false false (fun D D' => D' = truncD s.name ((s.blocks : Int) * 512) D) (fun _ _ _ => False))
        { s with sick := (opE D (truncE D s.name ((s.blocks : Int) * 512))).isSome, whole := (opE D (truncE D s.name ((s.blocks : Int) * 512))).isNone } ow w' := by
  have c5 : w.cell? ⟨bs, 5, none⟩ = some (.bool s.sick) := cell_at h 5
  have c4 : w.cell? ⟨bs, 4, none⟩ = some (.bool s.whole) := cell_at h 4
  have c3 : w.cell? ⟨bs, 3, none⟩ = some (.int .i64 (s.blocks : Nat)) := cell_at h 3
  have c0 : w.cell? ⟨bs, 0, none⟩ = some (.pointer (some ⟨bd, 0, none⟩)) := cell_at h 0
  have c1 : w.cell? ⟨bs, 1, none⟩ = some (.string s.name) := cell_at h 1
  rw [h5] at c5
  rw [h4] at c4
  have hF1 : Fr (fun _ => False) w w.drew := (Fr.refl _ w).drew
  obtain ⟨n, hn⟩ : ∃ n : Int, n = (s.blocks : Int) * 512 := ⟨_, rfl⟩
  have w1 : IntKind.i64.wrap ((s.blocks : Int) * 512) = n := by rw [hn]; exact IntWalk.i64_in _ (by omega)
  rw [← hn]
  obtain ⟨x, hx⟩ : ∃ x, x = opE D (truncE D s.name n) := ⟨_, rfl⟩
  rw [← hx]
  have HA := Lib.hid ((disk_truncate hD.drew (G.fr hF1 (fun _ h => h.elim)) s.name n).mono (R' := fun e w3 => e = .returned (erV eb x) ∧ OpMid w bd bs K (OpR D (truncE D s.name n) false false (fun D D' => D' = truncD s.name n D) (fun _ _ _ => False)) s ow w3) (fun e w3 q => ⟨by rw [q.1, hx], opMid_of hF1 h hbn q.2⟩))
  have HM := Lib.hid (fun w3 (q : OpMid w bd bs K (OpR D (truncE D s.name n) false false (fun D D' => D' = truncD s.name n D) (fun _ _ _ => False)) s ow w3) => opMid_met (eb := eb) q h5 x)
  have H4 := Lib.hid h4
  have e2 := neq_er
  have e3 := neq_nilE
  clear h hD hbn G h5 h4 hF1 hx hn
  cases x with
  | none =>
    rw [show erV eb none = .nilIface from rfl] at HA HM
    go_enter Tryz.func19, Tryz.ntmps19
    go_wp2_with fail
    go_region_with (first
      | (go_at_call 38; refine HA.out.mono ?_; rintro e w3 ⟨rfl, hm3⟩; have HM3 := Lib.hid hm3; clear hm3)
      | (go_at_call 27; refine (HM.out _ HM3.out).mono ?_; rintro e w4 ⟨rfl, hm4⟩; have HM4 := Lib.hid hm4; clear hm4))
    all_goals
      obtain ⟨j4, k4, hl4⟩ : w4.frozen? ⟨bs, 4, none⟩ = false ∧ w4.cell? ⟨bs, 4, none⟩ = some (.bool s.whole) ∧ bs < w4.heap.size := by
        obtain ⟨D', ow', _, _, _, _, hS4, _⟩ := HM4.out
        exact ⟨free_at hS4 4, cell_at hS4 4, hS4.lt⟩
      go_wp2_with fail
      go_ret
      exact ⟨rfl, HM4.out.set (by simp)⟩
  | some x =>
    rw [show erV eb (some x) = .iface 211 (.pointer (some (eb x))) from rfl] at HA HM
    go_enter Tryz.func19, Tryz.ntmps19
    go_wp2_with fail
    go_region_with (first
      | (go_at_call 38; refine HA.out.mono ?_; rintro e w3 ⟨rfl, hm3⟩; have HM3 := Lib.hid hm3; clear hm3)
      | (go_at_call 27; refine (HM.out _ HM3.out).mono ?_; rintro e w4 ⟨rfl, hm4⟩; have HM4 := Lib.hid hm4; clear hm4))
    all_goals
      go_wp2_with fail
      go_ret
      refine ⟨rfl, ?_⟩
      have := HM4.out
      rw [show ({ s with sick := (some x).isSome, whole := (some x).isNone } : ASeg) = { s with sick := (some x).isSome } from by rw [show (some x).isNone = s.whole from by rw [H4.out]; rfl]]
      exact this
end
end Go.Proofs.YtdfnaphkppphkaaGreatDoor
