/-
  (*Disk).Sync. Conditions: the disk lies in memory as DiskAt says.
  (*Disk).Sync, whole. Conditions: the disk lies in memory as DiskAt says.
  (*side).cutTo. Conditions: the side's cells and map are known; its sectors' numbers are small.
  (*Disk).Truncate: its plan. Conditions: the disk's names are known.
  What a cut leaves of the disk's memory. Conditions: none; a lemma on memory alone.
-/
import Derived.Test.YtdfnaphkppphkaaGreatDoorM07
import Derived.Test.YtdfnaphkppphkaaGreatDoorM01
namespace Go.Proofs.YtdfnaphkppphkaaGreatDoor
open Go Go.RowKit
open Go.ChangeMaps (setBlock)

set_option maxRecDepth 100000 in
set_option maxHeartbeats 1000000 in
theorem sync_plan {w : World} {K : Nat} {eb : Er → Addr} {S : Er → Bool} (G : Glob w K eb S) (bd bn q0 q1 : Nat) (nm : ByteArray) (m : ByteArray → Option Nat)
    (b0 : w.cell? ⟨q0, 0, none⟩ = some (.pointer (some ⟨bd, 0, none⟩))) (b1 : w.cell? ⟨q1, 0, none⟩ = some (.string nm)) (c0 : w.cell? ⟨bd, 0, none⟩ = some (.map (some bn))) (hm : MapAt strE fileV w bn m) :
    Calls Tryz.prog 77 #[.pointer (some ⟨q0, 0, none⟩), .pointer (some ⟨q1, 0, none⟩)] w fun e w' => e = .returned (.agg #[erV eb (goneE m nm), .func (.func 78) #[] #[.pointer (some ⟨q0, 0, none⟩), .pointer (some ⟨q1, 0, none⟩)], .bool false, .nilFunc]) ∧ Fr (fun _ => False) w w' := by
  have hgone := fun (w' : World) (e : ∀ i, i < w.heap.size → w'.heap[i]? = w.heap[i]?) (hs : w.heap.size ≤ w'.heap.size) => disk_gone w' K eb S bd bn m nm ((World.cell?_of_block (e bd (World.block_lt_of_cell? _ _ c0))).trans c0) (hm.of_block (e bn hm.lt)) (G.below hs (fun b hb => e b (Nat.lt_of_lt_of_le hb G.size)))
  have HG := Lib.hid hgone
  have l0 := World.block_lt_of_cell? _ _ b0
  have l1 := World.block_lt_of_cell? _ _ b1
  simp only at l0 l1
  clear hgone hm G c0
  go_enter Tryz.func77, Tryz.ntmps77
  go_wp2_with fail
  refine (HG.out _ (fun i hi => heap_alloc_old _ _ hi) (by simp)).mono ?_
  rintro e w' ⟨rfl, rfl⟩
  obtain ⟨ev, hev, hev'⟩ : ∃ ev, ev = erV eb (goneE m nm) ∧ (ev = .nilIface ∨ ∃ r, ev = .iface 211 (.pointer (some r))) := ⟨_, rfl, by
    unfold goneE; split
    · exact .inr ⟨_, rfl⟩
    · exact .inl rfl⟩
  rw [← hev]
  have HE := Lib.hid hev
  clear hev
  rcases hev' with rfl | ⟨r, rfl⟩
  all_goals
    go_wp2_with fail
    refine bodyPost_ret (by simp [results, Tryz.results77, go_sem]; rfl) rfl ⟨by rw [← HE.out], ?_⟩
    exact (Fr.refl _ _).alloc _


/-- a file behind Sync -/
def syncF (x : AFile) : AFile := { x with safe := x.seen, waits := fun _ => none }
noncomputable def syncD (nm : ByteArray) (D : ADisk) : ADisk := match D.names nm with
  | some f => { D with file := upd D.file f (syncF (D.file f)) }
  | none => D
theorem syncD_some {nm : ByteArray} {D : ADisk} {f : Nat} (h : D.names nm = some f) : syncD nm D = { D with file := upd D.file f (syncF (D.file f)) } := by
  unfold syncD; rw [h]
theorem sync_mem {w wA : World} {bd K : Nat} {D : ADisk} {ow : Own} {c : DCells} (h : DiskIs w bd D ow K c) (hK : K ≤ w.heap.size) {f : Nat} (hf : ow f = some (.file f)) {cf : FCells} (hc : FileIs w ow f (D.file f) cf) {bw : Nat} (how : ow bw = some (.waits f)) (hv5 : cf.v5 = .map (some bw))
    {v' : Value} {b' : Nat} (hr : wA.ownsRow w.heap.size 5 1 v' (D.file f).seen.data.length ((D.file f).seen.data.map byteV)) (hb : MapAt intE unitV wA b' (D.file f).seen.bad) (hlb : w.heap.size ≤ b') (hne : v'.ownBlock ≠ some b') (hfr : Fr (fun _ => False) w wA) (o2 : Obj)
    (hm : MapAt intE unitV (setBlock ((wA.setCell ⟨f, 3, none⟩ v').setCell ⟨f, 4, none⟩ (.map (some b'))) bw o2) bw (fun _ => none)) :
    After bd ow K w (fun D' => D' = { D with file := upd D.file f (syncF (D.file f)) }) (setBlock ((wA.setCell ⟨f, 3, none⟩ v').setCell ⟨f, 4, none⟩ (.map (some b'))) bw o2) := by
  have hlt := h.lt
  have hfl := (hlt f _ hf).2
  have hwl := (hlt bw _ how).2
  have hs := hfr.size
  have hnew : ∀ k, w.heap.size ≤ k → ow k = none := fun k hk => own_none ⟨c, h⟩ hk
  have hbl := hb.lt
  let ow' : Own := fun i => if i = b' then some (.fbad f) else if v'.ownBlock = some i then some (.fdata f) else ow i
  have e0 : ∀ i, i < w.heap.size → ow' i = ow i := fun i hi => by
    show (if i = b' then _ else if v'.ownBlock = some i then _ else _) = _
    rw [if_neg (by omega), if_neg (fun e => by have := (hr.lt i e).1; omega)]
  have e1 : ow' b' = some (.fbad f) := by show (if b' = b' then _ else _) = _; rw [if_pos rfl]
  have e2 : ∀ g, v'.ownBlock = some g → ow' g = some (.fdata f) := fun g hg => by
    show (if g = b' then _ else if v'.ownBlock = some g then _ else _) = _
    rw [if_neg (fun e => hne (by rw [hg, e])), if_pos hg]
  have ec : ∀ i r, ow' i = some r → (i < w.heap.size ∧ ow i = some r) ∨ (i = b' ∧ r = .fbad f) ∨ (v'.ownBlock = some i ∧ r = .fdata f) := fun i r hi => by
    by_cases q : i = b'
    · subst q; rw [e1] at hi; cases hi; exact .inr (.inl ⟨rfl, rfl⟩)
    · by_cases q' : v'.ownBlock = some i
      · rw [e2 i q'] at hi; cases hi; exact .inr (.inr ⟨q', rfl⟩)
      · have hi' : (if i = b' then some (Role.fbad f) else if v'.ownBlock = some i then some (Role.fdata f) else ow i) = some r := hi
        rw [if_neg q, if_neg q'] at hi'
        exact .inl ⟨(hlt i r hi').2, hi'⟩
  have hcf : wA.heap[f]? = _ := (hfr.block f hfl (fun h => h)).trans hc.cells
  have hcf2 := heap_setCell_at (heap_setCell_at hcf 3 v') 4 (.map (some b'))
  have nfw : f ≠ bw := fun e => by rw [← e, hf] at how; cases how
  have hsame : ∀ i, i ≠ f → i ≠ bw → (setBlock ((wA.setCell ⟨f, 3, none⟩ v').setCell ⟨f, 4, none⟩ (.map (some b'))) bw o2).heap[i]? = wA.heap[i]? := fun i h1 h2 => by
    have : (setBlock ((wA.setCell ⟨f, 3, none⟩ v').setCell ⟨f, 4, none⟩ (.map (some b'))) bw o2).heap[i]? = ((wA.setCell ⟨f, 3, none⟩ v').setCell ⟨f, 4, none⟩ (.map (some b'))).heap[i]? := by simp [setBlock, Ne.symm h2]
    rw [this, Below.heap_setCell _ _ _ _ h1, Below.heap_setCell _ _ _ _ h1]
  have hcf3 : (setBlock ((wA.setCell ⟨f, 3, none⟩ v').setCell ⟨f, 4, none⟩ (.map (some b'))) bw o2).heap[f]? = some (.cells #[.int .i64 (D.file f).born, cf.v1, cf.v2, v', .map (some b'), .map (some bw)] 88 (0, 0)) := by
    have : (setBlock ((wA.setCell ⟨f, 3, none⟩ v').setCell ⟨f, 4, none⟩ (.map (some b'))) bw o2).heap[f]? = ((wA.setCell ⟨f, 3, none⟩ v').setCell ⟨f, 4, none⟩ (.map (some b'))).heap[f]? := by simp [setBlock, Ne.symm nfw]
    rw [this, hcf2, ← hv5]; rfl
  have hsz : (setBlock ((wA.setCell ⟨f, 3, none⟩ v').setCell ⟨f, 4, none⟩ (.map (some b'))) bw o2).heap.size = wA.heap.size := by simp [setBlock]
  have hF : FrO ow w (setBlock ((wA.setCell ⟨f, 3, none⟩ v').setCell ⟨f, 4, none⟩ (.map (some b'))) bw o2) :=
    (((hfr.mono (fun _ _ h => h.elim)).setCell (fun _ => Own.has_some hf) _).setCell (fun _ => Own.has_some hf) _).setBlock (fun _ => Own.has_some how) o2
  generalize hw3 : (setBlock ((wA.setCell ⟨f, 3, none⟩ v').setCell ⟨f, 4, none⟩ (.map (some b'))) bw o2) = w3 at *
  clear hw3
  have old : ∀ i r, ow i = some r → i ≠ f → i ≠ bw → w3.heap[i]? = w.heap[i]? := fun i r hi h1 h2 => (hsame i h1 h2).trans (hfr.block i (hlt i r hi).2 (fun h => h))
  have nn : ∀ {b b' : Nat} {r r' : Role}, ow b = some r → ow b' = some r' → r ≠ r' → b ≠ b' := fun h1 h2 hr e => by rw [e, h2] at h1; cases h1; exact hr rfl
  have gne : ∀ g, v'.ownBlock = some g → g ≠ f ∧ g ≠ bw := fun g hg => ⟨fun e => by have := (hr.lt g hg).1; omega, fun e => by have := (hr.lt g hg).1; omega⟩
  refine ⟨_, ow', rfl, ⟨c, h.setFile ⟨fun i r hi hT => ?_, fun i r hT => ?_, fun i r hi => ?_⟩ ((e0 f hfl).trans hf) ?_⟩, hF, fun i hi hn => (e0 i hi).trans hn⟩
  · exact old i r hi (fun e => by subst e; rw [hf] at hi; cases hi; exact hT rfl) (fun e => by subst e; rw [how] at hi; cases hi; exact hT rfl)
  · constructor
    · intro q
      rcases ec i r q with ⟨_, q'⟩ | ⟨_, q'⟩ | ⟨_, q'⟩
      · exact q'
      · subst q'; exact absurd rfl hT
      · subst q'; exact absurd rfl hT
    · intro q; rw [e0 i (hlt i r q).2]; exact q
  · rw [hsz]
    rcases ec i r hi with ⟨q, q'⟩ | ⟨q, _⟩ | ⟨q, _⟩
    · exact ⟨(hlt i r q').1, by omega⟩
    · subst q; exact ⟨by omega, hbl⟩
    · have := hr.lt i q; exact ⟨by omega, this.2⟩
  · have hd : RowAt w3 ow' (.sdata f) 5 1 cf.v1 (D.file f).seen.data.length ((D.file f).seen.data.map byteV) := hc.seen.data.keep (fun b hb => ⟨old b _ hb (nn hb hf (by simp)) (nn hb how (by simp)), (e0 b (hlt b _ hb).2).trans hb⟩)
    have hbd : SetAt w3 ow' (.sbad f) cf.v2 (D.file f).seen.bad := hc.seen.bad.keep (fun b hb => ⟨old b _ hb (nn hb hf (by simp)) (nn hb how (by simp)), (e0 b (hlt b _ hb).2).trans hb⟩)
    refine ⟨⟨cf.v1, cf.v2, v', .map (some b'), .map (some bw)⟩, hcf3, ⟨hd, hbd⟩, ⟨⟨ownsRow_keep (w := wA) ⟨hr.1, hr.2.imp id (fun ⟨g, cap, cur, q1, q2, q3⟩ => ⟨g, cap, cur, q1, Nat.zero_le _, q3⟩)⟩ (fun g hg => hsame g (gne g hg).1 (gne g hg).2), e2⟩, b', rfl, e1, hb.of_block (hsame b' (by omega) (by omega))⟩, ⟨bw, rfl, (e0 bw hwl).trans how, hm⟩, ?_⟩
    exact ⟨hc.wf.seen, hc.wf.seen, fun k hk => absurd rfl hk⟩
end Go.Proofs.YtdfnaphkppphkaaGreatDoor

namespace Go.Proofs.YtdfnaphkppphkaaGreatDoor
open Go Go.RowKit
open Go.ChangeMaps (setBlock)

set_option maxRecDepth 100000 in
set_option maxHeartbeats 1000000 in
theorem sync_do {w : World} {bd K : Nat} {D : ADisk} {ow : Own} {c : DCells} (h : DiskIs w bd D ow K c) (hK : K ≤ w.heap.size) (q0 q1 : Nat) (nm : ByteArray) (f : Nat) (hf : D.names nm = some f)
    (b0 : w.cell? ⟨q0, 0, none⟩ = some (.pointer (some ⟨bd, 0, none⟩))) (b1 : w.cell? ⟨q1, 0, none⟩ = some (.string nm)) :
    Calls Tryz.prog 78 #[.pointer (some ⟨q0, 0, none⟩), .pointer (some ⟨q1, 0, none⟩)] w fun e w' => e = .returned (.tuple #[]) ∧ After bd ow K w (fun D' => D' = { D with file := upd D.file f (syncF (D.file f)) }) w' := by
  have c0 : w.cell? ⟨bd, 0, none⟩ = some (.map (some c.bn)) := cell_at h.cells 0
  have hl := look_some h.names hf
  have hl2 := fun (n : Nat) => look_some (w := w.drewN n) (h.names.of_block rfl) hf
  have hff := h.inNames nm f hf
  have hfl := (h.lt _ _ hff).2
  obtain ⟨cf, hc⟩ := h.files f hff
  obtain ⟨bw, hv5, how, hmw⟩ := hc.waits
  obtain ⟨bb, hv2, hob, hmb⟩ := hc.seen.bad
  have hbwl := (h.lt _ _ how).2
  have g1 : w.cell? ⟨f, 1, none⟩ = some cf.v1 := cell_at hc.cells 1
  have g2 : w.cell? ⟨f, 2, none⟩ = some (.map (some bb)) := hv2 ▸ cell_at hc.cells 2
  obtain ⟨o, cap, hv1⟩ := (ownsRow_slice hc.seen.data.row).form
  have hlen := hc.wf.seen.len
  have HS := Lib.hid (fun (w2 : World) (e : w2.heap = w.heap) => side_clone w2 (.slice o (D.file f).seen.data.length cap) bb _ _ (D.file f).seen.bad (ownsRow_slice (ownsRow_keep (hv1 ▸ hc.seen.data.row) (fun _ _ => by rw [e]))) (by simp [byteV, Value.oneCell']) (by unfold maxData at hlen; omega) (hmb.of_block (by rw [e])))
  have HM := Lib.hid (fun (wA : World) (v' : Value) (b' : Nat) => sync_mem (wA := wA) h hK hff hc how hv5 (v' := v') (b' := b'))
  have HA := Lib.hid (fun (w2 wA : World) (e : w2.heap = w.heap) (hfr : Fr (fun _ => False) w2 wA) => (show wA.heap[f]? = some (.cells #[.int .i64 (D.file f).born, cf.v1, cf.v2, cf.v3, cf.v4, .map (some bw)] 88 (0, 0)) ∧ f < wA.heap.size ∧ MapAt intE unitV wA bw (D.file f).waits from by
    have e2 : w2.heap.size = w.heap.size := by rw [e]
    have q : wA.heap[f]? = w.heap[f]? := (hfr.block f (by omega) (fun h => h)).trans (by rw [e])
    have q2 : wA.heap[bw]? = w.heap[bw]? := (hfr.block bw (by omega) (fun h => h)).trans (by rw [e])
    exact ⟨by rw [q, ← hv5]; exact hc.cells, by have := hfr.size; omega, hmw.of_block q2⟩))
  have nfw : f ≠ bw := fun e => by rw [← e, hff] at how; cases how
  rw [hv1] at g1
  clear hv1 hc hmw hmb hv5 hv2 how hff h hK hlen
  go_enter Tryz.func78, Tryz.ntmps78
  go_wp2_with fail
  go_quiet (fail)
  go_wp2_with fail
  refine (HS.out _ ?_).mono ?_
  · rfl
  rintro e wA ⟨v', b', rfl, hr, hb, hlb, hne, hfr⟩
  obtain ⟨a0, a1, a2⟩ := HA.out (w.drewN _) wA rfl hfr
  have a3 : wA.cell? ⟨f, 3, none⟩ = some cf.v3 := cell_at a0 3
  have a4 : wA.cell? ⟨f, 4, none⟩ = some cf.v4 := cell_at a0 4
  have f3 := free_at a0 3
  have f4 := free_at a0 4
  have a5 : wA.cell? ⟨f, 5, none⟩ = some (.map (some bw)) := cell_at a0 5
  have HMM := Lib.hid (HM.out wA v' b')
  have HW := Lib.hid a2
  have hform := (ownsRow_slice hr).form
  have HR := Lib.hid hr
  have HB := Lib.hid hb
  have HL := Lib.hid hlb
  have HN := Lib.hid hne
  have HF := Lib.hid hfr
  clear hr hb hlb hne hfr a2 HM HA HS
  obtain ⟨o', c', rfl⟩ := hform
  have HW2 := Lib.hid (show MapAt intE unitV ((wA.setCell ⟨f, 3, none⟩ (.slice o' (D.file f).seen.data.length c')).setCell ⟨f, 4, none⟩ (.map (some b'))) bw (D.file f).waits from HW.out.of_block (by rw [Below.heap_setCell _ _ _ _ (Ne.symm nfw), Below.heap_setCell _ _ _ _ (Ne.symm nfw)]))
  go_wp2_with (refine wpl_clear (E := intE) (V := unitV) rfl (.tmp 20) rfl HW2.out Tryz.underlying84 rfl ?_; intro o2 hm2)
  first
    | go_end0
    | refine bodyPost_ret (results_none rfl _ _ _) rfl ?_
  refine ⟨rfl, HMM.out HR.out HB.out HL.out HN.out ?_ o2 hm2⟩
  exact Fr.trans ((Fr.refl _ _).drewN _) HF.out
set_option maxRecDepth 100000 in
set_option maxHeartbeats 1000000 in
theorem disk_sync {w : World} {bd K : Nat} {eb : Er → Addr} {S : Er → Bool} {D : ADisk} {ow : Own} (hD : DiskAt w bd D ow K) (G : Glob w K eb S) (nm : ByteArray) :
    Calls Tryz.prog 41 #[.pointer (some ⟨bd, 0, none⟩), .string nm] w fun e w' => e = .returned (erV eb (opE D (goneE D.names nm))) ∧ After bd ow K w (OpR D (goneE D.names nm) false false (fun D D' => D' = syncD nm D) (fun _ _ _ => False)) w' := by
  go_enter Tryz.func41, Tryz.ntmps41
  go_wp2_with fail
  have hDA := (hD.alloc (.cells #[.pointer (some ⟨bd, 0, none⟩)] 27)).alloc (.cells #[.string nm] 9)
  have hFA : FrO ow w ((w.alloc (.cells #[.pointer (some ⟨bd, 0, none⟩)] 27)).alloc (.cells #[.string nm] 9)) := ((Fr.refl _ _).alloc _).alloc _
  have q0 : ((w.alloc (.cells #[.pointer (some ⟨bd, 0, none⟩)] 27)).alloc (.cells #[.string nm] 9)).cell? ⟨w.heap.size, 0, none⟩ = some (.pointer (some ⟨bd, 0, none⟩)) := by
    rw [World.cell?_alloc_past _ _ _ (by simp)]; simp
  have q1 : ((w.alloc (.cells #[.pointer (some ⟨bd, 0, none⟩)] 27)).alloc (.cells #[.string nm] 9)).cell? ⟨w.heap.size + 1, 0, none⟩ = some (.string nm) := by
    rw [World.cell?_alloc_at _ _ _ _ (by simp)]; rfl
  have n0 : ow w.heap.size = none := own_none hD (Nat.le_refl _)
  have n1 : ow (w.heap.size + 1) = none := own_none hD (by omega)
  have hsz : ((w.alloc (.cells #[.pointer (some ⟨bd, 0, none⟩)] 27)).alloc (.cells #[.string nm] 9)).heap.size = w.heap.size + 2 := by simp
  have hKw : K ≤ w.heap.size := G.size
  have GA := glob_out hD G hFA
  generalize ((w.alloc (.cells #[.pointer (some ⟨bd, 0, none⟩)] 27)).alloc (.cells #[.string nm] 9)) = wA at *
  generalize w.heap.size = z at *
  have cells : ∀ w3, FrO ow wA w3 → w3.cell? ⟨z, 0, none⟩ = some (.pointer (some ⟨bd, 0, none⟩)) ∧ w3.cell? ⟨z + 1, 0, none⟩ = some (.string nm) ∧ K ≤ w3.heap.size := fun w3 hf3 =>
    ⟨(hf3.cell (show z < _ by omega) (by simp [Own.has, n0])).trans q0, (hf3.cell (show z + 1 < _ by omega) (by simp [Own.has, n1])).trans q1, by have := hf3.size; omega⟩
  have dook : goneE D.names nm = none → ∀ D1 : ADisk, D1.names = D.names → DoOk 78 #[.pointer (some ⟨z, 0, none⟩), .pointer (some ⟨z + 1, 0, none⟩)] bd ow K wA D1 (fun D' => D' = syncD nm D1) := by
    intro hg D1 e1 w3 hf3 hD3
    obtain ⟨c3, hc3⟩ := hD3
    obtain ⟨a0, a1, aK⟩ := cells w3 hf3
    cases hq : D.names nm with
    | none => unfold goneE at hg; rw [hq] at hg; cases hg
    | some f =>
      rw [syncD_some (show D1.names nm = some f by rw [e1, hq])]
      exact sync_do hc3 aK z (z + 1) nm f (by rw [e1, hq]) a0 a1
  refine (run_op (k := 77) (kd := 78) (capd := #[.pointer (some ⟨z, 0, none⟩), .pointer (some ⟨z + 1, 0, none⟩)]) hDA GA (fun _ _ => by kernel_rfl) (fun _ _ => by kernel_rfl) (goneE D.names nm) false none (fun p h => by cases h) (fun D D' => D' = syncD nm D) (fun _ _ _ => False) ?_ (fun h => dook h _ rfl) (fun h _ => dook h _ rfl) (fun h p e x => by cases e)).mono ?_
  · intro w1 hf1 hD1
    obtain ⟨c1, hc1⟩ := hD1
    have G1 := glob_out hDA GA hf1
    obtain ⟨a0, a1, aK⟩ := cells w1 hf1
    have pc : w1.cell? ⟨bd, 0, none⟩ = some (.map (some c1.bn)) := cell_at hc1.cells 0
    exact sync_plan G1 bd c1.bn z (z + 1) nm D.names a0 a1 pc hc1.names
  · rintro e w' ⟨rfl, hA⟩
    go_wp2_with fail
    go_ret
    exact ⟨rfl, hA.head hFA⟩
end Go.Proofs.YtdfnaphkppphkaaGreatDoor

namespace Go.Proofs.YtdfnaphkppphkaaGreatDoor
open Go Go.RowKit
open Go.ChangeMaps (setBlock)

theorem intE_enc (k : Int) : intE.enc k = .int .i64 k := rfl
/-- what cutTo leaves of a set of sectors -/
def cutSet (n : Int) (bad : Int → Option Unit) : Int → Option Unit := fun k => if n ≤ k * 512 then none else bad k
/-- what a loop that cuts a set has cut -/
def CutLoop (n : Int) (bad m : Int → Option Unit) (todo : Int → Prop) : Prop := ∀ k, (todo k → m k = bad k) ∧ (¬ todo k → m k = cutSet n bad k)

set_option maxRecDepth 100000 in
set_option maxHeartbeats 1000000 in
theorem side_cutTo (w : World) (b off bb : Nat) (cs : Array Value) (t : TypeId) (o : Option Addr) (len cap m : Nat) (n : Int) (bad : Int → Option Unit) (h : w.heap[b]? = some (.cells cs t (0, 0)))
    (h0 : cs[off]? = some (.slice o len cap)) (h1 : cs[off + 1]? = some (.map (some bb))) (hm : MapAt intE unitV w bb bad) (hne : b ≠ bb) (hlc : len ≤ cap) (hml : m ≤ len) (i1 : (if (len : Int) < n then (len : Int) else n) = (m : Int))
    (hk : ∀ k, bad k ≠ none → 0 ≤ k ∧ k ≤ 1099511627776) :
    Calls Tryz.prog 74 #[.pointer (some ⟨b, off, none⟩), .int .i64 n] w fun e w' => e = .returned (.tuple #[]) ∧ w'.heap[b]? = some (.cells (cs.setIfInBounds off (.slice o m cap)) t (0, 0)) ∧
      MapAt intE unitV w' bb (cutSet n bad) ∧ Fr (fun i => i = b ∨ i = bb) w w' := by
  have c0 : w.cell? ⟨b, off, none⟩ = some (.slice o len cap) := (cell_at h off).trans h0
  have c1 : w.cell? ⟨b, off + 1, none⟩ = some (.map (some bb)) := (cell_at h (off + 1)).trans h1
  have f0 := free_at h off
  have hmc : (m : Int) ≤ cap := by omega
  have lb : b < w.heap.size := World.block_lt_of_cell? _ _ c0
  have H := Lib.hid h
  have H1 := Lib.hid h1
  have HM := Lib.hid hm
  have HK := Lib.hid hk
  clear h h1 hm hk h0
  go_enter Tryz.func74, Tryz.ntmps74
  go_wp2_with fail
  go_still_tail 15, (by kernel_rfl)
  change wpList _ _ _ _ _ w.drew
  have e1 := heap_setCell_at H.out off (.slice o m cap)
  have hb1 : ∀ q : Obj, MapAt intE unitV (((w.setCell ⟨b, off, none⟩ (.slice o m cap)).drew)) bb bad := fun q => HM.out.of_block (Below.heap_setCell _ _ _ _ (Ne.symm hne))
  have hf1 : Fr (fun i => i = b ∨ i = bb) w ((w.setCell ⟨b, off, none⟩ (.slice o m cap)).drew) := (((Fr.refl _ _)).setCell (fun _ => .inl rfl) _).drew
  have hz : ((w.setCell ⟨b, off, none⟩ (.slice o m cap)).drew).heap.size = w.heap.size := World.size_setCell _ _ _
  have E1 := Lib.hid e1
  have HB1 := Lib.hid (hb1 (.map #[] 0))
  have HF1 := Lib.hid hf1
  have HZ := Lib.hid hz
  have bbl := HM.out.lt
  clear e1 hb1 hf1 hz
  go_wp2_with (at_range; refine wpl_rangeAt (E := intE) (V := unitV) w.heap.size HZ.out rfl (.tmp 23) rfl HB1.out Tryz.underlying84 rfl ?_; intro cl cnt0 hit0)
  have hfx : ∀ ob : Obj, (((w.setCell ⟨b, off, none⟩ (.slice o m cap)).drew).alloc ob).heap[b]? = some (.cells (cs.setIfInBounds off (.slice o m cap)) t (0, 0)) := fun ob => (heap_alloc_old _ ob (by rw [HZ.out]; exact lb)).trans E1.out
  have hfa : ∀ ob : Obj, Fr (fun i => i = b ∨ i = bb) w (((w.setCell ⟨b, off, none⟩ (.slice o m cap)).drew).alloc ob) := fun ob => HF1.out.alloc _
  have HX := Lib.hid (hfx (.mapIter (some bb) cl #[] cl))
  have HFA := Lib.hid (hfa (.mapIter (some bb) cl #[] cl))
  have HI0 := Lib.hid hit0
  clear hfx hfa hit0
  go_frame
  go_loopw [4] (fun _ wr => ∃ todo mm cnt, IterAt intE unitV wr w.heap.size bb mm todo cnt ∧ CutLoop n bad mm todo ∧ wr.heap[b]? = some (.cells (cs.setIfInBounds off (.slice o m cap)) t (0, 0)) ∧ Fr (fun i => i = b ∨ i = bb) w wr) (fun _ wr => iterLeft wr bb w.heap.size)
  case atStart =>
    refine ⟨_, bad, cnt0, HI0.out, fun k => ⟨fun _ => rfl, fun h => ?_⟩, HX.out, HFA.out⟩
    have : bad k = none := by simpa using h
    unfold cutSet; rw [this]; split <;> rfl
  case round =>
    obtain ⟨todo, mm, cnt, hit, hC, hx, hF⟩ := hrel
    have HC := Lib.hid hC
    have HF := Lib.hid hF
    have HXX := Lib.hid hx
    have HI := Lib.hid hit
    clear hC hF hx hit HX HFA HI0 HB1 HM E1 HF1
    go_wp2_with (at_next; refine wpl_next (E := intE) (V := unitV) rfl (.tmp 24) rfl HI.out rfl ?_ ?_)
    · intro hdone
      have hmb : mm = cutSet n bad := funext fun k => (HC.out k).2 (hdone k)
      clear hdone
      go_wp2_with fail
      first
        | go_end0
        | refine bodyPost_ret (results_none rfl _ _ _) rfl ?_
      exact ⟨rfl, HXX.out, hmb ▸ HI.out.mapAt, HF.out⟩
    · intro k v w1 cnt1 htodo hbad hit1 hlt1 hfr1 hsz1 hent
      simp only [intE_enc] at hent ⊢
      have hbk : bad k = some v := ((HC.out k).1 htodo).symm.trans hbad
      obtain ⟨k0, k1⟩ := HK.out k (by rw [hbk]; simp)
      have hx1 : w1.heap[b]? = _ := (hfr1.block b (by have := HF.out.size; omega) (fun e => by
        have q := HXX.out
        have : b = w.heap.size := e
        omega)).trans HXX.out
      have r1 : w1.cell? ⟨b, off + 1, none⟩ = some (.map (some bb)) := (cell_at hx1 (off + 1)).trans ((by simp : (cs.setIfInBounds off (.slice o m cap))[off + 1]? = cs[off + 1]?).trans H1.out)
      have HH := Lib.hid hit1
      have HL := Lib.hid hlt1
      have HF1 := Lib.hid hfr1
      have HT := Lib.hid htodo
      have HX1 := Lib.hid hx1
      have HBK := Lib.hid hbk
      clear hit1 hlt1 hfr1 hsz1 htodo hx1 hbad hbk
      have hwk : IntKind.i64.wrap (k * 512) = k * 512 := IntWalk.i64_in _ (by omega)
      by_cases hge : n ≤ k * 512
      · go_wp2_with (at_delete; refine wpl_delete_iter (E := intE) (V := unitV) rfl (.tmp 36) (.tmp 37) rfl HH.out Tryz.underlying84 Tryz.underlying3 k (fun h => h.2 rfl) rfl rfl ?_; intro o2 n2 hn2 hit2; have HN2 := Lib.hid hn2; have HI2 := Lib.hid hit2; clear hn2 hit2; go_frame)
        refine ⟨⟨_, _, n2, HI2.out, fun x => ⟨fun hx => ?_, fun hx => ?_⟩, ?_, ?_⟩, ?_⟩
        · rw [upd_ne _ _ hx.2]; exact (HC.out x).1 hx.1
        · rcases upd_at mm k x (none : Option Unit) with ⟨rfl, q⟩ | ⟨q, q'⟩
          · rw [q]; unfold cutSet; rw [if_pos hge]
          · rw [q']; exact (HC.out x).2 (fun ht => hx ⟨ht, q⟩)
        · have : (setBlock w1 bb o2).heap[b]? = w1.heap[b]? := by simp [setBlock, Ne.symm hne]
          exact this.trans HX1.out
        · exact (Fr.trans' HF.out HF1.out (fun i hi e => by omega)).setBlock (fun _ => .inr rfl) _
        · rw [HI2.out.left_eq, HI.out.left_eq]; have := HN2.out; have := HL.out; omega
      · go_wp2_with fail
        refine ⟨⟨_, mm, cnt1, HH.out, fun x => ⟨fun hx => (HC.out x).1 hx.1, fun hx => ?_⟩, HX1.out, Fr.trans' HF.out HF1.out (fun i hi e => by omega)⟩, ?_⟩
        · by_cases q : x = k
          · subst q; unfold cutSet; rw [if_neg hge]; exact (HC.out x).1 HT.out
          · exact (HC.out x).2 (fun ht => hx ⟨ht, q⟩)
        · rw [HH.out.left_eq, HI.out.left_eq]; exact HL.out
end Go.Proofs.YtdfnaphkppphkaaGreatDoor

namespace Go.Proofs.YtdfnaphkppphkaaGreatDoor
open Go Go.RowKit
open Go.ChangeMaps (setBlock)

def truncE (D : ADisk) (nm : ByteArray) (n : Int) : Option Er := match D.names nm with
  | none => some .gone
  | some f => if n < 0 ∨ n.tmod 512 ≠ 0 ∨ ((D.file f).seen.data.length : Int) < n then some .arg else none

set_option maxRecDepth 100000 in
set_option maxHeartbeats 1000000 in
theorem trunc_plan_gone {w : World} {K : Nat} {eb : Er → Addr} {S : Er → Bool} (G : Glob w K eb S) (bd bn q0 q1 q2 : Nat) (nm : ByteArray) (n : Int) (m : ByteArray → Option Nat) (hq : m nm = none)
    (b0 : w.cell? ⟨q0, 0, none⟩ = some (.pointer (some ⟨bd, 0, none⟩))) (b1 : w.cell? ⟨q1, 0, none⟩ = some (.string nm)) (b2 : w.cell? ⟨q2, 0, none⟩ = some (.int .i64 n)) (c0 : w.cell? ⟨bd, 0, none⟩ = some (.map (some bn))) (hm : MapAt strE fileV w bn m) :
    Calls Tryz.prog 72 #[.pointer (some ⟨q0, 0, none⟩), .pointer (some ⟨q1, 0, none⟩), .pointer (some ⟨q2, 0, none⟩)] w fun e w' => e = .returned (.agg #[erV eb (some .gone), .func (.func 73) #[] #[.pointer (some ⟨q0, 0, none⟩), .pointer (some ⟨q1, 0, none⟩), .pointer (some ⟨q2, 0, none⟩)], .bool false, .nilFunc]) ∧ Fr (fun _ => False) w w' := by
  have hgone := fun (w' : World) (e : ∀ i, i < w.heap.size → w'.heap[i]? = w.heap[i]?) (hs : w.heap.size ≤ w'.heap.size) => disk_gone w' K eb S bd bn m nm ((World.cell?_of_block (e bd (World.block_lt_of_cell? _ _ c0))).trans c0) (hm.of_block (e bn hm.lt)) (G.below hs (fun b hb => e b (Nat.lt_of_lt_of_le hb G.size)))
  have hge : goneE m nm = some .gone := by unfold goneE; rw [hq]; rfl
  rw [hge, show erV eb (some .gone) = .iface 211 (.pointer (some (eb .gone))) from rfl] at hgone
  have HG := Lib.hid hgone
  have l0 := World.block_lt_of_cell? _ _ b0
  have l1 := World.block_lt_of_cell? _ _ b1
  have l2 := World.block_lt_of_cell? _ _ b2
  simp only at l0 l1 l2
  have eq1 := eql_er
  clear hgone hm G c0 hge
  go_enter Tryz.func72, Tryz.ntmps72
  go_wp2_with fail
  refine (HG.out _ (fun i hi => heap_alloc_old _ _ hi) (by simp)).mono ?_
  rintro e w' ⟨rfl, rfl⟩
  go_wp2_with fail
  go_quiet (fail)
  go_wp2_with fail
  refine bodyPost_ret (v := .agg #[.iface 211 (.pointer (some (eb .gone))), .func (.func 73) #[] #[.pointer (some ⟨q0, 0, none⟩), .pointer (some ⟨q1, 0, none⟩), .pointer (some ⟨q2, 0, none⟩)], .bool false, .nilFunc]) (by simp [results, Tryz.results72, go_sem]) rfl ⟨rfl, ?_⟩
  repeat (first | exact Fr.refl _ _ | refine Fr.drewN ?_ _ | refine Fr.drew ?_ | refine Fr.alloc ?_ _ | refine Fr.setCell ?_ (fun h => by first | (simp at h; done) | (simp at h; omega)) _)
set_option maxRecDepth 100000 in
set_option maxHeartbeats 1000000 in
theorem trunc_plan_neg {w : World} {K : Nat} {eb : Er → Addr} {S : Er → Bool} (G : Glob w K eb S) (bd bn q0 q1 q2 : Nat) (nm : ByteArray) (n : Int) (m : ByteArray → Option Nat) (f : Nat) (hq : m nm = some f) (o : Option Addr) (len cap : Nat) (cf : w.cell? ⟨f, 1, none⟩ = some (.slice o len cap)) (hn : n < 0)
    (b0 : w.cell? ⟨q0, 0, none⟩ = some (.pointer (some ⟨bd, 0, none⟩))) (b1 : w.cell? ⟨q1, 0, none⟩ = some (.string nm)) (b2 : w.cell? ⟨q2, 0, none⟩ = some (.int .i64 n)) (c0 : w.cell? ⟨bd, 0, none⟩ = some (.map (some bn))) (hm : MapAt strE fileV w bn m) :
    Calls Tryz.prog 72 #[.pointer (some ⟨q0, 0, none⟩), .pointer (some ⟨q1, 0, none⟩), .pointer (some ⟨q2, 0, none⟩)] w fun e w' => e = .returned (.agg #[erV eb (some .arg), .func (.func 73) #[] #[.pointer (some ⟨q0, 0, none⟩), .pointer (some ⟨q1, 0, none⟩), .pointer (some ⟨q2, 0, none⟩)], .bool false, .nilFunc]) ∧ Fr (fun _ => False) w w' := by
  have hgone := fun (w' : World) (e : ∀ i, i < w.heap.size → w'.heap[i]? = w.heap[i]?) (hs : w.heap.size ≤ w'.heap.size) => disk_gone w' K eb S bd bn m nm ((World.cell?_of_block (e bd (World.block_lt_of_cell? _ _ c0))).trans c0) (hm.of_block (e bn hm.lt)) (G.below hs (fun b hb => e b (Nat.lt_of_lt_of_le hb G.size)))
  have hge : goneE m nm = none := by unfold goneE; rw [hq]; rfl
  rw [hge, show erV eb none = .nilIface from rfl] at hgone
  have HG := Lib.hid hgone
  have l0 := World.block_lt_of_cell? _ _ b0
  have l1 := World.block_lt_of_cell? _ _ b1
  have l2 := World.block_lt_of_cell? _ _ b2
  have l3 := World.block_lt_of_cell? _ _ c0
  have l4 := World.block_lt_of_cell? _ _ cf
  have l5 := hm.lt
  simp only at l0 l1 l2 l3 l4
  have eq1 := eql_nil
  have eq2 := eql_er
  have v4 : w.cell? ⟨6, 0, none⟩ = some (.iface 211 (.pointer (some (eb .arg)))) := G.var .arg rfl
  have l6 := World.block_lt_of_cell? _ _ v4
  simp only at l6
  have hl3 := fun (o o' : Obj) (n : Nat) => look_some (hm.of_block (w' := ((w.alloc o).alloc o').drewN n) ((heap_alloc_old (w.alloc o) o' (by simp; omega)).trans (heap_alloc_old w o l5))) hq
  have d1 := @setCell_drewN
  have d2 := @alloc_drewN
  clear hgone hm G hge
  go_enter Tryz.func72, Tryz.ntmps72
  go_wp2_with fail
  refine (HG.out _ (fun i hi => heap_alloc_old _ _ hi) (by simp)).mono ?_
  rintro e w' ⟨rfl, rfl⟩
  go_wp2_with fail
  go_quiet (fail)
  go_wp2_with fail
  refine bodyPost_ret (v := .agg #[.iface 211 (.pointer (some (eb .arg))), .func (.func 73) #[] #[.pointer (some ⟨q0, 0, none⟩), .pointer (some ⟨q1, 0, none⟩), .pointer (some ⟨q2, 0, none⟩)], .bool false, .nilFunc]) (by simp [results, Tryz.results72, go_sem]) rfl ⟨rfl, ?_⟩
  repeat (first | exact Fr.refl _ _ | refine Fr.drewN ?_ _ | refine Fr.drew ?_ | refine Fr.alloc ?_ _ | refine Fr.setCell ?_ (fun h => by first | (simp at h; done) | (simp at h; omega)) _)
set_option maxRecDepth 100000 in
set_option maxHeartbeats 1000000 in
theorem trunc_plan_odd {w : World} {K : Nat} {eb : Er → Addr} {S : Er → Bool} (G : Glob w K eb S) (bd bn q0 q1 q2 : Nat) (nm : ByteArray) (n : Int) (m : ByteArray → Option Nat) (f : Nat) (hq : m nm = some f) (o : Option Addr) (len cap : Nat) (cf : w.cell? ⟨f, 1, none⟩ = some (.slice o len cap)) (hn : decide (n < 0) = false) (ht : (n.tmod 512 != 0) = true)
    (b0 : w.cell? ⟨q0, 0, none⟩ = some (.pointer (some ⟨bd, 0, none⟩))) (b1 : w.cell? ⟨q1, 0, none⟩ = some (.string nm)) (b2 : w.cell? ⟨q2, 0, none⟩ = some (.int .i64 n)) (c0 : w.cell? ⟨bd, 0, none⟩ = some (.map (some bn))) (hm : MapAt strE fileV w bn m) :
    Calls Tryz.prog 72 #[.pointer (some ⟨q0, 0, none⟩), .pointer (some ⟨q1, 0, none⟩), .pointer (some ⟨q2, 0, none⟩)] w fun e w' => e = .returned (.agg #[erV eb (some .arg), .func (.func 73) #[] #[.pointer (some ⟨q0, 0, none⟩), .pointer (some ⟨q1, 0, none⟩), .pointer (some ⟨q2, 0, none⟩)], .bool false, .nilFunc]) ∧ Fr (fun _ => False) w w' := by
  have hgone := fun (w' : World) (e : ∀ i, i < w.heap.size → w'.heap[i]? = w.heap[i]?) (hs : w.heap.size ≤ w'.heap.size) => disk_gone w' K eb S bd bn m nm ((World.cell?_of_block (e bd (World.block_lt_of_cell? _ _ c0))).trans c0) (hm.of_block (e bn hm.lt)) (G.below hs (fun b hb => e b (Nat.lt_of_lt_of_le hb G.size)))
  have hge : goneE m nm = none := by unfold goneE; rw [hq]; rfl
  rw [hge, show erV eb none = .nilIface from rfl] at hgone
  have HG := Lib.hid hgone
  have l0 := World.block_lt_of_cell? _ _ b0
  have l1 := World.block_lt_of_cell? _ _ b1
  have l2 := World.block_lt_of_cell? _ _ b2
  have l3 := World.block_lt_of_cell? _ _ c0
  have l4 := World.block_lt_of_cell? _ _ cf
  have l5 := hm.lt
  simp only at l0 l1 l2 l3 l4
  have eq1 := eql_nil
  have eq2 := eql_er
  have v4 : w.cell? ⟨6, 0, none⟩ = some (.iface 211 (.pointer (some (eb .arg)))) := G.var .arg rfl
  have l6 := World.block_lt_of_cell? _ _ v4
  simp only at l6
  have hl3 := fun (o o' : Obj) (n : Nat) => look_some (hm.of_block (w' := ((w.alloc o).alloc o').drewN n) ((heap_alloc_old (w.alloc o) o' (by simp; omega)).trans (heap_alloc_old w o l5))) hq
  have d1 := @setCell_drewN
  have d2 := @alloc_drewN
  clear hgone hm G hge
  go_enter Tryz.func72, Tryz.ntmps72
  go_wp2_with fail
  refine (HG.out _ (fun i hi => heap_alloc_old _ _ hi) (by simp)).mono ?_
  rintro e w' ⟨rfl, rfl⟩
  go_wp2_with fail
  go_quiet (fail)
  go_wp2_with fail
  refine bodyPost_ret (v := .agg #[.iface 211 (.pointer (some (eb .arg))), .func (.func 73) #[] #[.pointer (some ⟨q0, 0, none⟩), .pointer (some ⟨q1, 0, none⟩), .pointer (some ⟨q2, 0, none⟩)], .bool false, .nilFunc]) (by simp [results, Tryz.results72, go_sem]) rfl ⟨rfl, ?_⟩
  repeat (first | exact Fr.refl _ _ | refine Fr.drewN ?_ _ | refine Fr.drew ?_ | refine Fr.alloc ?_ _ | refine Fr.setCell ?_ (fun h => by first | (simp at h; done) | (simp at h; omega)) _)
set_option maxRecDepth 100000 in
set_option maxHeartbeats 1000000 in
theorem trunc_plan_far {w : World} {K : Nat} {eb : Er → Addr} {S : Er → Bool} (G : Glob w K eb S) (bd bn q0 q1 q2 : Nat) (nm : ByteArray) (n : Int) (m : ByteArray → Option Nat) (f : Nat) (hq : m nm = some f) (o : Option Addr) (len cap : Nat) (cf : w.cell? ⟨f, 1, none⟩ = some (.slice o len cap)) (hn : decide (n < 0) = false) (ht : (n.tmod 512 != 0) = false) (hd : decide ((len : Int) < n) = true)
    (b0 : w.cell? ⟨q0, 0, none⟩ = some (.pointer (some ⟨bd, 0, none⟩))) (b1 : w.cell? ⟨q1, 0, none⟩ = some (.string nm)) (b2 : w.cell? ⟨q2, 0, none⟩ = some (.int .i64 n)) (c0 : w.cell? ⟨bd, 0, none⟩ = some (.map (some bn))) (hm : MapAt strE fileV w bn m) :
    Calls Tryz.prog 72 #[.pointer (some ⟨q0, 0, none⟩), .pointer (some ⟨q1, 0, none⟩), .pointer (some ⟨q2, 0, none⟩)] w fun e w' => e = .returned (.agg #[erV eb (some .arg), .func (.func 73) #[] #[.pointer (some ⟨q0, 0, none⟩), .pointer (some ⟨q1, 0, none⟩), .pointer (some ⟨q2, 0, none⟩)], .bool false, .nilFunc]) ∧ Fr (fun _ => False) w w' := by
  have hgone := fun (w' : World) (e : ∀ i, i < w.heap.size → w'.heap[i]? = w.heap[i]?) (hs : w.heap.size ≤ w'.heap.size) => disk_gone w' K eb S bd bn m nm ((World.cell?_of_block (e bd (World.block_lt_of_cell? _ _ c0))).trans c0) (hm.of_block (e bn hm.lt)) (G.below hs (fun b hb => e b (Nat.lt_of_lt_of_le hb G.size)))
  have hge : goneE m nm = none := by unfold goneE; rw [hq]; rfl
  rw [hge, show erV eb none = .nilIface from rfl] at hgone
  have HG := Lib.hid hgone
  have l0 := World.block_lt_of_cell? _ _ b0
  have l1 := World.block_lt_of_cell? _ _ b1
  have l2 := World.block_lt_of_cell? _ _ b2
  have l3 := World.block_lt_of_cell? _ _ c0
  have l4 := World.block_lt_of_cell? _ _ cf
  have l5 := hm.lt
  simp only at l0 l1 l2 l3 l4
  have eq1 := eql_nil
  have eq2 := eql_er
  have v4 : w.cell? ⟨6, 0, none⟩ = some (.iface 211 (.pointer (some (eb .arg)))) := G.var .arg rfl
  have l6 := World.block_lt_of_cell? _ _ v4
  simp only at l6
  have hl3 := fun (o o' : Obj) (n : Nat) => look_some (hm.of_block (w' := ((w.alloc o).alloc o').drewN n) ((heap_alloc_old (w.alloc o) o' (by simp; omega)).trans (heap_alloc_old w o l5))) hq
  have d1 := @setCell_drewN
  have d2 := @alloc_drewN
  clear hgone hm G hge
  go_enter Tryz.func72, Tryz.ntmps72
  go_wp2_with fail
  refine (HG.out _ (fun i hi => heap_alloc_old _ _ hi) (by simp)).mono ?_
  rintro e w' ⟨rfl, rfl⟩
  go_wp2_with fail
  go_quiet (fail)
  go_wp2_with fail
  refine bodyPost_ret (v := .agg #[.iface 211 (.pointer (some (eb .arg))), .func (.func 73) #[] #[.pointer (some ⟨q0, 0, none⟩), .pointer (some ⟨q1, 0, none⟩), .pointer (some ⟨q2, 0, none⟩)], .bool false, .nilFunc]) (by simp [results, Tryz.results72, go_sem]) rfl ⟨rfl, ?_⟩
  repeat (first | exact Fr.refl _ _ | refine Fr.drewN ?_ _ | refine Fr.drew ?_ | refine Fr.alloc ?_ _ | refine Fr.setCell ?_ (fun h => by first | (simp at h; done) | (simp at h; omega)) _)
set_option maxRecDepth 100000 in
set_option maxHeartbeats 1000000 in
theorem trunc_plan_ok {w : World} {K : Nat} {eb : Er → Addr} {S : Er → Bool} (G : Glob w K eb S) (bd bn q0 q1 q2 : Nat) (nm : ByteArray) (n : Int) (m : ByteArray → Option Nat) (f : Nat) (hq : m nm = some f) (o : Option Addr) (len cap : Nat) (cf : w.cell? ⟨f, 1, none⟩ = some (.slice o len cap)) (hn : decide (n < 0) = false) (ht : (n.tmod 512 != 0) = false) (hd : decide ((len : Int) < n) = false)
    (b0 : w.cell? ⟨q0, 0, none⟩ = some (.pointer (some ⟨bd, 0, none⟩))) (b1 : w.cell? ⟨q1, 0, none⟩ = some (.string nm)) (b2 : w.cell? ⟨q2, 0, none⟩ = some (.int .i64 n)) (c0 : w.cell? ⟨bd, 0, none⟩ = some (.map (some bn))) (hm : MapAt strE fileV w bn m) :
    Calls Tryz.prog 72 #[.pointer (some ⟨q0, 0, none⟩), .pointer (some ⟨q1, 0, none⟩), .pointer (some ⟨q2, 0, none⟩)] w fun e w' => e = .returned (.agg #[erV eb none, .func (.func 73) #[] #[.pointer (some ⟨q0, 0, none⟩), .pointer (some ⟨q1, 0, none⟩), .pointer (some ⟨q2, 0, none⟩)], .bool false, .nilFunc]) ∧ Fr (fun _ => False) w w' := by
  have hgone := fun (w' : World) (e : ∀ i, i < w.heap.size → w'.heap[i]? = w.heap[i]?) (hs : w.heap.size ≤ w'.heap.size) => disk_gone w' K eb S bd bn m nm ((World.cell?_of_block (e bd (World.block_lt_of_cell? _ _ c0))).trans c0) (hm.of_block (e bn hm.lt)) (G.below hs (fun b hb => e b (Nat.lt_of_lt_of_le hb G.size)))
  have hge : goneE m nm = none := by unfold goneE; rw [hq]; rfl
  rw [hge, show erV eb none = .nilIface from rfl] at hgone
  have HG := Lib.hid hgone
  have l0 := World.block_lt_of_cell? _ _ b0
  have l1 := World.block_lt_of_cell? _ _ b1
  have l2 := World.block_lt_of_cell? _ _ b2
  have l3 := World.block_lt_of_cell? _ _ c0
  have l4 := World.block_lt_of_cell? _ _ cf
  have l5 := hm.lt
  simp only at l0 l1 l2 l3 l4
  have eq1 := eql_nil
  have eq2 := eql_er
  have hl3 := fun (o o' : Obj) (n : Nat) => look_some (hm.of_block (w' := ((w.alloc o).alloc o').drewN n) ((heap_alloc_old (w.alloc o) o' (by simp; omega)).trans (heap_alloc_old w o l5))) hq
  have d1 := @setCell_drewN
  have d2 := @alloc_drewN
  clear hgone hm G hge
  go_enter Tryz.func72, Tryz.ntmps72
  go_wp2_with fail
  refine (HG.out _ (fun i hi => heap_alloc_old _ _ hi) (by simp)).mono ?_
  rintro e w' ⟨rfl, rfl⟩
  go_wp2_with fail
  go_quiet (fail)
  go_wp2_with fail
  refine bodyPost_ret (v := .agg #[.nilIface, .func (.func 73) #[] #[.pointer (some ⟨q0, 0, none⟩), .pointer (some ⟨q1, 0, none⟩), .pointer (some ⟨q2, 0, none⟩)], .bool false, .nilFunc]) (by simp [results, Tryz.results72, go_sem]) rfl ⟨rfl, ?_⟩
  repeat (first | exact Fr.refl _ _ | refine Fr.drewN ?_ _ | refine Fr.drew ?_ | refine Fr.alloc ?_ _ | refine Fr.setCell ?_ (fun h => by first | (simp at h; done) | (simp at h; omega)) _)
end Go.Proofs.YtdfnaphkppphkaaGreatDoor

namespace Go.Proofs.YtdfnaphkppphkaaGreatDoor
open Go Go.RowKit
open Go.ChangeMaps (setBlock)

def cutSide (n : Int) (s : Side) : Side := ⟨s.data.take n.toNat, cutSet n s.bad⟩
def truncF (n : Int) (x : AFile) : AFile := { x with seen := cutSide n x.seen, safe := cutSide n x.safe, waits := cutSet n x.waits }
theorem cutSet_ne {n : Int} {m : Int → Option Unit} {k : Int} (h : cutSet n m k ≠ none) : k * 512 < n ∧ m k ≠ none := by
  unfold cutSet at h
  split at h
  · exact absurd rfl h
  · exact ⟨by omega, h⟩
theorem cutSide_wf {n : Int} {s : Side} (h : WFSide s) : WFSide (cutSide n s) := by
  refine ⟨?_, fun k hk => ?_⟩
  · have := h.len; simp only [cutSide, List.length_take]; omega
  · obtain ⟨h1, h2⟩ := cutSet_ne hk
    obtain ⟨h3, h4⟩ := h.bad k h2
    refine ⟨h3, ?_⟩
    simp only [cutSide, List.length_take]; omega
theorem truncF_wf {n : Int} {x : AFile} (h : WFFile x) : WFFile (truncF n x) := by
  refine ⟨cutSide_wf h.seen, cutSide_wf h.safe, fun k hk => ?_⟩
  obtain ⟨h1, h2⟩ := cutSet_ne hk
  obtain ⟨h3, h4⟩ := h.waits k h2
  refine ⟨h3, ?_⟩
  simp only [truncF, cutSide, List.length_take]; omega
theorem ownsRow_take {w : World} {base : Nat} {e : TypeId} {size : Nat} {o : Option Addr} {cap n m : Nat} {xs : List Value} (h : w.ownsRow base e size (.slice o n cap) n xs) (hm : m ≤ n) : w.ownsRow base e size (.slice o m cap) m (xs.take (m * size)) := by
  have hms : m * size ≤ n * size := Nat.mul_le_mul_right _ hm
  refine ⟨by rw [List.length_take, h.1]; omega, ?_⟩
  rcases h.2 with ⟨q, q'⟩ | ⟨g, cap', cur, q, hb, hg, h1, h2, h3, h4⟩
  · injection q with q1 q2 q3
    subst q1; subst q3
    exact .inl ⟨by rw [show m = 0 from by omega], by omega⟩
  · injection q with q1 q2 q3
    subst q1; subst q3
    refine .inr ⟨g, cap, cur, rfl, hb, hg, by omega, h2, h3, ?_⟩
    rw [← h4, List.take_take]; congr 1; omega
theorem trunc_mem {w w' : World} {bd K : Nat} {D : ADisk} {ow : Own} {c : DCells} (h : DiskIs w bd D ow K c) {f : Nat} (hf : ow f = some (.file f)) {cf : FCells} (hc : FileIs w ow f (D.file f) cf) {n : Int}
    {o1 o2 : Option Addr} {cap1 cap2 bb bb2 bw : Nat} (e1 : cf.v1 = .slice o1 (D.file f).seen.data.length cap1) (e2 : cf.v2 = .map (some bb)) (e3 : cf.v3 = .slice o2 (D.file f).safe.data.length cap2) (e4 : cf.v4 = .map (some bb2)) (e5 : cf.v5 = .map (some bw))
    {m1 m2 : Nat} (hm1 : m1 = min n.toNat (D.file f).seen.data.length) (hm2 : m2 = min n.toNat (D.file f).safe.data.length)
    (hcell : w'.heap[f]? = some (.cells #[.int .i64 (D.file f).born, .slice o1 m1 cap1, .map (some bb), .slice o2 m2 cap2, .map (some bb2), .map (some bw)] 88 (0, 0)))
    (hs : MapAt intE unitV w' bb (cutSet n (D.file f).seen.bad)) (hs2 : MapAt intE unitV w' bb2 (cutSet n (D.file f).safe.bad)) (hsw : MapAt intE unitV w' bw (cutSet n (D.file f).waits))
    (hfr : Fr (fun i => i = f ∨ i = bb ∨ i = bb2 ∨ i = bw) w w') : After bd ow K w (fun D' => D' = { D with file := upd D.file f (truncF n (D.file f)) }) w' := by
  obtain ⟨bb', q2, ob, _⟩ := hc.seen.bad
  rw [e2] at q2; cases q2
  obtain ⟨bb2', q4, ob2, _⟩ := hc.safe.bad
  rw [e4] at q4; cases q4
  obtain ⟨bw', q5, obw, _⟩ := hc.waits
  rw [e5] at q5; cases q5
  have old : ∀ i r, ow i = some r → r ≠ .file f → r ≠ .sbad f → r ≠ .fbad f → r ≠ .waits f → w'.heap[i]? = w.heap[i]? := fun i r hi n1 n2 n3 n4 => hfr.block i (h.lt i r hi).2 (fun e => by
    rcases e with e | e | e | e
    · rw [e, hf] at hi; cases hi; exact n1 rfl
    · rw [e, ob] at hi; cases hi; exact n2 rfl
    · rw [e, ob2] at hi; cases hi; exact n3 rfl
    · rw [e, obw] at hi; cases hi; exact n4 rfl)
  refine ⟨_, ow, rfl, ⟨c, h.setFile ⟨fun i r hi hT => ?_, fun _ _ _ => Iff.rfl, fun i r hi => ?_⟩ hf ?_⟩, ?_, Own.ext_refl _ _⟩
  · exact old i r hi (fun e => hT (by rw [e]; rfl)) (fun e => hT (by rw [e]; rfl)) (fun e => hT (by rw [e]; rfl)) (fun e => hT (by rw [e]; rfl))
  · have := h.lt i r hi; have := hfr.size; omega
  · have row : ∀ (r : Role) (v : Value) (o : Option Addr) (cap m : Nat) (l : List UInt8), v = .slice o l.length cap → RowAt w ow r 5 1 v l.length (l.map byteV) → m = min n.toNat l.length → (∀ i, ow i = some r → w'.heap[i]? = w.heap[i]?) →
        RowAt w' ow r 5 1 (.slice o m cap) (l.take n.toNat).length ((l.take n.toNat).map byteV) := by
      intro r v o cap m l hv hr hm hk
      subst hv
      have hlen : (l.take n.toNat).length = m := by rw [List.length_take, hm]
      have hl : (l.take n.toNat).map byteV = (l.map byteV).take (m * 1) := by
        rw [← List.map_take, Nat.mul_one, hm]
        congr 1
        rw [List.take_eq_take_iff]; omega
      rw [hlen, hl]
      have := ownsRow_take hr.row (m := m) (by omega)
      have hob : (Value.slice o m cap).ownBlock = (Value.slice o l.length cap).ownBlock := by cases o <;> rfl
      exact ⟨ownsRow_keep this (fun g hg => hk g (hr.own g (hob ▸ hg))), fun g hg => hr.own g (hob ▸ hg)⟩
    refine ⟨⟨.slice o1 m1 cap1, .map (some bb), .slice o2 m2 cap2, .map (some bb2), .map (some bw)⟩, hcell, ⟨?_, bb, rfl, ob, hs⟩, ⟨?_, bb2, rfl, ob2, hs2⟩, ⟨bw, rfl, obw, hsw⟩, truncF_wf hc.wf⟩
    · exact row _ _ o1 cap1 m1 _ e1 hc.seen.data hm1 (fun i hi => old i _ hi (by simp) (by simp) (by simp) (by simp))
    · exact row _ _ o2 cap2 m2 _ e3 hc.safe.data hm2 (fun i hi => old i _ hi (by simp) (by simp) (by simp) (by simp))
  · refine hfr.mono (fun i _ e => ?_)
    rcases e with e | e | e | e <;> subst e
    · exact Own.has_some hf
    · exact Own.has_some ob
    · exact Own.has_some ob2
    · exact Own.has_some obw
end Go.Proofs.YtdfnaphkppphkaaGreatDoor
