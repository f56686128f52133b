/-
  (*Disk).Sync. Conditions: the disk lies in memory as DiskAt says.
  (*Disk).Sync, whole. Conditions: the disk lies in memory as DiskAt says.
  slices.Sort at a row of ints that the call owns; sets of small numbers as lists. Conditions: the row is owned.
  plain: a file as an image has it. Conditions: the side's parts are known; its bad sectors' numbers are small.
  (*Disk).Read. Conditions: the disk lies in memory as DiskAt says.
-/
import Derived.Test.YtabfcciejhbajaaGreatDoorM07
import Derived.Test.YtabfcciejhbajaaGreatDoorM01
import Derived.Test.YtabfcciejhbajaaGreatDoorPlain
import Derived.Sort.OwnSortedInts
namespace Go.Proofs.YtabfcciejhbajaaGreatDoor
open Go Go.RowKit
open Go.ChangeMaps (setBlock)

set_option maxRecDepth 100000 in
set_option maxHeartbeats 1000000 in
theorem sync_plan {w : World} {K : Nat} {eb : Er → Addr} {S : Er → Bool} (G : Glob w K eb S) (bd bn q0 q1 : Nat) (nm : ByteArray) (m : ByteArray → Option Nat)
    (b0 : w.cell? ⟨q0, 0, none⟩ = some (.pointer (some ⟨bd, 0, none⟩))) (b1 : w.cell? ⟨q1, 0, none⟩ = some (.string nm)) (c0 : w.cell? ⟨bd, 0, none⟩ = some (.map (some bn))) (hm : MapAt strE fileV w bn m) :
    Calls Tryz.prog 58 #[.pointer (some ⟨q0, 0, none⟩), .pointer (some ⟨q1, 0, none⟩)] w fun e w' => e = .returned (.agg #[erV eb (goneE m nm), .func (.func 59) #[] #[.pointer (some ⟨q0, 0, none⟩), .pointer (some ⟨q1, 0, none⟩)], .bool false, .nilFunc]) ∧ Fr (fun _ => False) w w' := by
  have hgone := fun (w' : World) (e : ∀ i, i < w.heap.size → w'.heap[i]? = w.heap[i]?) (hs : w.heap.size ≤ w'.heap.size) => disk_gone w' K eb S bd bn m nm ((World.cell?_of_block (e bd (World.block_lt_of_cell? _ _ c0))).trans c0) (hm.of_block (e bn hm.lt)) (G.below hs (fun b hb => e b (Nat.lt_of_lt_of_le hb G.size)))
  have HG := Lib.hid hgone
  have l0 := World.block_lt_of_cell? _ _ b0
  have l1 := World.block_lt_of_cell? _ _ b1
  simp only at l0 l1
  clear hgone hm G c0
  go_enter Tryz.func58, Tryz.ntmps58
  go_wp2_with fail
  refine (HG.out _ (fun i hi => heap_alloc_old _ _ hi) (by simp)).mono ?_
  rintro e w' ⟨rfl, rfl⟩
  obtain ⟨ev, hev, hev'⟩ : ∃ ev, ev = erV eb (goneE m nm) ∧ (ev = .nilIface ∨ ∃ r, ev = .iface 169 (.pointer (some r))) := ⟨_, rfl, by
    unfold goneE; split
    · exact .inr ⟨_, rfl⟩
    · exact .inl rfl⟩
  rw [← hev]
  have HE := Lib.hid hev
  clear hev
  rcases hev' with rfl | ⟨r, rfl⟩
  all_goals
    go_wp2_with fail
    refine bodyPost_ret (by simp [results, Tryz.results58, go_sem]; rfl) rfl ⟨by rw [← HE.out], ?_⟩
    exact (Fr.refl _ _).alloc _


/-- a file behind Sync -/
def syncF (x : AFile) : AFile := { x with safe := x.seen, waits := fun _ => none }
noncomputable def syncD (nm : ByteArray) (D : ADisk) : ADisk := match D.names nm with
  | some f => { D with file := upd D.file f (syncF (D.file f)) }
  | none => D
theorem syncD_some {nm : ByteArray} {D : ADisk} {f : Nat} (h : D.names nm = some f) : syncD nm D = { D with file := upd D.file f (syncF (D.file f)) } := by
  unfold syncD; rw [h]
theorem sync_mem {w wA : World} {bd K : Nat} {D : ADisk} {ow : Own} {c : DCells} (h : DiskIs w bd D ow K c) (hK : K ≤ w.heap.size) {f : Nat} (hf : ow f = some (.file f)) {cf : FCells} (hc : FileIs w ow f (D.file f) cf) {bw : Nat} (how : ow bw = some (.waits f)) (hv5 : cf.v5 = .map (some bw))
    {v' : Value} {b' : Nat} (hr : wA.ownsRow w.heap.size 5 1 v' (D.file f).seen.data.length ((D.file f).seen.data.map byteV)) (hb : MapAt intE unitV wA b' (D.file f).seen.bad) (hlb : w.heap.size ≤ b') (hne : v'.ownBlock ≠ some b') (hfr : Fr (fun _ => False) w wA) (o2 : Obj)
    (hm : MapAt intE unitV (setBlock ((wA.setCell ⟨f, 3, none⟩ v').setCell ⟨f, 4, none⟩ (.map (some b'))) bw o2) bw (fun _ => none)) :
    After bd ow K w (fun D' => D' = { D with file := upd D.file f (syncF (D.file f)) }) (setBlock ((wA.setCell ⟨f, 3, none⟩ v').setCell ⟨f, 4, none⟩ (.map (some b'))) bw o2) := by
  have hlt := h.lt
  have hfl := (hlt f _ hf).2
  have hwl := (hlt bw _ how).2
  have hs := hfr.size
  have hnew : ∀ k, w.heap.size ≤ k → ow k = none := fun k hk => own_none ⟨c, h⟩ hk
  have hbl := hb.lt
  let ow' : Own := fun i => if i = b' then some (.fbad f) else if v'.ownBlock = some i then some (.fdata f) else ow i
  have e0 : ∀ i, i < w.heap.size → ow' i = ow i := fun i hi => by
    show (if i = b' then _ else if v'.ownBlock = some i then _ else _) = _
    rw [if_neg (by omega), if_neg (fun e => by have := (hr.lt i e).1; omega)]
  have e1 : ow' b' = some (.fbad f) := by show (if b' = b' then _ else _) = _; rw [if_pos rfl]
  have e2 : ∀ g, v'.ownBlock = some g → ow' g = some (.fdata f) := fun g hg => by
    show (if g = b' then _ else if v'.ownBlock = some g then _ else _) = _
    rw [if_neg (fun e => hne (by rw [hg, e])), if_pos hg]
  have ec : ∀ i r, ow' i = some r → (i < w.heap.size ∧ ow i = some r) ∨ (i = b' ∧ r = .fbad f) ∨ (v'.ownBlock = some i ∧ r = .fdata f) := fun i r hi => by
    by_cases q : i = b'
    · subst q; rw [e1] at hi; cases hi; exact .inr (.inl ⟨rfl, rfl⟩)
    · by_cases q' : v'.ownBlock = some i
      · rw [e2 i q'] at hi; cases hi; exact .inr (.inr ⟨q', rfl⟩)
      · have hi' : (if i = b' then some (Role.fbad f) else if v'.ownBlock = some i then some (Role.fdata f) else ow i) = some r := hi
        rw [if_neg q, if_neg q'] at hi'
        exact .inl ⟨(hlt i r hi').2, hi'⟩
  have hcf : wA.heap[f]? = _ := (hfr.block f hfl (fun h => h)).trans hc.cells
  have hcf2 := heap_setCell_at (heap_setCell_at hcf 3 v') 4 (.map (some b'))
  have nfw : f ≠ bw := fun e => by rw [← e, hf] at how; cases how
  have hsame : ∀ i, i ≠ f → i ≠ bw → (setBlock ((wA.setCell ⟨f, 3, none⟩ v').setCell ⟨f, 4, none⟩ (.map (some b'))) bw o2).heap[i]? = wA.heap[i]? := fun i h1 h2 => by
    have : (setBlock ((wA.setCell ⟨f, 3, none⟩ v').setCell ⟨f, 4, none⟩ (.map (some b'))) bw o2).heap[i]? = ((wA.setCell ⟨f, 3, none⟩ v').setCell ⟨f, 4, none⟩ (.map (some b'))).heap[i]? := by simp [setBlock, Ne.symm h2]
    rw [this, Below.heap_setCell _ _ _ _ h1, Below.heap_setCell _ _ _ _ h1]
  have hcf3 : (setBlock ((wA.setCell ⟨f, 3, none⟩ v').setCell ⟨f, 4, none⟩ (.map (some b'))) bw o2).heap[f]? = some (.cells #[.int .i64 (D.file f).born, cf.v1, cf.v2, v', .map (some b'), .map (some bw)] 96 (0, 0)) := by
    have : (setBlock ((wA.setCell ⟨f, 3, none⟩ v').setCell ⟨f, 4, none⟩ (.map (some b'))) bw o2).heap[f]? = ((wA.setCell ⟨f, 3, none⟩ v').setCell ⟨f, 4, none⟩ (.map (some b'))).heap[f]? := by simp [setBlock, Ne.symm nfw]
    rw [this, hcf2, ← hv5]; rfl
  have hsz : (setBlock ((wA.setCell ⟨f, 3, none⟩ v').setCell ⟨f, 4, none⟩ (.map (some b'))) bw o2).heap.size = wA.heap.size := by simp [setBlock]
  have hF : FrO ow w (setBlock ((wA.setCell ⟨f, 3, none⟩ v').setCell ⟨f, 4, none⟩ (.map (some b'))) bw o2) :=
    (((hfr.mono (fun _ _ h => h.elim)).setCell (fun _ => Own.has_some hf) _).setCell (fun _ => Own.has_some hf) _).setBlock (fun _ => Own.has_some how) o2
  generalize hw3 : (setBlock ((wA.setCell ⟨f, 3, none⟩ v').setCell ⟨f, 4, none⟩ (.map (some b'))) bw o2) = w3 at *
  clear hw3
  have old : ∀ i r, ow i = some r → i ≠ f → i ≠ bw → w3.heap[i]? = w.heap[i]? := fun i r hi h1 h2 => (hsame i h1 h2).trans (hfr.block i (hlt i r hi).2 (fun h => h))
  have nn : ∀ {b b' : Nat} {r r' : Role}, ow b = some r → ow b' = some r' → r ≠ r' → b ≠ b' := fun h1 h2 hr e => by rw [e, h2] at h1; cases h1; exact hr rfl
  have gne : ∀ g, v'.ownBlock = some g → g ≠ f ∧ g ≠ bw := fun g hg => ⟨fun e => by have := (hr.lt g hg).1; omega, fun e => by have := (hr.lt g hg).1; omega⟩
  refine ⟨_, ow', rfl, ⟨c, h.setFile ⟨fun i r hi hT => ?_, fun i r hT => ?_, fun i r hi => ?_⟩ ((e0 f hfl).trans hf) ?_⟩, hF, fun i hi hn => (e0 i hi).trans hn⟩
  · exact old i r hi (fun e => by subst e; rw [hf] at hi; cases hi; exact hT rfl) (fun e => by subst e; rw [how] at hi; cases hi; exact hT rfl)
  · constructor
    · intro q
      rcases ec i r q with ⟨_, q'⟩ | ⟨_, q'⟩ | ⟨_, q'⟩
      · exact q'
      · subst q'; exact absurd rfl hT
      · subst q'; exact absurd rfl hT
    · intro q; rw [e0 i (hlt i r q).2]; exact q
  · rw [hsz]
    rcases ec i r hi with ⟨q, q'⟩ | ⟨q, _⟩ | ⟨q, _⟩
    · exact ⟨(hlt i r q').1, by omega⟩
    · subst q; exact ⟨by omega, hbl⟩
    · have := hr.lt i q; exact ⟨by omega, this.2⟩
  · have hd : RowAt w3 ow' (.sdata f) 5 1 cf.v1 (D.file f).seen.data.length ((D.file f).seen.data.map byteV) := hc.seen.data.keep (fun b hb => ⟨old b _ hb (nn hb hf (by simp)) (nn hb how (by simp)), (e0 b (hlt b _ hb).2).trans hb⟩)
    have hbd : SetAt w3 ow' (.sbad f) cf.v2 (D.file f).seen.bad := hc.seen.bad.keep (fun b hb => ⟨old b _ hb (nn hb hf (by simp)) (nn hb how (by simp)), (e0 b (hlt b _ hb).2).trans hb⟩)
    refine ⟨⟨cf.v1, cf.v2, v', .map (some b'), .map (some bw)⟩, hcf3, ⟨hd, hbd⟩, ⟨⟨ownsRow_keep (w := wA) ⟨hr.1, hr.2.imp id (fun ⟨g, cap, cur, q1, q2, q3⟩ => ⟨g, cap, cur, q1, Nat.zero_le _, q3⟩)⟩ (fun g hg => hsame g (gne g hg).1 (gne g hg).2), e2⟩, b', rfl, e1, hb.of_block (hsame b' (by omega) (by omega))⟩, ⟨bw, rfl, (e0 bw hwl).trans how, hm⟩, ?_⟩
    exact ⟨hc.wf.seen, hc.wf.seen, fun k hk => absurd rfl hk⟩
end Go.Proofs.YtabfcciejhbajaaGreatDoor

namespace Go.Proofs.YtabfcciejhbajaaGreatDoor
open Go Go.RowKit
open Go.ChangeMaps (setBlock)

theorem intE_enc (k : Int) : intE.enc k = .int .i64 k := rfl
theorem wf_small {m : Int → Option Unit} {n : Nat} (h : ∀ k, m k ≠ none → 0 ≤ k ∧ k * 512 < n) (hn : n ≤ maxData) : ∀ k, m k ≠ none → 0 ≤ k ∧ k ≤ 1099511627776 := fun k hk => by
  have := h k hk
  unfold maxData at hn
  omega
set_option maxRecDepth 100000 in
set_option maxHeartbeats 1000000 in
theorem sync_do {w : World} {bd K : Nat} {D : ADisk} {ow : Own} {c : DCells} (h : DiskIs w bd D ow K c) (hK : K ≤ w.heap.size) (q0 q1 : Nat) (nm : ByteArray) (f : Nat) (hf : D.names nm = some f)
    (b0 : w.cell? ⟨q0, 0, none⟩ = some (.pointer (some ⟨bd, 0, none⟩))) (b1 : w.cell? ⟨q1, 0, none⟩ = some (.string nm)) :
    Calls Tryz.prog 59 #[.pointer (some ⟨q0, 0, none⟩), .pointer (some ⟨q1, 0, none⟩)] w fun e w' => e = .returned (.tuple #[]) ∧ After bd ow K w (fun D' => D' = { D with file := upd D.file f (syncF (D.file f)) }) w' := by
  have c0 : w.cell? ⟨bd, 0, none⟩ = some (.map (some c.bn)) := cell_at h.cells 0
  have hl := look_some h.names hf
  have hl2 := fun (n : Nat) => look_some (w := w.drewN n) (h.names.of_block rfl) hf
  have hff := h.inNames nm f hf
  have hfl := (h.lt _ _ hff).2
  obtain ⟨cf, hc⟩ := h.files f hff
  obtain ⟨bw, hv5, how, hmw⟩ := hc.waits
  obtain ⟨bb, hv2, hob, hmb⟩ := hc.seen.bad
  have hbwl := (h.lt _ _ how).2
  have g1 : w.cell? ⟨f, 1, none⟩ = some cf.v1 := cell_at hc.cells 1
  have g2 : w.cell? ⟨f, 2, none⟩ = some (.map (some bb)) := hv2 ▸ cell_at hc.cells 2
  obtain ⟨o, cap, hv1⟩ := (ownsRow_slice hc.seen.data.row).form
  have hlen := hc.wf.seen.len
  have HS := Lib.hid (fun (w2 : World) (e : w2.heap = w.heap) => side_clone w2 (.slice o (D.file f).seen.data.length cap) bb _ _ (D.file f).seen.bad (ownsRow_slice (ownsRow_keep (hv1 ▸ hc.seen.data.row) (fun _ _ => by rw [e]))) (by simp [byteV, Value.oneCell']) (by unfold maxData at hlen; omega) (hmb.of_block (by rw [e])))
  have HM := Lib.hid (fun (wA : World) (v' : Value) (b' : Nat) => sync_mem (wA := wA) h hK hff hc how hv5 (v' := v') (b' := b'))
  have HA := Lib.hid (fun (w2 wA : World) (e : w2.heap = w.heap) (hfr : Fr (fun _ => False) w2 wA) => (show wA.heap[f]? = some (.cells #[.int .i64 (D.file f).born, cf.v1, cf.v2, cf.v3, cf.v4, .map (some bw)] 96 (0, 0)) ∧ f < wA.heap.size ∧ MapAt intE unitV wA bw (D.file f).waits from by
    have e2 : w2.heap.size = w.heap.size := by rw [e]
    have q : wA.heap[f]? = w.heap[f]? := (hfr.block f (by omega) (fun h => h)).trans (by rw [e])
    have q2 : wA.heap[bw]? = w.heap[bw]? := (hfr.block bw (by omega) (fun h => h)).trans (by rw [e])
    exact ⟨by rw [q, ← hv5]; exact hc.cells, by have := hfr.size; omega, hmw.of_block q2⟩))
  have nfw : f ≠ bw := fun e => by rw [← e, hff] at how; cases how
  rw [hv1] at g1
  clear hv1 hc hmw hmb hv5 hv2 how hff h hK hlen
  go_enter Tryz.func59, Tryz.ntmps59
  go_wp2_with fail
  go_quiet (fail)
  go_wp2_with fail
  refine (HS.out _ ?_).mono ?_
  · rfl
  rintro e wA ⟨v', b', rfl, hr, hb, hlb, hne, hfr⟩
  obtain ⟨a0, a1, a2⟩ := HA.out (w.drewN _) wA rfl hfr
  have a3 : wA.cell? ⟨f, 3, none⟩ = some cf.v3 := cell_at a0 3
  have a4 : wA.cell? ⟨f, 4, none⟩ = some cf.v4 := cell_at a0 4
  have f3 := free_at a0 3
  have f4 := free_at a0 4
  have a5 : wA.cell? ⟨f, 5, none⟩ = some (.map (some bw)) := cell_at a0 5
  have HMM := Lib.hid (HM.out wA v' b')
  have HW := Lib.hid a2
  have hform := (ownsRow_slice hr).form
  have HR := Lib.hid hr
  have HB := Lib.hid hb
  have HL := Lib.hid hlb
  have HN := Lib.hid hne
  have HF := Lib.hid hfr
  clear hr hb hlb hne hfr a2 HM HA HS
  obtain ⟨o', c', rfl⟩ := hform
  have HW2 := Lib.hid (show MapAt intE unitV ((wA.setCell ⟨f, 3, none⟩ (.slice o' (D.file f).seen.data.length c')).setCell ⟨f, 4, none⟩ (.map (some b'))) bw (D.file f).waits from HW.out.of_block (by rw [Below.heap_setCell _ _ _ _ (Ne.symm nfw), Below.heap_setCell _ _ _ _ (Ne.symm nfw)]))
  go_wp2_with (refine wpl_clear (E := intE) (V := unitV) rfl (.tmp 20) rfl HW2.out Tryz.underlying92 rfl ?_; intro o2 hm2)
  first
    | go_end0
    | refine bodyPost_ret (results_none rfl _ _ _) rfl ?_
  refine ⟨rfl, HMM.out HR.out HB.out HL.out HN.out ?_ o2 hm2⟩
  exact Fr.trans ((Fr.refl _ _).drewN _) HF.out
set_option maxRecDepth 100000 in
set_option maxHeartbeats 1000000 in
theorem disk_sync {w : World} {bd K : Nat} {eb : Er → Addr} {S : Er → Bool} {D : ADisk} {ow : Own} (hD : DiskAt w bd D ow K) (G : Glob w K eb S) (nm : ByteArray) :
    Calls Tryz.prog 30 #[.pointer (some ⟨bd, 0, none⟩), .string nm] w fun e w' => e = .returned (erV eb (opE D (goneE D.names nm))) ∧ After bd ow K w (OpR D (goneE D.names nm) false false (fun D D' => D' = syncD nm D) (fun _ _ _ => False)) w' := by
  go_enter Tryz.func30, Tryz.ntmps30
  go_wp2_with fail
  have hDA := (hD.alloc (.cells #[.pointer (some ⟨bd, 0, none⟩)] 28)).alloc (.cells #[.string nm] 9)
  have hFA : FrO ow w ((w.alloc (.cells #[.pointer (some ⟨bd, 0, none⟩)] 28)).alloc (.cells #[.string nm] 9)) := ((Fr.refl _ _).alloc _).alloc _
  have q0 : ((w.alloc (.cells #[.pointer (some ⟨bd, 0, none⟩)] 28)).alloc (.cells #[.string nm] 9)).cell? ⟨w.heap.size, 0, none⟩ = some (.pointer (some ⟨bd, 0, none⟩)) := by
    rw [World.cell?_alloc_past _ _ _ (by simp)]; simp
  have q1 : ((w.alloc (.cells #[.pointer (some ⟨bd, 0, none⟩)] 28)).alloc (.cells #[.string nm] 9)).cell? ⟨w.heap.size + 1, 0, none⟩ = some (.string nm) := by
    rw [World.cell?_alloc_at _ _ _ _ (by simp)]; rfl
  have n0 : ow w.heap.size = none := own_none hD (Nat.le_refl _)
  have n1 : ow (w.heap.size + 1) = none := own_none hD (by omega)
  have hsz : ((w.alloc (.cells #[.pointer (some ⟨bd, 0, none⟩)] 28)).alloc (.cells #[.string nm] 9)).heap.size = w.heap.size + 2 := by simp
  have hKw : K ≤ w.heap.size := G.size
  have GA := glob_out hD G hFA
  generalize ((w.alloc (.cells #[.pointer (some ⟨bd, 0, none⟩)] 28)).alloc (.cells #[.string nm] 9)) = wA at *
  generalize w.heap.size = z at *
  have cells : ∀ w3, FrO ow wA w3 → w3.cell? ⟨z, 0, none⟩ = some (.pointer (some ⟨bd, 0, none⟩)) ∧ w3.cell? ⟨z + 1, 0, none⟩ = some (.string nm) ∧ K ≤ w3.heap.size := fun w3 hf3 =>
    ⟨(hf3.cell (show z < _ by omega) (by simp [Own.has, n0])).trans q0, (hf3.cell (show z + 1 < _ by omega) (by simp [Own.has, n1])).trans q1, by have := hf3.size; omega⟩
  have dook : goneE D.names nm = none → ∀ D1 : ADisk, D1.names = D.names → DoOk 59 #[.pointer (some ⟨z, 0, none⟩), .pointer (some ⟨z + 1, 0, none⟩)] bd ow K wA D1 (fun D' => D' = syncD nm D1) := by
    intro hg D1 e1 w3 hf3 hD3
    obtain ⟨c3, hc3⟩ := hD3
    obtain ⟨a0, a1, aK⟩ := cells w3 hf3
    cases hq : D.names nm with
    | none => unfold goneE at hg; rw [hq] at hg; cases hg
    | some f =>
      rw [syncD_some (show D1.names nm = some f by rw [e1, hq])]
      exact sync_do hc3 aK z (z + 1) nm f (by rw [e1, hq]) a0 a1
  refine (run_op (k := 58) (kd := 59) (capd := #[.pointer (some ⟨z, 0, none⟩), .pointer (some ⟨z + 1, 0, none⟩)]) hDA GA (fun _ _ => by kernel_rfl) (fun _ _ => by kernel_rfl) (goneE D.names nm) false none (fun p h => by cases h) (fun D D' => D' = syncD nm D) (fun _ _ _ => False) ?_ (fun h => dook h _ rfl) (fun h _ => dook h _ rfl) (fun h p e x => by cases e)).mono ?_
  · intro w1 hf1 hD1
    obtain ⟨c1, hc1⟩ := hD1
    have G1 := glob_out hDA GA hf1
    obtain ⟨a0, a1, aK⟩ := cells w1 hf1
    have pc : w1.cell? ⟨bd, 0, none⟩ = some (.map (some c1.bn)) := cell_at hc1.cells 0
    exact sync_plan G1 bd c1.bn z (z + 1) nm D.names a0 a1 pc hc1.names
  · rintro e w' ⟨rfl, hA⟩
    go_wp2_with fail
    go_ret
    exact ⟨rfl, hA.head hFA⟩
end Go.Proofs.YtabfcciejhbajaaGreatDoor

namespace Go.Proofs.YtabfcciejhbajaaGreatDoor
open Go Go.RowKit Go.Sort

def sortI (zs : List Int) : List Int := zs.mergeSort (fun x y => decide (x ≤ y))
theorem sort_ints (w : World) (base : Nat) (v : Value) (zs : List Int) (h : w.ownsRow base 3 1 v zs.length (zs.map (Value.int .i64))) (hsz : zs.length < 4611686018427387904) :
    Calls Tryz.prog 87 #[v] w fun e w' => e = .returned (.tuple #[]) ∧ w'.ownsRow base 3 1 v zs.length ((sortI zs).map (Value.int .i64)) ∧ Fr (fun b => v.ownBlock = some b) w w' := by
  rcases h.2 with ⟨rfl, hz⟩ | ⟨g, cap, cur, rfl, hbase, hg, r1, r2, r3, r4⟩
  · have : zs = [] := List.eq_nil_of_length_eq_zero hz
    subst this
    refine (Tryz.slices_Sort_int_none none 0 w).mono ?_
    rintro e w' ⟨rfl, rfl⟩
    exact ⟨rfl, by simpa [sortI] using h, Fr.refl _ _⟩
  · have hH := holds_of_blockI (ss := zs) hg (by simpa using r4)
    have hgl : g < w.heap.size := (Array.getElem?_eq_some_iff.1 hg).1
    refine (Tryz.slices_Sort_int g 0 cap zs w hH hgl hsz).mono ?_
    rintro e w' ⟨rfl, n, os, rfl⟩
    exact ⟨rfl, ownsRow_sortedI (by simp) hbase hg r1 r2 r3, (Fr.refl _ _).grown (grownBy_sortedI _) (fun k hk _ => hk)⟩
theorem sortI_mem (zs : List Int) (x : Int) : x ∈ sortI zs ↔ x ∈ zs := List.mem_mergeSort
theorem sortI_length (zs : List Int) : (sortI zs).length = zs.length := by unfold sortI; simp
theorem sortI_sorted (zs : List Int) (h : zs.Nodup) : (sortI zs).Pairwise (· < ·) := by
  have h1 : (sortI zs).Pairwise (fun a b => decide (a ≤ b) = true) := List.pairwise_mergeSort (fun a b c => by simp; omega) (fun a b => by simp; omega) zs
  have h2 : (sortI zs).Nodup := (List.mergeSort_perm zs _).symm.nodup h
  refine (h1.and h2).imp (fun {a b} h => ?_)
  have h3 : a ≤ b := by simpa using h.1
  have h4 : a ≠ b := h.2
  omega
/-- a strictly rising list of numbers from a on, below b, has at most b - a of them -/
theorem rising_length (l : List Int) (a b : Int) (hs : l.Pairwise (· < ·)) (h : ∀ x ∈ l, a ≤ x ∧ x < b) : (l.length : Int) ≤ max 0 (b - a) := by
  induction l generalizing a with
  | nil => simp; omega
  | cons x l ih =>
    obtain ⟨hx, hs'⟩ := List.pairwise_cons.1 hs
    have h1 := h x (List.mem_cons_self ..)
    have := ih (x + 1) hs' (fun y hy => ⟨by have := hx y hy; omega, (h y (List.mem_cons_of_mem _ hy)).2⟩)
    simp only [List.length_cons]; omega
theorem small_length (l : List Int) (b : Int) (hn : l.Nodup) (hb : 0 ≤ b) (h : ∀ x ∈ l, 0 ≤ x ∧ x < b) : (l.length : Int) ≤ b := by
  have := rising_length (sortI l) 0 b (sortI_sorted l hn) (fun x hx => h x ((sortI_mem l x).1 hx))
  rw [sortI_length] at this; omega
end Go.Proofs.YtabfcciejhbajaaGreatDoor

namespace Go.Proofs.YtabfcciejhbajaaGreatDoor
open Go Go.RowKit
open Go.ChangeMaps (setBlock)

theorem infoInt : (Tryz.prog.info? 3).map (fun i => (i.zero, i.size, i.bytes)) = some (some (.int .i64 0), 1, 8) := by kernel_rfl
theorem build_file (nm : ByteArray) (o : Option Addr) (n c : Nat) (w : World) : (Instr.build 99 #[(0, .string nm), (1, .slice o n c)]).run Tryz.prog w = .ok (.agg #[.string nm, .slice o n c, .slice none 0 0]) w := by kernel_rfl
/-- the numbers of a set, rising -/
def ListOf (m : Int → Option Unit) (l : List Int) : Prop := l.Pairwise (· < ·) ∧ ∀ k, k ∈ l ↔ m k ≠ none
theorem ListOf.unique {m : Int → Option Unit} {l l' : List Int} (h : ListOf m l) (h' : ListOf m l') : l = l' := by
  obtain ⟨s, e⟩ := h
  obtain ⟨s', e'⟩ := h'
  have hm : ∀ x, x ∈ l ↔ x ∈ l' := fun x => (e x).trans (e' x).symm
  clear e e'
  induction l generalizing l' with
  | nil => cases l' with
    | nil => rfl
    | cons y t => exact absurd ((hm y).2 (List.mem_cons_self ..)) (by simp)
  | cons x t ih =>
    cases l' with
    | nil => exact absurd ((hm x).1 (List.mem_cons_self ..)) (by simp)
    | cons y t' =>
      obtain ⟨hx, s2⟩ := List.pairwise_cons.1 s
      obtain ⟨hy, s3⟩ := List.pairwise_cons.1 s'
      have hxy : x = y := by
        have h1 := (hm x).1 (List.mem_cons_self ..)
        have h2 := (hm y).2 (List.mem_cons_self ..)
        rcases List.mem_cons.1 h1 with h1 | h1
        · exact h1
        · rcases List.mem_cons.1 h2 with h2 | h2
          · exact h2.symm
          · have := hx y h2; have := hy x h1; omega
      subst hxy
      congr 1
      refine ih s2 s3 (fun z => ?_)
      have := hm z
      constructor
      · intro hz
        have h3 := hx z hz
        rcases List.mem_cons.1 (this.1 (List.mem_cons_of_mem _ hz)) with q | q
        · omega
        · exact q
      · intro hz
        have h3 := hy z hz
        rcases List.mem_cons.1 (this.2 (List.mem_cons_of_mem _ hz)) with q | q
        · omega
        · exact q

set_option maxRecDepth 100000 in
set_option maxHeartbeats 1000000 in
theorem disk_plain (w : World) (nm : ByteArray) (o : Option Addr) (n cp : Nat) (b : Nat) (xs : List Value) (bad : Int → Option Unit) (h : SliceIs w 1 (.slice o n cp) n xs) (h1 : ∀ u ∈ xs, u.oneCell' = true) (hn : n ≤ 1099511627776)
    (hb : MapAt intE unitV w b bad) (hk : ∀ k, bad k ≠ none → 0 ≤ k ∧ k ≤ 1099511627776) :
    Calls Tryz.prog 61 #[.string nm, .agg #[.slice o n cp, .map (some b)]] w fun e w' => ∃ (v v2 : Value) (l : List Int), e = .returned (.agg #[.string nm, v, v2]) ∧ w'.ownsRow w.heap.size 5 1 v n xs ∧ ListOf bad l ∧
      w'.ownsRow w.heap.size 3 1 v2 l.length (l.map (Value.int .i64)) ∧ Fr (fun _ => False) w w' := by
  have HB := Lib.hid hb
  have HS := Lib.hid h
  have H1 := Lib.hid h1
  have HK := Lib.hid hk
  clear hb h h1 hk
  go_enter Tryz.func61, Tryz.ntmps61
  go_wp2_with fail
  refine (clone_bytes _ _ n xs ((HS.out.fr (((Fr.refl (fun _ => False) w).alloc _).alloc _) (fun _ _ _ _ h => h))) H1.out (by omega)).mono ?_
  rintro e w1 ⟨v1, rfl, hown1, hfr1, _⟩
  have hz : w.heap.size + 2 ≤ w1.heap.size := by have := hfr1.size; simpa using this
  have hx0 : w1.heap[w.heap.size]? = some (.cells #[.slice o n cp, .map (some b)] 94 (0, 0)) := (hfr1.block _ (by simp; omega) (fun h => h)).trans ((heap_alloc_old _ _ (by simp)).trans (heap_alloc_new _ _))
  have hx1 : w1.heap[w.heap.size + 1]? = some (.cells #[.string ByteArray.empty, .slice none 0 0, .slice none 0 0] 99 (0, 0)) := (hfr1.block _ (by simp) (fun h => h)).trans (heap_new_at _ _ (by simp))
  have hF1 : Fr (fun _ => False) w w1 := Fr.trans (((Fr.refl _ _).alloc _).alloc _) hfr1
  obtain ⟨o1, c1', hv1⟩ := (ownsRow_slice hown1).form
  subst hv1
  have k1 : w1.cell? ⟨w.heap.size, 1, none⟩ = some (.map (some b)) := cell_at hx0 1
  have bl1 : MapAt intE unitV w1 b bad := HB.out.of_block (hF1.block b HB.out.lt (fun h => h))
  have HB1l := Lib.hid (show b < w1.heap.size from bl1.lt)
  have HX1 := Lib.hid hx1
  have HO1 := Lib.hid (show w1.ownsRow (w.heap.size + 2) 5 1 (.slice o1 n c1') n xs from by simpa using hown1)
  have HF1 := Lib.hid hF1
  have HB1 := Lib.hid (fun ob : Obj => bl1.of_block (heap_alloc_old w1 ob bl1.lt))
  have bf := build_file
  have hz1 : w.heap.size < w1.heap.size := by omega
  have hz2 : w.heap.size + 1 < w1.heap.size := by omega
  clear hx0 hx1 hown1 hF1 bl1 hfr1 HB HS
  go_wp2_with (at_range; refine wpl_rangeAt (E := intE) (V := unitV) (w1.heap.size + 1) (by simp) rfl (.tmp 13) rfl (HB1.out _) Tryz.underlying92 rfl ?_; intro cl cnt0 hit0)
  go_frame
  obtain ⟨i0, hi, hi0, hi1, hi2⟩ := info_parts infoInt
  have HI0 := Lib.hid hit0
  have HNEW := Lib.hid (fun o1 o2 : Obj => (heap_alloc_old (w1.alloc o1) o2 (by simp)).trans (heap_alloc_new w1 o1))
  clear hit0
  go_loopw [6] (fun _ wr => ∃ (todo : Int → Prop) (cnt : Nat) (l : List Int) (v2 : Value), IterAt intE unitV wr (w1.heap.size + 1) b bad todo cnt ∧ wr.heap[w1.heap.size]? = some (.cells #[.string nm, .slice o1 n c1', v2] 99 (0, 0)) ∧ l.Nodup ∧ (∀ k, k ∈ l ↔ (bad k ≠ none ∧ ¬ todo k)) ∧
      wr.ownsRow (w1.heap.size + 2) 3 1 v2 l.length (l.map (Value.int .i64)) ∧ Fr (fun _ => False) w1 wr) (fun _ wr => iterLeft wr b (w1.heap.size + 1))
  case atStart =>
    refine ⟨_, cnt0, [], .slice none 0 0, HI0.out, HNEW.out _ _, List.nodup_nil, fun k => ?_, World.ownsRow_nil _ _ _ _, ((Fr.refl _ _).alloc _).alloc _⟩
    cases hk : bad k <;> simp
  case round =>
    obtain ⟨todo, cnt, l, v2, hit, hx, hnd, hmem, hown, hF⟩ := hrel
    obtain ⟨o2, c2', hv2⟩ := (ownsRow_slice hown).form
    subst hv2
    have hll : (l.length : Int) ≤ 1099511627777 := small_length l _ hnd (by omega) (fun x hx => by have := HK.out x ((hmem x).1 hx).1; omega)
    have HX := Lib.hid hx
    have HI := Lib.hid hit
    have HND := Lib.hid hnd
    have HME := Lib.hid hmem
    have HO := Lib.hid hown
    have HF := Lib.hid hF
    have hil := hit.lt
    clear hx hit hnd hmem hown hF HI0 HNEW HB1
    go_wp2_with (at_next; refine wpl_next (E := intE) (V := unitV) rfl (.tmp 14) rfl HI.out rfl ?_ ?_)
    · intro hdone
      have HD := Lib.hid hdone
      clear hdone
      have q2 : wr.cell? ⟨w1.heap.size, 2, none⟩ = some (.slice o2 l.length c2') := cell_at HX.out 2
      have hw1l : w1.heap.size < wr.heap.size := by omega
      go_wp2_with fail
      refine (sort_ints wr (w1.heap.size + 2) _ l HO.out (by omega)).mono ?_
      rintro e w3 ⟨rfl, hown3, hf3⟩
      have hnb : ∀ i, i < w1.heap.size + 2 → ¬ (Value.slice o2 l.length c2').ownBlock = some i := fun i hi e => by have := (HO.out.lt i e).1; omega
      have hfile : w3.heap[w1.heap.size]? = some (.cells #[.string nm, .slice o1 n c1', .slice o2 l.length c2'] 99 (0, 0)) := (hf3.block _ hw1l (hnb _ (by omega))).trans HX.out
      have hres : w3.heap[w.heap.size + 1]? = some (.cells #[.string ByteArray.empty, .slice none 0 0, .slice none 0 0] 99 (0, 0)) := (hf3.block _ (by omega) (hnb _ (by omega))).trans ((HF.out.block _ (by omega) (fun h => h)).trans HX1.out)
      have d0 : w3.cell? ⟨w1.heap.size, 0, none⟩ = some (.string nm) := cell_at hfile 0
      have d1 : w3.cell? ⟨w1.heap.size, 1, none⟩ = some (.slice o1 n c1') := cell_at hfile 1
      have d2 : w3.cell? ⟨w1.heap.size, 2, none⟩ = some (.slice o2 l.length c2') := cell_at hfile 2
      have e0 : w3.cell? ⟨w.heap.size + 1, 0, none⟩ = some (.string ByteArray.empty) := cell_at hres 0
      have e1 : w3.cell? ⟨w.heap.size + 1, 1, none⟩ = some (.slice none 0 0) := cell_at hres 1
      have e2 : w3.cell? ⟨w.heap.size + 1, 2, none⟩ = some (.slice none 0 0) := cell_at hres 2
      have f0 := free_at hres 0
      have f1 := free_at hres 1
      have f2 := free_at hres 2
      have hc := heap_setCell_at (heap_setCell_at (heap_setCell_at hres 0 (.string nm)) 1 (.slice o1 n c1')) 2 (.slice o2 l.length c2')
      have r0 := Lib.hid (cell_at hc 0)
      have r1 := Lib.hid (cell_at hc 1)
      have r2 := Lib.hid (cell_at hc 2)
      have hlist : ListOf bad (sortI l) := ⟨sortI_sorted l HND.out, fun k => by rw [sortI_mem, HME.out k]; exact ⟨fun h => h.1, fun h => ⟨h, HD.out k⟩⟩⟩
      have hff : Fr (fun _ => False) w w3 := Fr.trans' (Fr.trans HF1.out HF.out) hf3 (fun i hi e => by have := (HO.out.lt i e).1; omega)
      have hrow : w3.ownsRow (w.heap.size + 2) 5 1 (.slice o1 n c1') n xs := ownsRow_keep HO1.out (fun g hg => by
        have hg' := HO1.out.lt g hg
        exact (hf3.block g (by have := HF.out.size; omega) (hnb g (by omega))).trans (HF.out.block g hg'.2 (fun h => h)))
      have HLI := Lib.hid hlist
      have HFF := Lib.hid hff
      have HROW := Lib.hid hrow
      have HO3 := Lib.hid hown3
      clear hc hlist hff hrow hown3 hfile hres hf3 hnb
      go_wp2_with fail
      refine bodyPost_ret (v := .agg #[.string nm, .slice o1 n c1', .slice o2 l.length c2']) (by simp [results, Tryz.results61, go_sem, r0.out, r1.out, r2.out]) rfl ⟨.slice o1 n c1', .slice o2 l.length c2', sortI l, rfl, ?_, HLI.out, ?_, ?_⟩
      · have := HROW.out
        refine ownsRow_setCell_other (ownsRow_setCell_other (ownsRow_setCell_other ⟨this.1, this.2.imp id (fun ⟨g, cap, cur, q1, q2, q3⟩ => ⟨g, cap, cur, q1, by omega, q3⟩)⟩ ?_ _) ?_ _) ?_ _
        all_goals (intro e; have := (this.lt _ e).1; simp only at this; omega)
      · rw [sortI_length]
        have := HO3.out
        refine ownsRow_setCell_other (ownsRow_setCell_other (ownsRow_setCell_other ⟨this.1, this.2.imp id (fun ⟨g, cap, cur, q1, q2, q3⟩ => ⟨g, cap, cur, q1, by omega, q3⟩)⟩ ?_ _) ?_ _) ?_ _
        all_goals (intro e; have := (this.lt _ e).1; simp only at this; omega)
      · refine (((HFF.out.setCell ?_ _).setCell ?_ _).setCell ?_ _) <;> (intro h; simp only at h; omega)
    · intro k u w2 cnt1 htodo hbad hit1 hlt1 hfr1 hsz1 hent
      simp only [intE_enc] at hent ⊢
      have hFile : w2.heap[w1.heap.size]? = some (.cells #[.string nm, .slice o1 n c1', .slice o2 l.length c2'] 99 (0, 0)) := (hfr1.block _ (by omega) (show ¬ w1.heap.size = w1.heap.size + 1 by omega)).trans HX.out
      have q2 : w2.cell? ⟨w1.heap.size, 2, none⟩ = some (.slice o2 l.length c2') := cell_at hFile 2
      have hs2 : w1.heap.size + 2 ≤ w2.heap.size := by omega
      have hw1l : w1.heap.size < w2.heap.size := by omega
      have hown2 := ownsRow_keep (w' := w2) HO.out (fun g hg => hfr1.block g (HO.out.lt g hg).2 (show ¬ g = w1.heap.size + 1 by have := (HO.out.lt g hg).1; omega))
      have HO2 := Lib.hid hown2
      have HFL := Lib.hid hFile
      have HH := Lib.hid hit1
      have HL := Lib.hid hlt1
      have HFR := Lib.hid hfr1
      have HT := Lib.hid htodo
      have HB := Lib.hid hbad
      have HNB := Lib.hid (show ∀ i, i < w1.heap.size + 2 → ¬ (Value.slice o2 l.length c2').ownBlock = some i from fun i hi e => by have := (HO.out.lt i e).1; omega)
      have bl := HI.out.mapAt.lt
      clear hown2 hFile hit1 hlt1 hfr1 htodo hbad hsz1
      have hnew := Lib.hid (fun (o : Obj) => heap_alloc_new w2 o)
      go_wp2_with (at_builtin; refine wpList_append_own_at _ rfl (.tmp 20) (.tmp 22) 63 rfl (w1.heap.size + 2) 3 i0 _ 1 8 Tryz.underlying63 hi hi0 hi1 hi2 rfl (by decide) (.slice o2 l.length c2') l.length _ rfl (HO2.out.alloc _) ⟨w2.heap.size, 0, none⟩ 1 1 [.int .i64 k] rfl rfl (World.news_of_block (hnew.out _)) (by simp [Value.oneCell']) (by unfold maxLen; omega) (by omega) (by simp; omega) ?_; intro v3 w4 hown4 hgrow4 hnil4 hat4; obtain ⟨o3, c3, hv3⟩ := (ownsRow_slice hown4).form; subst hv3; have q3 : w4.heap[w1.heap.size]? = _ := (hgrow4.block _ (by simp; omega) (fun e => HNB.out _ (by omega) e.symm)).trans ((heap_alloc_old w2 _ hw1l).trans HFL.out); have q4 : w4.cell? ⟨w1.heap.size, 2, none⟩ = some (.slice o2 l.length c2') := cell_at q3 2; have q5 := free_at q3 2; have HW4 := Lib.hid hown4; have HG4 := Lib.hid hgrow4; have HQ3 := Lib.hid q3; clear hown4 hgrow4 q3)
      have hz4 := HG4.out.size
      have hne3 : ∀ i, i < w1.heap.size + 2 → ¬ (Value.slice o3 (l.length + 1) c3).ownBlock = some i := fun i hi e => by have := (HW4.out.lt i e).1; omega
      have hzw : (w2.alloc (.cells #[.int .i64 k] 3)).heap.size = w2.heap.size + 1 := by simp
      have hb4 : w4.heap[b]? = w2.heap[b]? := (HG4.out.block b (by simp; have := HH.out.mapAt.lt; omega) (fun e => by
        have q := (HO.out.lt b e.symm).1
        have := HB1l.out; omega)).trans (heap_alloc_old w2 _ HH.out.mapAt.lt)
      have hr4 : w4.heap[w1.heap.size + 1]? = w2.heap[w1.heap.size + 1]? := (HG4.out.block _ (by simp; omega) (fun e => HNB.out _ (by omega) e.symm)).trans (heap_alloc_old w2 _ (by omega))
      have hFr4 : Fr (fun _ => False) w1 w4 := Fr.trans' HF.out ((Fr.trans' (S := fun i => i = w1.heap.size + 1 ∨ (Value.slice o2 l.length c2').ownBlock = some i) (HFR.out.mono (fun i _ e => .inl e)) ((Fr.refl (fun i => (Value.slice o2 l.length c2').ownBlock = some i) w2).alloc _ |>.grown HG4.out (fun i hi _ => hi)) (fun i _ e => .inr e))) (fun i hi e => by
        rcases e with e | e
        · omega
        · have := (HO.out.lt i e).1; omega)
      refine ⟨⟨_, cnt1, l ++ [k], .slice o3 (l.length + 1) c3, HH.out.of_blocks ?_ ?_, ?_, ?_, fun x => ?_, ?_, hFr4.setCell (fun h => by simp at h) _⟩, ?_⟩
      · rw [Below.heap_setCell _ _ _ _ (by have := HB1l.out; simp only; omega)]; exact hb4
      · rw [Below.heap_setCell _ _ _ _ (by simp)]; exact hr4
      · exact heap_setCell_at HQ3.out 2 _
      · refine List.nodup_append.2 ⟨HND.out, by simp, fun a ha x hx e => ?_⟩
        have : x = k := by simpa using hx
        subst this; subst e
        exact ((HME.out _).1 ha).2 HT.out
      · have hbk : bad k ≠ none := by rw [HB.out]; simp
        constructor
        · intro hx
          rcases List.mem_append.1 hx with hx | hx
          · exact ⟨((HME.out x).1 hx).1, fun q => ((HME.out x).1 hx).2 q.1⟩
          · have : x = k := by simpa using hx
            subst this; exact ⟨hbk, fun q => q.2 rfl⟩
        · rintro ⟨q1, q2⟩
          by_cases e : x = k
          · subst e; simp
          · exact List.mem_append_left _ ((HME.out x).2 ⟨q1, fun ht => q2 ⟨ht, e⟩⟩)
      · have := HW4.out
        refine ownsRow_setCell_other ?_ (fun e => hne3 w1.heap.size (by omega) e) _
        simpa using this
      · have e1 : (w4.setCell ⟨w1.heap.size, 2, none⟩ (.slice o3 (l.length + 1) c3)).heap[b]? = w2.heap[b]? := by rw [Below.heap_setCell _ _ _ _ (by have := HB1l.out; simp only; omega)]; exact hb4
        have e2 : (w4.setCell ⟨w1.heap.size, 2, none⟩ (.slice o3 (l.length + 1) c3)).heap[w1.heap.size + 1]? = w2.heap[w1.heap.size + 1]? := by rw [Below.heap_setCell _ _ _ _ (by simp)]; exact hr4
        rw [(HH.out.of_blocks e1 e2).left_eq, HI.out.left_eq]; exact HL.out
end Go.Proofs.YtabfcciejhbajaaGreatDoor

namespace Go.Proofs.YtabfcciejhbajaaGreatDoor
open Go Go.RowKit

def readE (D : ADisk) (nm : ByteArray) : Option Er := if D.down = true then some .down else goneE D.names nm
theorem eql_ptr (b : Nat) (w : World) : (binOp .eql 83 (.pointer (some ⟨b, 0, none⟩)) (.pointer none)).run Tryz.prog w = .ok (.bool false) w := by kernel_rfl
theorem eql_nilptr (w : World) : (binOp .eql 83 (.pointer none) (.pointer none)).run Tryz.prog w = .ok (.bool true) w := by kernel_rfl
theorem eql_disk (b : Nat) (w : World) : (binOp .eql 28 (.pointer (some ⟨b, 0, none⟩)) (.pointer none)).run Tryz.prog w = .ok (.bool false) w := by kernel_rfl

set_option maxRecDepth 100000 in
set_option maxHeartbeats 1000000 in
theorem read_err {w : World} {bd K : Nat} {eb : Er → Addr} {S : Er → Bool} {D : ADisk} {ow : Own} {c : DCells} (h : DiskIs w bd D ow K c) (G : Glob w K eb S) (nm : ByteArray) (x : Er) (hx : readE D nm = some x) :
    Calls Tryz.prog 31 #[.pointer (some ⟨bd, 0, none⟩), .string nm] w fun e w' => e = .returned (.tuple #[.slice none 0 0, .slice none 0 0, erV eb (some x)]) ∧ Fr (fun _ => False) w w' := by
  have c0 : w.cell? ⟨bd, 0, none⟩ = some (.map (some c.bn)) := cell_at h.cells 0
  have c8 : w.cell? ⟨bd, 8, none⟩ = some (.bool D.down) := cell_at h.cells 8
  have e1 := eql_disk
  have e2 := eql_nilptr
  cases hd : D.down with
  | true =>
    have hxx : x = .down := by unfold readE at hx; rw [if_pos hd] at hx; cases hx; rfl
    subst hxx
    have v3 : w.cell? ⟨5, 0, none⟩ = some (.iface 169 (.pointer (some (eb .down)))) := G.var .down rfl
    rw [hd] at c8
    clear hx G h
    go_enter Tryz.func31, Tryz.ntmps31
    go_wp2_with fail
    go_quiet (fail)
    go_wp2_with fail
    refine bodyPost_ret (v := .tuple #[.slice none 0 0, .slice none 0 0, .iface 169 (.pointer (some (eb .down)))]) (by simp [results, Tryz.results31, go_sem]) rfl ?_
    exact ⟨rfl, (Fr.refl _ _).drewN _⟩
  | false =>
    have hg : goneE D.names nm = some x := by unfold readE at hx; rw [if_neg (by simp [hd])] at hx; exact hx
    have hq : D.names nm = none := by
      unfold goneE at hg
      cases hq : D.names nm with
      | none => rfl
      | some f => rw [hq] at hg; cases hg
    have hxx : x = .gone := by unfold goneE at hg; rw [hq] at hg; cases hg; rfl
    subst hxx
    have v3 : w.cell? ⟨6, 0, none⟩ = some (.iface 169 (.pointer (some (eb .gone)))) := G.var .gone rfl
    have hl := look_none h.names hq
    rw [hd] at c8
    clear hx G h hg
    go_enter Tryz.func31, Tryz.ntmps31
    go_wp2_with fail
    go_quiet (fail)
    go_wp2_with fail
    refine bodyPost_ret (v := .tuple #[.slice none 0 0, .slice none 0 0, .iface 169 (.pointer (some (eb .gone)))]) (by simp [results, Tryz.results31, go_sem]) rfl ?_
    exact ⟨rfl, (Fr.refl _ _).drewN _⟩
set_option maxRecDepth 100000 in
set_option maxHeartbeats 1000000 in
theorem read_ok {w : World} {bd K : Nat} {D : ADisk} {ow : Own} {c : DCells} (h : DiskIs w bd D ow K c) (nm : ByteArray) (f : Nat) (hd : D.down = false) (hf : D.names nm = some f) :
    Calls Tryz.prog 31 #[.pointer (some ⟨bd, 0, none⟩), .string nm] w fun e w' => ∃ (v v2 : Value) (l : List Int), e = .returned (.tuple #[v, v2, .nilIface]) ∧ w'.ownsRow w.heap.size 5 1 v (D.file f).seen.data.length ((D.file f).seen.data.map byteV) ∧
      ListOf (D.file f).seen.bad l ∧ w'.ownsRow w.heap.size 3 1 v2 l.length (l.map (Value.int .i64)) ∧ Fr (fun _ => False) w w' := by
  have c0 : w.cell? ⟨bd, 0, none⟩ = some (.map (some c.bn)) := cell_at h.cells 0
  have c8 : w.cell? ⟨bd, 8, none⟩ = some (.bool D.down) := cell_at h.cells 8
  rw [hd] at c8
  have e1 := eql_disk
  have e2 := eql_ptr
  have hl := look_some h.names hf
  have hff := h.inNames nm f hf
  obtain ⟨cf, hc⟩ := h.files f hff
  obtain ⟨bb, hv2, hob, hmb⟩ := hc.seen.bad
  have g1 : w.cell? ⟨f, 1, none⟩ = some cf.v1 := cell_at hc.cells 1
  have g2 : w.cell? ⟨f, 2, none⟩ = some (.map (some bb)) := hv2 ▸ cell_at hc.cells 2
  obtain ⟨o, cap, hv1⟩ := (ownsRow_slice hc.seen.data.row).form
  have hlen := hc.wf.seen.len
  have HP := Lib.hid (disk_plain w nm o (D.file f).seen.data.length cap bb _ (D.file f).seen.bad (ownsRow_slice (hv1 ▸ hc.seen.data.row)) (by simp [byteV, Value.oneCell']) (by unfold maxData at hlen; exact hlen) hmb (wf_small hc.wf.seen.bad hc.wf.seen.len))
  rw [hv1] at g1
  clear hv1 hc hmb hv2 hob hff h hlen
  go_enter Tryz.func31, Tryz.ntmps31
  go_wp2_with fail
  refine HP.out.mono ?_
  rintro e w1 ⟨v, v2, l, rfl, hr, hl, hr2, hfr⟩
  obtain ⟨o1, k1, hv1⟩ := (ownsRow_slice hr).form
  obtain ⟨o2, k2, hv2⟩ := (ownsRow_slice hr2).form
  subst hv1
  subst hv2
  have HR := Lib.hid hr
  have HR2 := Lib.hid hr2
  have HL := Lib.hid hl
  have HF := Lib.hid hfr
  clear hr hr2 hl hfr HP
  go_wp2_with fail
  go_quiet (fail)
  go_wp2_with fail
  refine bodyPost_ret (v := .tuple #[.slice o1 (D.file f).seen.data.length k1, .slice o2 l.length k2, .nilIface]) (by simp [results, Tryz.results31, go_sem]) rfl ?_
  exact ⟨_, _, l, rfl, HR.out.alloc _, HL.out, HR2.out.alloc _, (HF.out.alloc _).drewN _⟩
end Go.Proofs.YtabfcciejhbajaaGreatDoor
