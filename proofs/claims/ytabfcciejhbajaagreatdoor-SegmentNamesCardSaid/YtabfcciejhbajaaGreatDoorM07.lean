/-
  (*Disk).SyncNames. Conditions: the disk lies in memory as DiskAt says; the number of changes that wait.
-/
import Derived.Test.YtabfcciejhbajaaGreatDoorM06
namespace Go.Proofs.YtabfcciejhbajaaGreatDoor
open Go Go.RowKit
open Go.ChangeMaps (setBlock)

noncomputable def syncNamesD (D : ADisk) : ADisk := { D with safe := leftMap D.safe D.waiting, waiting := [] }

set_option maxRecDepth 100000 in
theorem syncNames_plan (w : World) (q0 : Nat) :
    Calls Tryz.prog 48 #[.pointer (some ⟨q0, 0, none⟩)] w fun e w' => e = .returned (.agg #[erV (fun _ => (⟨0, 0, none⟩ : Addr)) none, .func (.func 49) #[] #[.pointer (some ⟨q0, 0, none⟩)], .bool false, .nilFunc]) ∧ Fr (fun _ => False) w w' := by
  go_enter Tryz.func48, Tryz.ntmps48
  go_wp2_with fail
  refine bodyPost_ret (v := .agg #[.nilIface, .func (.func 49) #[] #[.pointer (some ⟨q0, 0, none⟩)], .bool false, .nilFunc]) (by simp [results, Tryz.results48, go_sem]) rfl ⟨rfl, ?_⟩
  exact (Fr.refl _ _).alloc _
theorem leftMap_in {m : ByteArray → Option Nat} {l : List AChange} {P : Nat → Prop} (hm : ∀ n f, m n = some f → P f) (hl : ∀ c ∈ l, ∀ f, c.f = some f → P f) : ∀ n f, leftMap m l n = some f → P f := by
  induction l generalizing m with
  | nil => exact hm
  | cons c l ih =>
    refine ih (m := leftStep m c) ?_ (fun x hx => hl x (List.mem_cons_of_mem _ hx))
    intro n f h
    have base : ∀ n f, (if c.src = ByteArray.empty then m else upd m c.src none) n = some f → P f := by
      intro n f h
      split at h
      · exact hm n f h
      · rcases upd_at m c.src n none with ⟨_, q⟩ | ⟨_, q⟩
        · rw [q] at h; cases h
        · rw [q] at h; exact hm n f h
    cases hcf : c.f with
    | none => simp only [leftStep, hcf] at h; exact base n f h
    | some f' =>
      simp only [leftStep, hcf] at h
      rcases upd_at (if c.src = ByteArray.empty then m else upd m c.src none) c.dst n (some f') with ⟨_, q⟩ | ⟨_, q⟩
      · rw [q] at h; cases h; exact hl c (List.mem_cons_self ..) _ hcf
      · rw [q] at h; exact base n f h
theorem syncNames_mem {w wA : World} {bd K : Nat} {D : ADisk} {ow : Own} {c : DCells} (h : DiskIs w bd D ow K c) (hK : K ≤ w.heap.size) {b : Nat} (hm : MapAt strE fileV wA b (leftMap D.safe D.waiting)) (hb : w.heap.size ≤ b) (hf : Fr (fun _ => False) w wA) :
    After bd ow K w (fun D' => D' = syncNamesD D) ((wA.setCell ⟨bd, 1, none⟩ (.map (some b))).setCell ⟨bd, 2, none⟩ (.slice none 0 0)) := by
  have hlt := h.lt
  have nob : ow b = none := own_none ⟨c, h⟩ hb
  have hA : DiskIs wA bd D ow K c := h.keep hf.size (fun i hi => hf.block i (by
    cases ho : ow i with
    | none => exact absurd ho hi
    | some r => exact (hlt i r ho).2) (fun h => h))
  have hbl := hm.lt
  have nbd : b ≠ bd := fun e => by rw [e, h.me] at nob; cases nob
  have e1 := heap_setCell_at hA.cells 1 (.map (some b))
  have e2 := heap_setCell_at e1 2 (.slice none 0 0)
  let ow' : Own := fun i => if i = b then some .safe else ow i
  have hme : ow' bd = some .disk := by show (if bd = b then _ else _) = _; rw [if_neg (Ne.symm nbd)]; exact h.me
  have hS : DiskIs (wA.setCell ⟨bd, 1, none⟩ (.map (some b))) bd { D with safe := leftMap D.safe D.waiting } ow' K { c with bs := b } := by
    refine hA.setSafe (w' := wA.setCell ⟨bd, 1, none⟩ (.map (some b))) (ow' := ow') ⟨fun i r hi hr => ?_, fun i r hr => ?_, fun i r hi => ?_⟩ hme (by show (if b = b then _ else _) = _; rw [if_pos rfl]) e1 (hm.of_block (Below.heap_setCell _ _ _ _ nbd)) ?_
    · exact Below.heap_setCell _ _ _ _ (fun e => hr (.inr (by rw [e, h.me] at hi; cases hi; rfl)))
    · show (if i = b then some Role.safe else ow i) = some r ↔ _
      by_cases e : i = b
      · rw [if_pos e, e, nob]
        constructor
        · intro q; cases q; exact absurd (.inl rfl) hr
        · intro q; cases q
      · rw [if_neg e]
    · have hi' : (if i = b then some Role.safe else ow i) = some r := hi
      rw [World.size_setCell]
      by_cases e : i = b
      · subst e; exact ⟨by omega, hbl⟩
      · rw [if_neg e] at hi'; exact hA.lt i r hi'
    · exact leftMap_in (P := fun f => ow f = some (.file f)) h.inSafe h.inWait
  refine ⟨_, ow', rfl, ⟨{ c with bs := b, vw := .slice none 0 0 }, ?_⟩, ?_, ?_⟩
  · refine hS.setWaiting (w' := (wA.setCell ⟨bd, 1, none⟩ (.map (some b))).setCell ⟨bd, 2, none⟩ (.slice none 0 0)) (ow' := ow') ⟨fun i r hi hr => ?_, fun _ _ _ => Iff.rfl, fun i r hi => ?_⟩ hme e2 ⟨World.ownsRow_nil _ _ _ _, fun g hg => by cases hg⟩ (fun _ h => by cases h)
    · exact Below.heap_setCell _ _ _ _ (fun e => hr (.inr (by rw [e, hme] at hi; cases hi; rfl)))
    · rw [World.size_setCell]; exact hS.lt i r hi
  · exact ((hf.mono (fun _ _ h => h.elim)).setCell (fun _ => Own.has_some h.me) _).setCell (fun _ => Own.has_some h.me) _
  · intro i hi hn
    show (if i = b then _ else _) = _
    rw [if_neg (by omega)]; exact hn

set_option maxRecDepth 100000 in
set_option maxHeartbeats 1000000 in
theorem syncNames_do {w : World} {bd K : Nat} {D : ADisk} {ow : Own} {c : DCells} (h : DiskIs w bd D ow K c) (hK : K ≤ w.heap.size) (q0 : Nat) (b0 : w.cell? ⟨q0, 0, none⟩ = some (.pointer (some ⟨bd, 0, none⟩))) (n0 : ow q0 = none) (hl : D.waiting.length ≤ 1000000000000) :
    Calls Tryz.prog 49 #[.pointer (some ⟨q0, 0, none⟩)] w fun e w' => e = .returned (.tuple #[]) ∧ After bd ow K w (fun D' => D' = syncNamesD D) w' := by
  have c2 : w.cell? ⟨bd, 2, none⟩ = some c.vw := cell_at h.cells 2
  have hne0 : q0 ≠ bd := fun e => by rw [e, h.me] at n0; cases n0
  have hform := (ownsRow_slice h.waiting.row).form
  obtain ⟨o, cap, hv⟩ := hform
  have HL := Lib.hid (disk_left w.drew bd c.bs D.safe D.waiting c.vw D.waiting.length D.waiting.length D.waiting.length (cell_at h.cells 1) c2 (h.safe.of_block rfl) (ownsRow_keep h.waiting.row (fun _ _ => rfl)) hl (by simp) (by split <;> omega) (Nat.le_refl _))
  rw [List.take_length] at HL
  have HM := Lib.hid (fun (wA : World) (b : Nat) => syncNames_mem (wA := wA) h hK (b := b))
  have HC := Lib.hid (fun (wA : World) (hf : Fr (fun _ => False) w.drew wA) => (show wA.cell? ⟨q0, 0, none⟩ = some (.pointer (some ⟨bd, 0, none⟩)) ∧ wA.cell? ⟨bd, 1, none⟩ = some (.map (some c.bs)) ∧ wA.cell? ⟨bd, 2, none⟩ = some c.vw ∧ wA.frozen? ⟨bd, 1, none⟩ = false ∧ wA.frozen? ⟨bd, 2, none⟩ = false ∧ bd < wA.heap.size ∧ Fr (fun _ => False) w wA from by
    have l0 := World.block_lt_of_cell? _ _ b0
    have l1 := (h.lt _ _ h.me).2
    have hf2 := Fr.trans ((Fr.refl (fun _ => False) w).drew) hf
    have hb : wA.heap[bd]? = _ := (hf2.block bd l1 (fun h => h)).trans h.cells
    have hq : wA.heap[q0]? = w.heap[q0]? := hf2.block q0 l0 (fun h => h)
    exact ⟨(World.cell?_of_block hq).trans b0, cell_at hb 1, cell_at hb 2, free_at hb 1, free_at hb 2, by have := hf2.size; omega, hf2⟩))
  rw [hv] at c2
  clear h hl hv hK n0
  go_enter Tryz.func49, Tryz.ntmps49
  go_wp2_with fail
  go_region_with (first
    | (go_at_call 50; refine HL.out.mono ?_; rintro e wA ⟨b, rfl, hm, hb, hf⟩; obtain ⟨d0, dd1, dd2, d1, d2, d3, hfA⟩ := HC.out wA hf; have HMM := Lib.hid hm; have HBB := Lib.hid hb; have HFF := Lib.hid hfA; clear hm hb hf hfA))
  all_goals
    go_wp2_with fail
    go_end0
    exact ⟨rfl, HM.out wA b HMM.out HBB.out HFF.out⟩

set_option maxRecDepth 100000 in
set_option maxHeartbeats 1000000 in
theorem disk_syncNames {w : World} {bd K : Nat} {eb : Er → Addr} {S : Er → Bool} {D : ADisk} {ow : Own} (hD : DiskAt w bd D ow K) (G : Glob w K eb S) (hl : D.waiting.length ≤ 1000000000000) :
    Calls Tryz.prog 26 #[.pointer (some ⟨bd, 0, none⟩)] w fun e w' => e = .returned (erV eb (opE D none)) ∧ After bd ow K w (OpR D none false false (fun D D' => D' = syncNamesD D) (fun _ _ _ => False)) w' := by
  go_enter Tryz.func26, Tryz.ntmps26
  go_wp2_with fail
  have hDA := hD.alloc (.cells #[.pointer (some ⟨bd, 0, none⟩)] 28)
  have hFA : FrO ow w (w.alloc (.cells #[.pointer (some ⟨bd, 0, none⟩)] 28)) := (Fr.refl _ _).alloc _
  have q0 : (w.alloc (.cells #[.pointer (some ⟨bd, 0, none⟩)] 28)).cell? ⟨w.heap.size, 0, none⟩ = some (.pointer (some ⟨bd, 0, none⟩)) := by
    rw [World.cell?_alloc_at _ _ _ _ (by simp)]; rfl
  have n0 : ow w.heap.size = none := own_none hD (Nat.le_refl _)
  have hsz : (w.alloc (.cells #[.pointer (some ⟨bd, 0, none⟩)] 28)).heap.size = w.heap.size + 1 := by simp
  have hKw : K ≤ w.heap.size := G.size
  have GA := glob_out hD G hFA
  generalize (w.alloc (.cells #[.pointer (some ⟨bd, 0, none⟩)] 28)) = wA at *
  generalize w.heap.size = z at *
  have dook : ∀ D1 : ADisk, D1.waiting = D.waiting → DoOk 49 #[.pointer (some ⟨z, 0, none⟩)] bd ow K wA D1 (fun D' => D' = syncNamesD D1) := by
    intro D1 e1 w3 hf3 hD3
    obtain ⟨c3, hc3⟩ := hD3
    exact syncNames_do hc3 (Nat.le_trans hKw (by have := hf3.size; omega)) z ((hf3.cell (show z < _ by omega) (by simp [Own.has, n0])).trans q0) n0 (by rw [e1]; exact hl)
  refine (run_op (k := 48) (kd := 49) (capd := #[.pointer (some ⟨z, 0, none⟩)]) hDA GA (fun _ _ => by kernel_rfl) (fun _ _ => by kernel_rfl) none false none (fun _ h => by cases h) (fun D D' => D' = syncNamesD D) (fun _ _ _ => False) ?_ (fun _ => dook _ rfl) (fun _ _ => dook _ rfl) (fun _ _ h => by cases h)).mono ?_
  · intro w1 hf1 hD1
    exact syncNames_plan w1 z
  · rintro e w' ⟨rfl, hA⟩
    go_wp2_with fail
    go_ret
    exact ⟨rfl, hA.head hFA⟩
end Go.Proofs.YtabfcciejhbajaaGreatDoor
