/-
  (*Disk).Create: what it answers and what the disk is behind it. Conditions: the disk lies in memory as DiskAt says.
  What a step on one part of the disk's memory leaves of the disk. Conditions: none; lemmas on memory alone.
  The deed of (*Disk).Create. Conditions: the disk lies in memory as DiskIs says.
  (*Disk).Create, whole. Conditions: the disk lies in memory as DiskAt says.
-/
import Derived.Test.YtabfcciejhbajaaGreatDoorM03
import Derived.StillTailTactics
import Derived.Deep.AppendLies
import Derived.Test.YtabfcciejhbajaaGreatDoorM01
import Derived.Deep.RegionLaw
namespace Go.Proofs.YtabfcciejhbajaaGreatDoor
open Go Go.RowKit

def createE (D : ADisk) (nm : ByteArray) : Option Er := if goodName nm = false then some .arg else if (D.names nm).isSome then some .there else none
def newAFile (n : Int) : AFile := { born := n, seen := ⟨[], fun _ => none⟩, safe := ⟨[], fun _ => none⟩, waits := fun _ => none }
/-- b is no file of the disk -/
def Fresh (D : ADisk) (b : Nat) : Prop := (∀ n, D.names n ≠ some b) ∧ (∀ n, D.safe n ≠ some b) ∧ ∀ c ∈ D.waiting, c.f ≠ some b
noncomputable def createD (nm : ByteArray) (D : ADisk) (b : Nat) : ADisk :=
  { D with born := wrap64 (D.born + 1), names := upd D.names nm (some b), waiting := D.waiting ++ [⟨ByteArray.empty, nm, some b⟩], file := upd D.file b (newAFile (wrap64 (D.born + 1))) }
def createR (nm : ByteArray) (D D' : ADisk) : Prop := ∃ b, Fresh D b ∧ D' = createD nm D b

theorem neq_ptr (b : Nat) (w : World) : (binOp .neq 83 (.pointer (some ⟨b, 0, none⟩)) (.pointer none)).run Tryz.prog w = .ok (.bool true) w := by kernel_rfl
theorem neq_nilptr (w : World) : (binOp .neq 83 (.pointer none) (.pointer none)).run Tryz.prog w = .ok (.bool false) w := by kernel_rfl

set_option maxRecDepth 100000 in
set_option maxHeartbeats 1000000 in
theorem create_plan_arg {w : World} {K : Nat} {eb : Er → Addr} {S : Er → Bool} (G : Glob w K eb S) (bd bn q0 q1 : Nat) (nm : ByteArray) (m : ByteArray → Option Nat) (hs : nm.size ≤ 9223372036854775807)
    (b0 : w.cell? ⟨q0, 0, none⟩ = some (.pointer (some ⟨bd, 0, none⟩))) (b1 : w.cell? ⟨q1, 0, none⟩ = some (.string nm)) (c0 : w.cell? ⟨bd, 0, none⟩ = some (.map (some bn))) (hm : MapAt strE fileV w bn m) (hg : goodName nm = false) :
    Calls Tryz.prog 44 #[.pointer (some ⟨q0, 0, none⟩), .pointer (some ⟨q1, 0, none⟩)] w fun e w' => e = .returned (.agg #[erV eb (some .arg), .func (.func 45) #[] #[.pointer (some ⟨q0, 0, none⟩), .pointer (some ⟨q1, 0, none⟩)], .bool true, .nilFunc]) ∧ Fr (fun _ => False) w w' := by
  have v4 : w.cell? ⟨2, 0, none⟩ = some (.iface 169 (.pointer (some (eb .arg)))) := G.var .arg rfl
  have v7 : w.cell? ⟨3, 0, none⟩ = some (.iface 169 (.pointer (some (eb .there)))) := G.var .there rfl
  have l0 := World.block_lt_of_cell? _ _ b0
  have l1 := World.block_lt_of_cell? _ _ b1
  have l2 := World.block_lt_of_cell? _ _ c0
  have l3 := hm.lt
  have l4 := World.block_lt_of_cell? _ _ v4
  have l7 := World.block_lt_of_cell? _ _ v7
  have np := neq_ptr
  have d1 := @setCell_drewN
  have d2 := @alloc_drewN
  have nn := neq_nilptr
  simp only at l0 l1 l2 l4 l7
  clear G
  clear np nn v7 l7 hm
  go_enter Tryz.func44, Tryz.ntmps44
  go_wp2_with fail
  refine (disk_goodName nm _ hs).mono ?_
  rintro e w' ⟨rfl, rfl⟩
  go_wp2_with fail
  refine bodyPost_ret (v := .agg #[.iface 169 (.pointer (some (eb .arg))), .func (.func 45) #[] #[.pointer (some ⟨q0, 0, none⟩), .pointer (some ⟨q1, 0, none⟩)], .bool true, .nilFunc]) (by simp [results, Tryz.results44, go_sem]) rfl ⟨rfl, ?_⟩
  exact ((Fr.refl _ _).alloc _).alloc _
set_option maxRecDepth 100000 in
set_option maxHeartbeats 1000000 in
theorem create_plan_there {w : World} {K : Nat} {eb : Er → Addr} {S : Er → Bool} (G : Glob w K eb S) (bd bn q0 q1 : Nat) (nm : ByteArray) (m : ByteArray → Option Nat) (hs : nm.size ≤ 9223372036854775807)
    (b0 : w.cell? ⟨q0, 0, none⟩ = some (.pointer (some ⟨bd, 0, none⟩))) (b1 : w.cell? ⟨q1, 0, none⟩ = some (.string nm)) (c0 : w.cell? ⟨bd, 0, none⟩ = some (.map (some bn))) (hm : MapAt strE fileV w bn m) (hg : goodName nm = true) {f : Nat} (hq : m nm = some f) :
    Calls Tryz.prog 44 #[.pointer (some ⟨q0, 0, none⟩), .pointer (some ⟨q1, 0, none⟩)] w fun e w' => e = .returned (.agg #[erV eb (some .there), .func (.func 45) #[] #[.pointer (some ⟨q0, 0, none⟩), .pointer (some ⟨q1, 0, none⟩)], .bool true, .nilFunc]) ∧ Fr (fun _ => False) w w' := by
  have v4 : w.cell? ⟨2, 0, none⟩ = some (.iface 169 (.pointer (some (eb .arg)))) := G.var .arg rfl
  have v7 : w.cell? ⟨3, 0, none⟩ = some (.iface 169 (.pointer (some (eb .there)))) := G.var .there rfl
  have l0 := World.block_lt_of_cell? _ _ b0
  have l1 := World.block_lt_of_cell? _ _ b1
  have l2 := World.block_lt_of_cell? _ _ c0
  have l3 := hm.lt
  have l4 := World.block_lt_of_cell? _ _ v4
  have l7 := World.block_lt_of_cell? _ _ v7
  have np := neq_ptr
  have d1 := @setCell_drewN
  have d2 := @alloc_drewN
  have nn := neq_nilptr
  simp only at l0 l1 l2 l4 l7
  clear G
  have hl := fun (o : Obj) => look_some (hm.of_block (w' := w.alloc o) (heap_alloc_old w o l3)) hq
  have hl2 := fun (o o' : Obj) => look_some (hm.of_block (w' := (w.alloc o).alloc o') ((heap_alloc_old (w.alloc o) o' (by simp; omega)).trans (heap_alloc_old w o l3))) hq
  have hl3 := fun (o o' : Obj) (n : Nat) => look_some (hm.of_block (w' := ((w.alloc o).alloc o').drewN n) ((heap_alloc_old (w.alloc o) o' (by simp; omega)).trans (heap_alloc_old w o l3))) hq
  clear hm hq hl
  clear nn v4 l4
  go_enter Tryz.func44, Tryz.ntmps44
  go_wp2_with fail
  refine (disk_goodName nm _ hs).mono ?_
  rintro e w' ⟨rfl, rfl⟩
  go_wp2_with fail
  go_quiet (fail)
  go_wp2_with fail
  refine bodyPost_ret (v := .agg #[.iface 169 (.pointer (some (eb .there))), .func (.func 45) #[] #[.pointer (some ⟨q0, 0, none⟩), .pointer (some ⟨q1, 0, none⟩)], .bool true, .nilFunc]) (by simp [results, Tryz.results44, go_sem]) rfl ⟨rfl, ?_⟩
  exact (((Fr.refl _ _).alloc _).alloc _).drewN _
set_option maxRecDepth 100000 in
set_option maxHeartbeats 1000000 in
theorem create_plan_ok {w : World} {K : Nat} {eb : Er → Addr} {S : Er → Bool} (G : Glob w K eb S) (bd bn q0 q1 : Nat) (nm : ByteArray) (m : ByteArray → Option Nat) (hs : nm.size ≤ 9223372036854775807)
    (b0 : w.cell? ⟨q0, 0, none⟩ = some (.pointer (some ⟨bd, 0, none⟩))) (b1 : w.cell? ⟨q1, 0, none⟩ = some (.string nm)) (c0 : w.cell? ⟨bd, 0, none⟩ = some (.map (some bn))) (hm : MapAt strE fileV w bn m) (hg : goodName nm = true) (hq : m nm = none) :
    Calls Tryz.prog 44 #[.pointer (some ⟨q0, 0, none⟩), .pointer (some ⟨q1, 0, none⟩)] w fun e w' => e = .returned (.agg #[erV eb none, .func (.func 45) #[] #[.pointer (some ⟨q0, 0, none⟩), .pointer (some ⟨q1, 0, none⟩)], .bool true, .nilFunc]) ∧ Fr (fun _ => False) w w' := by
  have v4 : w.cell? ⟨2, 0, none⟩ = some (.iface 169 (.pointer (some (eb .arg)))) := G.var .arg rfl
  have v7 : w.cell? ⟨3, 0, none⟩ = some (.iface 169 (.pointer (some (eb .there)))) := G.var .there rfl
  have l0 := World.block_lt_of_cell? _ _ b0
  have l1 := World.block_lt_of_cell? _ _ b1
  have l2 := World.block_lt_of_cell? _ _ c0
  have l3 := hm.lt
  have l4 := World.block_lt_of_cell? _ _ v4
  have l7 := World.block_lt_of_cell? _ _ v7
  have np := neq_ptr
  have d1 := @setCell_drewN
  have d2 := @alloc_drewN
  have nn := neq_nilptr
  simp only at l0 l1 l2 l4 l7
  clear G
  have hl := fun (o : Obj) => look_none (hm.of_block (w' := w.alloc o) (heap_alloc_old w o l3)) hq
  have hl2 := fun (o o' : Obj) => look_none (hm.of_block (w' := (w.alloc o).alloc o') ((heap_alloc_old (w.alloc o) o' (by simp; omega)).trans (heap_alloc_old w o l3))) hq
  have hl3 := fun (o o' : Obj) (n : Nat) => look_none (hm.of_block (w' := ((w.alloc o).alloc o').drewN n) ((heap_alloc_old (w.alloc o) o' (by simp; omega)).trans (heap_alloc_old w o l3))) hq
  clear hm hq hl
  clear np v4 l4 v7 l7
  go_enter Tryz.func44, Tryz.ntmps44
  go_wp2_with fail
  refine (disk_goodName nm _ hs).mono ?_
  rintro e w' ⟨rfl, rfl⟩
  go_wp2_with fail
  go_quiet (fail)
  go_wp2_with fail
  refine bodyPost_ret (v := .agg #[.nilIface, .func (.func 45) #[] #[.pointer (some ⟨q0, 0, none⟩), .pointer (some ⟨q1, 0, none⟩)], .bool true, .nilFunc]) (by simp [results, Tryz.results44, go_sem]) rfl ⟨rfl, ?_⟩
  exact (((Fr.refl _ _).alloc _).alloc _).drewN _
end Go.Proofs.YtabfcciejhbajaaGreatDoor

namespace Go.Proofs.YtabfcciejhbajaaGreatDoor
open Go Go.RowKit
open Go.ChangeMaps (setBlock)

/-- Only parts of the roles T were touched. -/
structure Kept (T : Role → Prop) (K : Nat) (w : World) (ow : Own) (w' : World) (ow' : Own) : Prop where
  heap : ∀ b r, ow b = some r → ¬ T r → w'.heap[b]? = w.heap[b]?
  own : ∀ b r, ¬ T r → (ow' b = some r ↔ ow b = some r)
  lt : ∀ b r, ow' b = some r → K ≤ b ∧ b < w'.heap.size
section
variable {T : Role → Prop} {K : Nat} {w w' : World} {ow ow' : Own} {r : Role}
theorem RowAt.kept {e : TypeId} {size : Nat} {v : Value} {n : Nat} {xs : List Value} (h : RowAt w ow r e size v n xs) (k : Kept T K w ow w' ow') (hr : ¬ T r) : RowAt w' ow' r e size v n xs :=
  h.keep (fun b hb => ⟨k.heap b r hb hr, (k.own b r hr).2 hb⟩)
theorem SetAt.kept {v : Value} {m : Int → Option Unit} (h : SetAt w ow r v m) (k : Kept T K w ow w' ow') (hr : ¬ T r) : SetAt w' ow' r v m :=
  h.keep (fun b hb => ⟨k.heap b r hb hr, (k.own b r hr).2 hb⟩)
theorem SideAt.kept {rb : Role} {v vb : Value} {s : Side} (h : SideAt w ow r rb v vb s) (k : Kept T K w ow w' ow') (hr : ¬ T r) (hb : ¬ T rb) : SideAt w' ow' r rb v vb s :=
  ⟨h.data.kept k hr, h.bad.kept k hb⟩
theorem FileAt.kept {f : Nat} {x : AFile} (h : FileAt w ow f x) (k : Kept T K w ow w' ow') (hf : ow f = some (.file f)) (hT : ∀ q : Role, q.fileOf = some f → ¬ T q) : FileAt w' ow' f x :=
  h.keep hf (fun b q hb hq => ⟨k.heap b q hb (hT q hq), by rw [hb]; exact (k.own b q (hT q hq)).2 hb⟩)
/-- the names map has changed -/
theorem DiskIs.setNames {bd : Nat} {D : ADisk} {c : DCells} (h : DiskIs w bd D ow K c) (k : Kept (· = .names) K w ow w' ow) {m : ByteArray → Option Nat} (hm : MapAt strE fileV w' c.bn m)
    (hin : ∀ n f, m n = some f → ow f = some (.file f)) : DiskIs w' bd { D with names := m } ow K c where
  lt := k.lt
  me := h.me
  cells := (k.heap _ _ h.me (by simp)).trans h.cells
  ownN := h.ownN
  names := hm
  ownS := h.ownS
  safe := h.safe.of_block (k.heap _ _ h.ownS (by simp))
  waiting := h.waiting.kept k (by simp)
  fails := h.fails.kept k (by simp)
  files f hf := (h.files f hf).kept k hf (fun q hq e => by subst e; cases hq)
  failsLen := h.failsLen
  inNames := hin
  inSafe := h.inSafe
  inWait := h.inWait
/-- the list of changes that wait has changed -/
theorem DiskIs.setWaiting {bd : Nat} {D : ADisk} {c : DCells} (h : DiskIs w bd D ow K c) (k : Kept (fun r => r = .waiting ∨ r = .disk) K w ow w' ow') {v : Value} {l : List AChange}
    (hme : ow' bd = some .disk)
    (hc : w'.heap[bd]? = some (.cells #[.map (some c.bn), .map (some c.bs), v, .int .i64 D.born, .int .i64 D.ops, .int .i64 D.since, c.vf, .int .i64 D.cut, .bool D.down] 54 (0, 0)))
    (hr : RowAt w' ow' .waiting 86 3 v l.length (l.flatMap chgCells))
    (hin : ∀ x ∈ l, ∀ f, x.f = some f → ow f = some (.file f)) : DiskIs w' bd { D with waiting := l } ow' K { c with vw := v } where
  lt := k.lt
  me := hme
  cells := hc
  ownN := (k.own _ _ (by simp)).2 h.ownN
  names := h.names.of_block (k.heap _ _ h.ownN (by simp))
  ownS := (k.own _ _ (by simp)).2 h.ownS
  safe := h.safe.of_block (k.heap _ _ h.ownS (by simp))
  waiting := hr
  fails := h.fails.kept k (by simp)
  files f hf := (h.files f ((k.own _ _ (by simp)).1 hf)).kept k ((k.own _ _ (by simp)).1 hf) (fun q hq e => by rcases e with e | e <;> subst e <;> cases hq)
  failsLen := h.failsLen
  inNames n f hn := (k.own _ _ (by simp)).2 (h.inNames n f hn)
  inSafe n f hn := (k.own _ _ (by simp)).2 (h.inSafe n f hn)
  inWait x hx f hf := (k.own _ _ (by simp)).2 (hin x hx f hf)
/-- the safe names have changed: another map stands in their place -/
theorem DiskIs.setSafe {bd : Nat} {D : ADisk} {c : DCells} (h : DiskIs w bd D ow K c) (k : Kept (fun r => r = .safe ∨ r = .disk) K w ow w' ow') {b : Nat} {m : ByteArray → Option Nat}
    (hme : ow' bd = some .disk) (hb : ow' b = some .safe)
    (hc : w'.heap[bd]? = some (.cells #[.map (some c.bn), .map (some b), c.vw, .int .i64 D.born, .int .i64 D.ops, .int .i64 D.since, c.vf, .int .i64 D.cut, .bool D.down] 54 (0, 0)))
    (hm : MapAt strE fileV w' b m)
    (hin : ∀ n f, m n = some f → ow f = some (.file f)) : DiskIs w' bd { D with safe := m } ow' K { c with bs := b } where
  lt := k.lt
  me := hme
  cells := hc
  ownN := (k.own _ _ (by simp)).2 h.ownN
  names := h.names.of_block (k.heap _ _ h.ownN (by simp))
  ownS := hb
  safe := hm
  waiting := h.waiting.kept k (by simp)
  fails := h.fails.kept k (by simp)
  files f hf := (h.files f ((k.own _ _ (by simp)).1 hf)).kept k ((k.own _ _ (by simp)).1 hf) (fun q hq e => by rcases e with e | e <;> subst e <;> cases hq)
  failsLen := h.failsLen
  inNames n f hn := (k.own _ _ (by simp)).2 (h.inNames n f hn)
  inSafe n f hn := (k.own _ _ (by simp)).2 (hin n f hn)
  inWait x hx f hf := (k.own _ _ (by simp)).2 (h.inWait x hx f hf)
/-- what was armed has changed -/
theorem DiskIs.setFails {bd : Nat} {D : ADisk} {c : DCells} (h : DiskIs w bd D ow K c) (k : Kept (fun r => r = .fails ∨ r = .disk) K w ow w' ow') {v : Value} {l : List (Int × Int)} {cut since : Int}
    (hme : ow' bd = some .disk)
    (hc : w'.heap[bd]? = some (.cells #[.map (some c.bn), .map (some c.bs), c.vw, .int .i64 D.born, .int .i64 D.ops, .int .i64 since, v, .int .i64 cut, .bool D.down] 54 (0, 0)))
    (hr : RowAt w' ow' .fails 149 2 v l.length (l.flatMap failCells)) (hl : l.length ≤ 4611686018427387904) :
    DiskIs w' bd { D with fails := l, cut := cut, since := since } ow' K { c with vf := v } where
  lt := k.lt
  me := hme
  cells := hc
  ownN := (k.own _ _ (by simp)).2 h.ownN
  names := h.names.of_block (k.heap _ _ h.ownN (by simp))
  ownS := (k.own _ _ (by simp)).2 h.ownS
  safe := h.safe.of_block (k.heap _ _ h.ownS (by simp))
  waiting := h.waiting.kept k (by simp)
  fails := hr
  files f hf := (h.files f ((k.own _ _ (by simp)).1 hf)).kept k ((k.own _ _ (by simp)).1 hf) (fun q hq e => by rcases e with e | e <;> subst e <;> cases hq)
  failsLen := hl
  inNames n f hn := (k.own _ _ (by simp)).2 (h.inNames n f hn)
  inSafe n f hn := (k.own _ _ (by simp)).2 (h.inSafe n f hn)
  inWait x hx f hf := (k.own _ _ (by simp)).2 (h.inWait x hx f hf)
/-- one file has changed -/
theorem DiskIs.setFile {bd : Nat} {D : ADisk} {c : DCells} (h : DiskIs w bd D ow K c) {f : Nat} (k : Kept (fun r => r.fileOf = some f) K w ow w' ow') {x : AFile}
    (hf : ow' f = some (.file f)) (hx : FileAt w' ow' f x) : DiskIs w' bd { D with file := upd D.file f x } ow' K c where
  lt := k.lt
  me := (k.own _ _ (by simp [Role.fileOf])).2 h.me
  cells := (k.heap _ _ h.me (by simp [Role.fileOf])).trans h.cells
  ownN := (k.own _ _ (by simp [Role.fileOf])).2 h.ownN
  names := h.names.of_block (k.heap _ _ h.ownN (by simp [Role.fileOf]))
  ownS := (k.own _ _ (by simp [Role.fileOf])).2 h.ownS
  safe := h.safe.of_block (k.heap _ _ h.ownS (by simp [Role.fileOf]))
  waiting := h.waiting.kept k (by simp [Role.fileOf])
  fails := h.fails.kept k (by simp [Role.fileOf])
  files g hg := by
    by_cases e : g = f
    · subst e; rw [show ({ D with file := upd D.file g x } : ADisk).file g = x from upd_same _ _ _]; exact hx
    · have hg' : ow g = some (.file g) := (k.own _ _ (by simp [Role.fileOf]; exact e)).1 hg
      rw [show ({ D with file := upd D.file f x } : ADisk).file g = D.file g from upd_ne _ _ e]
      exact (h.files g hg').kept k hg' (fun q hq e' => e (by rw [hq] at e'; cases e'; rfl))
  failsLen := h.failsLen
  inNames n g hn := by
    by_cases e : g = f
    · subst e; exact hf
    · exact (k.own _ _ (by simp [Role.fileOf]; exact e)).2 (h.inNames n g hn)
  inSafe n g hn := by
    by_cases e : g = f
    · subst e; exact hf
    · exact (k.own _ _ (by simp [Role.fileOf]; exact e)).2 (h.inSafe n g hn)
  inWait y hy g hg := by
    by_cases e : g = f
    · subst e; exact hf
    · exact (k.own _ _ (by simp [Role.fileOf]; exact e)).2 (h.inWait y hy g hg)
/-- a change that waits is pushed behind the others -/
theorem DiskIs.push {w2 wx w3 : World} {bd : Nat} {D : ADisk} {c : DCells} (h : DiskIs w2 bd D ow K c) (x : AChange) (hx : ∀ f, x.f = some f → ow f = some (.file f)) {g cap : Nat}
    (hown : w3.ownsRow 0 86 3 (.slice (some ⟨g, 0, none⟩) (D.waiting.length + 1) cap) (D.waiting.length + 1) (D.waiting.flatMap chgCells ++ chgCells x))
    (hgrow : wx.grownBy w3 c.vw.ownBlock) (hw : Fr (fun _ => False) w2 wx) (hat : c.vw.ownBlock = some g ∨ g = wx.heap.size) (hlt : g < w3.heap.size) :
    ∃ ow', DiskIs (w3.setCell ⟨bd, 2, none⟩ (.slice (some ⟨g, 0, none⟩) (D.waiting.length + 1) cap)) bd { D with waiting := D.waiting ++ [x] } ow' K { c with vw := .slice (some ⟨g, 0, none⟩) (D.waiting.length + 1) cap } ∧
      FrO ow w2 (w3.setCell ⟨bd, 2, none⟩ (.slice (some ⟨g, 0, none⟩) (D.waiting.length + 1) cap)) ∧ ow.ext ow' w2 := by
  have hlt2 := h.lt
  have hfr : Fr (fun b => c.vw.ownBlock = some b) w2 w3 := (hw.mono (fun _ _ h => h.elim)).grown hgrow (fun k hk _ => hk)
  -- the block of the new row: the old one, or a new one
  have hg : ow g = some .waiting ∨ (ow g = none ∧ w2.heap.size ≤ g) := by
    rcases hat with hat | hat
    · exact .inl (h.waiting.own g hat)
    · right
      have := hw.size
      refine ⟨?_, by omega⟩
      cases ho : ow g with
      | none => rfl
      | some r => have := (hlt2 g r ho).2; omega
  have hgd : g ≠ bd := fun e => by
    rcases hg with q | ⟨q, _⟩
    · rw [e, h.me] at q; cases q
    · rw [e, h.me] at q; cases q
  let ow' : Own := fun b => if b = g then some .waiting else ow b
  have e1 : ow' g = some .waiting := by simp [ow']
  have e2 : ∀ b, b ≠ g → ow' b = ow b := fun b hb => by simp [ow', hb]
  clear_value ow'
  have hcell : w3.heap[bd]? = w2.heap[bd]? := hfr.block bd (hlt2 _ _ h.me).2 (fun e => by have := h.waiting.own bd e; rw [h.me] at this; cases this)
  refine ⟨ow', h.setWaiting ⟨fun b r hb hr => ?_, fun b r hr => ?_, fun b r hb => ?_⟩ ((e2 bd (fun e => hgd e.symm)).trans h.me) (heap_setCell_at (hcell.trans h.cells) 2 _) ?_ ?_, ?_, fun b hb hn => ?_⟩
  · have hne : b ≠ bd := fun e => hr (.inr (by rw [e, h.me] at hb; cases hb; rfl))
    rw [Below.heap_setCell _ _ _ _ hne]
    exact hfr.block b (hlt2 b r hb).2 (fun e => hr (.inl (by have := h.waiting.own b e; rw [hb] at this; cases this; rfl)))
  · by_cases e : b = g
    · subst e
      rw [e1]
      constructor
      · intro q; cases q; exact absurd (.inl rfl) hr
      · intro q
        rcases hg with q' | ⟨q', _⟩
        · rw [q'] at q; cases q; exact absurd (.inl rfl) hr
        · rw [q'] at q; cases q
    · rw [e2 b e]
  · rw [World.size_setCell]
    by_cases e : b = g
    · subst e
      refine ⟨?_, hlt⟩
      rcases hg with q | ⟨_, q⟩
      · exact (hlt2 _ _ q).1
      · have := (hlt2 _ _ h.me); omega
    · rw [e2 b e] at hb
      have := hlt2 b r hb
      exact ⟨this.1, Nat.lt_of_lt_of_le this.2 hfr.size⟩
  · refine ⟨?_, fun k hk => ?_⟩
    · have : (D.waiting ++ [x]).flatMap chgCells = D.waiting.flatMap chgCells ++ chgCells x := by simp
      rw [this, List.length_append, List.length_singleton]
      exact ownsRow_setCell_other hown (fun e => hgd (by simpa [Value.ownBlock] using e)) _
    · have : k = g := by simpa [Value.ownBlock] using hk.symm
      subst this; exact e1
  · intro y hy f hf
    rcases List.mem_append.1 hy with q | q
    · exact h.inWait y q f hf
    · cases List.mem_singleton.1 q; exact hx f hf
  · exact (hfr.mono (fun b _ e => Own.has_some (h.waiting.own b e))).setCell (fun _ => Own.has_some h.me) _
  · by_cases e : b = g
    · subst e
      rcases hg with q | ⟨_, q⟩
      · rw [q] at hn; cases hn
      · omega
    · rw [e2 b e]; exact hn
end
end Go.Proofs.YtabfcciejhbajaaGreatDoor

namespace Go.Proofs.YtabfcciejhbajaaGreatDoor
open Go Go.RowKit
open Go.ChangeMaps (setBlock)

theorem heap_new_at (w : World) (o : Obj) {n : Nat} (h : n = w.heap.size) : (w.alloc o).heap[n]? = some o := by subst h; exact heap_alloc_new w o
/-- a new file -/
theorem DiskIs.newFile {w : World} {bd K : Nat} {D : ADisk} {ow : Own} {c : DCells} (h : DiskIs w bd D ow K c) (hK : K ≤ w.heap.size) :
    ∃ ow', DiskIs (((((w.setCell ⟨bd, 3, none⟩ (.int .i64 (wrap64 (D.born + 1)))).alloc (.map #[] 0)).alloc (.map #[] 0)).alloc (.map #[] 0)).alloc
        (.cells #[.int .i64 (wrap64 (D.born + 1)), .slice none 0 0, .map (some w.heap.size), .slice none 0 0, .map (some (w.heap.size + 1)), .map (some (w.heap.size + 2))] 96))
      bd { D with born := wrap64 (D.born + 1), file := upd D.file (w.heap.size + 3) (newAFile (wrap64 (D.born + 1))) } ow' K c ∧ ow' (w.heap.size + 3) = some (.file (w.heap.size + 3)) ∧
      (∀ b, b < w.heap.size → ow' b = ow b) ∧ (∀ b, ow' b ≠ none → b < w.heap.size + 4) := by
  have hlt := h.lt
  have hnew : ∀ b, w.heap.size ≤ b → ow b = none := fun b hb => by
    cases ho : ow b with
    | none => rfl
    | some r => have := (hlt b r ho).2; omega
  -- the disk's own cell
  have h1 : DiskIs (w.setCell ⟨bd, 3, none⟩ (.int .i64 (wrap64 (D.born + 1)))) bd { D with born := wrap64 (D.born + 1) } ow K c :=
    h.changed (by simp) (fun b _ hne => by rw [Below.heap_setCell _ _ _ _ hne]) (heap_setCell_at h.cells 3 _) rfl rfl rfl rfl rfl
  generalize hw1 : w.setCell ⟨bd, 3, none⟩ (.int .i64 (wrap64 (D.born + 1))) = w1 at h1
  have hs1 : w1.heap.size = w.heap.size := by rw [← hw1]; simp
  generalize w.heap.size = n at *
  let ow' : Own := fun b => if b = n then some (.sbad (n + 3)) else if b = n + 1 then some (.fbad (n + 3)) else if b = n + 2 then some (.waits (n + 3)) else if b = n + 3 then some (.file (n + 3)) else ow b
  have e0 : ow' n = some (.sbad (n + 3)) := by simp [ow']
  have e1 : ow' (n + 1) = some (.fbad (n + 3)) := by simp [ow']
  have e2 : ow' (n + 2) = some (.waits (n + 3)) := by simp [ow']
  have e3 : ow' (n + 3) = some (.file (n + 3)) := by simp [ow']
  have eo : ∀ b, b < n → ow' b = ow b := fun b hb => by simp [ow', show b ≠ n from by omega, show b ≠ n + 1 from by omega, show b ≠ n + 2 from by omega, show b ≠ n + 3 from by omega]
  have en : ∀ b, n + 4 ≤ b → ow' b = none := fun b hb => by simp [ow', show b ≠ n from by omega, show b ≠ n + 1 from by omega, show b ≠ n + 2 from by omega, show b ≠ n + 3 from by omega]; exact hnew b (by omega)
  have ec : ∀ b r, ow' b = some r → (b < n ∧ ow b = some r) ∨ (b = n ∧ r = .sbad (n + 3)) ∨ (b = n + 1 ∧ r = .fbad (n + 3)) ∨ (b = n + 2 ∧ r = .waits (n + 3)) ∨ (b = n + 3 ∧ r = .file (n + 3)) := by
    intro b r hb
    by_cases q : b < n
    · exact .inl ⟨q, (eo b q).symm.trans hb⟩
    · by_cases q0 : b = n
      · subst q0; rw [e0] at hb; exact .inr (.inl ⟨rfl, by cases hb; rfl⟩)
      · by_cases q1 : b = n + 1
        · subst q1; rw [e1] at hb; exact .inr (.inr (.inl ⟨rfl, by cases hb; rfl⟩))
        · by_cases q2 : b = n + 2
          · subst q2; rw [e2] at hb; exact .inr (.inr (.inr (.inl ⟨rfl, by cases hb; rfl⟩)))
          · by_cases q3 : b = n + 3
            · subst q3; rw [e3] at hb; exact .inr (.inr (.inr (.inr ⟨rfl, by cases hb; rfl⟩)))
            · rw [en b (by omega)] at hb; cases hb
  clear_value ow'
  refine ⟨ow', ?_, e3, eo, fun b hb => by
    rcases Nat.lt_or_ge b (n + 4) with q | q
    · exact q
    · exact absurd (en b q) hb⟩
  have hh : ∀ (o0 o1 o2 o3 : Obj), ((((w1.alloc o0).alloc o1).alloc o2).alloc o3).heap[n]? = some o0 ∧ ((((w1.alloc o0).alloc o1).alloc o2).alloc o3).heap[n + 1]? = some o1 ∧ ((((w1.alloc o0).alloc o1).alloc o2).alloc o3).heap[n + 2]? = some o2 ∧ ((((w1.alloc o0).alloc o1).alloc o2).alloc o3).heap[n + 3]? = some o3 ∧
      (∀ b, b < n → ((((w1.alloc o0).alloc o1).alloc o2).alloc o3).heap[b]? = w1.heap[b]?) ∧ ((((w1.alloc o0).alloc o1).alloc o2).alloc o3).heap.size = n + 4 := by
    intro o0 o1 o2 o3
    subst hs1
    refine ⟨?_, ?_, ?_, ?_, fun b hb => ?_, by simp⟩
    · rw [heap_alloc_old _ _ (by simp; omega), heap_alloc_old _ _ (by simp; omega), heap_alloc_old _ _ (by simp)]; exact heap_new_at _ _ rfl
    · rw [heap_alloc_old _ _ (by simp), heap_alloc_old _ _ (by simp)]; exact heap_new_at _ _ (by simp)
    · rw [heap_alloc_old _ _ (by simp)]; exact heap_new_at _ _ (by simp)
    · exact heap_new_at _ _ (by simp)
    · rw [heap_alloc_old _ _ (by simp; omega), heap_alloc_old _ _ (by simp; omega), heap_alloc_old _ _ (by simp; omega), heap_alloc_old _ _ hb]
  obtain ⟨g0, g1, g2, g3, gold, gs⟩ := hh (.map #[] 0) (.map #[] 0) (.map #[] 0) (.cells #[.int .i64 (wrap64 (D.born + 1)), .slice none 0 0, .map (some n), .slice none 0 0, .map (some (n + 1)), .map (some (n + 2))] 96)
  generalize ((((w1.alloc (.map #[] 0)).alloc (.map #[] 0)).alloc (.map #[] 0)).alloc (.cells #[.int .i64 (wrap64 (D.born + 1)), .slice none 0 0, .map (some n), .slice none 0 0, .map (some (n + 1)), .map (some (n + 2))] 96)) = w2 at *
  refine h1.setFile (x := newAFile (wrap64 (D.born + 1))) ⟨fun b r hb hr => ?_, fun b r hr => ⟨fun hb => ?_, fun hb => ?_⟩, fun b r hb => ?_⟩ e3 ?_
  · have := (h1.lt b r hb).2
    exact gold b (by omega)
  · rcases ec b r hb with ⟨_, q⟩ | ⟨_, q⟩ | ⟨_, q⟩ | ⟨_, q⟩ | ⟨_, q⟩
    · exact q
    all_goals (subst q; exact absurd rfl hr)
  · have := (h1.lt b r hb).2
    rw [eo b (by omega)]; exact hb
  · rw [gs]
    rcases ec b r hb with ⟨q, q'⟩ | ⟨q, _⟩ | ⟨q, _⟩ | ⟨q, _⟩ | ⟨q, _⟩
    · exact ⟨(h1.lt b r q').1, by omega⟩
    all_goals omega
  · have me : ∀ b, w2.heap[b]? = some (.map #[] 0) → MapAt intE unitV w2 b (fun _ => none) := fun b hb => ⟨#[], 0, hb, MapKept.stamped_empty 0, Reads.empty⟩
    refine ⟨⟨.slice none 0 0, .map (some n), .slice none 0 0, .map (some (n + 1)), .map (some (n + 2))⟩, g3, ⟨⟨World.ownsRow_nil _ _ _ _, fun g hg => by cases hg⟩, n, rfl, e0, me n g0⟩, ⟨⟨World.ownsRow_nil _ _ _ _, fun g hg => by cases hg⟩, n + 1, rfl, e1, me _ g1⟩, ⟨n + 2, rfl, e2, me _ g2⟩, ?_⟩
    exact ⟨⟨by simp [newAFile], fun k hk => absurd rfl hk⟩, ⟨by simp [newAFile], fun k hk => absurd rfl hk⟩, fun k hk => absurd rfl hk⟩
theorem infoChange : (Tryz.prog.info? 86).map (fun i => (i.zero, i.size, i.bytes)) = some (some (.agg #[.string ByteArray.empty, .string ByteArray.empty, .pointer none]), 3, 40) := by kernel_rfl
set_option maxRecDepth 100000 in
set_option maxHeartbeats 1000000 in
theorem create_do {w : World} {bd K : Nat} {D : ADisk} {ow : Own} {c : DCells} (h : DiskIs w bd D ow K c) (hK : K ≤ w.heap.size) (q0 q1 : Nat) (nm : ByteArray)
    (b0 : w.cell? ⟨q0, 0, none⟩ = some (.pointer (some ⟨bd, 0, none⟩))) (b1 : w.cell? ⟨q1, 0, none⟩ = some (.string nm)) (n0 : ow q0 = none) (n1 : ow q1 = none) (hwl : D.waiting.length ≤ 1000000000000) :
    Calls Tryz.prog 45 #[.pointer (some ⟨q0, 0, none⟩), .pointer (some ⟨q1, 0, none⟩)] w fun e w' => e = .returned (.tuple #[]) ∧ After bd ow K w (createR nm D) w' := by
  have h3 : w.cell? ⟨bd, 3, none⟩ = some (.int .i64 D.born) := cell_at h.cells 3
  have f3 := free_at h.cells 3
  obtain ⟨ow1, hD1, ef, eo, en⟩ := h.newFile hK
  have hfresh := Lib.hid (show Fresh D (w.heap.size + 3) from ⟨fun n e => by have := (h.lt _ _ (h.inNames n _ e)).2; omega, fun n e => by have := (h.lt _ _ (h.inSafe n _ e)).2; omega, fun x hx e => by have := (h.lt _ _ (h.inWait x hx _ e)).2; omega⟩)
  have l0 := World.block_lt_of_cell? _ _ b0
  have l1 := World.block_lt_of_cell? _ _ b1
  simp only at l0 l1
  have hne0 : q0 ≠ bd := fun e => by rw [e, h.me] at n0; cases n0
  have hne1 : q1 ≠ bd := fun e => by rw [e, h.me] at n1; cases n1
  have hF : FrO ow w (((((w.setCell ⟨bd, 3, none⟩ (.int .i64 (wrap64 (D.born + 1)))).alloc (.map #[] 0)).alloc (.map #[] 0)).alloc (.map #[] 0)).alloc
        (.cells #[.int .i64 (wrap64 (D.born + 1)), .slice none 0 0, .map (some w.heap.size), .slice none 0 0, .map (some (w.heap.size + 1)), .map (some (w.heap.size + 2))] 96)) :=
    (((((Fr.refl _ _).setCell (fun _ => Own.has_some h.me) _).alloc _).alloc _).alloc _).alloc _
  have B0 := Lib.hid ((hF.cell l0 (by simp [Own.has, n0])).trans b0)
  have B1 := Lib.hid ((hF.cell l1 (by simp [Own.has, n1])).trans b1)
  have HD := Lib.hid hD1
  have HF := Lib.hid hF
  clear hD1 hF
  go_enter Tryz.func45, Tryz.ntmps45
  go_wp2_with fail
  refine (disk_newFile w bd D.born h3 f3).mono ?_
  rintro e w1 ⟨rfl, hw1⟩
  rw [← hw1] at HD HF B0 B1
  have hsz : w1.heap.size = w.heap.size + 4 := by rw [hw1]; simp
  have HS := Lib.hid hsz
  clear hw1 hsz
  have c0 : w1.cell? ⟨bd, 0, none⟩ = some (.map (some c.bn)) := cell_at HD.out.cells 0
  have c2 : w1.cell? ⟨bd, 2, none⟩ = some c.vw := cell_at HD.out.cells 2
  have a0 := B0.out
  have a1 := B1.out
  go_wp2_with fail
  go_still_tail 6, (by kernel_rfl)
  change wpList _ _ _ _ _ w1.drew
  have hDd : DiskIs w1.drew bd _ ow1 K c := HD.out.keep (Nat.le_refl _) (fun _ _ => rfl)
  refine wpl_mapUpdate (E := strE) (V := fileV) rfl (.tmp 8) (.tmp 9) (.tmp 10) rfl hDd.names Tryz.underlying50 Tryz.underlying9 nm (w.heap.size + 3) rfl rfl rfl ?_
  intro o2 hm2
  have hk2 : Kept (· = .names) K w1.drew ow1 (setBlock w1.drew c.bn o2) ow1 := by
    refine ⟨fun b r hb hr => ?_, fun _ _ _ => Iff.rfl, fun b r hb => ?_⟩
    · have : b ≠ c.bn := fun e => hr (by have := hDd.ownN; rw [e] at hb; rw [hb] at this; cases this; rfl)
      simp [setBlock, this.symm]
    · have := hDd.lt b r hb
      exact ⟨this.1, by simpa [setBlock] using this.2⟩
  have hD2 := hDd.setNames hk2 hm2 (fun n f hn => by
    rcases upd_at D.names nm n (some (w.heap.size + 3)) with ⟨_, q⟩ | ⟨_, q⟩
    · rw [q] at hn; cases hn; exact ef
    · rw [q] at hn; exact HD.out.inNames n f hn)
  have hF2 : FrO ow w (setBlock w1.drew c.bn o2) := (HF.out.drew).setBlock (fun _ => Own.has_some h.ownN) o2
  have hs2 : (setBlock w1.drew c.bn o2).heap.size = w.heap.size + 4 := by simpa [setBlock] using HS.out
  clear hDd hk2 hm2 HD HF HS c0 c2 a0 a1
  generalize setBlock w1.drew c.bn o2 = w2 at hD2 hF2 hs2 ⊢
  clear w1 B0 B1
  have a0 : w2.cell? ⟨q0, 0, none⟩ = some (.pointer (some ⟨bd, 0, none⟩)) := (hF2.cell l0 (by simp [Own.has, n0])).trans b0
  have a1 : w2.cell? ⟨q1, 0, none⟩ = some (.string nm) := (hF2.cell l1 (by simp [Own.has, n1])).trans b1
  have c2 : w2.cell? ⟨bd, 2, none⟩ = some c.vw := cell_at hD2.cells 2
  have HD := Lib.hid hD2
  have HF := Lib.hid hF2
  have HS := Lib.hid hs2
  clear hs2 hF2 hD2 b0 b1 h3 f3
  have hown := Lib.hid (HD.out.waiting.row)
  have FF := fun (w' : World) (e : w'.heap[bd]? = w2.heap[bd]?) => free_at (e.trans HD.out.cells) 2
  have l2 := (HD.out.lt _ _ HD.out.me).2
  have f2 := free_at HD.out.cells 2
  clear FF
  have wne := Lib.hid (show some bd ≠ c.vw.ownBlock from fun e => by have := HD.out.waiting.own bd e.symm; rw [HD.out.me] at this; cases this)
  have hcs := Lib.hid HD.out.cells
  have hb3 : ∀ (wx w3 : World), wx.grownBy w3 c.vw.ownBlock → bd < wx.heap.size → wx.heap[bd]? = w2.heap[bd]? → w3.heap[bd]? = w2.heap[bd]? := fun wx w3 hg hl he =>
    (hg.block bd hl wne.out).trans he
  have HB3 := Lib.hid hb3
  have n0' : ow1 q0 = none := (eo q0 l0).trans n0
  have wne0 : some q0 ≠ c.vw.ownBlock := fun e => by have := HD.out.waiting.own q0 e.symm; rw [n0'] at this; cases this
  have HQ3 := Lib.hid (show ∀ (wx w3 : World), wx.grownBy w3 c.vw.ownBlock → q0 < wx.heap.size → wx.cell? ⟨q0, 0, none⟩ = some (.pointer (some ⟨bd, 0, none⟩)) → w3.cell? ⟨q0, 0, none⟩ = some (.pointer (some ⟨bd, 0, none⟩)) from fun wx w3 hg hl he =>
    (World.cell?_of_block (hg.block q0 hl wne0)).trans he)
  have hq0 := Lib.hid (show ∀ o : Obj, (w2.alloc o).cell? ⟨q0, 0, none⟩ = some (.pointer (some ⟨bd, 0, none⟩)) from fun o => (World.cell?_of_block (heap_alloc_old w2 o (show q0 < _ from by have := HS.out; omega))).trans a0)
  have hltq := Lib.hid (show q0 < w2.heap.size + 1 from by have := HS.out; omega)
  clear wne0 n0'
  have hold := Lib.hid (fun (o : Obj) => heap_alloc_old w2 o l2)
  have hlt := Lib.hid (show bd < w2.heap.size + 1 from Nat.lt_succ_of_lt l2)
  clear hb3
  obtain ⟨i0, hi, hz0, hz1, hz2⟩ := info_parts infoChange
  have hnew := Lib.hid (fun (o : Obj) => heap_alloc_new w2 o)
  have m0 : q0 < w2.heap.size := by have := HS.out; omega
  have m1 : q1 < w2.heap.size := by have := HS.out; omega
  go_wp2_with fail
  go_region_law (refine step_append_lies _ rfl (.tmp 15) (.tmp 19) 51 rfl 0 86 i0 _ 3 40 Tryz.underlying51 hi hz0 hz1 hz2 rfl (by decide) c.vw D.waiting.length _ rfl (hown.out.alloc _) ⟨w2.heap.size, 0, none⟩ 1 1 [.string ByteArray.empty, .string nm, .pointer (some ⟨w.heap.size + 3, 0, none⟩)] rfl rfl (World.news_of_block (hnew.out _)) (by simp [Value.oneCell']) (by decide) (by unfold maxLen; omega) (by omega) (Nat.zero_le _) _ rfl ?_; intro g cap w3 hown3 hgrow3 hat3 hlt3; have c3 : w3.cell? ⟨bd, 2, none⟩ = some c.vw := cell_at ((HB3.out _ w3 hgrow3 (by simp; exact hlt.out) (hold.out _)).trans hcs.out) 2; have cq3 := HQ3.out _ w3 hgrow3 (by simp; exact hltq.out) (hq0.out _); have f3 := free_at ((HB3.out _ w3 hgrow3 (by simp; exact hlt.out) (hold.out _)).trans hcs.out) 2)
  all_goals
    go_end0
    refine ⟨rfl, ?_⟩
    obtain ⟨ow4, hD4, hF4, hE4⟩ := HD.out.push ⟨ByteArray.empty, nm, some (w.heap.size + 3)⟩ (fun f hf => by cases hf; exact ef) hown3 hgrow3 (((Fr.refl _ _).alloc _).drew) hat3 hlt3
    exact ⟨_, ow4, ⟨w.heap.size + 3, hfresh.out, rfl⟩, ⟨_, hD4⟩, Fr.trans' HF.out hF4 (fun b hb q => by simpa [Own.has, eo b hb] using q), fun b hb hn => hE4 b (by have := HS.out; omega) ((eo b hb).trans hn)⟩
end Go.Proofs.YtabfcciejhbajaaGreatDoor

namespace Go.Proofs.YtabfcciejhbajaaGreatDoor
open Go Go.RowKit

/-- what an operation answers -/
def opE (D : ADisk) (ref : Option Er) : Option Er := if D.down = true then some .down else runE D ref
/-- what the disk is behind it -/
def OpR (D : ADisk) (ref : Option Er) (waits part : Bool) (f : ADisk → ADisk → Prop) (g : Int → ADisk → ADisk → Prop) (D' : ADisk) : Prop :=
  if D.down = true then D' = D else RunR D ref waits part f g D'
theorem own_none {w : World} {bd K : Nat} {D : ADisk} {ow : Own} (h : DiskAt w bd D ow K) {b : Nat} (hb : w.heap.size ≤ b) : ow b = none := by
  obtain ⟨c, hc⟩ := h
  cases ho : ow b with
  | none => rfl
  | some r => have := (hc.lt b r ho).2; omega
theorem run_op {bd K : Nat} {eb : Er → Addr} {S : Er → Bool} {D : ADisk} {ow : Own} {w : World} (hD : DiskAt w bd D ow K) (G : Glob w K eb S)
    {k kd : FuncId} (hk : Enters k) (hkd : Enters kd) {caps capd : Array Value} (ref : Option Er) (waits : Bool) (part : Option (FuncId × Array Value)) (hkp : ∀ p, part = some p → Enters p.1)
    (f : ADisk → ADisk → Prop) (g : Int → ADisk → ADisk → Prop)
    (hp : PlanOk k caps bd D.tick ow K w (erV eb ref) (.func (.func kd) #[] capd) waits (partV part))
    (hdo : ref = none → DoOk kd capd bd ow K w D.tick (f D.tick)) (hdo' : ref = none → waits = true → DoOk kd capd bd ow K w D.tick.off (f D.tick.off))
    (hpart : ref = none → ∀ p, part = some p → ∀ x, DoOk p.1 (#[.int .i64 x] ++ p.2) bd ow K w D.tick (g x D.tick)) :
    Calls Tryz.prog 43 #[.pointer (some ⟨bd, 0, none⟩), .func (.func k) #[] caps] w fun e w' => e = .returned (erV eb (opE D ref)) ∧ After bd ow K w (OpR D ref waits part.isSome f g) w' := by
  unfold opE OpR
  by_cases hd : D.down = true
  · refine (run_off hD G hd).mono ?_
    rintro e w' ⟨rfl, rfl⟩
    exact ⟨by rw [if_pos hd], D, ow, (show (if D.down = true then D = D else _) by rw [if_pos hd]), hD, Fr.refl _ _, Own.ext_refl _ _⟩
  · have hd' : D.down = false := by simpa using hd
    refine (run_all hD G hd' hk hkd ref waits part hkp f g hp hdo hdo' hpart).mono ?_
    rintro e w' ⟨rfl, h⟩
    exact ⟨by rw [if_neg hd], h.mono (fun D' h => (show (if D.down = true then D' = D else _) by rw [if_neg hd]; exact h))⟩
theorem glob_out {w w' : World} {K : Nat} {eb : Er → Addr} {S : Er → Bool} {bd : Nat} {D : ADisk} {ow : Own} (h : DiskAt w bd D ow K) (G : Glob w K eb S) (hf : FrO ow w w') : Glob w' K eb S := by
  obtain ⟨c, hc⟩ := h
  exact G.fr hf (own_ge hc)

set_option maxRecDepth 100000 in
theorem disk_create {w : World} {bd K : Nat} {eb : Er → Addr} {S : Er → Bool} {D : ADisk} {ow : Own} (hD : DiskAt w bd D ow K) (G : Glob w K eb S) (nm : ByteArray) (hs : nm.size ≤ 9223372036854775807) (hwl : D.waiting.length ≤ 1000000000000) :
    Calls Tryz.prog 25 #[.pointer (some ⟨bd, 0, none⟩), .string nm] w fun e w' => e = .returned (erV eb (opE D (createE D nm))) ∧ After bd ow K w (OpR D (createE D nm) true false (createR nm) (fun _ _ _ => False)) w' := by
  go_enter Tryz.func25, Tryz.ntmps25
  go_wp2_with fail
  have hDA := (hD.alloc (.cells #[.pointer (some ⟨bd, 0, none⟩)] 28)).alloc (.cells #[.string nm] 9)
  have hFA : FrO ow w ((w.alloc (.cells #[.pointer (some ⟨bd, 0, none⟩)] 28)).alloc (.cells #[.string nm] 9)) := ((Fr.refl _ _).alloc _).alloc _
  have q0 : ((w.alloc (.cells #[.pointer (some ⟨bd, 0, none⟩)] 28)).alloc (.cells #[.string nm] 9)).cell? ⟨w.heap.size, 0, none⟩ = some (.pointer (some ⟨bd, 0, none⟩)) := by
    rw [World.cell?_alloc_past _ _ _ (by simp)]; simp
  have q1 : ((w.alloc (.cells #[.pointer (some ⟨bd, 0, none⟩)] 28)).alloc (.cells #[.string nm] 9)).cell? ⟨w.heap.size + 1, 0, none⟩ = some (.string nm) := by
    rw [World.cell?_alloc_at _ _ _ _ (by simp)]; rfl
  have n0 : ow w.heap.size = none := own_none hD (Nat.le_refl _)
  have n1 : ow (w.heap.size + 1) = none := own_none hD (by omega)
  have hsz : ((w.alloc (.cells #[.pointer (some ⟨bd, 0, none⟩)] 28)).alloc (.cells #[.string nm] 9)).heap.size = w.heap.size + 2 := by simp
  have hKw : K ≤ w.heap.size := G.size
  generalize ((w.alloc (.cells #[.pointer (some ⟨bd, 0, none⟩)] 28)).alloc (.cells #[.string nm] 9)) = wA at *
  generalize w.heap.size = z at *
  have GA := glob_out hD G hFA
  have dook : ∀ D1 : ADisk, D1.waiting = D.waiting → DoOk 45 #[.pointer (some ⟨z, 0, none⟩), .pointer (some ⟨z + 1, 0, none⟩)] bd ow K wA D1 (createR nm D1) := by
    intro D1 e1 w3 hf3 hD3
    obtain ⟨c3, hc3⟩ := hD3
    exact create_do hc3 (Nat.le_trans hKw (by have := hf3.size; omega)) z (z + 1) nm ((hf3.cell (show z < _ by omega) (by simp [Own.has, n0])).trans q0) ((hf3.cell (show z + 1 < _ by omega) (by simp [Own.has, n1])).trans q1) n0 n1 (by rw [e1]; exact hwl)
  refine (run_op (k := 44) (kd := 45) (capd := #[.pointer (some ⟨z, 0, none⟩), .pointer (some ⟨z + 1, 0, none⟩)]) hDA GA (fun _ _ => by kernel_rfl) (fun _ _ => by kernel_rfl) (createE D nm) true none (fun _ h => by cases h) (createR nm) (fun _ _ _ => False) ?_ (fun _ => dook _ rfl) (fun _ _ => dook _ rfl) (fun _ _ h => by cases h)).mono ?_
  · intro w1 hf1 hD1
    obtain ⟨c1, hc1⟩ := hD1
    have G1 := glob_out hDA GA hf1
    have p0 := (hf1.cell (show z < _ by omega) (by simp [Own.has, n0])).trans q0
    have p1 := (hf1.cell (show z + 1 < _ by omega) (by simp [Own.has, n1])).trans q1
    have pc : w1.cell? ⟨bd, 0, none⟩ = some (.map (some c1.bn)) := cell_at hc1.cells 0
    unfold createE
    cases hg : goodName nm
    · exact create_plan_arg G1 bd c1.bn z (z + 1) nm D.names hs p0 p1 pc hc1.names hg
    · cases hq : D.names nm
      · exact create_plan_ok G1 bd c1.bn z (z + 1) nm D.names hs p0 p1 pc hc1.names hg hq
      · exact create_plan_there G1 bd c1.bn z (z + 1) nm D.names hs p0 p1 pc hc1.names hg hq
  · rintro e w' ⟨rfl, hA⟩
    go_wp2_with fail
    go_ret
    exact ⟨rfl, hA.head hFA⟩
end Go.Proofs.YtabfcciejhbajaaGreatDoor
