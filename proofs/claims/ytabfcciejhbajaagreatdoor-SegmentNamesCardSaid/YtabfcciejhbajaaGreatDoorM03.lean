/-
  (*Disk).run carries an operation out, as armed: a rule over the plan's, the deed's and the part's contracts. Conditions: the disk lies in memory as DiskAt says, the power is on.
  (*Disk).run by one rule: what it answers and what the disk is behind it. Conditions: the disk lies in memory as DiskAt says.
-/
import Derived.Test.YtabfcciejhbajaaGreatDoorM02
import Derived.Laws.EntriesVeiled
namespace Go.Proofs.YtabfcciejhbajaaGreatDoor
open Go Go.RowKit
open Go.ChangeMaps (setBlock)
/-- a function with a body is entered -/
abbrev Enters (k : FuncId) : Prop := ∀ (args : Array Value) (w : World), (callFunc k args).run Tryz.prog w = .ok (.enter k args) w
/-- the contract of a plan: it tells what is to be done -/
def PlanOk (k : FuncId) (caps : Array Value) (bd : Nat) (D1 : ADisk) (ow : Own) (K : Nat) (w : World) (refV doV : Value) (waits : Bool) (partV : Value) : Prop :=
  ∀ w1, FrO ow w w1 → DiskAt w1 bd D1 ow K → Calls Tryz.prog k caps w1 fun e w2 => e = .returned (.agg #[refV, doV, .bool waits, partV]) ∧ Fr (fun _ => False) w1 w2
/-- the contract of a deed -/
def DoOk (k : FuncId) (args : Array Value) (bd : Nat) (ow : Own) (K : Nat) (w : World) (D3 : ADisk) (R : ADisk → Prop) : Prop :=
  ∀ w3, FrO ow w w3 → DiskAt w3 bd D3 ow K → Calls Tryz.prog k args w3 fun e w4 => e = .returned (.tuple #[]) ∧
    ∃ D4 ow4, R D4 ∧ DiskAt w4 bd D4 ow4 K ∧ FrO ow w3 w4 ∧ ow.ext ow4 w3
/-- the world behind an operation -/
def After (bd : Nat) (ow : Own) (K : Nat) (w : World) (R : ADisk → Prop) (w' : World) : Prop :=
  ∃ D4 ow4, R D4 ∧ DiskAt w' bd D4 ow4 K ∧ FrO ow w w' ∧ ow.ext ow4 w
theorem After.of {bd : Nat} {ow : Own} {K : Nat} {w w' : World} {R : ADisk → Prop} {D : ADisk} (hR : R D) (h : DiskAt w' bd D ow K) (hf : FrO ow w w') : After bd ow K w R w' :=
  ⟨D, ow, hR, h, hf, Own.ext_refl _ _⟩
theorem After.head {bd : Nat} {ow : Own} {K : Nat} {w w1 w' : World} {R : ADisk → Prop} (hf : FrO ow w w1) (h : After bd ow K w1 R w') : After bd ow K w R w' := by
  obtain ⟨D, ow4, h1, h2, h3, h4⟩ := h
  exact ⟨D, ow4, h1, h2, Fr.trans hf h3, fun b hb hn => h4 b (Nat.lt_of_lt_of_le hb hf.size) hn⟩
theorem noFr {ow : Own} {w w' : World} (h : Fr (fun _ => False) w w') : FrO ow w w' := h.mono (fun _ _ h => h.elim)

theorem own_ge {w : World} {bd : Nat} {D : ADisk} {ow : Own} {K : Nat} {c : DCells} (h : DiskIs w bd D ow K c) : ∀ b, ow.has b → K ≤ b := fun b hb => by
  cases ho : ow b with
  | none => exact absurd ho hb
  | some r => exact (h.lt b r ho).1
theorem armed_as {bd K : Nat} {eb : Er → Addr} {S : Er → Bool} {D1 : ADisk} {ow : Own} {x : Int} {er : Option Er} (ha : armedOf D1.since D1.cut D1.fails = (x, er)) {w : World} (hD : DiskAt w bd D1 ow K) (G : Glob w K eb S) :
    Calls Tryz.prog 79 #[.pointer (some ⟨bd, 0, none⟩)] w fun e w' => e = .returned (.tuple #[.int .i64 x, erV eb er]) ∧ Fr (fun _ => False) w w' := by
  obtain ⟨c, hc⟩ := hD
  have := disk_armed hc G
  rw [ha] at this
  exact this
theorem own_lt {w : World} {bd : Nat} {D : ADisk} {ow : Own} {K : Nat} {c : DCells} (h : DiskIs w bd D ow K c) : ∀ b, ow.has b → b < w.heap.size := fun b hb => by
  cases ho : ow b with
  | none => exact absurd ho hb
  | some r => exact (h.lt b r ho).2
theorem DiskIs.allocd {w : World} {bd : Nat} {D : ADisk} {ow : Own} {K : Nat} {c : DCells} (h : DiskIs w bd D ow K c) (o : Obj) : DiskIs (w.alloc o) bd D ow K c :=
  h.keep (by simp) (fun b hb => heap_alloc_old w o (own_lt h b hb))
theorem neq_func (k : FuncId) (caps : Array Value) (w : World) : (binOp .neq 76 (.func (.func k) #[] caps) .nilFunc).run Tryz.prog w = .ok (.bool true) w := by kernel_rfl
theorem neq_nilFunc (w : World) : (binOp .neq 76 .nilFunc .nilFunc).run Tryz.prog w = .ok (.bool false) w := by kernel_rfl

set_option maxRecDepth 100000 in
set_option maxHeartbeats 1000000 in
theorem run_ok_do {bd K : Nat} {eb : Er → Addr} {S : Er → Bool} {D : ADisk} {ow : Own} {w : World} {c : DCells} (hD : DiskIs w bd D ow K c) (G : Glob w K eb S) (hd : D.down = false)
    {k kd : FuncId} (hk : Enters k) {caps capd : Array Value} (hkd : Enters kd) {waits : Bool} {R : ADisk → Prop} (hdo : DoOk kd capd bd ow K w D.tick R)
    (hp : PlanOk k caps bd D.tick ow K w .nilIface (.func (.func kd) #[] capd) waits .nilFunc)
    (ha : armedOf D.tick.since D.tick.cut D.tick.fails = (0, none)) :
    Calls Tryz.prog 43 #[.pointer (some ⟨bd, 0, none⟩), .func (.func k) #[] caps] w fun e w' => e = .returned .nilIface ∧ After bd ow K w R w' := by
  have h8 : w.cell? ⟨bd, 8, none⟩ = some (.bool false) := (cell_at hD.cells 8).trans (by rw [← hd]; rfl)
  have h4 : w.cell? ⟨bd, 4, none⟩ = some (.int .i64 D.ops) := cell_at hD.cells 4
  have h5 : w.cell? ⟨bd, 5, none⟩ = some (.int .i64 D.since) := cell_at hD.cells 5
  have f4 := free_at hD.cells 4
  have f5 := free_at hD.cells 5
  have hT := Lib.hid hD.ticked
  have HP := Lib.hid hp
  have HD := Lib.hid hdo
  clear hdo
  have HA := Lib.hid ha
  clear hp ha hd
  go_enter Tryz.func43, Tryz.ntmps43
  go_wp2_with fail
  have hf1 : FrO ow w ((w.setCell ⟨bd, 4, none⟩ (.int .i64 (wrap64 (D.ops + 1)))).setCell ⟨bd, 5, none⟩ (.int .i64 (wrap64 (D.since + 1)))) := ((Fr.refl _ _).setCell (fun _ => Own.has_some hD.me) _).setCell (fun _ => Own.has_some hD.me) _
  have HF := Lib.hid hf1
  clear hf1
  generalize ((w.setCell ⟨bd, 4, none⟩ (.int .i64 (wrap64 (D.ops + 1)))).setCell ⟨bd, 5, none⟩ (.int .i64 (wrap64 (D.since + 1)))) = w1 at HF hT ⊢
  refine (HP.out w1 HF.out ⟨c, hT.out⟩).mono ?_
  rintro e w2 ⟨rfl, hf2⟩
  go_wp2_with fail
  have hge := own_ge hD
  have hD2 : DiskIs w2 bd D.tick ow K c := hT.out.keep hf2.size (fun b hb => hf2.block b (own_lt hT.out b hb) (fun h => h))
  have hD3 := hD2.allocd (.cells #[.nilIface, .func (.func kd) #[] capd, .bool waits, .nilFunc] 82)
  have hF3 : FrO ow w (w2.alloc (.cells #[.nilIface, .func (.func kd) #[] capd, .bool waits, .nilFunc] 82)) := (Fr.trans HF.out (noFr hf2)).alloc _
  refine (armed_as HA.out ⟨c, hD3⟩ (G.fr hF3 hge)).mono ?_
  rintro e w4 ⟨rfl, hf4⟩
  have hF4 : FrO ow w w4 := Fr.trans hF3 (noFr hf4)
  have hD4 : DiskIs w4 bd D.tick ow K c := hD3.keep hf4.size (fun b hb => hf4.block b (own_lt hD3 b hb) (fun h => h))
  have ho : w4.heap[w2.heap.size]? = some (.cells #[.nilIface, .func (.func kd) #[] capd, .bool waits, .nilFunc] 82 (0, 0)) := (hf4.block _ (by simp) (fun h => h)).trans (heap_alloc_new w2 _)
  have hne : w2.heap.size ≠ bd := fun e => by have := (hD2.lt _ _ hD2.me).2; omega
  have G4 := G.fr hF4 hge
  have o0 : w4.cell? ⟨w2.heap.size, 0, none⟩ = some .nilIface := cell_at ho 0
  have o1 : w4.cell? ⟨w2.heap.size, 1, none⟩ = some (.func (.func kd) #[] capd) := cell_at ho 1
  have o2 : w4.cell? ⟨w2.heap.size, 2, none⟩ = some (.bool waits) := cell_at ho 2
  have o3 : w4.cell? ⟨w2.heap.size, 3, none⟩ = some .nilFunc := cell_at ho 3
  have v3 : w4.cell? ⟨5, 0, none⟩ = some (ptrE (eb .down)) := G4.var .down rfl
  have v2 : w4.cell? ⟨7, 0, none⟩ = some (ptrE (eb .io)) := G4.var .io rfl
  have hsz : w2.heap.size < w4.heap.size := (Array.getElem?_eq_some_iff.1 ho).1
  generalize w2.heap.size = q at ho o0 o1 o2 o3 hne hsz ⊢
  have HD4 := Lib.hid hD4
  have HF4 := Lib.hid hF4
  clear hF4 hD4 ho G4 hD3 hF3 hf4 hD2 hf2 hge G hT HF HP h8 h4 h5 f4 f5 hD hsz
  clear hne
  unfold erV
  have nf1 := neq_func
  have nf0 := neq_nilFunc
  go_wp2_with fail
  refine (is_nil _ _).mono ?_
  rintro e w' ⟨rfl, rfl⟩
  go_wp2_with fail
  refine (is_nil _ _).mono ?_
  rintro e w' ⟨rfl, rfl⟩
  go_wp2_with fail
  refine (HD.out _ HF4.out ⟨c, HD4.out⟩).mono ?_
  rintro e w5 ⟨rfl, hA⟩
  go_wp2_with fail
  go_ret
  exact ⟨rfl, After.head HF4.out hA⟩
set_option maxRecDepth 100000 in
set_option maxHeartbeats 1000000 in
theorem run_ok_ref {bd K : Nat} {eb : Er → Addr} {S : Er → Bool} {D : ADisk} {ow : Own} {w : World} {c : DCells} (hD : DiskIs w bd D ow K c) (G : Glob w K eb S) (hd : D.down = false)
    {k kd : FuncId} (hk : Enters k) {caps capd : Array Value} {r : Addr} {waits : Bool}
    (hp : PlanOk k caps bd D.tick ow K w (.iface 169 (.pointer (some r))) (.func (.func kd) #[] capd) waits .nilFunc)
    (ha : armedOf D.tick.since D.tick.cut D.tick.fails = (0, none)) :
    Calls Tryz.prog 43 #[.pointer (some ⟨bd, 0, none⟩), .func (.func k) #[] caps] w fun e w' => e = .returned (.iface 169 (.pointer (some r))) ∧ After bd ow K w (fun D' => D' = D.tick) w' := by
  have h8 : w.cell? ⟨bd, 8, none⟩ = some (.bool false) := (cell_at hD.cells 8).trans (by rw [← hd]; rfl)
  have h4 : w.cell? ⟨bd, 4, none⟩ = some (.int .i64 D.ops) := cell_at hD.cells 4
  have h5 : w.cell? ⟨bd, 5, none⟩ = some (.int .i64 D.since) := cell_at hD.cells 5
  have f4 := free_at hD.cells 4
  have f5 := free_at hD.cells 5
  have hT := Lib.hid hD.ticked
  have HP := Lib.hid hp
  have HA := Lib.hid ha
  clear hp ha hd
  go_enter Tryz.func43, Tryz.ntmps43
  go_wp2_with fail
  have hf1 : FrO ow w ((w.setCell ⟨bd, 4, none⟩ (.int .i64 (wrap64 (D.ops + 1)))).setCell ⟨bd, 5, none⟩ (.int .i64 (wrap64 (D.since + 1)))) := ((Fr.refl _ _).setCell (fun _ => Own.has_some hD.me) _).setCell (fun _ => Own.has_some hD.me) _
  have HF := Lib.hid hf1
  clear hf1
  generalize ((w.setCell ⟨bd, 4, none⟩ (.int .i64 (wrap64 (D.ops + 1)))).setCell ⟨bd, 5, none⟩ (.int .i64 (wrap64 (D.since + 1)))) = w1 at HF hT ⊢
  refine (HP.out w1 HF.out ⟨c, hT.out⟩).mono ?_
  rintro e w2 ⟨rfl, hf2⟩
  go_wp2_with fail
  have hge := own_ge hD
  have hD2 : DiskIs w2 bd D.tick ow K c := hT.out.keep hf2.size (fun b hb => hf2.block b (own_lt hT.out b hb) (fun h => h))
  have hD3 := hD2.allocd (.cells #[(.iface 169 (.pointer (some r))), .func (.func kd) #[] capd, .bool waits, .nilFunc] 82)
  have hF3 : FrO ow w (w2.alloc (.cells #[(.iface 169 (.pointer (some r))), .func (.func kd) #[] capd, .bool waits, .nilFunc] 82)) := (Fr.trans HF.out (noFr hf2)).alloc _
  refine (armed_as HA.out ⟨c, hD3⟩ (G.fr hF3 hge)).mono ?_
  rintro e w4 ⟨rfl, hf4⟩
  have hF4 : FrO ow w w4 := Fr.trans hF3 (noFr hf4)
  have hD4 : DiskIs w4 bd D.tick ow K c := hD3.keep hf4.size (fun b hb => hf4.block b (own_lt hD3 b hb) (fun h => h))
  have ho : w4.heap[w2.heap.size]? = some (.cells #[(.iface 169 (.pointer (some r))), .func (.func kd) #[] capd, .bool waits, .nilFunc] 82 (0, 0)) := (hf4.block _ (by simp) (fun h => h)).trans (heap_alloc_new w2 _)
  have hne : w2.heap.size ≠ bd := fun e => by have := (hD2.lt _ _ hD2.me).2; omega
  have G4 := G.fr hF4 hge
  have o0 : w4.cell? ⟨w2.heap.size, 0, none⟩ = some (.iface 169 (.pointer (some r))) := cell_at ho 0
  have o1 : w4.cell? ⟨w2.heap.size, 1, none⟩ = some (.func (.func kd) #[] capd) := cell_at ho 1
  have o2 : w4.cell? ⟨w2.heap.size, 2, none⟩ = some (.bool waits) := cell_at ho 2
  have o3 : w4.cell? ⟨w2.heap.size, 3, none⟩ = some .nilFunc := cell_at ho 3
  have v3 : w4.cell? ⟨5, 0, none⟩ = some (ptrE (eb .down)) := G4.var .down rfl
  have v2 : w4.cell? ⟨7, 0, none⟩ = some (ptrE (eb .io)) := G4.var .io rfl
  have hsz : w2.heap.size < w4.heap.size := (Array.getElem?_eq_some_iff.1 ho).1
  generalize w2.heap.size = q at ho o0 o1 o2 o3 hne hsz ⊢
  have HD4 := Lib.hid hD4
  have HF4 := Lib.hid hF4
  clear hF4 hD4 ho G4 hD3 hF3 hf4 hD2 hf2 hge G hT HF HP h8 h4 h5 f4 f5 hD hsz
  clear hne
  unfold erV
  have nf1 := neq_func
  have nf0 := neq_nilFunc
  go_wp2_with fail
  refine (is_nil _ _).mono ?_
  rintro e w' ⟨rfl, rfl⟩
  go_wp2_with fail
  refine (is_nil _ _).mono ?_
  rintro e w' ⟨rfl, rfl⟩
  go_wp2_with fail
  go_ret
  exact ⟨rfl, After.of rfl ⟨c, HD4.out⟩ HF4.out⟩
set_option maxRecDepth 100000 in
set_option maxHeartbeats 1000000 in
theorem run_down_do {bd K : Nat} {eb : Er → Addr} {S : Er → Bool} {D : ADisk} {ow : Own} {w : World} {c : DCells} (hD : DiskIs w bd D ow K c) (G : Glob w K eb S) (hd : D.down = false)
    {k kd : FuncId} (hk : Enters k) {caps capd : Array Value} (hkd : Enters kd) {R : ADisk → Prop} (hdo : DoOk kd capd bd ow K w { D.tick with down := true } R)
    (hp : PlanOk k caps bd D.tick ow K w .nilIface (.func (.func kd) #[] capd) true .nilFunc)
    (ha : armedOf D.tick.since D.tick.cut D.tick.fails = (0, some .down)) :
    Calls Tryz.prog 43 #[.pointer (some ⟨bd, 0, none⟩), .func (.func k) #[] caps] w fun e w' => e = .returned (ptrE (eb .down)) ∧ After bd ow K w R w' := by
  have h8 : w.cell? ⟨bd, 8, none⟩ = some (.bool false) := (cell_at hD.cells 8).trans (by rw [← hd]; rfl)
  have h4 : w.cell? ⟨bd, 4, none⟩ = some (.int .i64 D.ops) := cell_at hD.cells 4
  have h5 : w.cell? ⟨bd, 5, none⟩ = some (.int .i64 D.since) := cell_at hD.cells 5
  have f4 := free_at hD.cells 4
  have f5 := free_at hD.cells 5
  have hT := Lib.hid hD.ticked
  have HP := Lib.hid hp
  have HD := Lib.hid hdo
  clear hdo
  have HA := Lib.hid ha
  clear hp ha hd
  go_enter Tryz.func43, Tryz.ntmps43
  go_wp2_with fail
  have hf1 : FrO ow w ((w.setCell ⟨bd, 4, none⟩ (.int .i64 (wrap64 (D.ops + 1)))).setCell ⟨bd, 5, none⟩ (.int .i64 (wrap64 (D.since + 1)))) := ((Fr.refl _ _).setCell (fun _ => Own.has_some hD.me) _).setCell (fun _ => Own.has_some hD.me) _
  have HF := Lib.hid hf1
  clear hf1
  generalize ((w.setCell ⟨bd, 4, none⟩ (.int .i64 (wrap64 (D.ops + 1)))).setCell ⟨bd, 5, none⟩ (.int .i64 (wrap64 (D.since + 1)))) = w1 at HF hT ⊢
  refine (HP.out w1 HF.out ⟨c, hT.out⟩).mono ?_
  rintro e w2 ⟨rfl, hf2⟩
  go_wp2_with fail
  have hge := own_ge hD
  have hD2 : DiskIs w2 bd D.tick ow K c := hT.out.keep hf2.size (fun b hb => hf2.block b (own_lt hT.out b hb) (fun h => h))
  have hD3 := hD2.allocd (.cells #[.nilIface, .func (.func kd) #[] capd, .bool true, .nilFunc] 82)
  have hF3 : FrO ow w (w2.alloc (.cells #[.nilIface, .func (.func kd) #[] capd, .bool true, .nilFunc] 82)) := (Fr.trans HF.out (noFr hf2)).alloc _
  refine (armed_as HA.out ⟨c, hD3⟩ (G.fr hF3 hge)).mono ?_
  rintro e w4 ⟨rfl, hf4⟩
  have hF4 : FrO ow w w4 := Fr.trans hF3 (noFr hf4)
  have hD4 : DiskIs w4 bd D.tick ow K c := hD3.keep hf4.size (fun b hb => hf4.block b (own_lt hD3 b hb) (fun h => h))
  have ho : w4.heap[w2.heap.size]? = some (.cells #[.nilIface, .func (.func kd) #[] capd, .bool true, .nilFunc] 82 (0, 0)) := (hf4.block _ (by simp) (fun h => h)).trans (heap_alloc_new w2 _)
  have hne : w2.heap.size ≠ bd := fun e => by have := (hD2.lt _ _ hD2.me).2; omega
  have G4 := G.fr hF4 hge
  have o0 : w4.cell? ⟨w2.heap.size, 0, none⟩ = some .nilIface := cell_at ho 0
  have o1 : w4.cell? ⟨w2.heap.size, 1, none⟩ = some (.func (.func kd) #[] capd) := cell_at ho 1
  have o2 : w4.cell? ⟨w2.heap.size, 2, none⟩ = some (.bool true) := cell_at ho 2
  have o3 : w4.cell? ⟨w2.heap.size, 3, none⟩ = some .nilFunc := cell_at ho 3
  have v3 : w4.cell? ⟨5, 0, none⟩ = some (ptrE (eb .down)) := G4.var .down rfl
  have v2 : w4.cell? ⟨7, 0, none⟩ = some (ptrE (eb .io)) := G4.var .io rfl
  have hsz : w2.heap.size < w4.heap.size := (Array.getElem?_eq_some_iff.1 ho).1
  have d8 : w4.cell? ⟨bd, 8, none⟩ = some (.bool D.down) := cell_at hD4.cells 8
  have e8 := free_at hD4.cells 8
  have hDD := Lib.hid hD4.downed
  have hFD := Lib.hid (Fr.setCell hF4 (a := ⟨bd, 8, none⟩) (fun _ => Own.has_some hD.me) (.bool true))
  generalize w2.heap.size = q at ho o0 o1 o2 o3 hne hsz ⊢
  have HD4 := Lib.hid hD4
  have HF4 := Lib.hid hF4
  clear hF4 hD4 ho G4 hD3 hF3 hf4 hD2 hf2 hge G hT HF HP h8 h4 h5 f4 f5 hD hsz
  unfold erV
  have nf1 := neq_func
  have nf0 := neq_nilFunc
  go_wp2_with fail
  refine (is_same _ _).mono ?_
  rintro e w' ⟨rfl, rfl⟩
  go_wp2_with fail
  refine (HD.out _ hFD.out ⟨c, hDD.out⟩).mono ?_
  rintro e w5 ⟨rfl, hA⟩
  go_wp2_with fail
  go_ret
  exact ⟨rfl, After.head hFD.out hA⟩
set_option maxRecDepth 100000 in
set_option maxHeartbeats 1000000 in
theorem run_down_skip {bd K : Nat} {eb : Er → Addr} {S : Er → Bool} {D : ADisk} {ow : Own} {w : World} {c : DCells} (hD : DiskIs w bd D ow K c) (G : Glob w K eb S) (hd : D.down = false)
    {k kd : FuncId} (hk : Enters k) {caps capd : Array Value}
    (hp : PlanOk k caps bd D.tick ow K w .nilIface (.func (.func kd) #[] capd) false .nilFunc)
    (ha : armedOf D.tick.since D.tick.cut D.tick.fails = (0, some .down)) :
    Calls Tryz.prog 43 #[.pointer (some ⟨bd, 0, none⟩), .func (.func k) #[] caps] w fun e w' => e = .returned (ptrE (eb .down)) ∧ After bd ow K w (fun D' => D' = { D.tick with down := true }) w' := by
  have h8 : w.cell? ⟨bd, 8, none⟩ = some (.bool false) := (cell_at hD.cells 8).trans (by rw [← hd]; rfl)
  have h4 : w.cell? ⟨bd, 4, none⟩ = some (.int .i64 D.ops) := cell_at hD.cells 4
  have h5 : w.cell? ⟨bd, 5, none⟩ = some (.int .i64 D.since) := cell_at hD.cells 5
  have f4 := free_at hD.cells 4
  have f5 := free_at hD.cells 5
  have hT := Lib.hid hD.ticked
  have HP := Lib.hid hp
  have HA := Lib.hid ha
  clear hp ha hd
  go_enter Tryz.func43, Tryz.ntmps43
  go_wp2_with fail
  have hf1 : FrO ow w ((w.setCell ⟨bd, 4, none⟩ (.int .i64 (wrap64 (D.ops + 1)))).setCell ⟨bd, 5, none⟩ (.int .i64 (wrap64 (D.since + 1)))) := ((Fr.refl _ _).setCell (fun _ => Own.has_some hD.me) _).setCell (fun _ => Own.has_some hD.me) _
  have HF := Lib.hid hf1
  clear hf1
  generalize ((w.setCell ⟨bd, 4, none⟩ (.int .i64 (wrap64 (D.ops + 1)))).setCell ⟨bd, 5, none⟩ (.int .i64 (wrap64 (D.since + 1)))) = w1 at HF hT ⊢
  refine (HP.out w1 HF.out ⟨c, hT.out⟩).mono ?_
  rintro e w2 ⟨rfl, hf2⟩
  go_wp2_with fail
  have hge := own_ge hD
  have hD2 : DiskIs w2 bd D.tick ow K c := hT.out.keep hf2.size (fun b hb => hf2.block b (own_lt hT.out b hb) (fun h => h))
  have hD3 := hD2.allocd (.cells #[.nilIface, .func (.func kd) #[] capd, .bool false, .nilFunc] 82)
  have hF3 : FrO ow w (w2.alloc (.cells #[.nilIface, .func (.func kd) #[] capd, .bool false, .nilFunc] 82)) := (Fr.trans HF.out (noFr hf2)).alloc _
  refine (armed_as HA.out ⟨c, hD3⟩ (G.fr hF3 hge)).mono ?_
  rintro e w4 ⟨rfl, hf4⟩
  have hF4 : FrO ow w w4 := Fr.trans hF3 (noFr hf4)
  have hD4 : DiskIs w4 bd D.tick ow K c := hD3.keep hf4.size (fun b hb => hf4.block b (own_lt hD3 b hb) (fun h => h))
  have ho : w4.heap[w2.heap.size]? = some (.cells #[.nilIface, .func (.func kd) #[] capd, .bool false, .nilFunc] 82 (0, 0)) := (hf4.block _ (by simp) (fun h => h)).trans (heap_alloc_new w2 _)
  have hne : w2.heap.size ≠ bd := fun e => by have := (hD2.lt _ _ hD2.me).2; omega
  have G4 := G.fr hF4 hge
  have o0 : w4.cell? ⟨w2.heap.size, 0, none⟩ = some .nilIface := cell_at ho 0
  have o1 : w4.cell? ⟨w2.heap.size, 1, none⟩ = some (.func (.func kd) #[] capd) := cell_at ho 1
  have o2 : w4.cell? ⟨w2.heap.size, 2, none⟩ = some (.bool false) := cell_at ho 2
  have o3 : w4.cell? ⟨w2.heap.size, 3, none⟩ = some .nilFunc := cell_at ho 3
  have v3 : w4.cell? ⟨5, 0, none⟩ = some (ptrE (eb .down)) := G4.var .down rfl
  have v2 : w4.cell? ⟨7, 0, none⟩ = some (ptrE (eb .io)) := G4.var .io rfl
  have hsz : w2.heap.size < w4.heap.size := (Array.getElem?_eq_some_iff.1 ho).1
  have d8 : w4.cell? ⟨bd, 8, none⟩ = some (.bool D.down) := cell_at hD4.cells 8
  have e8 := free_at hD4.cells 8
  have hDD := Lib.hid hD4.downed
  have hFD := Lib.hid (Fr.setCell hF4 (a := ⟨bd, 8, none⟩) (fun _ => Own.has_some hD.me) (.bool true))
  generalize w2.heap.size = q at ho o0 o1 o2 o3 hne hsz ⊢
  have HD4 := Lib.hid hD4
  have HF4 := Lib.hid hF4
  clear hF4 hD4 ho G4 hD3 hF3 hf4 hD2 hf2 hge G hT HF HP h8 h4 h5 f4 f5 hD hsz
  unfold erV
  have nf1 := neq_func
  have nf0 := neq_nilFunc
  go_wp2_with fail
  refine (is_same _ _).mono ?_
  rintro e w' ⟨rfl, rfl⟩
  go_wp2_with fail
  go_ret
  exact ⟨rfl, After.of rfl ⟨c, hDD.out⟩ hFD.out⟩
set_option maxRecDepth 100000 in
set_option maxHeartbeats 1000000 in
theorem run_down_ref {bd K : Nat} {eb : Er → Addr} {S : Er → Bool} {D : ADisk} {ow : Own} {w : World} {c : DCells} (hD : DiskIs w bd D ow K c) (G : Glob w K eb S) (hd : D.down = false)
    {k kd : FuncId} (hk : Enters k) {caps capd : Array Value} {r : Addr} {waits : Bool}
    (hp : PlanOk k caps bd D.tick ow K w (.iface 169 (.pointer (some r))) (.func (.func kd) #[] capd) waits .nilFunc)
    (ha : armedOf D.tick.since D.tick.cut D.tick.fails = (0, some .down)) :
    Calls Tryz.prog 43 #[.pointer (some ⟨bd, 0, none⟩), .func (.func k) #[] caps] w fun e w' => e = .returned (ptrE (eb .down)) ∧ After bd ow K w (fun D' => D' = { D.tick with down := true }) w' := by
  have h8 : w.cell? ⟨bd, 8, none⟩ = some (.bool false) := (cell_at hD.cells 8).trans (by rw [← hd]; rfl)
  have h4 : w.cell? ⟨bd, 4, none⟩ = some (.int .i64 D.ops) := cell_at hD.cells 4
  have h5 : w.cell? ⟨bd, 5, none⟩ = some (.int .i64 D.since) := cell_at hD.cells 5
  have f4 := free_at hD.cells 4
  have f5 := free_at hD.cells 5
  have hT := Lib.hid hD.ticked
  have HP := Lib.hid hp
  have HA := Lib.hid ha
  clear hp ha hd
  go_enter Tryz.func43, Tryz.ntmps43
  go_wp2_with fail
  have hf1 : FrO ow w ((w.setCell ⟨bd, 4, none⟩ (.int .i64 (wrap64 (D.ops + 1)))).setCell ⟨bd, 5, none⟩ (.int .i64 (wrap64 (D.since + 1)))) := ((Fr.refl _ _).setCell (fun _ => Own.has_some hD.me) _).setCell (fun _ => Own.has_some hD.me) _
  have HF := Lib.hid hf1
  clear hf1
  generalize ((w.setCell ⟨bd, 4, none⟩ (.int .i64 (wrap64 (D.ops + 1)))).setCell ⟨bd, 5, none⟩ (.int .i64 (wrap64 (D.since + 1)))) = w1 at HF hT ⊢
  refine (HP.out w1 HF.out ⟨c, hT.out⟩).mono ?_
  rintro e w2 ⟨rfl, hf2⟩
  go_wp2_with fail
  have hge := own_ge hD
  have hD2 : DiskIs w2 bd D.tick ow K c := hT.out.keep hf2.size (fun b hb => hf2.block b (own_lt hT.out b hb) (fun h => h))
  have hD3 := hD2.allocd (.cells #[(.iface 169 (.pointer (some r))), .func (.func kd) #[] capd, .bool waits, .nilFunc] 82)
  have hF3 : FrO ow w (w2.alloc (.cells #[(.iface 169 (.pointer (some r))), .func (.func kd) #[] capd, .bool waits, .nilFunc] 82)) := (Fr.trans HF.out (noFr hf2)).alloc _
  refine (armed_as HA.out ⟨c, hD3⟩ (G.fr hF3 hge)).mono ?_
  rintro e w4 ⟨rfl, hf4⟩
  have hF4 : FrO ow w w4 := Fr.trans hF3 (noFr hf4)
  have hD4 : DiskIs w4 bd D.tick ow K c := hD3.keep hf4.size (fun b hb => hf4.block b (own_lt hD3 b hb) (fun h => h))
  have ho : w4.heap[w2.heap.size]? = some (.cells #[(.iface 169 (.pointer (some r))), .func (.func kd) #[] capd, .bool waits, .nilFunc] 82 (0, 0)) := (hf4.block _ (by simp) (fun h => h)).trans (heap_alloc_new w2 _)
  have hne : w2.heap.size ≠ bd := fun e => by have := (hD2.lt _ _ hD2.me).2; omega
  have G4 := G.fr hF4 hge
  have o0 : w4.cell? ⟨w2.heap.size, 0, none⟩ = some (.iface 169 (.pointer (some r))) := cell_at ho 0
  have o1 : w4.cell? ⟨w2.heap.size, 1, none⟩ = some (.func (.func kd) #[] capd) := cell_at ho 1
  have o2 : w4.cell? ⟨w2.heap.size, 2, none⟩ = some (.bool waits) := cell_at ho 2
  have o3 : w4.cell? ⟨w2.heap.size, 3, none⟩ = some .nilFunc := cell_at ho 3
  have v3 : w4.cell? ⟨5, 0, none⟩ = some (ptrE (eb .down)) := G4.var .down rfl
  have v2 : w4.cell? ⟨7, 0, none⟩ = some (ptrE (eb .io)) := G4.var .io rfl
  have hsz : w2.heap.size < w4.heap.size := (Array.getElem?_eq_some_iff.1 ho).1
  have d8 : w4.cell? ⟨bd, 8, none⟩ = some (.bool D.down) := cell_at hD4.cells 8
  have e8 := free_at hD4.cells 8
  have hDD := Lib.hid hD4.downed
  have hFD := Lib.hid (Fr.setCell hF4 (a := ⟨bd, 8, none⟩) (fun _ => Own.has_some hD.me) (.bool true))
  generalize w2.heap.size = q at ho o0 o1 o2 o3 hne hsz ⊢
  have HD4 := Lib.hid hD4
  have HF4 := Lib.hid hF4
  clear hF4 hD4 ho G4 hD3 hF3 hf4 hD2 hf2 hge G hT HF HP h8 h4 h5 f4 f5 hD hsz
  unfold erV
  have nf1 := neq_func
  have nf0 := neq_nilFunc
  go_wp2_with fail
  refine (is_same _ _).mono ?_
  rintro e w' ⟨rfl, rfl⟩
  go_wp2_with fail
  go_ret
  exact ⟨rfl, After.of rfl ⟨c, hDD.out⟩ hFD.out⟩
set_option maxRecDepth 100000 in
set_option maxHeartbeats 1000000 in
theorem run_io_ref {bd K : Nat} {eb : Er → Addr} {S : Er → Bool} {D : ADisk} {ow : Own} {w : World} {c : DCells} (hD : DiskIs w bd D ow K c) (G : Glob w K eb S) (hd : D.down = false)
    {k kd : FuncId} (hk : Enters k) {caps capd : Array Value} {r : Addr} {waits : Bool} {x : Int}
    (hp : PlanOk k caps bd D.tick ow K w (.iface 169 (.pointer (some r))) (.func (.func kd) #[] capd) waits .nilFunc)
    (ha : armedOf D.tick.since D.tick.cut D.tick.fails = (x, some .io)) :
    Calls Tryz.prog 43 #[.pointer (some ⟨bd, 0, none⟩), .func (.func k) #[] caps] w fun e w' => e = .returned (ptrE (eb .io)) ∧ After bd ow K w (fun D' => D' = D.tick) w' := by
  have h8 : w.cell? ⟨bd, 8, none⟩ = some (.bool false) := (cell_at hD.cells 8).trans (by rw [← hd]; rfl)
  have h4 : w.cell? ⟨bd, 4, none⟩ = some (.int .i64 D.ops) := cell_at hD.cells 4
  have h5 : w.cell? ⟨bd, 5, none⟩ = some (.int .i64 D.since) := cell_at hD.cells 5
  have f4 := free_at hD.cells 4
  have f5 := free_at hD.cells 5
  have hT := Lib.hid hD.ticked
  have HP := Lib.hid hp
  have HA := Lib.hid ha
  clear hp ha hd
  go_enter Tryz.func43, Tryz.ntmps43
  go_wp2_with fail
  have hf1 : FrO ow w ((w.setCell ⟨bd, 4, none⟩ (.int .i64 (wrap64 (D.ops + 1)))).setCell ⟨bd, 5, none⟩ (.int .i64 (wrap64 (D.since + 1)))) := ((Fr.refl _ _).setCell (fun _ => Own.has_some hD.me) _).setCell (fun _ => Own.has_some hD.me) _
  have HF := Lib.hid hf1
  clear hf1
  generalize ((w.setCell ⟨bd, 4, none⟩ (.int .i64 (wrap64 (D.ops + 1)))).setCell ⟨bd, 5, none⟩ (.int .i64 (wrap64 (D.since + 1)))) = w1 at HF hT ⊢
  refine (HP.out w1 HF.out ⟨c, hT.out⟩).mono ?_
  rintro e w2 ⟨rfl, hf2⟩
  go_wp2_with fail
  have hge := own_ge hD
  have hD2 : DiskIs w2 bd D.tick ow K c := hT.out.keep hf2.size (fun b hb => hf2.block b (own_lt hT.out b hb) (fun h => h))
  have hD3 := hD2.allocd (.cells #[(.iface 169 (.pointer (some r))), .func (.func kd) #[] capd, .bool waits, .nilFunc] 82)
  have hF3 : FrO ow w (w2.alloc (.cells #[(.iface 169 (.pointer (some r))), .func (.func kd) #[] capd, .bool waits, .nilFunc] 82)) := (Fr.trans HF.out (noFr hf2)).alloc _
  refine (armed_as HA.out ⟨c, hD3⟩ (G.fr hF3 hge)).mono ?_
  rintro e w4 ⟨rfl, hf4⟩
  have hF4 : FrO ow w w4 := Fr.trans hF3 (noFr hf4)
  have hD4 : DiskIs w4 bd D.tick ow K c := hD3.keep hf4.size (fun b hb => hf4.block b (own_lt hD3 b hb) (fun h => h))
  have ho : w4.heap[w2.heap.size]? = some (.cells #[(.iface 169 (.pointer (some r))), .func (.func kd) #[] capd, .bool waits, .nilFunc] 82 (0, 0)) := (hf4.block _ (by simp) (fun h => h)).trans (heap_alloc_new w2 _)
  have hne : w2.heap.size ≠ bd := fun e => by have := (hD2.lt _ _ hD2.me).2; omega
  have G4 := G.fr hF4 hge
  have o0 : w4.cell? ⟨w2.heap.size, 0, none⟩ = some (.iface 169 (.pointer (some r))) := cell_at ho 0
  have o1 : w4.cell? ⟨w2.heap.size, 1, none⟩ = some (.func (.func kd) #[] capd) := cell_at ho 1
  have o2 : w4.cell? ⟨w2.heap.size, 2, none⟩ = some (.bool waits) := cell_at ho 2
  have o3 : w4.cell? ⟨w2.heap.size, 3, none⟩ = some .nilFunc := cell_at ho 3
  have v3 : w4.cell? ⟨5, 0, none⟩ = some (ptrE (eb .down)) := G4.var .down rfl
  have v2 : w4.cell? ⟨7, 0, none⟩ = some (ptrE (eb .io)) := G4.var .io rfl
  have hsz : w2.heap.size < w4.heap.size := (Array.getElem?_eq_some_iff.1 ho).1
  obtain ⟨ca, ta, qa⟩ := G4.blk .io (G4.core _ rfl)
  obtain ⟨cb, tb, qb⟩ := G4.blk .down (G4.core _ rfl)
  have hio := Lib.hid (is_other (eb .io) (eb .down) ca cb ta tb w4 (fun e => by have := G4.inj _ _ (G4.core _ rfl) (G4.core _ rfl) e; cases this) qa qb)
  clear qa qb
  generalize w2.heap.size = q at ho o0 o1 o2 o3 hne hsz ⊢
  have HD4 := Lib.hid hD4
  have HF4 := Lib.hid hF4
  clear hF4 hD4 ho G4 hD3 hF3 hf4 hD2 hf2 hge G hT HF HP h8 h4 h5 f4 f5 hD hsz
  clear hne
  unfold erV
  have nf1 := neq_func
  have nf0 := neq_nilFunc
  go_wp2_with fail
  refine (hio.out).mono ?_
  rintro e w' ⟨rfl, rfl⟩
  go_wp2_with fail
  refine (is_same _ _).mono ?_
  rintro e w' ⟨rfl, rfl⟩
  go_wp2_with fail
  go_ret
  exact ⟨rfl, After.of rfl ⟨c, HD4.out⟩ HF4.out⟩
set_option maxRecDepth 100000 in
set_option maxHeartbeats 1000000 in
theorem run_ok_dop {bd K : Nat} {eb : Er → Addr} {S : Er → Bool} {D : ADisk} {ow : Own} {w : World} {c : DCells} (hD : DiskIs w bd D ow K c) (G : Glob w K eb S) (hd : D.down = false)
    {k kd : FuncId} (hk : Enters k) {caps capd : Array Value} (hkd : Enters kd) {kp : FuncId} {capp : Array Value} {waits : Bool} {R : ADisk → Prop} (hdo : DoOk kd capd bd ow K w D.tick R)
    (hp : PlanOk k caps bd D.tick ow K w .nilIface (.func (.func kd) #[] capd) waits (.func (.func kp) #[] capp))
    (ha : armedOf D.tick.since D.tick.cut D.tick.fails = (0, none)) :
    Calls Tryz.prog 43 #[.pointer (some ⟨bd, 0, none⟩), .func (.func k) #[] caps] w fun e w' => e = .returned .nilIface ∧ After bd ow K w R w' := by
  have h8 : w.cell? ⟨bd, 8, none⟩ = some (.bool false) := (cell_at hD.cells 8).trans (by rw [← hd]; rfl)
  have h4 : w.cell? ⟨bd, 4, none⟩ = some (.int .i64 D.ops) := cell_at hD.cells 4
  have h5 : w.cell? ⟨bd, 5, none⟩ = some (.int .i64 D.since) := cell_at hD.cells 5
  have f4 := free_at hD.cells 4
  have f5 := free_at hD.cells 5
  have hT := Lib.hid hD.ticked
  have HP := Lib.hid hp
  have HD := Lib.hid hdo
  clear hdo
  have HA := Lib.hid ha
  clear hp ha hd
  go_enter Tryz.func43, Tryz.ntmps43
  go_wp2_with fail
  have hf1 : FrO ow w ((w.setCell ⟨bd, 4, none⟩ (.int .i64 (wrap64 (D.ops + 1)))).setCell ⟨bd, 5, none⟩ (.int .i64 (wrap64 (D.since + 1)))) := ((Fr.refl _ _).setCell (fun _ => Own.has_some hD.me) _).setCell (fun _ => Own.has_some hD.me) _
  have HF := Lib.hid hf1
  clear hf1
  generalize ((w.setCell ⟨bd, 4, none⟩ (.int .i64 (wrap64 (D.ops + 1)))).setCell ⟨bd, 5, none⟩ (.int .i64 (wrap64 (D.since + 1)))) = w1 at HF hT ⊢
  refine (HP.out w1 HF.out ⟨c, hT.out⟩).mono ?_
  rintro e w2 ⟨rfl, hf2⟩
  go_wp2_with fail
  have hge := own_ge hD
  have hD2 : DiskIs w2 bd D.tick ow K c := hT.out.keep hf2.size (fun b hb => hf2.block b (own_lt hT.out b hb) (fun h => h))
  have hD3 := hD2.allocd (.cells #[.nilIface, .func (.func kd) #[] capd, .bool waits, (.func (.func kp) #[] capp)] 82)
  have hF3 : FrO ow w (w2.alloc (.cells #[.nilIface, .func (.func kd) #[] capd, .bool waits, (.func (.func kp) #[] capp)] 82)) := (Fr.trans HF.out (noFr hf2)).alloc _
  refine (armed_as HA.out ⟨c, hD3⟩ (G.fr hF3 hge)).mono ?_
  rintro e w4 ⟨rfl, hf4⟩
  have hF4 : FrO ow w w4 := Fr.trans hF3 (noFr hf4)
  have hD4 : DiskIs w4 bd D.tick ow K c := hD3.keep hf4.size (fun b hb => hf4.block b (own_lt hD3 b hb) (fun h => h))
  have ho : w4.heap[w2.heap.size]? = some (.cells #[.nilIface, .func (.func kd) #[] capd, .bool waits, (.func (.func kp) #[] capp)] 82 (0, 0)) := (hf4.block _ (by simp) (fun h => h)).trans (heap_alloc_new w2 _)
  have hne : w2.heap.size ≠ bd := fun e => by have := (hD2.lt _ _ hD2.me).2; omega
  have G4 := G.fr hF4 hge
  have o0 : w4.cell? ⟨w2.heap.size, 0, none⟩ = some .nilIface := cell_at ho 0
  have o1 : w4.cell? ⟨w2.heap.size, 1, none⟩ = some (.func (.func kd) #[] capd) := cell_at ho 1
  have o2 : w4.cell? ⟨w2.heap.size, 2, none⟩ = some (.bool waits) := cell_at ho 2
  have o3 : w4.cell? ⟨w2.heap.size, 3, none⟩ = some (.func (.func kp) #[] capp) := cell_at ho 3
  have v3 : w4.cell? ⟨5, 0, none⟩ = some (ptrE (eb .down)) := G4.var .down rfl
  have v2 : w4.cell? ⟨7, 0, none⟩ = some (ptrE (eb .io)) := G4.var .io rfl
  have hsz : w2.heap.size < w4.heap.size := (Array.getElem?_eq_some_iff.1 ho).1
  generalize w2.heap.size = q at ho o0 o1 o2 o3 hne hsz ⊢
  have HD4 := Lib.hid hD4
  have HF4 := Lib.hid hF4
  clear hF4 hD4 ho G4 hD3 hF3 hf4 hD2 hf2 hge G hT HF HP h8 h4 h5 f4 f5 hD hsz
  clear hne
  unfold erV
  have nf1 := neq_func
  have nf0 := neq_nilFunc
  go_wp2_with fail
  refine (is_nil _ _).mono ?_
  rintro e w' ⟨rfl, rfl⟩
  go_wp2_with fail
  refine (is_nil _ _).mono ?_
  rintro e w' ⟨rfl, rfl⟩
  go_wp2_with fail
  refine (HD.out _ HF4.out ⟨c, HD4.out⟩).mono ?_
  rintro e w5 ⟨rfl, hA⟩
  go_wp2_with fail
  go_ret
  exact ⟨rfl, After.head HF4.out hA⟩
set_option maxRecDepth 100000 in
set_option maxHeartbeats 1000000 in
theorem run_ok_refp {bd K : Nat} {eb : Er → Addr} {S : Er → Bool} {D : ADisk} {ow : Own} {w : World} {c : DCells} (hD : DiskIs w bd D ow K c) (G : Glob w K eb S) (hd : D.down = false)
    {k kd : FuncId} (hk : Enters k) {caps capd : Array Value} {kp : FuncId} {capp : Array Value} {r : Addr} {waits : Bool}
    (hp : PlanOk k caps bd D.tick ow K w (.iface 169 (.pointer (some r))) (.func (.func kd) #[] capd) waits (.func (.func kp) #[] capp))
    (ha : armedOf D.tick.since D.tick.cut D.tick.fails = (0, none)) :
    Calls Tryz.prog 43 #[.pointer (some ⟨bd, 0, none⟩), .func (.func k) #[] caps] w fun e w' => e = .returned (.iface 169 (.pointer (some r))) ∧ After bd ow K w (fun D' => D' = D.tick) w' := by
  have h8 : w.cell? ⟨bd, 8, none⟩ = some (.bool false) := (cell_at hD.cells 8).trans (by rw [← hd]; rfl)
  have h4 : w.cell? ⟨bd, 4, none⟩ = some (.int .i64 D.ops) := cell_at hD.cells 4
  have h5 : w.cell? ⟨bd, 5, none⟩ = some (.int .i64 D.since) := cell_at hD.cells 5
  have f4 := free_at hD.cells 4
  have f5 := free_at hD.cells 5
  have hT := Lib.hid hD.ticked
  have HP := Lib.hid hp
  have HA := Lib.hid ha
  clear hp ha hd
  go_enter Tryz.func43, Tryz.ntmps43
  go_wp2_with fail
  have hf1 : FrO ow w ((w.setCell ⟨bd, 4, none⟩ (.int .i64 (wrap64 (D.ops + 1)))).setCell ⟨bd, 5, none⟩ (.int .i64 (wrap64 (D.since + 1)))) := ((Fr.refl _ _).setCell (fun _ => Own.has_some hD.me) _).setCell (fun _ => Own.has_some hD.me) _
  have HF := Lib.hid hf1
  clear hf1
  generalize ((w.setCell ⟨bd, 4, none⟩ (.int .i64 (wrap64 (D.ops + 1)))).setCell ⟨bd, 5, none⟩ (.int .i64 (wrap64 (D.since + 1)))) = w1 at HF hT ⊢
  refine (HP.out w1 HF.out ⟨c, hT.out⟩).mono ?_
  rintro e w2 ⟨rfl, hf2⟩
  go_wp2_with fail
  have hge := own_ge hD
  have hD2 : DiskIs w2 bd D.tick ow K c := hT.out.keep hf2.size (fun b hb => hf2.block b (own_lt hT.out b hb) (fun h => h))
  have hD3 := hD2.allocd (.cells #[(.iface 169 (.pointer (some r))), .func (.func kd) #[] capd, .bool waits, (.func (.func kp) #[] capp)] 82)
  have hF3 : FrO ow w (w2.alloc (.cells #[(.iface 169 (.pointer (some r))), .func (.func kd) #[] capd, .bool waits, (.func (.func kp) #[] capp)] 82)) := (Fr.trans HF.out (noFr hf2)).alloc _
  refine (armed_as HA.out ⟨c, hD3⟩ (G.fr hF3 hge)).mono ?_
  rintro e w4 ⟨rfl, hf4⟩
  have hF4 : FrO ow w w4 := Fr.trans hF3 (noFr hf4)
  have hD4 : DiskIs w4 bd D.tick ow K c := hD3.keep hf4.size (fun b hb => hf4.block b (own_lt hD3 b hb) (fun h => h))
  have ho : w4.heap[w2.heap.size]? = some (.cells #[(.iface 169 (.pointer (some r))), .func (.func kd) #[] capd, .bool waits, (.func (.func kp) #[] capp)] 82 (0, 0)) := (hf4.block _ (by simp) (fun h => h)).trans (heap_alloc_new w2 _)
  have hne : w2.heap.size ≠ bd := fun e => by have := (hD2.lt _ _ hD2.me).2; omega
  have G4 := G.fr hF4 hge
  have o0 : w4.cell? ⟨w2.heap.size, 0, none⟩ = some (.iface 169 (.pointer (some r))) := cell_at ho 0
  have o1 : w4.cell? ⟨w2.heap.size, 1, none⟩ = some (.func (.func kd) #[] capd) := cell_at ho 1
  have o2 : w4.cell? ⟨w2.heap.size, 2, none⟩ = some (.bool waits) := cell_at ho 2
  have o3 : w4.cell? ⟨w2.heap.size, 3, none⟩ = some (.func (.func kp) #[] capp) := cell_at ho 3
  have v3 : w4.cell? ⟨5, 0, none⟩ = some (ptrE (eb .down)) := G4.var .down rfl
  have v2 : w4.cell? ⟨7, 0, none⟩ = some (ptrE (eb .io)) := G4.var .io rfl
  have hsz : w2.heap.size < w4.heap.size := (Array.getElem?_eq_some_iff.1 ho).1
  generalize w2.heap.size = q at ho o0 o1 o2 o3 hne hsz ⊢
  have HD4 := Lib.hid hD4
  have HF4 := Lib.hid hF4
  clear hF4 hD4 ho G4 hD3 hF3 hf4 hD2 hf2 hge G hT HF HP h8 h4 h5 f4 f5 hD hsz
  clear hne
  unfold erV
  have nf1 := neq_func
  have nf0 := neq_nilFunc
  go_wp2_with fail
  refine (is_nil _ _).mono ?_
  rintro e w' ⟨rfl, rfl⟩
  go_wp2_with fail
  refine (is_nil _ _).mono ?_
  rintro e w' ⟨rfl, rfl⟩
  go_wp2_with fail
  go_ret
  exact ⟨rfl, After.of rfl ⟨c, HD4.out⟩ HF4.out⟩
set_option maxRecDepth 100000 in
set_option maxHeartbeats 1000000 in
theorem run_down_dop {bd K : Nat} {eb : Er → Addr} {S : Er → Bool} {D : ADisk} {ow : Own} {w : World} {c : DCells} (hD : DiskIs w bd D ow K c) (G : Glob w K eb S) (hd : D.down = false)
    {k kd : FuncId} (hk : Enters k) {caps capd : Array Value} (hkd : Enters kd) {kp : FuncId} {capp : Array Value} {R : ADisk → Prop} (hdo : DoOk kd capd bd ow K w { D.tick with down := true } R)
    (hp : PlanOk k caps bd D.tick ow K w .nilIface (.func (.func kd) #[] capd) true (.func (.func kp) #[] capp))
    (ha : armedOf D.tick.since D.tick.cut D.tick.fails = (0, some .down)) :
    Calls Tryz.prog 43 #[.pointer (some ⟨bd, 0, none⟩), .func (.func k) #[] caps] w fun e w' => e = .returned (ptrE (eb .down)) ∧ After bd ow K w R w' := by
  have h8 : w.cell? ⟨bd, 8, none⟩ = some (.bool false) := (cell_at hD.cells 8).trans (by rw [← hd]; rfl)
  have h4 : w.cell? ⟨bd, 4, none⟩ = some (.int .i64 D.ops) := cell_at hD.cells 4
  have h5 : w.cell? ⟨bd, 5, none⟩ = some (.int .i64 D.since) := cell_at hD.cells 5
  have f4 := free_at hD.cells 4
  have f5 := free_at hD.cells 5
  have hT := Lib.hid hD.ticked
  have HP := Lib.hid hp
  have HD := Lib.hid hdo
  clear hdo
  have HA := Lib.hid ha
  clear hp ha hd
  go_enter Tryz.func43, Tryz.ntmps43
  go_wp2_with fail
  have hf1 : FrO ow w ((w.setCell ⟨bd, 4, none⟩ (.int .i64 (wrap64 (D.ops + 1)))).setCell ⟨bd, 5, none⟩ (.int .i64 (wrap64 (D.since + 1)))) := ((Fr.refl _ _).setCell (fun _ => Own.has_some hD.me) _).setCell (fun _ => Own.has_some hD.me) _
  have HF := Lib.hid hf1
  clear hf1
  generalize ((w.setCell ⟨bd, 4, none⟩ (.int .i64 (wrap64 (D.ops + 1)))).setCell ⟨bd, 5, none⟩ (.int .i64 (wrap64 (D.since + 1)))) = w1 at HF hT ⊢
  refine (HP.out w1 HF.out ⟨c, hT.out⟩).mono ?_
  rintro e w2 ⟨rfl, hf2⟩
  go_wp2_with fail
  have hge := own_ge hD
  have hD2 : DiskIs w2 bd D.tick ow K c := hT.out.keep hf2.size (fun b hb => hf2.block b (own_lt hT.out b hb) (fun h => h))
  have hD3 := hD2.allocd (.cells #[.nilIface, .func (.func kd) #[] capd, .bool true, (.func (.func kp) #[] capp)] 82)
  have hF3 : FrO ow w (w2.alloc (.cells #[.nilIface, .func (.func kd) #[] capd, .bool true, (.func (.func kp) #[] capp)] 82)) := (Fr.trans HF.out (noFr hf2)).alloc _
  refine (armed_as HA.out ⟨c, hD3⟩ (G.fr hF3 hge)).mono ?_
  rintro e w4 ⟨rfl, hf4⟩
  have hF4 : FrO ow w w4 := Fr.trans hF3 (noFr hf4)
  have hD4 : DiskIs w4 bd D.tick ow K c := hD3.keep hf4.size (fun b hb => hf4.block b (own_lt hD3 b hb) (fun h => h))
  have ho : w4.heap[w2.heap.size]? = some (.cells #[.nilIface, .func (.func kd) #[] capd, .bool true, (.func (.func kp) #[] capp)] 82 (0, 0)) := (hf4.block _ (by simp) (fun h => h)).trans (heap_alloc_new w2 _)
  have hne : w2.heap.size ≠ bd := fun e => by have := (hD2.lt _ _ hD2.me).2; omega
  have G4 := G.fr hF4 hge
  have o0 : w4.cell? ⟨w2.heap.size, 0, none⟩ = some .nilIface := cell_at ho 0
  have o1 : w4.cell? ⟨w2.heap.size, 1, none⟩ = some (.func (.func kd) #[] capd) := cell_at ho 1
  have o2 : w4.cell? ⟨w2.heap.size, 2, none⟩ = some (.bool true) := cell_at ho 2
  have o3 : w4.cell? ⟨w2.heap.size, 3, none⟩ = some (.func (.func kp) #[] capp) := cell_at ho 3
  have v3 : w4.cell? ⟨5, 0, none⟩ = some (ptrE (eb .down)) := G4.var .down rfl
  have v2 : w4.cell? ⟨7, 0, none⟩ = some (ptrE (eb .io)) := G4.var .io rfl
  have hsz : w2.heap.size < w4.heap.size := (Array.getElem?_eq_some_iff.1 ho).1
  have d8 : w4.cell? ⟨bd, 8, none⟩ = some (.bool D.down) := cell_at hD4.cells 8
  have e8 := free_at hD4.cells 8
  have hDD := Lib.hid hD4.downed
  have hFD := Lib.hid (Fr.setCell hF4 (a := ⟨bd, 8, none⟩) (fun _ => Own.has_some hD.me) (.bool true))
  generalize w2.heap.size = q at ho o0 o1 o2 o3 hne hsz ⊢
  have HD4 := Lib.hid hD4
  have HF4 := Lib.hid hF4
  clear hF4 hD4 ho G4 hD3 hF3 hf4 hD2 hf2 hge G hT HF HP h8 h4 h5 f4 f5 hD hsz
  unfold erV
  have nf1 := neq_func
  have nf0 := neq_nilFunc
  go_wp2_with fail
  refine (is_same _ _).mono ?_
  rintro e w' ⟨rfl, rfl⟩
  go_wp2_with fail
  refine (HD.out _ hFD.out ⟨c, hDD.out⟩).mono ?_
  rintro e w5 ⟨rfl, hA⟩
  go_wp2_with fail
  go_ret
  exact ⟨rfl, After.head hFD.out hA⟩
set_option maxRecDepth 100000 in
set_option maxHeartbeats 1000000 in
theorem run_down_skipp {bd K : Nat} {eb : Er → Addr} {S : Er → Bool} {D : ADisk} {ow : Own} {w : World} {c : DCells} (hD : DiskIs w bd D ow K c) (G : Glob w K eb S) (hd : D.down = false)
    {k kd : FuncId} (hk : Enters k) {caps capd : Array Value} {kp : FuncId} {capp : Array Value}
    (hp : PlanOk k caps bd D.tick ow K w .nilIface (.func (.func kd) #[] capd) false (.func (.func kp) #[] capp))
    (ha : armedOf D.tick.since D.tick.cut D.tick.fails = (0, some .down)) :
    Calls Tryz.prog 43 #[.pointer (some ⟨bd, 0, none⟩), .func (.func k) #[] caps] w fun e w' => e = .returned (ptrE (eb .down)) ∧ After bd ow K w (fun D' => D' = { D.tick with down := true }) w' := by
  have h8 : w.cell? ⟨bd, 8, none⟩ = some (.bool false) := (cell_at hD.cells 8).trans (by rw [← hd]; rfl)
  have h4 : w.cell? ⟨bd, 4, none⟩ = some (.int .i64 D.ops) := cell_at hD.cells 4
  have h5 : w.cell? ⟨bd, 5, none⟩ = some (.int .i64 D.since) := cell_at hD.cells 5
  have f4 := free_at hD.cells 4
  have f5 := free_at hD.cells 5
  have hT := Lib.hid hD.ticked
  have HP := Lib.hid hp
  have HA := Lib.hid ha
  clear hp ha hd
  go_enter Tryz.func43, Tryz.ntmps43
  go_wp2_with fail
  have hf1 : FrO ow w ((w.setCell ⟨bd, 4, none⟩ (.int .i64 (wrap64 (D.ops + 1)))).setCell ⟨bd, 5, none⟩ (.int .i64 (wrap64 (D.since + 1)))) := ((Fr.refl _ _).setCell (fun _ => Own.has_some hD.me) _).setCell (fun _ => Own.has_some hD.me) _
  have HF := Lib.hid hf1
  clear hf1
  generalize ((w.setCell ⟨bd, 4, none⟩ (.int .i64 (wrap64 (D.ops + 1)))).setCell ⟨bd, 5, none⟩ (.int .i64 (wrap64 (D.since + 1)))) = w1 at HF hT ⊢
  refine (HP.out w1 HF.out ⟨c, hT.out⟩).mono ?_
  rintro e w2 ⟨rfl, hf2⟩
  go_wp2_with fail
  have hge := own_ge hD
  have hD2 : DiskIs w2 bd D.tick ow K c := hT.out.keep hf2.size (fun b hb => hf2.block b (own_lt hT.out b hb) (fun h => h))
  have hD3 := hD2.allocd (.cells #[.nilIface, .func (.func kd) #[] capd, .bool false, (.func (.func kp) #[] capp)] 82)
  have hF3 : FrO ow w (w2.alloc (.cells #[.nilIface, .func (.func kd) #[] capd, .bool false, (.func (.func kp) #[] capp)] 82)) := (Fr.trans HF.out (noFr hf2)).alloc _
  refine (armed_as HA.out ⟨c, hD3⟩ (G.fr hF3 hge)).mono ?_
  rintro e w4 ⟨rfl, hf4⟩
  have hF4 : FrO ow w w4 := Fr.trans hF3 (noFr hf4)
  have hD4 : DiskIs w4 bd D.tick ow K c := hD3.keep hf4.size (fun b hb => hf4.block b (own_lt hD3 b hb) (fun h => h))
  have ho : w4.heap[w2.heap.size]? = some (.cells #[.nilIface, .func (.func kd) #[] capd, .bool false, (.func (.func kp) #[] capp)] 82 (0, 0)) := (hf4.block _ (by simp) (fun h => h)).trans (heap_alloc_new w2 _)
  have hne : w2.heap.size ≠ bd := fun e => by have := (hD2.lt _ _ hD2.me).2; omega
  have G4 := G.fr hF4 hge
  have o0 : w4.cell? ⟨w2.heap.size, 0, none⟩ = some .nilIface := cell_at ho 0
  have o1 : w4.cell? ⟨w2.heap.size, 1, none⟩ = some (.func (.func kd) #[] capd) := cell_at ho 1
  have o2 : w4.cell? ⟨w2.heap.size, 2, none⟩ = some (.bool false) := cell_at ho 2
  have o3 : w4.cell? ⟨w2.heap.size, 3, none⟩ = some (.func (.func kp) #[] capp) := cell_at ho 3
  have v3 : w4.cell? ⟨5, 0, none⟩ = some (ptrE (eb .down)) := G4.var .down rfl
  have v2 : w4.cell? ⟨7, 0, none⟩ = some (ptrE (eb .io)) := G4.var .io rfl
  have hsz : w2.heap.size < w4.heap.size := (Array.getElem?_eq_some_iff.1 ho).1
  have d8 : w4.cell? ⟨bd, 8, none⟩ = some (.bool D.down) := cell_at hD4.cells 8
  have e8 := free_at hD4.cells 8
  have hDD := Lib.hid hD4.downed
  have hFD := Lib.hid (Fr.setCell hF4 (a := ⟨bd, 8, none⟩) (fun _ => Own.has_some hD.me) (.bool true))
  generalize w2.heap.size = q at ho o0 o1 o2 o3 hne hsz ⊢
  have HD4 := Lib.hid hD4
  have HF4 := Lib.hid hF4
  clear hF4 hD4 ho G4 hD3 hF3 hf4 hD2 hf2 hge G hT HF HP h8 h4 h5 f4 f5 hD hsz
  unfold erV
  have nf1 := neq_func
  have nf0 := neq_nilFunc
  go_wp2_with fail
  refine (is_same _ _).mono ?_
  rintro e w' ⟨rfl, rfl⟩
  go_wp2_with fail
  go_ret
  exact ⟨rfl, After.of rfl ⟨c, hDD.out⟩ hFD.out⟩
set_option maxRecDepth 100000 in
set_option maxHeartbeats 1000000 in
theorem run_down_refp {bd K : Nat} {eb : Er → Addr} {S : Er → Bool} {D : ADisk} {ow : Own} {w : World} {c : DCells} (hD : DiskIs w bd D ow K c) (G : Glob w K eb S) (hd : D.down = false)
    {k kd : FuncId} (hk : Enters k) {caps capd : Array Value} {kp : FuncId} {capp : Array Value} {r : Addr} {waits : Bool}
    (hp : PlanOk k caps bd D.tick ow K w (.iface 169 (.pointer (some r))) (.func (.func kd) #[] capd) waits (.func (.func kp) #[] capp))
    (ha : armedOf D.tick.since D.tick.cut D.tick.fails = (0, some .down)) :
    Calls Tryz.prog 43 #[.pointer (some ⟨bd, 0, none⟩), .func (.func k) #[] caps] w fun e w' => e = .returned (ptrE (eb .down)) ∧ After bd ow K w (fun D' => D' = { D.tick with down := true }) w' := by
  have h8 : w.cell? ⟨bd, 8, none⟩ = some (.bool false) := (cell_at hD.cells 8).trans (by rw [← hd]; rfl)
  have h4 : w.cell? ⟨bd, 4, none⟩ = some (.int .i64 D.ops) := cell_at hD.cells 4
  have h5 : w.cell? ⟨bd, 5, none⟩ = some (.int .i64 D.since) := cell_at hD.cells 5
  have f4 := free_at hD.cells 4
  have f5 := free_at hD.cells 5
  have hT := Lib.hid hD.ticked
  have HP := Lib.hid hp
  have HA := Lib.hid ha
  clear hp ha hd
  go_enter Tryz.func43, Tryz.ntmps43
  go_wp2_with fail
  have hf1 : FrO ow w ((w.setCell ⟨bd, 4, none⟩ (.int .i64 (wrap64 (D.ops + 1)))).setCell ⟨bd, 5, none⟩ (.int .i64 (wrap64 (D.since + 1)))) := ((Fr.refl _ _).setCell (fun _ => Own.has_some hD.me) _).setCell (fun _ => Own.has_some hD.me) _
  have HF := Lib.hid hf1
  clear hf1
  generalize ((w.setCell ⟨bd, 4, none⟩ (.int .i64 (wrap64 (D.ops + 1)))).setCell ⟨bd, 5, none⟩ (.int .i64 (wrap64 (D.since + 1)))) = w1 at HF hT ⊢
  refine (HP.out w1 HF.out ⟨c, hT.out⟩).mono ?_
  rintro e w2 ⟨rfl, hf2⟩
  go_wp2_with fail
  have hge := own_ge hD
  have hD2 : DiskIs w2 bd D.tick ow K c := hT.out.keep hf2.size (fun b hb => hf2.block b (own_lt hT.out b hb) (fun h => h))
  have hD3 := hD2.allocd (.cells #[(.iface 169 (.pointer (some r))), .func (.func kd) #[] capd, .bool waits, (.func (.func kp) #[] capp)] 82)
  have hF3 : FrO ow w (w2.alloc (.cells #[(.iface 169 (.pointer (some r))), .func (.func kd) #[] capd, .bool waits, (.func (.func kp) #[] capp)] 82)) := (Fr.trans HF.out (noFr hf2)).alloc _
  refine (armed_as HA.out ⟨c, hD3⟩ (G.fr hF3 hge)).mono ?_
  rintro e w4 ⟨rfl, hf4⟩
  have hF4 : FrO ow w w4 := Fr.trans hF3 (noFr hf4)
  have hD4 : DiskIs w4 bd D.tick ow K c := hD3.keep hf4.size (fun b hb => hf4.block b (own_lt hD3 b hb) (fun h => h))
  have ho : w4.heap[w2.heap.size]? = some (.cells #[(.iface 169 (.pointer (some r))), .func (.func kd) #[] capd, .bool waits, (.func (.func kp) #[] capp)] 82 (0, 0)) := (hf4.block _ (by simp) (fun h => h)).trans (heap_alloc_new w2 _)
  have hne : w2.heap.size ≠ bd := fun e => by have := (hD2.lt _ _ hD2.me).2; omega
  have G4 := G.fr hF4 hge
  have o0 : w4.cell? ⟨w2.heap.size, 0, none⟩ = some (.iface 169 (.pointer (some r))) := cell_at ho 0
  have o1 : w4.cell? ⟨w2.heap.size, 1, none⟩ = some (.func (.func kd) #[] capd) := cell_at ho 1
  have o2 : w4.cell? ⟨w2.heap.size, 2, none⟩ = some (.bool waits) := cell_at ho 2
  have o3 : w4.cell? ⟨w2.heap.size, 3, none⟩ = some (.func (.func kp) #[] capp) := cell_at ho 3
  have v3 : w4.cell? ⟨5, 0, none⟩ = some (ptrE (eb .down)) := G4.var .down rfl
  have v2 : w4.cell? ⟨7, 0, none⟩ = some (ptrE (eb .io)) := G4.var .io rfl
  have hsz : w2.heap.size < w4.heap.size := (Array.getElem?_eq_some_iff.1 ho).1
  have d8 : w4.cell? ⟨bd, 8, none⟩ = some (.bool D.down) := cell_at hD4.cells 8
  have e8 := free_at hD4.cells 8
  have hDD := Lib.hid hD4.downed
  have hFD := Lib.hid (Fr.setCell hF4 (a := ⟨bd, 8, none⟩) (fun _ => Own.has_some hD.me) (.bool true))
  generalize w2.heap.size = q at ho o0 o1 o2 o3 hne hsz ⊢
  have HD4 := Lib.hid hD4
  have HF4 := Lib.hid hF4
  clear hF4 hD4 ho G4 hD3 hF3 hf4 hD2 hf2 hge G hT HF HP h8 h4 h5 f4 f5 hD hsz
  unfold erV
  have nf1 := neq_func
  have nf0 := neq_nilFunc
  go_wp2_with fail
  refine (is_same _ _).mono ?_
  rintro e w' ⟨rfl, rfl⟩
  go_wp2_with fail
  go_ret
  exact ⟨rfl, After.of rfl ⟨c, hDD.out⟩ hFD.out⟩
set_option maxRecDepth 100000 in
set_option maxHeartbeats 1000000 in
theorem run_io_refp {bd K : Nat} {eb : Er → Addr} {S : Er → Bool} {D : ADisk} {ow : Own} {w : World} {c : DCells} (hD : DiskIs w bd D ow K c) (G : Glob w K eb S) (hd : D.down = false)
    {k kd : FuncId} (hk : Enters k) {caps capd : Array Value} {kp : FuncId} {capp : Array Value} {r : Addr} {waits : Bool} {x : Int}
    (hp : PlanOk k caps bd D.tick ow K w (.iface 169 (.pointer (some r))) (.func (.func kd) #[] capd) waits (.func (.func kp) #[] capp))
    (ha : armedOf D.tick.since D.tick.cut D.tick.fails = (x, some .io)) :
    Calls Tryz.prog 43 #[.pointer (some ⟨bd, 0, none⟩), .func (.func k) #[] caps] w fun e w' => e = .returned (ptrE (eb .io)) ∧ After bd ow K w (fun D' => D' = D.tick) w' := by
  have h8 : w.cell? ⟨bd, 8, none⟩ = some (.bool false) := (cell_at hD.cells 8).trans (by rw [← hd]; rfl)
  have h4 : w.cell? ⟨bd, 4, none⟩ = some (.int .i64 D.ops) := cell_at hD.cells 4
  have h5 : w.cell? ⟨bd, 5, none⟩ = some (.int .i64 D.since) := cell_at hD.cells 5
  have f4 := free_at hD.cells 4
  have f5 := free_at hD.cells 5
  have hT := Lib.hid hD.ticked
  have HP := Lib.hid hp
  have HA := Lib.hid ha
  clear hp ha hd
  go_enter Tryz.func43, Tryz.ntmps43
  go_wp2_with fail
  have hf1 : FrO ow w ((w.setCell ⟨bd, 4, none⟩ (.int .i64 (wrap64 (D.ops + 1)))).setCell ⟨bd, 5, none⟩ (.int .i64 (wrap64 (D.since + 1)))) := ((Fr.refl _ _).setCell (fun _ => Own.has_some hD.me) _).setCell (fun _ => Own.has_some hD.me) _
  have HF := Lib.hid hf1
  clear hf1
  generalize ((w.setCell ⟨bd, 4, none⟩ (.int .i64 (wrap64 (D.ops + 1)))).setCell ⟨bd, 5, none⟩ (.int .i64 (wrap64 (D.since + 1)))) = w1 at HF hT ⊢
  refine (HP.out w1 HF.out ⟨c, hT.out⟩).mono ?_
  rintro e w2 ⟨rfl, hf2⟩
  go_wp2_with fail
  have hge := own_ge hD
  have hD2 : DiskIs w2 bd D.tick ow K c := hT.out.keep hf2.size (fun b hb => hf2.block b (own_lt hT.out b hb) (fun h => h))
  have hD3 := hD2.allocd (.cells #[(.iface 169 (.pointer (some r))), .func (.func kd) #[] capd, .bool waits, (.func (.func kp) #[] capp)] 82)
  have hF3 : FrO ow w (w2.alloc (.cells #[(.iface 169 (.pointer (some r))), .func (.func kd) #[] capd, .bool waits, (.func (.func kp) #[] capp)] 82)) := (Fr.trans HF.out (noFr hf2)).alloc _
  refine (armed_as HA.out ⟨c, hD3⟩ (G.fr hF3 hge)).mono ?_
  rintro e w4 ⟨rfl, hf4⟩
  have hF4 : FrO ow w w4 := Fr.trans hF3 (noFr hf4)
  have hD4 : DiskIs w4 bd D.tick ow K c := hD3.keep hf4.size (fun b hb => hf4.block b (own_lt hD3 b hb) (fun h => h))
  have ho : w4.heap[w2.heap.size]? = some (.cells #[(.iface 169 (.pointer (some r))), .func (.func kd) #[] capd, .bool waits, (.func (.func kp) #[] capp)] 82 (0, 0)) := (hf4.block _ (by simp) (fun h => h)).trans (heap_alloc_new w2 _)
  have hne : w2.heap.size ≠ bd := fun e => by have := (hD2.lt _ _ hD2.me).2; omega
  have G4 := G.fr hF4 hge
  have o0 : w4.cell? ⟨w2.heap.size, 0, none⟩ = some (.iface 169 (.pointer (some r))) := cell_at ho 0
  have o1 : w4.cell? ⟨w2.heap.size, 1, none⟩ = some (.func (.func kd) #[] capd) := cell_at ho 1
  have o2 : w4.cell? ⟨w2.heap.size, 2, none⟩ = some (.bool waits) := cell_at ho 2
  have o3 : w4.cell? ⟨w2.heap.size, 3, none⟩ = some (.func (.func kp) #[] capp) := cell_at ho 3
  have v3 : w4.cell? ⟨5, 0, none⟩ = some (ptrE (eb .down)) := G4.var .down rfl
  have v2 : w4.cell? ⟨7, 0, none⟩ = some (ptrE (eb .io)) := G4.var .io rfl
  have hsz : w2.heap.size < w4.heap.size := (Array.getElem?_eq_some_iff.1 ho).1
  obtain ⟨ca, ta, qa⟩ := G4.blk .io (G4.core _ rfl)
  obtain ⟨cb, tb, qb⟩ := G4.blk .down (G4.core _ rfl)
  have hio := Lib.hid (is_other (eb .io) (eb .down) ca cb ta tb w4 (fun e => by have := G4.inj _ _ (G4.core _ rfl) (G4.core _ rfl) e; cases this) qa qb)
  clear qa qb
  generalize w2.heap.size = q at ho o0 o1 o2 o3 hne hsz ⊢
  have HD4 := Lib.hid hD4
  have HF4 := Lib.hid hF4
  clear hF4 hD4 ho G4 hD3 hF3 hf4 hD2 hf2 hge G hT HF HP h8 h4 h5 f4 f5 hD hsz
  clear hne
  unfold erV
  have nf1 := neq_func
  have nf0 := neq_nilFunc
  go_wp2_with fail
  refine (hio.out).mono ?_
  rintro e w' ⟨rfl, rfl⟩
  go_wp2_with fail
  refine (is_same _ _).mono ?_
  rintro e w' ⟨rfl, rfl⟩
  go_wp2_with fail
  go_ret
  exact ⟨rfl, After.of rfl ⟨c, HD4.out⟩ HF4.out⟩
set_option maxRecDepth 100000 in
set_option maxHeartbeats 1000000 in
theorem run_io_skip {bd K : Nat} {eb : Er → Addr} {S : Er → Bool} {D : ADisk} {ow : Own} {w : World} {c : DCells} (hD : DiskIs w bd D ow K c) (G : Glob w K eb S) (hd : D.down = false)
    {k kd : FuncId} (hk : Enters k) {caps capd : Array Value} {waits : Bool} {x : Int}
    (hp : PlanOk k caps bd D.tick ow K w .nilIface (.func (.func kd) #[] capd) waits .nilFunc)
    (ha : armedOf D.tick.since D.tick.cut D.tick.fails = (x, some .io)) :
    Calls Tryz.prog 43 #[.pointer (some ⟨bd, 0, none⟩), .func (.func k) #[] caps] w fun e w' => e = .returned (ptrE (eb .io)) ∧ After bd ow K w (fun D' => D' = D.tick) w' := by
  have h8 : w.cell? ⟨bd, 8, none⟩ = some (.bool false) := (cell_at hD.cells 8).trans (by rw [← hd]; rfl)
  have h4 : w.cell? ⟨bd, 4, none⟩ = some (.int .i64 D.ops) := cell_at hD.cells 4
  have h5 : w.cell? ⟨bd, 5, none⟩ = some (.int .i64 D.since) := cell_at hD.cells 5
  have f4 := free_at hD.cells 4
  have f5 := free_at hD.cells 5
  have hT := Lib.hid hD.ticked
  have HP := Lib.hid hp
  have HA := Lib.hid ha
  clear hp ha hd
  go_enter Tryz.func43, Tryz.ntmps43
  go_wp2_with fail
  have hf1 : FrO ow w ((w.setCell ⟨bd, 4, none⟩ (.int .i64 (wrap64 (D.ops + 1)))).setCell ⟨bd, 5, none⟩ (.int .i64 (wrap64 (D.since + 1)))) := ((Fr.refl _ _).setCell (fun _ => Own.has_some hD.me) _).setCell (fun _ => Own.has_some hD.me) _
  have HF := Lib.hid hf1
  clear hf1
  generalize ((w.setCell ⟨bd, 4, none⟩ (.int .i64 (wrap64 (D.ops + 1)))).setCell ⟨bd, 5, none⟩ (.int .i64 (wrap64 (D.since + 1)))) = w1 at HF hT ⊢
  refine (HP.out w1 HF.out ⟨c, hT.out⟩).mono ?_
  rintro e w2 ⟨rfl, hf2⟩
  go_wp2_with fail
  have hge := own_ge hD
  have hD2 : DiskIs w2 bd D.tick ow K c := hT.out.keep hf2.size (fun b hb => hf2.block b (own_lt hT.out b hb) (fun h => h))
  have hD3 := hD2.allocd (.cells #[.nilIface, .func (.func kd) #[] capd, .bool waits, .nilFunc] 82)
  have hF3 : FrO ow w (w2.alloc (.cells #[.nilIface, .func (.func kd) #[] capd, .bool waits, .nilFunc] 82)) := (Fr.trans HF.out (noFr hf2)).alloc _
  refine (armed_as HA.out ⟨c, hD3⟩ (G.fr hF3 hge)).mono ?_
  rintro e w4 ⟨rfl, hf4⟩
  have hF4 : FrO ow w w4 := Fr.trans hF3 (noFr hf4)
  have hD4 : DiskIs w4 bd D.tick ow K c := hD3.keep hf4.size (fun b hb => hf4.block b (own_lt hD3 b hb) (fun h => h))
  have ho : w4.heap[w2.heap.size]? = some (.cells #[.nilIface, .func (.func kd) #[] capd, .bool waits, .nilFunc] 82 (0, 0)) := (hf4.block _ (by simp) (fun h => h)).trans (heap_alloc_new w2 _)
  have hne : w2.heap.size ≠ bd := fun e => by have := (hD2.lt _ _ hD2.me).2; omega
  have G4 := G.fr hF4 hge
  have o0 : w4.cell? ⟨w2.heap.size, 0, none⟩ = some .nilIface := cell_at ho 0
  have o1 : w4.cell? ⟨w2.heap.size, 1, none⟩ = some (.func (.func kd) #[] capd) := cell_at ho 1
  have o2 : w4.cell? ⟨w2.heap.size, 2, none⟩ = some (.bool waits) := cell_at ho 2
  have o3 : w4.cell? ⟨w2.heap.size, 3, none⟩ = some .nilFunc := cell_at ho 3
  have v3 : w4.cell? ⟨5, 0, none⟩ = some (ptrE (eb .down)) := G4.var .down rfl
  have v2 : w4.cell? ⟨7, 0, none⟩ = some (ptrE (eb .io)) := G4.var .io rfl
  have hsz : w2.heap.size < w4.heap.size := (Array.getElem?_eq_some_iff.1 ho).1
  obtain ⟨ca, ta, qa⟩ := G4.blk .io (G4.core _ rfl)
  obtain ⟨cb, tb, qb⟩ := G4.blk .down (G4.core _ rfl)
  have hio := Lib.hid (is_other (eb .io) (eb .down) ca cb ta tb w4 (fun e => by have := G4.inj _ _ (G4.core _ rfl) (G4.core _ rfl) e; cases this) qa qb)
  clear qa qb
  generalize w2.heap.size = q at ho o0 o1 o2 o3 hne hsz ⊢
  have HD4 := Lib.hid hD4
  have HF4 := Lib.hid hF4
  clear hF4 hD4 ho G4 hD3 hF3 hf4 hD2 hf2 hge G hT HF HP h8 h4 h5 f4 f5 hD hsz
  clear hne
  unfold erV
  have nf1 := neq_func
  have nf0 := neq_nilFunc
  go_wp2_with fail
  refine (hio.out).mono ?_
  rintro e w' ⟨rfl, rfl⟩
  go_wp2_with fail
  refine (is_same _ _).mono ?_
  rintro e w' ⟨rfl, rfl⟩
  go_wp2_with fail
  go_ret
  exact ⟨rfl, After.of rfl ⟨c, HD4.out⟩ HF4.out⟩
set_option maxRecDepth 100000 in
set_option maxHeartbeats 1000000 in
theorem run_io_part {bd K : Nat} {eb : Er → Addr} {S : Er → Bool} {D : ADisk} {ow : Own} {w : World} {c : DCells} (hD : DiskIs w bd D ow K c) (G : Glob w K eb S) (hd : D.down = false)
    {k kd : FuncId} (hk : Enters k) {caps capd : Array Value} {kp : FuncId} {capp : Array Value} (hkp : Enters kp) {waits : Bool} {R : ADisk → Prop} {x : Int} (hdo : DoOk kp (#[.int .i64 x] ++ capp) bd ow K w D.tick R)
    (hp : PlanOk k caps bd D.tick ow K w .nilIface (.func (.func kd) #[] capd) waits (.func (.func kp) #[] capp))
    (ha : armedOf D.tick.since D.tick.cut D.tick.fails = (x, some .io)) :
    Calls Tryz.prog 43 #[.pointer (some ⟨bd, 0, none⟩), .func (.func k) #[] caps] w fun e w' => e = .returned (ptrE (eb .io)) ∧ After bd ow K w R w' := by
  have h8 : w.cell? ⟨bd, 8, none⟩ = some (.bool false) := (cell_at hD.cells 8).trans (by rw [← hd]; rfl)
  have h4 : w.cell? ⟨bd, 4, none⟩ = some (.int .i64 D.ops) := cell_at hD.cells 4
  have h5 : w.cell? ⟨bd, 5, none⟩ = some (.int .i64 D.since) := cell_at hD.cells 5
  have f4 := free_at hD.cells 4
  have f5 := free_at hD.cells 5
  have hT := Lib.hid hD.ticked
  have HP := Lib.hid hp
  have HD := Lib.hid hdo
  clear hdo
  have HA := Lib.hid ha
  clear hp ha hd
  go_enter Tryz.func43, Tryz.ntmps43
  go_wp2_with fail
  have hf1 : FrO ow w ((w.setCell ⟨bd, 4, none⟩ (.int .i64 (wrap64 (D.ops + 1)))).setCell ⟨bd, 5, none⟩ (.int .i64 (wrap64 (D.since + 1)))) := ((Fr.refl _ _).setCell (fun _ => Own.has_some hD.me) _).setCell (fun _ => Own.has_some hD.me) _
  have HF := Lib.hid hf1
  clear hf1
  generalize ((w.setCell ⟨bd, 4, none⟩ (.int .i64 (wrap64 (D.ops + 1)))).setCell ⟨bd, 5, none⟩ (.int .i64 (wrap64 (D.since + 1)))) = w1 at HF hT ⊢
  refine (HP.out w1 HF.out ⟨c, hT.out⟩).mono ?_
  rintro e w2 ⟨rfl, hf2⟩
  go_wp2_with fail
  have hge := own_ge hD
  have hD2 : DiskIs w2 bd D.tick ow K c := hT.out.keep hf2.size (fun b hb => hf2.block b (own_lt hT.out b hb) (fun h => h))
  have hD3 := hD2.allocd (.cells #[.nilIface, .func (.func kd) #[] capd, .bool waits, (.func (.func kp) #[] capp)] 82)
  have hF3 : FrO ow w (w2.alloc (.cells #[.nilIface, .func (.func kd) #[] capd, .bool waits, (.func (.func kp) #[] capp)] 82)) := (Fr.trans HF.out (noFr hf2)).alloc _
  refine (armed_as HA.out ⟨c, hD3⟩ (G.fr hF3 hge)).mono ?_
  rintro e w4 ⟨rfl, hf4⟩
  have hF4 : FrO ow w w4 := Fr.trans hF3 (noFr hf4)
  have hD4 : DiskIs w4 bd D.tick ow K c := hD3.keep hf4.size (fun b hb => hf4.block b (own_lt hD3 b hb) (fun h => h))
  have ho : w4.heap[w2.heap.size]? = some (.cells #[.nilIface, .func (.func kd) #[] capd, .bool waits, (.func (.func kp) #[] capp)] 82 (0, 0)) := (hf4.block _ (by simp) (fun h => h)).trans (heap_alloc_new w2 _)
  have hne : w2.heap.size ≠ bd := fun e => by have := (hD2.lt _ _ hD2.me).2; omega
  have G4 := G.fr hF4 hge
  have o0 : w4.cell? ⟨w2.heap.size, 0, none⟩ = some .nilIface := cell_at ho 0
  have o1 : w4.cell? ⟨w2.heap.size, 1, none⟩ = some (.func (.func kd) #[] capd) := cell_at ho 1
  have o2 : w4.cell? ⟨w2.heap.size, 2, none⟩ = some (.bool waits) := cell_at ho 2
  have o3 : w4.cell? ⟨w2.heap.size, 3, none⟩ = some (.func (.func kp) #[] capp) := cell_at ho 3
  have v3 : w4.cell? ⟨5, 0, none⟩ = some (ptrE (eb .down)) := G4.var .down rfl
  have v2 : w4.cell? ⟨7, 0, none⟩ = some (ptrE (eb .io)) := G4.var .io rfl
  have hsz : w2.heap.size < w4.heap.size := (Array.getElem?_eq_some_iff.1 ho).1
  obtain ⟨ca, ta, qa⟩ := G4.blk .io (G4.core _ rfl)
  obtain ⟨cb, tb, qb⟩ := G4.blk .down (G4.core _ rfl)
  have hio := Lib.hid (is_other (eb .io) (eb .down) ca cb ta tb w4 (fun e => by have := G4.inj _ _ (G4.core _ rfl) (G4.core _ rfl) e; cases this) qa qb)
  clear qa qb
  generalize w2.heap.size = q at ho o0 o1 o2 o3 hne hsz ⊢
  have HD4 := Lib.hid hD4
  have HF4 := Lib.hid hF4
  clear hF4 hD4 ho G4 hD3 hF3 hf4 hD2 hf2 hge G hT HF HP h8 h4 h5 f4 f5 hD hsz
  clear hne
  unfold erV
  have nf1 := neq_func
  have nf0 := neq_nilFunc
  go_wp2_with fail
  refine (hio.out).mono ?_
  rintro e w' ⟨rfl, rfl⟩
  go_wp2_with fail
  refine (is_same _ _).mono ?_
  rintro e w' ⟨rfl, rfl⟩
  go_wp2_with fail
  refine (HD.out _ HF4.out ⟨c, HD4.out⟩).mono ?_
  rintro e w5 ⟨rfl, hA⟩
  go_wp2_with fail
  go_ret
  exact ⟨rfl, After.head HF4.out hA⟩
end Go.Proofs.YtabfcciejhbajaaGreatDoor

namespace Go.Proofs.YtabfcciejhbajaaGreatDoor
open Go Go.RowKit

def partV : Option (FuncId × Array Value) → Value
  | none => .nilFunc
  | some p => .func (.func p.1) #[] p.2
/-- what is armed for the next operation -/
def ADisk.arm (D : ADisk) : Int × Option Er := armedOf D.tick.since D.tick.cut D.tick.fails
def ADisk.off (D : ADisk) : ADisk := { D with down := true }
/-- what run answers, the power on -/
def runE (D : ADisk) (ref : Option Er) : Option Er := match D.arm.2 with
  | some x => some x
  | none => ref
/-- what the disk is behind it -/
def RunR (D : ADisk) (ref : Option Er) (waits : Bool) (part : Bool) (f : ADisk → ADisk → Prop) (g : Int → ADisk → ADisk → Prop) (D' : ADisk) : Prop :=
  match D.arm with
  | (_, some .down) => if ref = none ∧ waits = true then f D.tick.off D' else D' = D.tick.off
  | (x, some _) => if ref = none ∧ part = true then g x D.tick D' else D' = D.tick
  | (_, none) => if ref = none then f D.tick D' else D' = D.tick
theorem After.mono {bd : Nat} {ow : Own} {K : Nat} {w w' : World} {R R' : ADisk → Prop} (h : After bd ow K w R w') (hr : ∀ D, R D → R' D) : After bd ow K w R' w' := by
  obtain ⟨D, o, h1, h2⟩ := h; exact ⟨D, o, hr D h1, h2⟩
theorem armedOf_cases (s c : Int) (fs : List (Int × Int)) : armedOf s c fs = (0, some .down) ∨ (∃ x, armedOf s c fs = (x, some .io)) ∨ armedOf s c fs = (0, none) := by
  unfold armedOf
  split
  · exact .inl rfl
  · split
    · exact .inr (.inl ⟨_, rfl⟩)
    · exact .inr (.inr rfl)
theorem run_all {bd K : Nat} {eb : Er → Addr} {S : Er → Bool} {D : ADisk} {ow : Own} {w : World} (hD : DiskAt w bd D ow K) (G : Glob w K eb S) (hd : D.down = false)
    {k kd : FuncId} (hk : Enters k) (hkd : Enters kd) {caps capd : Array Value} (ref : Option Er) (waits : Bool) (part : Option (FuncId × Array Value)) (hkp : ∀ p, part = some p → Enters p.1)
    (f : ADisk → ADisk → Prop) (g : Int → ADisk → ADisk → Prop)
    (hp : PlanOk k caps bd D.tick ow K w (erV eb ref) (.func (.func kd) #[] capd) waits (partV part))
    (hdo : ref = none → DoOk kd capd bd ow K w D.tick (f D.tick)) (hdo' : ref = none → waits = true → DoOk kd capd bd ow K w D.tick.off (f D.tick.off))
    (hpart : ref = none → ∀ p, part = some p → ∀ x, DoOk p.1 (#[.int .i64 x] ++ p.2) bd ow K w D.tick (g x D.tick)) :
    Calls Tryz.prog 43 #[.pointer (some ⟨bd, 0, none⟩), .func (.func k) #[] caps] w fun e w' => e = .returned (erV eb (runE D ref)) ∧ After bd ow K w (RunR D ref waits part.isSome f g) w' := by
  obtain ⟨c, hc⟩ := hD
  rcases armedOf_cases D.tick.since D.tick.cut D.tick.fails with ha | ⟨x, ha⟩ | ha
  · have hE : runE D ref = some .down := by unfold runE ADisk.arm; rw [ha]
    have hR : ∀ D', RunR D ref waits part.isSome f g D' ↔ (if ref = none ∧ waits = true then f D.tick.off D' else D' = D.tick.off) := fun D' => by unfold RunR ADisk.arm; rw [ha]
    rw [hE]
    cases ref with
    | none =>
      cases waits with
      | true =>
        cases part with
        | none => exact (run_down_do hc G hd hk hkd (hdo' rfl rfl) hp ha).mono (fun e w' h => ⟨h.1, h.2.mono (fun D' h => (hR D').2 (by simpa using h))⟩)
        | some p => exact (run_down_dop hc G hd hk hkd (hdo' rfl rfl) hp ha).mono (fun e w' h => ⟨h.1, h.2.mono (fun D' h => (hR D').2 (by simpa using h))⟩)
      | false =>
        cases part with
        | none => exact (run_down_skip hc G hd hk hp ha).mono (fun e w' h => ⟨h.1, h.2.mono (fun D' h => (hR D').2 (by simpa [ADisk.off] using h))⟩)
        | some p => exact (run_down_skipp hc G hd hk hp ha).mono (fun e w' h => ⟨h.1, h.2.mono (fun D' h => (hR D').2 (by simpa [ADisk.off] using h))⟩)
    | some r =>
      cases part with
      | none => exact (run_down_ref (r := eb r) hc G hd hk hp ha).mono (fun e w' h => ⟨h.1, h.2.mono (fun D' h => (hR D').2 (by simpa [ADisk.off] using h))⟩)
      | some p => exact (run_down_refp (r := eb r) hc G hd hk hp ha).mono (fun e w' h => ⟨h.1, h.2.mono (fun D' h => (hR D').2 (by simpa [ADisk.off] using h))⟩)
  · have hE : runE D ref = some .io := by unfold runE ADisk.arm; rw [ha]
    have hR : ∀ D', RunR D ref waits part.isSome f g D' ↔ (if ref = none ∧ part.isSome = true then g x D.tick D' else D' = D.tick) := fun D' => by unfold RunR ADisk.arm; rw [ha]
    rw [hE]
    cases ref with
    | none =>
      cases part with
      | none => exact (run_io_skip hc G hd hk hp ha).mono (fun e w' h => ⟨h.1, h.2.mono (fun D' h => (hR D').2 (by simpa using h))⟩)
      | some p => exact (run_io_part hc G hd hk (hkp p rfl) (hpart rfl p rfl x) hp ha).mono (fun e w' h => ⟨h.1, h.2.mono (fun D' h => (hR D').2 (by simpa using h))⟩)
    | some r =>
      cases part with
      | none => exact (run_io_ref (r := eb r) hc G hd hk hp ha).mono (fun e w' h => ⟨h.1, h.2.mono (fun D' h => (hR D').2 (by simpa using h))⟩)
      | some p => exact (run_io_refp (r := eb r) hc G hd hk hp ha).mono (fun e w' h => ⟨h.1, h.2.mono (fun D' h => (hR D').2 (by simpa using h))⟩)
  · have hE : runE D ref = ref := by unfold runE ADisk.arm; rw [ha]
    have hR : ∀ D', RunR D ref waits part.isSome f g D' ↔ (if ref = none then f D.tick D' else D' = D.tick) := fun D' => by unfold RunR ADisk.arm; rw [ha]
    rw [hE]
    cases ref with
    | none =>
      cases part with
      | none => exact (run_ok_do hc G hd hk hkd (hdo rfl) hp ha).mono (fun e w' h => ⟨h.1, h.2.mono (fun D' h => (hR D').2 (by simpa using h))⟩)
      | some p => exact (run_ok_dop hc G hd hk hkd (hdo rfl) hp ha).mono (fun e w' h => ⟨h.1, h.2.mono (fun D' h => (hR D').2 (by simpa using h))⟩)
    | some r =>
      cases part with
      | none => exact (run_ok_ref (r := eb r) hc G hd hk hp ha).mono (fun e w' h => ⟨h.1, h.2.mono (fun D' h => (hR D').2 (by simpa using h))⟩)
      | some p => exact (run_ok_refp (r := eb r) hc G hd hk hp ha).mono (fun e w' h => ⟨h.1, h.2.mono (fun D' h => (hR D').2 (by simpa using h))⟩)
set_option maxRecDepth 100000 in
theorem run_off {bd K : Nat} {eb : Er → Addr} {S : Er → Bool} {D : ADisk} {ow : Own} {w : World} (hD : DiskAt w bd D ow K) (G : Glob w K eb S) (hd : D.down = true) {k : FuncId} {caps : Array Value} :
    Calls Tryz.prog 43 #[.pointer (some ⟨bd, 0, none⟩), .func (.func k) #[] caps] w fun e w' => e = .returned (erV eb (some .down)) ∧ w = w' := by
  obtain ⟨c, hc⟩ := hD
  have h8 : w.cell? ⟨bd, 8, none⟩ = some (.bool true) := (cell_at hc.cells 8).trans (by rw [← hd]; rfl)
  have v3 : w.cell? ⟨5, 0, none⟩ = some (ptrE (eb .down)) := G.var .down rfl
  clear hc G hd
  go_enter Tryz.func43, Tryz.ntmps43
  go_wp2_with fail
  go_ret
  exact ⟨rfl, rfl⟩
end Go.Proofs.YtabfcciejhbajaaGreatDoor
