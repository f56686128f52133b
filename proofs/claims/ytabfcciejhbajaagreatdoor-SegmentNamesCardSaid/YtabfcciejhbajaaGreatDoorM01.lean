/-
  Laws on maps whose keys are strings or ints, read as functions from keys to values; no program in sight. Conditions: none.
  The disk as a plain thing, and how it lies in memory. Conditions: none; definitions and the laws on what is kept.
  errors.Is at the program's sentinels, and what is known of the package-level error variables. Conditions: the variables hold what their own text lays.
  Errors held against nil. Conditions: none.
-/
import Derived.WalkKit
import Derived.Maps.RangeRun
import Derived.MapKept
import Derived.Deep.Draws
import Derived.Test.YtabfcciejhbajaaGreatDoorProg
import Derived.WalkLawsBesides
import Derived.LaidEql
import Derived.Stop.Asserts
import Derived.RowKitTokens
namespace Go.Proofs.YtabfcciejhbajaaGreatDoor
open Go Go.RowKit Go.MapKept
open Go.ChangeMaps (setBlock)

/-- Nothing but the blocks of S has changed; blocks may be new. -/
structure Fr (S : Nat → Prop) (w w' : World) : Prop where
  os : w'.os = w.os
  tape : w'.tape = w.tape
  output : w'.output = w.output
  size : w.heap.size ≤ w'.heap.size
  block : ∀ k, k < w.heap.size → ¬ S k → w'.heap[k]? = w.heap[k]?

theorem setCell_drewN (w : World) (n : Nat) (a : Addr) (v : Value) : (w.drewN n).setCell a v = (w.setCell a v).drewN n := rfl
theorem alloc_drewN (w : World) (n : Nat) (o : Obj) : (w.drewN n).alloc o = (w.alloc o).drewN n := rfl
namespace Fr
variable {S T : Nat → Prop} {w w1 w2 : World}
theorem refl (S : Nat → Prop) (w : World) : Fr S w w := ⟨rfl, rfl, rfl, Nat.le_refl _, fun _ _ _ => rfl⟩
theorem trans (h : Fr S w w1) (k : Fr S w1 w2) : Fr S w w2 :=
  ⟨k.os.trans h.os, k.tape.trans h.tape, k.output.trans h.output, Nat.le_trans h.size k.size,
   fun i hi hn => (k.block i (Nat.lt_of_lt_of_le hi h.size) hn).trans (h.block i hi hn)⟩
/-- the second step may touch what was made since. -/
theorem trans' (h : Fr S w w1) (k : Fr T w1 w2) (hT : ∀ i, i < w.heap.size → T i → S i) : Fr S w w2 :=
  ⟨k.os.trans h.os, k.tape.trans h.tape, k.output.trans h.output, Nat.le_trans h.size k.size,
   fun i hi hn => (k.block i (Nat.lt_of_lt_of_le hi h.size) (fun ht => hn (hT i hi ht))).trans (h.block i hi hn)⟩
theorem mono (h : Fr S w w1) (hT : ∀ i, i < w.heap.size → S i → T i) : Fr T w w1 :=
  ⟨h.os, h.tape, h.output, h.size, fun i hi hn => h.block i hi (fun hs => hn (hT i hi hs))⟩
theorem alloc (h : Fr S w w1) (o : Obj) : Fr S w (w1.alloc o) :=
  ⟨h.os, h.tape, h.output, Nat.le_trans h.size (by simp), fun i hi hn => (heap_alloc w1 o |>.2 i (Nat.lt_of_lt_of_le hi h.size)).trans (h.block i hi hn)⟩
theorem drew (h : Fr S w w1) : Fr S w w1.drew := ⟨h.os, h.tape, h.output, h.size, h.block⟩
theorem drewN (h : Fr S w w1) (n : Nat) : Fr S w (w1.drewN n) := ⟨h.os, h.tape, h.output, h.size, h.block⟩
theorem setCell (h : Fr S w w1) {a : Addr} (ha : a.block < w.heap.size → S a.block) (v : Value) : Fr S w (w1.setCell a v) :=
  ⟨h.os, h.tape, h.output, by rw [World.size_setCell]; exact h.size, fun i hi hn => (Below.heap_setCell w1 a v i (fun e => hn (e ▸ ha (e ▸ hi)))).trans (h.block i hi hn)⟩
theorem setBlock (h : Fr S w w1) {b : Nat} (hb : b < w.heap.size → S b) (o : Obj) : Fr S w (setBlock w1 b o) := by
  refine ⟨h.os, h.tape, h.output, by simpa [ChangeMaps.setBlock] using h.size, fun i hi hn => ?_⟩
  have : i ≠ b := fun e => hn (e ▸ hb (e ▸ hi))
  simp [ChangeMaps.setBlock, this.symm, h.block i hi hn]
theorem grown (h : Fr S w w1) {row : Option Nat} (hg : w1.grownBy w2 row) (hr : ∀ k, row = some k → k < w.heap.size → S k) : Fr S w w2 :=
  ⟨hg.os.trans h.os, hg.tape.trans h.tape, hg.output.trans h.output, Nat.le_trans h.size hg.size,
   fun i hi hn => (hg.block i (Nat.lt_of_lt_of_le hi h.size) (fun e => hn (hr i e.symm hi))).trans (h.block i hi hn)⟩
theorem cell (h : Fr S w w1) {a : Addr} (ha : a.block < w.heap.size) (hn : ¬ S a.block) : w1.cell? a = w.cell? a := World.cell?_of_block (h.block _ ha hn)
theorem frozen (h : Fr S w w1) {a : Addr} (ha : a.block < w.heap.size) (hn : ¬ S a.block) : w1.frozen? a = w.frozen? a := World.frozen?_of_block (h.block _ ha hn)
end Fr

open Classical in
/-- a function with one value turned -/
noncomputable def upd {κ β : Type} (m : κ → β) (k : κ) (v : β) : κ → β := fun x => if x = k then v else m x
theorem upd_same {κ β : Type} (m : κ → β) (k : κ) (v : β) : upd m k v k = v := by simp [upd]
theorem upd_ne {κ β : Type} (m : κ → β) {k x : κ} (v : β) (h : x ≠ k) : upd m k v x = m x := by simp [upd, h]
theorem upd_at {κ β : Type} (m : κ → β) (k x : κ) (v : β) : (x = k ∧ upd m k v x = v) ∨ (x ≠ k ∧ upd m k v x = m x) := by
  by_cases h : x = k
  · exact .inl ⟨h, by rw [h, upd_same]⟩
  · exact .inr ⟨h, upd_ne m v h⟩
/-- How keys of a Lean type stand in a map. -/
structure Enc (κ : Type) where
  enc : κ → Value
  d : TypeDesc
  isKey : ∀ k, IsKey d (enc k)
  inj : ∀ a b, enc a = enc b → a = b
def strE : Enc ByteArray := ⟨.string, .string, fun _ => trivial, fun _ _ h => by cases h; rfl⟩
def intE : Enc Int := ⟨.int .i64, .int .i64, fun _ => rfl, fun _ _ h => by cases h; rfl⟩

section
variable {κ α : Type} (E : Enc κ) (V : α → Value)
/-- The entries read as m. -/
def Reads (es : Array MapEntry) (m : κ → Option α) : Prop :=
  (∀ x ∈ es.toList, ∃ k v, x.key = E.enc k ∧ x.val = V v ∧ m k = some v) ∧ ∀ k v, m k = some v → ∃ x ∈ es.toList, x.key = E.enc k
/-- Block b is a map that reads as m. -/
def MapAt (w : World) (b : Nat) (m : κ → Option α) : Prop :=
  ∃ es clock, w.heap[b]? = some (.map es clock) ∧ Stamped es clock ∧ Reads E V es m
end
section
variable {κ α : Type} {E : Enc κ} {V : α → Value}
theorem Reads.isKeys {es : Array MapEntry} {m : κ → Option α} (h : Reads E V es m) : ∀ x ∈ es.toList, IsKey E.d x.key := by
  intro x hx; obtain ⟨k, v, hk, _⟩ := h.1 x hx; rw [hk]; exact E.isKey k
theorem Reads.empty : Reads E V #[] (fun _ => none) := ⟨by simp, by simp⟩
theorem MapAt.made (w : World) : MapAt E V (w.alloc (.map #[] 0)) w.heap.size (fun _ => none) :=
  ⟨#[], 0, (heap_alloc w _).1, stamped_empty 0, Reads.empty⟩
theorem MapAt.lt {w : World} {b : Nat} {m : κ → Option α} (h : MapAt E V w b m) : b < w.heap.size := by
  obtain ⟨es, c, hb, _⟩ := h; exact (Array.getElem?_eq_some_iff.1 hb).1
theorem MapAt.of_block {w w' : World} {b : Nat} {m : κ → Option α} (h : MapAt E V w b m) (e : w'.heap[b]? = w.heap[b]?) : MapAt E V w' b m := by
  obtain ⟨es, c, hb, r⟩ := h; exact ⟨es, c, e.trans hb, r⟩
theorem Reads.unique {es : Array MapEntry} {m : κ → Option α} (h : Reads E V es m) {x : MapEntry} (hx : x ∈ es.toList) {k : κ} (hk : x.key = E.enc k) : ∃ v, m k = some v ∧ x.val = V v := by
  obtain ⟨k', v, h1, h2, h3⟩ := h.1 x hx
  have : k' = k := E.inj _ _ (h1.symm.trans hk)
  subst this
  exact ⟨v, h3, h2⟩

section
variable {P : Program} {w : World} {mty kt et : TypeId} {b : Nat} {m : κ → Option α}
/-- a search by key -/
theorem find_of {es : Array MapEntry} (h : Reads E V es m) (k : κ) :
    (Instr.findNow E.d (E.enc k) es.toList 0 = some none ∧ m k = none ∧ ∀ x ∈ es.toList, x.key ≠ E.enc k) ∨
    ∃ j e v, Instr.findNow E.d (E.enc k) es.toList 0 = some (some (j, V v)) ∧ es[j]? = some e ∧ e.key = E.enc k ∧ e.val = V v ∧ m k = some v := by
  rcases findNow_spec (E.isKey k) es.toList 0 h.isKeys with ⟨h1, h2⟩ | ⟨j, e, h1, h2, h3⟩
  · left
    refine ⟨h1, ?_, h2⟩
    cases hm : m k with
    | none => rfl
    | some v => obtain ⟨x, hx, hk⟩ := h.2 k v hm; exact absurd hk (h2 x hx)
  · right
    have hj : es[j]? = some e := by simpa using h2
    have hmem : e ∈ es.toList := List.mem_of_getElem? h2
    obtain ⟨k', v, g1, g2, g3⟩ := h.1 e hmem
    have : k' = k := E.inj _ _ (g1.symm.trans h3)
    subst this
    exact ⟨j, e, v, by rw [h1, g2]; simp, hj, h3, g2, g3⟩
theorem MapAt.lookup (h : MapAt E V w b m) (hm : P.underlying mty = some (.map kt et)) (hd : P.underlying kt = some E.d) {z : Value} (hz : (zeroValue et).run P w = .ok z w) (k : κ) :
    (Instr.lookup mty (.map (some b)) (E.enc k) false).run P w = .ok (((m k).map V).getD z) w := by
  obtain ⟨es, c, hb, hs, hr⟩ := h
  rcases find_of hr k with ⟨h1, h2, _⟩ | ⟨j, e, v, h1, h2, h3, h4, h5⟩
  · simp [Instr.lookup, run_underlying hm, MapKept.run_getObj_map hb, run_checkKey hd (E.isKey k), run_findKey hd h1, hz, Result.andThen, h2]
  · simp [Instr.lookup, run_underlying hm, MapKept.run_getObj_map hb, run_checkKey hd (E.isKey k), run_findKey hd h1, Result.andThen, h5]
theorem nodup_of_map {β γ : Type} {f : β → γ} {l : List β} (h : (l.map f).Nodup) : l.Nodup := (List.pairwise_map.1 h).imp (fun h e => h (congrArg f e))
theorem key_unique {es : Array MapEntry} {c : Nat} (hs : Stamped es c) {i j : Nat} {x y : MapEntry} (hx : es[i]? = some x) (hy : es[j]? = some y) (h : x.key = y.key) : i = j := by
  have hn := hs.2.2
  rw [List.Nodup, List.pairwise_map, List.pairwise_iff_getElem] at hn
  obtain ⟨hi, rfl⟩ := Array.getElem?_eq_some_iff.1 hx
  obtain ⟨hj, rfl⟩ := Array.getElem?_eq_some_iff.1 hy
  rcases Nat.lt_trichotomy i j with q | q | q
  · exact absurd h (hn i j (by simpa using hi) (by simpa using hj) q)
  · exact q
  · exact absurd h.symm (hn j i (by simpa using hj) (by simpa using hi) q)
theorem mem_idx {es : Array MapEntry} {x : MapEntry} (hx : x ∈ es.toList) : ∃ i : Nat, es[i]? = some x := by
  obtain ⟨i, hi⟩ := List.getElem?_of_mem hx
  exact ⟨i, by simpa using hi⟩
theorem idx_mem {es : Array MapEntry} {x : MapEntry} {i : Nat} (hx : es[i]? = some x) : x ∈ es.toList := List.mem_of_getElem? (i := i) (by simpa using hx)
theorem MapAt.update (h : MapAt E V w b m) (hm : P.underlying mty = some (.map kt et)) (hd : P.underlying kt = some E.d) (k : κ) (v : α) :
    ∃ o, (Instr.mapUpdate mty (.map (some b)) (E.enc k) (V v)).run P w = .ok () (setBlock w b o) ∧ MapAt E V (setBlock w b o) b (upd m k (some v)) := by
  obtain ⟨es, c, hb, hs, hr⟩ := h
  rcases find_of hr k with ⟨h1, h2, h3⟩ | ⟨j, e, v0, h1, h2, h3, h4, h5⟩
  · refine ⟨.map (es.push { key := E.enc k, val := V v, born := c }) (c + 1), by simp [Instr.mapUpdate, run_underlying hm, MapKept.run_getObj_map hb, run_checkKey hd (E.isKey k), run_findKey hd h1, run_setObj_map _ hb, Result.andThen, setBlock], _, _, (heap_set hb).1, stamped_push hs h3, ?_, ?_⟩
    · intro x hx
      simp only [Array.toList_push, List.mem_append, List.mem_singleton] at hx
      rcases hx with hx | rfl
      · obtain ⟨k', v', g1, g2, g3⟩ := hr.1 x hx
        refine ⟨k', v', g1, g2, ?_⟩
        have : k' ≠ k := fun e => h3 x hx (e ▸ g1)
        rw [upd_ne _ _ this]; exact g3
      · exact ⟨k, v, rfl, rfl, upd_same _ _ _⟩
    · intro k' v' hk'
      by_cases e : k' = k
      · subst e; exact ⟨_, by rw [Array.toList_push]; exact List.mem_append_right _ (List.mem_singleton.2 rfl), rfl⟩
      · rw [upd_ne _ _ e] at hk'
        obtain ⟨x, hx, g⟩ := hr.2 k' v' hk'
        exact ⟨x, by simp at hx ⊢; exact .inl hx, g⟩
  · have hkey : ∀ e', es[j]? = some e' → ({ e' with key := E.enc k, val := V v } : MapEntry).key = e'.key := fun e' he' => by rw [h2] at he'; cases he'; exact h3.symm
    refine ⟨.map (es.modify j fun e => { e with key := E.enc k, val := V v }) c, by simp [Instr.mapUpdate, run_underlying hm, MapKept.run_getObj_map hb, run_checkKey hd (E.isKey k), run_findKey hd h1, h2, h3, run_keyThatStays (E.isKey k), run_setObj_map _ hb, Result.andThen, setBlock], _, _, (heap_set hb).1, stamped_modify hs _ _ (fun _ _ => rfl) (fun e' _ he' => hkey e' he'), ?_, ?_⟩
    · intro x hx
      obtain ⟨i, hi⟩ := mem_idx hx
      simp only [Array.getElem?_modify] at hi
      by_cases hij : j = i
      · subst hij
        simp [h2] at hi
        subst hi
        exact ⟨k, v, rfl, rfl, upd_same _ _ _⟩
      · simp [hij] at hi
        obtain ⟨k', v', g1, g2, g3⟩ := hr.1 x (idx_mem hi)
        refine ⟨k', v', g1, g2, ?_⟩
        have : k' ≠ k := fun e' => hij (key_unique hs h2 hi (by rw [h3, g1, e']))
        rw [upd_ne _ _ this]; exact g3
    · intro k' v' hk'
      by_cases e' : k' = k
      · subst e'
        refine ⟨{ key := E.enc k', val := V v, born := e.born }, idx_mem (i := j) ?_, rfl⟩
        simp [Array.getElem?_modify, h2]
      · rw [upd_ne _ _ e'] at hk'
        obtain ⟨x, hx, g⟩ := hr.2 k' v' hk'
        obtain ⟨i, hi⟩ := mem_idx hx
        have hij : j ≠ i := by
          intro q
          subst q
          rw [h2] at hi
          cases hi
          exact e' (E.inj _ _ (g.symm.trans h3))
        exact ⟨x, idx_mem (i := i) (by simpa [Array.getElem?_modify, hij] using hi), g⟩
theorem MapAt.delete (h : MapAt E V w b m) (hm : P.underlying mty = some (.map kt et)) (hd : P.underlying kt = some E.d) (k : κ) (ty : TypeId) :
    ∃ o, (Builtin.delete_ #[mty, kt] ty #[.map (some b), E.enc k]).run P w = .ok (.tuple #[]) (setBlock w b o) ∧ MapAt E V (setBlock w b o) b (upd m k none) ∧
      (∀ es c, w.heap[b]? = some (.map es c) → ∃ es', o = .map es' c ∧ ∀ x ∈ es'.toList, x ∈ es.toList) := by
  obtain ⟨es, c, hb, hs, hr⟩ := h
  rcases find_of hr k with ⟨h1, h2, h3⟩ | ⟨j, e, v0, h1, h2, h3, h4, h5⟩
  · refine ⟨.map es c, by simp [Builtin.delete_, run_underlying hm, MapKept.run_getObj_map hb, run_checkKey hd (E.isKey k), run_findKey hd h1, run_setObj_map _ hb, Result.andThen, setBlock], ⟨_, _, (heap_set hb).1, hs, ?_, ?_⟩, fun es' c' h' => ?_⟩
    · intro x hx
      obtain ⟨k', v', g1, g2, g3⟩ := hr.1 x hx
      have : k' ≠ k := fun e => h3 x hx (e ▸ g1)
      exact ⟨k', v', g1, g2, by rw [upd_ne _ _ this]; exact g3⟩
    · intro k' v' hk'
      by_cases e : k' = k
      · rw [e, upd_same] at hk'; cases hk'
      · rw [upd_ne _ _ e] at hk'
        exact hr.2 k' v' hk'
    · rw [hb] at h'; cases h'; exact ⟨es, rfl, fun _ h => h⟩
  · have hlt : j < es.size := (Array.getElem?_eq_some_iff.1 h2).1
    have hl : (es.eraseIdxIfInBounds j).toList = es.toList.eraseIdx j := by simp [Array.eraseIdxIfInBounds, hlt]
    have hsub : ∀ x ∈ (es.eraseIdxIfInBounds j).toList, x ∈ es.toList := by
      intro x hx; rw [hl] at hx; exact List.mem_of_mem_eraseIdx hx
    have hmem : ∀ x ∈ es.toList, x.key ≠ E.enc k → x ∈ (es.eraseIdxIfInBounds j).toList := by
      intro x hx hne
      rw [hl]
      obtain ⟨i, hi⟩ := mem_idx hx
      refine List.mem_eraseIdx_iff_getElem?.2 ⟨i, ?_, by simpa using hi⟩
      intro q
      subst q
      rw [h2] at hi
      cases hi
      exact hne h3
    refine ⟨.map (es.eraseIdxIfInBounds j) c, by simp [Builtin.delete_, run_underlying hm, MapKept.run_getObj_map hb, run_checkKey hd (E.isKey k), run_findKey hd h1, run_setObj_map _ hb, Result.andThen, setBlock], ⟨_, _, (heap_set hb).1, stamped_erase hs _, ?_, ?_⟩, fun es' c' h' => ?_⟩
    · intro x hx
      obtain ⟨k', v', g1, g2, g3⟩ := hr.1 x (hsub x hx)
      refine ⟨k', v', g1, g2, ?_⟩
      have : k' ≠ k := by
        intro e'
        subst e'
        obtain ⟨i, hi⟩ := mem_idx (hsub x hx)
        have hij := key_unique hs h2 hi (by rw [h3, g1])
        subst hij
        rw [h2] at hi
        cases hi
        rw [hl] at hx
        obtain ⟨i', hi', hx'⟩ := List.mem_eraseIdx_iff_getElem?.1 hx
        exact hi' (key_unique hs (by simpa using hx') h2 rfl)
      rw [upd_ne _ _ this]; exact g3
    · intro k' v' hk'
      by_cases e' : k' = k
      · rw [e', upd_same] at hk'; cases hk'
      · rw [upd_ne _ _ e'] at hk'
        obtain ⟨x, hx, g⟩ := hr.2 k' v' hk'
        exact ⟨x, hmem x hx (fun q => e' (E.inj _ _ (g.symm.trans q))), g⟩
    · rw [hb] at h'; cases h'; exact ⟨_, rfl, hsub⟩
theorem MapAt.clear (h : MapAt E V w b m) (hm : P.underlying mty = some (.map kt et)) (ty : TypeId) :
    ∃ o, (Builtin.clear_ #[mty] ty #[.map (some b)]).run P w = .ok (.tuple #[]) (setBlock w b o) ∧ MapAt E V (setBlock w b o) b (fun _ => (none : Option α)) := by
  obtain ⟨es, c, hb, hs, hr⟩ := h
  exact ⟨.map #[] c, by simp [Builtin.clear_, run_underlying hm, MapKept.run_getObj_map hb, run_setObj_map _ hb, Result.andThen, setBlock], _, _, (heap_set hb).1, stamped_empty _, Reads.empty⟩
/-- A loop over the map in block b is under way, its iterator in block r; todo: the keys still to come, n: how many. -/
def IterAt (E : Enc κ) (V : α → Value) (w : World) (r b : Nat) (m : κ → Option α) (todo : κ → Prop) (n : Nat) : Prop :=
  ∃ es clock seen, w.heap[b]? = some (.map es clock) ∧ Stamped es clock ∧ Reads E V es m ∧ w.heap[r]? = some (.mapIter (some b) clock seen clock) ∧
    (leftOf es seen).size = n ∧ ∀ k, todo k ↔ ∃ x ∈ es.toList, x.key = E.enc k ∧ seen.contains x.born = false
/-- how many entries are to come, for a loop's measure -/
def iterLeft (w : World) (b r : Nat) : Nat :=
  match w.heap[b]?, w.heap[r]? with
  | some (.map es _), some (.mapIter _ _ seen _) => (leftOf es seen).size
  | _, _ => 0
theorem IterAt.mapAt {r : Nat} {todo : κ → Prop} {n : Nat} (h : IterAt E V w r b m todo n) : MapAt E V w b m := by
  obtain ⟨es, c, seen, hb, hs, hr, _⟩ := h; exact ⟨es, c, hb, hs, hr⟩
theorem IterAt.ne {r : Nat} {todo : κ → Prop} {n : Nat} (h : IterAt E V w r b m todo n) : r ≠ b := by
  obtain ⟨es, c, seen, hb, hs, hr, h1, _⟩ := h
  intro e; rw [e, hb] at h1; cases h1
theorem IterAt.lt {r : Nat} {todo : κ → Prop} {n : Nat} (h : IterAt E V w r b m todo n) : r < w.heap.size := by
  obtain ⟨es, c, seen, hb, hs, hr, h1, _⟩ := h; exact (Array.getElem?_eq_some_iff.1 h1).1
theorem IterAt.left_eq {r : Nat} {todo : κ → Prop} {n : Nat} (h : IterAt E V w r b m todo n) : iterLeft w b r = n := by
  obtain ⟨es, c, seen, hb, hs, hr, h1, h2, _⟩ := h
  simp only [iterLeft, hb, h1]; exact h2
theorem IterAt.of_blocks {r : Nat} {todo : κ → Prop} {n : Nat} {w' : World} (h : IterAt E V w r b m todo n) (e : w'.heap[b]? = w.heap[b]?) (e' : w'.heap[r]? = w.heap[r]?) : IterAt E V w' r b m todo n := by
  obtain ⟨es, c, seen, hb, hs, hr, h1, h2⟩ := h; exact ⟨es, c, seen, e.trans hb, hs, hr, e'.trans h1, h2⟩
theorem MapAt.range (h : MapAt E V w b m) (hm : P.underlying mty = some (.map kt et)) :
    ∃ n, (Instr.range mty (.map (some b))).run P w = .ok (.pointer (some ⟨w.heap.size, 0, none⟩)) (w.alloc (.mapIter (some b) n #[] n)) ∧
      ∃ cnt, IterAt E V (w.alloc (.mapIter (some b) n #[] n)) w.heap.size b m (fun k => (m k).isSome) cnt := by
  have hlt := h.lt
  obtain ⟨es, c, hb, hs, hr⟩ := h
  refine ⟨c, run_range_map w mty kt et b es c hm hb, _, es, c, #[], (MapKept.heap_alloc w _).2 b hlt |>.trans hb, hs, hr, (MapKept.heap_alloc w _).1, rfl, fun k => ⟨fun hk => ?_, fun ⟨x, hx, hk, _⟩ => ?_⟩⟩
  · obtain ⟨v, hv⟩ := Option.isSome_iff_exists.1 hk
    obtain ⟨x, hx, g⟩ := hr.2 k v hv
    exact ⟨x, hx, g, by simp⟩
  · obtain ⟨v, hv, _⟩ := hr.unique hx hk
    simp [hv]
theorem IterAt.next {r : Nat} {todo : κ → Prop} {n : Nat} (h : IterAt E V w r b m todo n) (ty : TypeId) :
    (n = 0 ∧ (∀ k, ¬ todo k) ∧ (Instr.next (.pointer (some ⟨r, 0, none⟩)) false ty).run P w = .ok (.tuple #[.bool false]) w) ∨
    ∃ k v w' n', todo k ∧ m k = some v ∧ (Instr.next (.pointer (some ⟨r, 0, none⟩)) false ty).run P w = .ok (.tuple #[.bool true, E.enc k, V v]) w' ∧
      IterAt E V w' r b m (fun x => todo x ∧ x ≠ k) n' ∧ n' < n ∧ Fr (· = r) w w' ∧ w'.heap.size = w.heap.size ∧
      (Instr.entry (.pointer (some ⟨r, 0, none⟩))).run P w' = .ok (.tuple #[E.enc k, V v]) w' := by
  have hne := h.ne
  obtain ⟨es, c, seen, hb, hs, hR, hr, hn, hl⟩ := h
  rcases run_next_at (P := P) w ty r b c c seen es c hr hb hs.1 (Nat.le_refl _) with ⟨h0, hrun⟩ | ⟨e, he, w1, hal, hrun⟩
  · refine Or.inl ⟨hn ▸ h0, fun k hk => ?_, hrun⟩
    obtain ⟨x, hx, _, hx2⟩ := (hl k).1 hk
    rw [all_seen es seen h0 x hx] at hx2
    cases hx2
  · obtain ⟨hem, hes⟩ := mem_left he
    obtain ⟨k, v, g1, g2, g3⟩ := hR.1 e hem
    have hr1 : w1.heap[r]? = some (.mapIter (some b) c seen c) := by rcases hal with rfl | rfl <;> exact hr
    have hb1 : w1.heap[b]? = some (.map es c) := by rcases hal with rfl | rfl <;> exact hb
    have hset := MapKept.heap_set (o' := .mapIter (some b) c (seen.push e.born) c) hr1
    have hb' : (setBlock w1 r (.mapIter (some b) c (seen.push e.born) c)).heap[b]? = some (.map es c) := (hset.2 b (fun e1 => hne e1.symm)).trans hb1
    have hsz : (setBlock w1 r (.mapIter (some b) c (seen.push e.born) c)).heap.size = w.heap.size := by rcases hal with rfl | rfl <;> simp [setBlock]
    refine Or.inr ⟨k, v, _, _, (hl k).2 ⟨e, hem, g1, hes⟩, g3, by rw [hrun, g1, g2], ⟨es, c, seen.push e.born, hb', hs, hR, hset.1, rfl, fun k' => ?_⟩, hn ▸ left_shrinks es seen e he, ?_, hsz, ?_⟩
    · show todo k' ∧ k' ≠ k ↔ _
      rw [hl k']
      constructor
      · rintro ⟨⟨x, hx, q1, q2⟩, hkk⟩
        refine ⟨x, hx, q1, ?_⟩
        rw [contains_push, q2]
        simp
        intro q
        have := born_inj hs.2.1 hx hem q
        subst this
        exact hkk (E.inj _ _ (q1.symm.trans g1))
      · rintro ⟨x, hx, q1, q2⟩
        rw [contains_push] at q2
        simp at q2
        refine ⟨⟨x, hx, q1, by simpa using q2.1⟩, ?_⟩
        intro q
        subst q
        obtain ⟨i, hi⟩ := mem_idx hx
        obtain ⟨j, hj⟩ := mem_idx hem
        have := key_unique hs hi hj (by rw [q1, g1])
        subst this
        rw [hi] at hj
        cases hj
        exact q2.2 rfl
    · rcases hal with rfl | rfl
      · exact Fr.setBlock (S := (· = r)) (Fr.refl _ _) (fun _ => rfl) _
      · exact Fr.setBlock (S := (· = r)) (Fr.drew (Fr.refl _ _)) (fun _ => rfl) _
    · rw [run_entry_at _ r b c seen es c e hset.1 hb' hem hs.2.1, g1, g2]
/-- the entry of the round may go -/
theorem IterAt.delete {r : Nat} {todo : κ → Prop} {n : Nat} (h : IterAt E V w r b m todo n) (hm : P.underlying mty = some (.map kt et)) (hd : P.underlying kt = some E.d) (k : κ) (hk : ¬ todo k) (ty : TypeId) :
    ∃ o, (Builtin.delete_ #[mty, kt] ty #[.map (some b), E.enc k]).run P w = .ok (.tuple #[]) (setBlock w b o) ∧ ∃ n', n' ≤ n ∧ IterAt E V (setBlock w b o) r b (upd m k none) todo n' := by
  have hne := h.ne
  obtain ⟨o, hrun, hmap, hsub⟩ := h.mapAt.delete (P := P) hm hd k ty
  refine ⟨o, hrun, ?_⟩
  obtain ⟨es, c, seen, hb, hs, hR, hr, hn, hl⟩ := h
  obtain ⟨es', rfl, hin⟩ := hsub es c hb
  obtain ⟨es2, c2, hb2, hs2, hR2⟩ := hmap
  have hset := MapKept.heap_set (o' := .map es' c) hb
  have : es2 = es' ∧ c2 = c := by
    have q : (setBlock w b (.map es' c)).heap[b]? = some (.map es' c) := hset.1
    rw [hb2] at q; cases q; exact ⟨rfl, rfl⟩
  obtain ⟨rfl, rfl⟩ := this
  have hmem : ∀ x ∈ es.toList, (∀ k', x.key = E.enc k' → k' ≠ k) → x ∈ es2.toList := by
    intro x hx hk'
    obtain ⟨k', v', q1, q2, q3⟩ := hR.1 x hx
    obtain ⟨y, hy, q4⟩ := hR2.2 k' v' (by rw [upd_ne _ _ (hk' k' q1)]; exact q3)
    obtain ⟨i, hi⟩ := mem_idx hx
    obtain ⟨j, hj⟩ := mem_idx (hin y hy)
    have := key_unique hs hi hj (by rw [q1, q4])
    subst this
    rw [hi] at hj
    cases hj
    exact hy
  refine ⟨_, ?_, es2, c2, seen, hb2, hs2, hR2, (hset.2 r hne).trans hr, rfl, fun k' => ?_⟩
  · rw [← hn]
    have hsz : ∀ z : Array MapEntry, (leftOf z seen).size = (z.toList.filter fun e => !seen.contains e.born).length := fun z => by
      unfold leftOf; rw [← Array.length_toList, Array.toList_filter]
    rw [hsz, hsz]
    refine List.Nodup.length_le_of_subset ?_ ?_
    · exact (List.filter_sublist).nodup (nodup_of_map hs2.2.1)
    · intro x hx
      rw [List.mem_filter] at hx ⊢
      exact ⟨hin x hx.1, hx.2⟩
  · rw [hl k']
    constructor
    · rintro ⟨x, hx, q1, q2⟩
      refine ⟨x, hmem x hx ?_, q1, q2⟩
      intro k2 q3 q4
      subst q4
      have := E.inj _ _ (q1.symm.trans q3)
      subst this
      exact hk ((hl k').2 ⟨x, hx, q1, q2⟩)
    · rintro ⟨x, hx, q1, q2⟩
      exact ⟨x, hin x hx, q1, q2⟩
/-- how many -/
def Dom (m : κ → Option α) (l : List κ) : Prop := l.Nodup ∧ ∀ k, k ∈ l ↔ (m k).isSome
theorem MapAt.dom (h : MapAt E V w b m) : ∃ l, Dom m l ∧ ∀ (w' : World), w'.heap[b]? = w.heap[b]? → ∃ es c, w'.heap[b]? = some (.map es c) ∧ es.size = l.length := by
  obtain ⟨es, c, hb, hs, hR⟩ := h
  have : ∃ l : List κ, l.map E.enc = es.toList.map (·.key) := by
    have hall : ∀ x ∈ es.toList, ∃ k, x.key = E.enc k := fun x hx => by obtain ⟨k, _, q, _⟩ := hR.1 x hx; exact ⟨k, q⟩
    clear hb hs hR
    generalize es.toList = L at hall
    induction L with
    | nil => exact ⟨[], rfl⟩
    | cons x L ih =>
      obtain ⟨l, hl⟩ := ih (fun y hy => hall y (.tail _ hy))
      obtain ⟨k, hk⟩ := hall x (.head _)
      exact ⟨k :: l, by simp [hl, hk]⟩
  obtain ⟨l, hl⟩ := this
  refine ⟨l, ⟨nodup_of_map (f := E.enc) (hl ▸ hs.2.2), fun k => ?_⟩, fun w' e => ⟨es, c, e.trans hb, ?_⟩⟩
  · constructor
    · intro hk
      have : E.enc k ∈ es.toList.map (·.key) := hl ▸ List.mem_map.2 ⟨k, hk, rfl⟩
      obtain ⟨x, hx, q⟩ := List.mem_map.1 this
      obtain ⟨v, hv, _⟩ := hR.unique hx q
      simp [hv]
    · intro hk
      obtain ⟨v, hv⟩ := Option.isSome_iff_exists.1 hk
      obtain ⟨x, hx, q⟩ := hR.2 k v hv
      have : E.enc k ∈ l.map E.enc := hl ▸ List.mem_map.2 ⟨x, hx, q⟩
      obtain ⟨k', hk', q'⟩ := List.mem_map.1 this
      exact E.inj _ _ q' ▸ hk'
  · have := congrArg List.length hl
    simpa using this.symm
theorem MapAt.len (h : MapAt E V w b m) (hm : P.underlying mty = some (.map kt et)) (ty : TypeId) :
    ∃ l, Dom m l ∧ (Builtin.len_ #[mty] ty #[.map (some b)]).run P w = .ok (.int .i64 l.length) w := by
  obtain ⟨l, hl, hsz⟩ := h.dom
  obtain ⟨es, c, hb, he⟩ := hsz w rfl
  exact ⟨l, hl, by simp [Builtin.len_, run_underlying hm, MapKept.run_getObj_map hb, Result.andThen, goInt, he]⟩
end
section
variable {P : Program} {w : World} {mty kt et : TypeId} {b : Nat} {m : κ → Option α} {ops : Array Oper} {rest : List Oper} {o : Oper} {a : Act} {Q : Exit → Act → World → Prop}
theorem wpl_mapUpdate (hg : o.guard = none) (mo xo vo : Operand) (hop : o.op = Op.mapUpdate mty mo xo vo) (h : MapAt E V w b m)
    (hm : P.underlying mty = some (.map kt et)) (hd : P.underlying kt = some E.d) (k : κ) (v : α)
    (h1 : a.eval mo = .map (some b)) (h2 : a.eval xo = E.enc k) (h3 : a.eval vo = V v)
    (hK : ∀ o', MapAt E V (setBlock w b o') b (upd m k (some v)) → wpList P ops Q rest (a.put o.dst undef) (setBlock w b o')) :
    wpList P ops Q (o :: rest) a w := by
  refine wpList_plain hg fun K' hK' => ?_
  obtain ⟨o', hrun, hmap⟩ := h.update (P := P) hm hd k v
  unfold Oper.wp
  simp [execOp, hop, h1, h2, h3, hrun, Result.andThen]
  exact hK' _ _ (hK o' hmap)
theorem wpl_delete (hg : o.guard = none) (mo xo : Operand) (hop : o.op = Op.call { callee := Callee.builtin Builtin.delete, args := #[mo, xo], argTypes := #[mty, kt] }) (h : MapAt E V w b m)
    (hm : P.underlying mty = some (.map kt et)) (hd : P.underlying kt = some E.d) (k : κ)
    (h1 : a.eval mo = .map (some b)) (h2 : a.eval xo = E.enc k)
    (hK : ∀ o', MapAt E V (setBlock w b o') b (upd m k none) → wpList P ops Q rest (a.put o.dst (.tuple #[])) (setBlock w b o')) :
    wpList P ops Q (o :: rest) a w := by
  refine wpList_plain hg fun K' hK' => ?_
  obtain ⟨o', hrun, hmap, _⟩ := h.delete (P := P) hm hd k o.type
  unfold Oper.wp
  simp [execOp, hop, resolve, invoke, builtin, h1, h2, hrun, Result.andThen]
  exact hK' _ _ (hK o' hmap)
theorem wpl_delete_iter (hg : o.guard = none) (mo xo : Operand) (hop : o.op = Op.call { callee := Callee.builtin Builtin.delete, args := #[mo, xo], argTypes := #[mty, kt] })
    {r n : Nat} {todo : κ → Prop} (h : IterAt E V w r b m todo n)
    (hm : P.underlying mty = some (.map kt et)) (hd : P.underlying kt = some E.d) (k : κ) (hk : ¬ todo k)
    (h1 : a.eval mo = .map (some b)) (h2 : a.eval xo = E.enc k)
    (hK : ∀ o' n', n' ≤ n → IterAt E V (setBlock w b o') r b (upd m k none) todo n' → wpList P ops Q rest (a.put o.dst (.tuple #[])) (setBlock w b o')) :
    wpList P ops Q (o :: rest) a w := by
  refine wpList_plain hg fun K' hK' => ?_
  obtain ⟨o', hrun, n', hn, hmap⟩ := h.delete (P := P) hm hd k hk o.type
  unfold Oper.wp
  simp [execOp, hop, resolve, invoke, builtin, h1, h2, hrun, Result.andThen]
  exact hK' _ _ (hK o' n' hn hmap)
theorem wpl_clear (hg : o.guard = none) (mo : Operand) (hop : o.op = Op.call { callee := Callee.builtin Builtin.clear, args := #[mo], argTypes := #[mty] }) (h : MapAt E V w b m)
    (hm : P.underlying mty = some (.map kt et)) (h1 : a.eval mo = .map (some b))
    (hK : ∀ o', MapAt E V (setBlock w b o') b (fun _ => (none : Option α)) → wpList P ops Q rest (a.put o.dst (.tuple #[])) (setBlock w b o')) :
    wpList P ops Q (o :: rest) a w := by
  refine wpList_plain hg fun K' hK' => ?_
  obtain ⟨o', hrun, hmap⟩ := h.clear (P := P) hm o.type
  unfold Oper.wp
  simp [execOp, hop, resolve, invoke, builtin, h1, hrun, Result.andThen]
  exact hK' _ _ (hK o' hmap)
theorem wpl_len (hg : o.guard = none) (mo : Operand) (hop : o.op = Op.call { callee := Callee.builtin Builtin.len, args := #[mo], argTypes := #[mty] }) (h : MapAt E V w b m)
    (hm : P.underlying mty = some (.map kt et)) (h1 : a.eval mo = .map (some b))
    (hK : ∀ l, Dom m l → wpList P ops Q rest (a.put o.dst (.int .i64 (l.length : Int))) w) :
    wpList P ops Q (o :: rest) a w := by
  refine wpList_plain hg fun K' hK' => ?_
  obtain ⟨l, hl, hrun⟩ := h.len (P := P) hm o.type
  unfold Oper.wp
  simp [execOp, hop, resolve, invoke, builtin, h1, hrun, Result.andThen]
  exact hK' _ _ (hK l hl)
theorem wpl_range (hg : o.guard = none) (mo : Operand) (hop : o.op = Op.range mty mo) (h : MapAt E V w b m)
    (hm : P.underlying mty = some (.map kt et)) (h1 : a.eval mo = .map (some b))
    (hK : ∀ c n, IterAt E V (w.alloc (.mapIter (some b) c #[] c)) w.heap.size b m (fun k => (m k).isSome) n → wpList P ops Q rest (a.put o.dst (.pointer (some ⟨w.heap.size, 0, none⟩))) (w.alloc (.mapIter (some b) c #[] c))) :
    wpList P ops Q (o :: rest) a w := by
  refine wpList_plain hg fun K' hK' => ?_
  obtain ⟨c, hrun, n, hit⟩ := h.range (P := P) hm
  unfold Oper.wp
  simp [execOp, hop, h1, hrun, Result.andThen]
  exact hK' _ _ (hK c n hit)
theorem wpl_next (hg : o.guard = none) (it : Operand) (hop : o.op = Op.next it false) {r n : Nat} {todo : κ → Prop} (h : IterAt E V w r b m todo n)
    (h1 : a.eval it = .pointer (some ⟨r, 0, none⟩))
    (hDone : (∀ k, ¬ todo k) → wpList P ops Q rest (a.put o.dst (.tuple #[.bool false])) w)
    (hMore : ∀ k v w' n', todo k → m k = some v → IterAt E V w' r b m (fun x => todo x ∧ x ≠ k) n' → n' < n → Fr (· = r) w w' → w'.heap.size = w.heap.size →
      (Instr.entry (.pointer (some ⟨r, 0, none⟩))).run P w' = .ok (.tuple #[E.enc k, V v]) w' → wpList P ops Q rest (a.put o.dst (.tuple #[.bool true, E.enc k, V v])) w') :
    wpList P ops Q (o :: rest) a w := by
  refine wpList_plain hg fun K' hK' => ?_
  unfold Oper.wp
  rcases h.next (P := P) o.type with ⟨_, h3, hrun⟩ | ⟨k, v, w', n', g1, g2, hrun, g3, g4, g5, g6, g7⟩
  · simp [execOp, hop, h1, hrun, Result.andThen]
    exact hK' _ _ (hDone h3)
  · simp [execOp, hop, h1, hrun, Result.andThen]
    exact hK' _ _ (hMore k v w' n' g1 g2 g3 g4 g5 g6 g7)
/-- m[k] at the operation -/
theorem wpl_lookup (hg : o.guard = none) (mo xo : Operand) (hop : o.op = Op.lookup mty mo xo false) (h : MapAt E V w b m)
    (hm : P.underlying mty = some (.map kt et)) (hd : P.underlying kt = some E.d) {z : Value} (hz : (zeroValue et).run P w = .ok z w) (k : κ)
    (h1 : a.eval mo = .map (some b)) (h2 : a.eval xo = E.enc k)
    (hK : wpList P ops Q rest (a.put o.dst (((m k).map V).getD z)) w) :
    wpList P ops Q (o :: rest) a w := by
  refine wpList_plain hg fun K' hK' => ?_
  have hrun := h.lookup (P := P) hm hd hz k
  unfold Oper.wp
  simp [execOp, hop, h1, h2, hrun, Result.andThen]
  exact hK' _ _ hK
end
end
end Go.Proofs.YtabfcciejhbajaaGreatDoor

namespace Go.Proofs.YtabfcciejhbajaaGreatDoor
open Go Go.RowKit
open Go.ChangeMaps (setBlock)

/-- one view of a file: its bytes, and its sectors that can't be read -/
structure Side where
  data : List UInt8
  bad : Int → Option Unit
/-- a file -/
structure AFile where
  born : Int
  seen : Side
  safe : Side
  waits : Int → Option Unit
/-- a change of names that waits -/
structure AChange where
  src : ByteArray
  dst : ByteArray
  f : Option Nat
/-- a disk; a file is known by its block -/
structure ADisk where
  names : ByteArray → Option Nat
  safe : ByteArray → Option Nat
  waiting : List AChange
  born : Int
  ops : Int
  since : Int
  fails : List (Int × Int)
  cut : Int
  down : Bool
  file : Nat → AFile

def byteV (x : UInt8) : Value := .int .u8 x.toNat
def unitV (_ : Unit) : Value := .int .i64 1
def fileV (b : Nat) : Value := .pointer (some ⟨b, 0, none⟩)
def optV : Option Nat → Value
  | some b => fileV b
  | none => .pointer none
def chgCells (c : AChange) : List Value := [.string c.src, .string c.dst, optV c.f]
def failCells (f : Int × Int) : List Value := [.int .i64 f.1, .int .i64 f.2]

/-- What a block of the disk's memory is there for. -/
inductive Role where
  | disk | names | safe | waiting | fails
  | file (f : Nat) | sdata (f : Nat) | sbad (f : Nat) | fdata (f : Nat) | fbad (f : Nat) | waits (f : Nat)
/-- Whose block it is. -/
def Role.fileOf : Role → Option Nat
  | .file f | .sdata f | .sbad f | .fdata f | .fbad f | .waits f => some f
  | _ => none
abbrev Own := Nat → Option Role
def Own.has (ow : Own) (b : Nat) : Prop := ow b ≠ none

/-- a slice that owns its row -/
structure RowAt (w : World) (ow : Own) (r : Role) (e : TypeId) (size : Nat) (v : Value) (n : Nat) (xs : List Value) : Prop where
  row : w.ownsRow 0 e size v n xs
  own : ∀ g, v.ownBlock = some g → ow g = some r
/-- a map of numbers used as a set -/
def SetAt (w : World) (ow : Own) (r : Role) (v : Value) (m : Int → Option Unit) : Prop :=
  ∃ b, v = .map (some b) ∧ ow b = some r ∧ MapAt intE unitV w b m
structure SideAt (w : World) (ow : Own) (rd rb : Role) (v vb : Value) (s : Side) : Prop where
  data : RowAt w ow rd 5 1 v s.data.length (s.data.map byteV)
  bad : SetAt w ow rb vb s.bad
def maxData : Nat := 1099511627776
structure WFSide (s : Side) : Prop where
  len : s.data.length ≤ maxData
  bad : ∀ k, s.bad k ≠ none → 0 ≤ k ∧ k * 512 < s.data.length
structure WFFile (x : AFile) : Prop where
  seen : WFSide x.seen
  safe : WFSide x.safe
  waits : ∀ k, x.waits k ≠ none → 0 ≤ k ∧ k * 512 < x.seen.data.length
/-- the values in a file's cells -/
structure FCells where
  v1 : Value
  v2 : Value
  v3 : Value
  v4 : Value
  v5 : Value
structure FileIs (w : World) (ow : Own) (f : Nat) (x : AFile) (c : FCells) : Prop where
  cells : w.heap[f]? = some (.cells #[.int .i64 x.born, c.v1, c.v2, c.v3, c.v4, c.v5] 96 (0, 0))
  seen : SideAt w ow (.sdata f) (.sbad f) c.v1 c.v2 x.seen
  safe : SideAt w ow (.fdata f) (.fbad f) c.v3 c.v4 x.safe
  waits : SetAt w ow (.waits f) c.v5 x.waits
  wf : WFFile x
def FileAt (w : World) (ow : Own) (f : Nat) (x : AFile) : Prop := ∃ c, FileIs w ow f x c
/-- the values in a disk's cells -/
structure DCells where
  bn : Nat
  bs : Nat
  vw : Value
  vf : Value
structure DiskIs (w : World) (bd : Nat) (D : ADisk) (ow : Own) (K : Nat) (c : DCells) : Prop where
  lt : ∀ b r, ow b = some r → K ≤ b ∧ b < w.heap.size
  me : ow bd = some .disk
  cells : w.heap[bd]? = some (.cells #[.map (some c.bn), .map (some c.bs), c.vw, .int .i64 D.born, .int .i64 D.ops, .int .i64 D.since, c.vf, .int .i64 D.cut, .bool D.down] 54 (0, 0))
  ownN : ow c.bn = some .names
  names : MapAt strE fileV w c.bn D.names
  ownS : ow c.bs = some .safe
  safe : MapAt strE fileV w c.bs D.safe
  waiting : RowAt w ow .waiting 86 3 c.vw D.waiting.length (D.waiting.flatMap chgCells)
  fails : RowAt w ow .fails 149 2 c.vf D.fails.length (D.fails.flatMap failCells)
  files : ∀ f, ow f = some (.file f) → FileAt w ow f (D.file f)
  failsLen : D.fails.length ≤ 4611686018427387904
  inNames : ∀ n f, D.names n = some f → ow f = some (.file f)
  inSafe : ∀ n f, D.safe n = some f → ow f = some (.file f)
  inWait : ∀ c ∈ D.waiting, ∀ f, c.f = some f → ow f = some (.file f)
def DiskAt (w : World) (bd : Nat) (D : ADisk) (ow : Own) (K : Nat) : Prop := ∃ c, DiskIs w bd D ow K c

/-- the owner after a step: nothing that was there before comes in -/
def Own.ext (ow ow' : Own) (w : World) : Prop := ∀ b, b < w.heap.size → ow b = none → ow' b = none
theorem Own.ext_refl (ow : Own) (w : World) : ow.ext ow w := fun _ _ h => h
theorem Own.ext_trans {a b c : Own} {w w' : World} (h : a.ext b w) (k : b.ext c w') (hs : w.heap.size ≤ w'.heap.size) : a.ext c w :=
  fun i hi hn => k i (Nat.lt_of_lt_of_le hi hs) (h i hi hn)
abbrev FrO (ow : Own) (w w' : World) : Prop := Fr ow.has w w'
theorem Own.has_some {ow : Own} {b : Nat} {r : Role} (h : ow b = some r) : ow.has b := by simp [Own.has, h]
theorem FrO.trans {a b : Own} {w w1 w2 : World} (h : FrO a w w1) (k : FrO b w1 w2) (e : a.ext b w) : FrO a w w2 :=
  Fr.trans' h k (fun i hi hb ha => hb (e i hi ha))

section
variable {w w' : World} {ow ow' : Own} {r : Role}
theorem RowAt.keep {e : TypeId} {size : Nat} {v : Value} {n : Nat} {xs : List Value} (h : RowAt w ow r e size v n xs)
    (hk : ∀ b, ow b = some r → w'.heap[b]? = w.heap[b]? ∧ ow' b = some r) : RowAt w' ow' r e size v n xs := by
  refine ⟨⟨h.row.1, ?_⟩, fun g hg => (hk g (h.own g hg)).2⟩
  rcases h.row.2 with hn | ⟨g, cap, cur, rfl, hb, hgg, rest⟩
  · exact .inl hn
  · exact .inr ⟨g, cap, cur, rfl, hb, (hk g (h.own g rfl)).1.trans hgg, rest⟩
theorem SetAt.keep {v : Value} {m : Int → Option Unit} (h : SetAt w ow r v m)
    (hk : ∀ b, ow b = some r → w'.heap[b]? = w.heap[b]? ∧ ow' b = some r) : SetAt w' ow' r v m := by
  obtain ⟨b, rfl, ho, hm⟩ := h
  exact ⟨b, rfl, (hk b ho).2, hm.of_block (hk b ho).1⟩
theorem SideAt.keep {rb : Role} {v vb : Value} {s : Side} (h : SideAt w ow r rb v vb s)
    (hk : ∀ b, ow b = some r ∨ ow b = some rb → w'.heap[b]? = w.heap[b]? ∧ ow' b = ow b) : SideAt w' ow' r rb v vb s :=
  ⟨h.data.keep (fun b hb => ⟨(hk b (.inl hb)).1, (hk b (.inl hb)).2.trans hb⟩), h.bad.keep (fun b hb => ⟨(hk b (.inr hb)).1, (hk b (.inr hb)).2.trans hb⟩)⟩
theorem FileIs.keep {f : Nat} {x : AFile} {c : FCells} (h : FileIs w ow f x c) (hf : ow f = some (.file f))
    (hk : ∀ b q, ow b = some q → q.fileOf = some f → w'.heap[b]? = w.heap[b]? ∧ ow' b = ow b) : FileIs w' ow' f x c :=
  ⟨(hk f _ hf rfl).1.trans h.cells,
   h.seen.keep (fun b hb => by rcases hb with hb | hb <;> exact hk b _ hb rfl),
   h.safe.keep (fun b hb => by rcases hb with hb | hb <;> exact hk b _ hb rfl),
   h.waits.keep (fun b hb => ⟨(hk b _ hb rfl).1, (hk b _ hb rfl).2.trans hb⟩), h.wf⟩
theorem FileAt.keep {f : Nat} {x : AFile} (h : FileAt w ow f x) (hf : ow f = some (.file f))
    (hk : ∀ b q, ow b = some q → q.fileOf = some f → w'.heap[b]? = w.heap[b]? ∧ ow' b = ow b) : FileAt w' ow' f x :=
  let ⟨c, hc⟩ := h; ⟨c, hc.keep hf hk⟩
/-- Nothing of the disk has changed. -/
theorem DiskIs.keep {bd : Nat} {D : ADisk} {K : Nat} {c : DCells} (h : DiskIs w bd D ow K c) (hs : w.heap.size ≤ w'.heap.size)
    (hk : ∀ b, ow.has b → w'.heap[b]? = w.heap[b]?) : DiskIs w' bd D ow K c where
  lt b r hb := ⟨(h.lt b r hb).1, Nat.lt_of_lt_of_le (h.lt b r hb).2 hs⟩
  me := h.me
  cells := (hk _ (Own.has_some h.me)).trans h.cells
  ownN := h.ownN
  names := h.names.of_block (hk _ (Own.has_some h.ownN))
  ownS := h.ownS
  safe := h.safe.of_block (hk _ (Own.has_some h.ownS))
  waiting := h.waiting.keep (fun b hb => ⟨hk b (Own.has_some hb), hb⟩)
  fails := h.fails.keep (fun b hb => ⟨hk b (Own.has_some hb), hb⟩)
  files f hf := (h.files f hf).keep hf (fun b _ hb _ => ⟨hk b (Own.has_some hb), rfl⟩)
  failsLen := h.failsLen
  inNames := h.inNames
  inSafe := h.inSafe
  inWait := h.inWait
theorem DiskAt.keep {bd : Nat} {D : ADisk} {K : Nat} (h : DiskAt w bd D ow K) (hs : w.heap.size ≤ w'.heap.size)
    (hk : ∀ b, ow.has b → w'.heap[b]? = w.heap[b]?) : DiskAt w' bd D ow K := let ⟨c, hc⟩ := h; ⟨c, hc.keep hs hk⟩
/-- Steps outside the disk leave it. -/
theorem DiskAt.out {bd : Nat} {D : ADisk} {K : Nat} {S : Nat → Prop} (h : DiskAt w bd D ow K) (hf : Fr S w w') (hS : ∀ b, ow.has b → ¬ S b) : DiskAt w' bd D ow K :=
  h.keep hf.size (fun b hb => hf.block b (by
    cases ho : ow b with
    | none => exact absurd ho hb
    | some r => obtain ⟨c, hc⟩ := h; exact (hc.lt b r ho).2) (hS b hb))
theorem DiskAt.alloc {bd : Nat} {D : ADisk} {K : Nat} (h : DiskAt w bd D ow K) (o : Obj) : DiskAt (w.alloc o) bd D ow K :=
  h.out ((Fr.refl (fun _ => False) w).alloc o) (fun _ _ h => h)
theorem DiskAt.drew {bd : Nat} {D : ADisk} {K : Nat} (h : DiskAt w bd D ow K) : DiskAt w.drew bd D ow K := h.keep (Nat.le_refl _) (fun _ _ => rfl)
/-- The disk's own cells have changed, what they lead to has not. -/
theorem DiskIs.changed {bd : Nat} {D D' : ADisk} {K : Nat} {c : DCells} (h : DiskIs w bd D ow K c) (hs : w.heap.size ≤ w'.heap.size)
    (hk : ∀ b, ow.has b → b ≠ bd → w'.heap[b]? = w.heap[b]?)
    (hc : w'.heap[bd]? = some (.cells #[.map (some c.bn), .map (some c.bs), c.vw, .int .i64 D'.born, .int .i64 D'.ops, .int .i64 D'.since, c.vf, .int .i64 D'.cut, .bool D'.down] 54 (0, 0)))
    (e1 : D'.names = D.names) (e2 : D'.safe = D.safe) (e3 : D'.waiting = D.waiting) (e4 : D'.fails = D.fails) (e5 : D'.file = D.file) : DiskIs w' bd D' ow K c where
  lt b r hb := ⟨(h.lt b r hb).1, Nat.lt_of_lt_of_le (h.lt b r hb).2 hs⟩
  me := h.me
  cells := hc
  ownN := h.ownN
  names := e1 ▸ h.names.of_block (hk _ (Own.has_some h.ownN) (fun e => by have := h.ownN; rw [e, h.me] at this; cases this))
  ownS := h.ownS
  safe := e2 ▸ h.safe.of_block (hk _ (Own.has_some h.ownS) (fun e => by have := h.ownS; rw [e, h.me] at this; cases this))
  waiting := e3 ▸ h.waiting.keep (fun b hb => ⟨hk b (Own.has_some hb) (fun e => by rw [e, h.me] at hb; cases hb), hb⟩)
  fails := e4 ▸ h.fails.keep (fun b hb => ⟨hk b (Own.has_some hb) (fun e => by rw [e, h.me] at hb; cases hb), hb⟩)
  files f hf := e5 ▸ (h.files f hf).keep hf (fun b q hb hq => ⟨hk b (Own.has_some hb) (fun e => by rw [e, h.me] at hb; cases hb; cases hq), rfl⟩)
  failsLen := e4 ▸ h.failsLen
  inNames := e1 ▸ h.inNames
  inSafe := e2 ▸ h.inSafe
  inWait := e3 ▸ h.inWait
theorem heap_setCell_at {w : World} {b : Nat} {c : Array Value} {t : TypeId} {z : Nat × Nat} (h : w.heap[b]? = some (.cells c t z)) (i : Nat) (v : Value) :
    (w.setCell ⟨b, i, none⟩ v).heap[b]? = some (.cells (c.setIfInBounds i v) t z) := by
  simp [World.setCell, Array.getElem?_modify, h]
end
def ADisk.tick (D : ADisk) : ADisk := { D with ops := wrap64 (D.ops + 1), since := wrap64 (D.since + 1) }
theorem DiskIs.ticked {w : World} {bd : Nat} {D : ADisk} {ow : Own} {K : Nat} {c : DCells} (h : DiskIs w bd D ow K c) :
    DiskIs ((w.setCell ⟨bd, 4, none⟩ (.int .i64 (wrap64 (D.ops + 1)))).setCell ⟨bd, 5, none⟩ (.int .i64 (wrap64 (D.since + 1)))) bd D.tick ow K c :=
  h.changed (by simp) (fun b _ hne => by rw [Below.heap_setCell _ _ _ _ hne, Below.heap_setCell _ _ _ _ hne])
    (heap_setCell_at (heap_setCell_at h.cells 4 _) 5 _) rfl rfl rfl rfl rfl
theorem DiskIs.downed {w : World} {bd : Nat} {D : ADisk} {ow : Own} {K : Nat} {c : DCells} (h : DiskIs w bd D ow K c) :
    DiskIs (w.setCell ⟨bd, 8, none⟩ (.bool true)) bd { D with down := true } ow K c :=
  h.changed (by simp) (fun b _ hne => by rw [Below.heap_setCell _ _ _ _ hne]) (heap_setCell_at h.cells 8 _) rfl rfl rfl rfl rfl
end Go.Proofs.YtabfcciejhbajaaGreatDoor

namespace Go.Proofs.YtabfcciejhbajaaGreatDoor
open Go Go.RowKit Go.Extern.Stop Go.Stop Go.Extern

theorem isTypeOf (v : Value) (w : World) : (callFunc 107 #[.iface 169 v]).run Tryz.prog w = .ok (.value (.iface 174 (.agg #[.pointer (some ⟨20, 169, none⟩)]))) w := by kernel_rfl
theorem isComparable (w : World) : (callFunc 182 #[.agg #[.pointer (some ⟨20, 169, none⟩)]]).run Tryz.prog w = .ok (.value (.bool true)) w := by kernel_rfl
theorem isMethodC (v : Value) (w : World) : (Go.method 348 174 v "Comparable").run Tryz.prog w = .ok (182, v) w := by kernel_rfl
theorem isComp : (Tryz.prog.info? 169).map (·.comparable) = some true := by kernel_rfl
theorem isSize : (Tryz.prog.info? 171).map (·.size) = some 1 := by kernel_rfl
theorem noIsE (v : Value) (xT : TypeId) (w : World) : (Instr.typeAssert (.iface 169 v) xT 176 true).run Tryz.prog w = .ok (.tuple #[.nilIface, .bool false]) w := run_typeAssert_lacksB Tryz.underlying176 (by kernel_rfl) (by kernel_rfl) v xT w
theorem noUnwrapE (v : Value) (xT : TypeId) (w : World) : (Instr.typeAssert (.iface 169 v) xT 179 true).run Tryz.prog w = .ok (.tuple #[.nilIface, .bool false]) w := run_typeAssert_lacksB Tryz.underlying179 (by kernel_rfl) (by kernel_rfl) v xT w
theorem noUnwrapsE (v : Value) (xT : TypeId) (w : World) : (Instr.typeAssert (.iface 169 v) xT 180 true).run Tryz.prog w = .ok (.tuple #[.nilIface, .bool false]) w := run_typeAssert_lacksB Tryz.underlying180 (by kernel_rfl) (by kernel_rfl) v xT w

def ptrE (b : Addr) : Value := .iface 169 (.pointer (some b))
set_option maxRecDepth 100000 in
theorem is_same (b : Addr) (w : World) :
    Calls Tryz.prog 80 #[ptrE b, ptrE b] w fun e w' => e = .returned (.bool true) ∧ w = w' := by
  unfold ptrE
  obtain ⟨i, hi, hcmp⟩ := Option.map_eq_some_iff.1 isComp
  obtain ⟨j, hj, hjs⟩ := Option.map_eq_some_iff.1 isSize
  have tT := isTypeOf
  have cT := isComparable
  have mC := isMethodC
  have heq := run_eql_iface_ptr_same (P := Tryz.prog) w b Tryz.underlying32 Tryz.underlying169 hi hcmp hj
  go_enter Tryz.func80, Tryz.ntmps80
  go_wp2
  refine wp_loop_rounds 1 ?_
  rw [rounds_succ]
  go_wp2
  go_ret
  exact ⟨rfl, rfl⟩
set_option maxRecDepth 100000 in
theorem is_nil (b : Addr) (w : World) :
    Calls Tryz.prog 80 #[.nilIface, ptrE b] w fun e w' => e = .returned (.bool false) ∧ w = w' := by
  unfold ptrE
  have hn := run_eql_iface_nil_left (P := Tryz.prog) w 169 (.pointer (some b)) Tryz.underlying32
  go_enter Tryz.func80, Tryz.ntmps80
  go_wp2
  go_ret
  exact ⟨rfl, rfl⟩
set_option maxRecDepth 100000 in
theorem is_other (a b : Addr) (ca cb : Array Value) (ta tb : TypeId) (w : World) (hne : a ≠ b) (ha : w.heap[a.block]? = some (.cells ca ta (0, 0))) (hb : w.heap[b.block]? = some (.cells cb tb (0, 0))) :
    Calls Tryz.prog 80 #[ptrE a, ptrE b] w fun e w' => e = .returned (.bool false) ∧ w = w' := by
  unfold ptrE
  obtain ⟨i, hi, hcmp⟩ := Option.map_eq_some_iff.1 isComp
  obtain ⟨j, hj, hjs⟩ := Option.map_eq_some_iff.1 isSize
  have tT := isTypeOf
  have cT := isComparable
  have mC := isMethodC
  have nE := noIsE
  have uE := noUnwrapE
  have vE := noUnwrapsE
  have heq := run_eql_iface_ptr_other (P := Tryz.prog) w Tryz.underlying32 Tryz.underlying169 hi hcmp hj (by rw [hjs]; decide) hne ha hb
  go_enter Tryz.func80, Tryz.ntmps80
  go_wp2
  refine wp_loop_rounds 1 ?_
  rw [rounds_succ]
  go_wp2
  go_ret
  exact ⟨rfl, rfl⟩

/-- The program's own errors, by their variables. -/
inductive Er where
  | arg | short | form | long | sum | io | down | gone | there | image | gap | log | sick | config | nil
  deriving DecidableEq
def Er.var : Er → Nat
  | .arg => 2 | .short => 8 | .form => 9 | .long => 4 | .sum => 10
  | .io => 7 | .down => 5 | .gone => 6 | .there => 3 | .image => 0
  | .gap => 0 | .log => 0 | .sick => 1 | .config => 0 | .nil => 0
/-- Those that every statement's row lists. -/
def Er.core : Er → Bool
  | .sick | .image | .gap | .log | .config => false
  | _ => true
/-- The error variables of the set S hold different pointers; all of it lies below block K. -/
structure Glob (w : World) (K : Nat) (eb : Er → Addr) (S : Er → Bool) : Prop where
  core : ∀ x : Er, x.core = true → S x = true
  var' : ∀ x : Er, S x = true → w.cell? ⟨x.var, 0, none⟩ = some (ptrE (eb x))
  lt : ∀ x : Er, S x = true → x.var < K ∧ (eb x).block < K
  blk : ∀ x : Er, S x = true → ∃ c t, w.heap[(eb x).block]? = some (.cells c t (0, 0))
  inj : ∀ x y : Er, S x = true → S y = true → eb x = eb y → x = y
  size : K ≤ w.heap.size
theorem Glob.var {w : World} {K : Nat} {eb : Er → Addr} {S : Er → Bool} (G : Glob w K eb S) (x : Er) (h : x.core = true) : w.cell? ⟨x.var, 0, none⟩ = some (ptrE (eb x)) := G.var' x (G.core x h)
theorem Glob.below {w w' : World} {K : Nat} {eb : Er → Addr} {S : Er → Bool} (G : Glob w K eb S) (hs : w.heap.size ≤ w'.heap.size) (h : ∀ b, b < K → w'.heap[b]? = w.heap[b]?) : Glob w' K eb S :=
  ⟨G.core, fun x hx => (World.cell?_of_block (h _ (G.lt x hx).1)).trans (G.var' x hx), G.lt, fun x hx => by obtain ⟨c, t, q⟩ := G.blk x hx; exact ⟨c, t, (h _ (G.lt x hx).2).trans q⟩, G.inj, Nat.le_trans G.size hs⟩
theorem Glob.fr {T : Nat → Prop} {w w' : World} {K : Nat} {eb : Er → Addr} {S : Er → Bool} (G : Glob w K eb S) (hf : Fr T w w') (hT : ∀ b, T b → K ≤ b) : Glob w' K eb S :=
  G.below hf.size (fun b hb => hf.block b (Nat.lt_of_lt_of_le hb G.size) (fun h => by have := hT b h; omega))
/-- an error or none, as a value -/
def erV (eb : Er → Addr) : Option Er → Value
  | none => .nilIface
  | some x => ptrE (eb x)
theorem is_er {w : World} {K : Nat} {eb : Er → Addr} {S : Er → Bool} (G : Glob w K eb S) (x : Option Er) (y : Er) (hx : ∀ z, x = some z → S z = true) (hy : S y = true) :
    Calls Tryz.prog 80 #[erV eb x, ptrE (eb y)] w fun e w' => e = .returned (.bool (decide (x = some y))) ∧ w = w' := by
  cases x with
  | none => exact (is_nil _ _).mono (fun e w' h => by simpa using h)
  | some x =>
    by_cases h : x = y
    · subst h; exact (is_same _ _).mono (fun e w' h => by simpa using h)
    · obtain ⟨c, t, q⟩ := G.blk x (hx x rfl)
      obtain ⟨c', t', q'⟩ := G.blk y hy
      exact (is_other _ _ _ _ _ _ _ (fun e => h (G.inj _ _ (hx x rfl) hy e)) q q').mono (fun e w' h' => by simpa [h] using h')
end Go.Proofs.YtabfcciejhbajaaGreatDoor

namespace Go.Proofs.YtabfcciejhbajaaGreatDoor
open Go Go.RowKit

theorem eql_er (a : Addr) (w : World) : (binOp .eql 32 (.iface 169 (.pointer (some a))) .nilIface).run Tryz.prog w = .ok (.bool false) w := by kernel_rfl
theorem eql_nil (w : World) : (binOp .eql 32 .nilIface .nilIface).run Tryz.prog w = .ok (.bool true) w := by kernel_rfl
end Go.Proofs.YtabfcciejhbajaaGreatDoor
