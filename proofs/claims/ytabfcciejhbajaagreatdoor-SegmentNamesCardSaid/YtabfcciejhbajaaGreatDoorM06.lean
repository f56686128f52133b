/-
  (*Disk).Append. Conditions: the disk lies in memory as DiskAt says; the data lies outside it; the length's bound.
  (*Disk).Append, whole. Conditions: the disk lies in memory as DiskAt says; the data lies outside it; the length's bound.
  (*Disk).left: the names behind the first changes that wait. Conditions: the cells and the maps are known.
-/
import Derived.Test.YtabfcciejhbajaaGreatDoorM05
namespace Go.Proofs.YtabfcciejhbajaaGreatDoor
open Go Go.RowKit
open Go.ChangeMaps (setBlock)

set_option maxRecDepth 100000 in
set_option maxHeartbeats 1000000 in
theorem append_plan {w : World} {K : Nat} {eb : Er → Addr} {S : Er → Bool} (G : Glob w K eb S) (bd bn q0 q1 q2 : Nat) (nm : ByteArray) (m : ByteArray → Option Nat)
    (b0 : w.cell? ⟨q0, 0, none⟩ = some (.pointer (some ⟨bd, 0, none⟩))) (b1 : w.cell? ⟨q1, 0, none⟩ = some (.string nm)) (c0 : w.cell? ⟨bd, 0, none⟩ = some (.map (some bn))) (hm : MapAt strE fileV w bn m) :
    Calls Tryz.prog 53 #[.pointer (some ⟨q0, 0, none⟩), .pointer (some ⟨q1, 0, none⟩), .pointer (some ⟨q2, 0, none⟩)] w fun e w' => e = .returned (.agg #[erV eb (goneE m nm), .func (.func 55) #[] #[.pointer (some ⟨q0, 0, none⟩), .pointer (some ⟨q1, 0, none⟩), .pointer (some ⟨q2, 0, none⟩)], .bool true, .func (.func 57) #[] #[.pointer (some ⟨q0, 0, none⟩), .pointer (some ⟨q1, 0, none⟩), .pointer (some ⟨q2, 0, none⟩)]]) ∧ Fr (fun _ => False) w w' := by
  have hgone := fun (w' : World) (e : ∀ i, i < w.heap.size → w'.heap[i]? = w.heap[i]?) (hs : w.heap.size ≤ w'.heap.size) => disk_gone w' K eb S bd bn m nm ((World.cell?_of_block (e bd (World.block_lt_of_cell? _ _ c0))).trans c0) (hm.of_block (e bn hm.lt)) (G.below hs (fun b hb => e b (Nat.lt_of_lt_of_le hb G.size)))
  have HG := Lib.hid hgone
  have l0 := World.block_lt_of_cell? _ _ b0
  have l1 := World.block_lt_of_cell? _ _ b1
  simp only at l0 l1
  clear hgone hm G c0
  go_enter Tryz.func53, Tryz.ntmps53
  go_wp2_with fail
  refine (HG.out _ (fun i hi => heap_alloc_old _ _ hi) (by simp)).mono ?_
  rintro e w' ⟨rfl, rfl⟩
  obtain ⟨ev, hev, hev'⟩ : ∃ ev, ev = erV eb (goneE m nm) ∧ (ev = .nilIface ∨ ∃ r, ev = .iface 169 (.pointer (some r))) := ⟨_, rfl, by
    unfold goneE; split
    · exact .inr ⟨_, rfl⟩
    · exact .inl rfl⟩
  rw [← hev]
  have HE := Lib.hid hev
  clear hev
  rcases hev' with rfl | ⟨r, rfl⟩
  all_goals
    go_wp2_with fail
    refine bodyPost_ret (by simp [results, Tryz.results53, go_sem]; rfl) rfl ⟨by rw [← HE.out], ?_⟩
    exact (Fr.refl _ _).alloc _

set_option maxRecDepth 100000 in
set_option maxHeartbeats 1000000 in
theorem append_do {w : World} {bd K : Nat} {D : ADisk} {ow : Own} {c : DCells} (h : DiskIs w bd D ow K c) (hK : K ≤ w.heap.size) (q0 q1 q2 : Nat) (nm : ByteArray) (f : Nat) (hf : D.names nm = some f) (v : Value) (l : List UInt8)
    (b0 : w.cell? ⟨q0, 0, none⟩ = some (.pointer (some ⟨bd, 0, none⟩))) (b1 : w.cell? ⟨q1, 0, none⟩ = some (.string nm)) (b2 : w.cell? ⟨q2, 0, none⟩ = some v) (hv : SliceIs w 1 v l.length (l.map byteV)) (hb : (D.file f).seen.data.length + l.length ≤ maxData) :
    Calls Tryz.prog 55 #[.pointer (some ⟨q0, 0, none⟩), .pointer (some ⟨q1, 0, none⟩), .pointer (some ⟨q2, 0, none⟩)] w fun e w' => e = .returned (.tuple #[]) ∧
      After bd ow K w (fun D' => D' = { D with file := upd D.file f (addF (D.file f) l) }) w' := by
  have c0 : w.cell? ⟨bd, 0, none⟩ = some (.map (some c.bn)) := cell_at h.cells 0
  have hl := look_some h.names hf
  have hl2 := look_some (w := w.drew) (h.names.of_block rfl) hf
  have hff := h.inNames nm f hf
  have HA := Lib.hid (file_add_all (w := w.drew) (ow := ow) (K := K) ((h.files f hff).keep hff (fun b _ _ _ => ⟨rfl, rfl⟩)) hff h.lt hK v l (hv.fr (S := fun _ => False) ((Fr.refl _ _).drew) (fun _ _ _ _ h => h)) hb)
  obtain ⟨o1, cp, hv'⟩ := hv.form
  subst hv'
  clear hv
  go_enter Tryz.func55, Tryz.ntmps55
  go_wp2_with fail
  go_still_tail 7, (by kernel_rfl)
  change wpList _ _ _ _ _ w.drew
  go_wp2_with fail
  refine HA.out.mono ?_
  rintro e w' ⟨rfl, ow', hF, hk, hfr, hext, hme⟩
  go_wp2_with fail
  first
    | go_end0
    | refine bodyPost_ret (results_none rfl _ _ _) rfl ?_
  refine ⟨rfl, _, ow', rfl, ⟨c, (h.keep (w' := w.drew) (Nat.le_refl _) (fun _ _ => rfl)).setFile hk hme hF⟩, Fr.trans ((Fr.refl _ _).drew) hfr, hext⟩
set_option maxRecDepth 100000 in
set_option maxHeartbeats 1000000 in
theorem append_part {w : World} {bd K : Nat} {D : ADisk} {ow : Own} {c : DCells} (h : DiskIs w bd D ow K c) (hK : K ≤ w.heap.size) (n : Int) (q0 q1 q2 : Nat) (nm : ByteArray) (f : Nat) (hf : D.names nm = some f) (v : Value) (l : List UInt8)
    (b0 : w.cell? ⟨q0, 0, none⟩ = some (.pointer (some ⟨bd, 0, none⟩))) (b1 : w.cell? ⟨q1, 0, none⟩ = some (.string nm)) (b2 : w.cell? ⟨q2, 0, none⟩ = some v) (hv : SliceIs w 1 v l.length (l.map byteV)) (hb : (D.file f).seen.data.length + l.length ≤ maxData) :
    Calls Tryz.prog 57 #[.int .i64 n, .pointer (some ⟨q0, 0, none⟩), .pointer (some ⟨q1, 0, none⟩), .pointer (some ⟨q2, 0, none⟩)] w fun e w' => e = .returned (.tuple #[]) ∧
      After bd ow K w (fun D' => D' = { D with file := upd D.file f (addF (D.file f) (l.take n.toNat)) }) w' := by
  have c0 : w.cell? ⟨bd, 0, none⟩ = some (.map (some c.bn)) := cell_at h.cells 0
  have hl := look_some h.names hf
  have hff := h.inNames nm f hf
  have hl2 := look_some (w := w.drew) (h.names.of_block rfl) hf
  have hle : l.length ≤ 1099511627776 := by unfold maxData at hb; omega
  -- the piece that is written
  have hpiece : ∀ m : Nat, m ≤ l.length → ∀ o1 cp, v = .slice o1 l.length cp → SliceIs w.drew 1 (.slice o1 m cp) (l.take m).length ((l.take m).map byteV) := by
    intro m hm o1 cp hv'
    subst hv'
    have hlen : (l.take m).length = m := by simp; omega
    rw [hlen]
    rcases hv with ⟨q, q', _⟩ | ⟨a, c', q, hnc, _, hcs⟩
    · injection q with e1 e2 e3
      subst e1; subst e3
      exact .inl ⟨by rw [show m = 0 from by omega], by omega, by rw [show l = [] from List.eq_nil_of_length_eq_zero q']; simp⟩
    · injection q with e1 e2 e3
      subst e1; subst e3
      refine .inr ⟨a, cp, rfl, by omega, by simp; omega, fun j u hu => ?_⟩
      refine hcs j u ?_
      rw [List.map_take, List.getElem?_take] at hu
      split at hu
      · exact hu
      · cases hu
  have HA := Lib.hid (fun (m : Nat) (hm : m ≤ l.length) (o1 : Option Addr) (cp : Nat) (hv' : v = .slice o1 l.length cp) => file_add_all (w := w.drew) (ow := ow) (K := K) ((h.files f hff).keep hff (fun b _ _ _ => ⟨rfl, rfl⟩)) hff h.lt hK (.slice o1 m cp) (l.take m) (hpiece m hm o1 cp hv') (by rw [List.length_take]; omega))
  have hfin : ∀ m : Nat, m ≤ l.length → m = n.toNat ∨ (m = l.length ∧ l.length ≤ n.toNat) → l.take m = l.take n.toNat := by
    rintro m hm (q | ⟨q, q'⟩)
    · rw [q]
    · rw [q, List.take_of_length_le (Nat.le_refl _), List.take_of_length_le q']
  have HFIN := Lib.hid hfin
  obtain ⟨o1, cp, hv', hcp⟩ : ∃ o cp, v = .slice o l.length cp ∧ l.length ≤ cp := by
    rcases hv with ⟨q, q', _⟩ | ⟨a, c', q, hnc, _⟩
    · exact ⟨none, 0, by rw [q, q'], by omega⟩
    · exact ⟨_, _, q, hnc⟩
  subst hv'
  clear hv hpiece hfin
  by_cases h1 : (l.length : Int) < n
  · by_cases h0 : 0 < l.length
    · have hm : ¬ (n ≤ (l.length : Int)) := by omega
      have hz : (l.length : Int) ≤ cp := by omega
      go_enter Tryz.func57, Tryz.ntmps57
      go_wp2_with fail
      go_still_tail 13, (by kernel_rfl)
      change wpList _ _ _ _ _ w.drew
      go_wp2_with fail
      refine (HA.out l.length (by omega) o1 cp rfl).mono ?_
      rintro e w' ⟨rfl, ow', hF, hk, hfr, hext, hme⟩
      go_wp2_with fail
      first
        | go_end0
        | refine bodyPost_ret (results_none rfl _ _ _) rfl ?_
      refine ⟨rfl, _, ow', by rw [HFIN.out l.length (by omega) (by omega)], ⟨c, (h.keep (w' := w.drew) (Nat.le_refl _) (fun _ _ => rfl)).setFile hk hme hF⟩, Fr.trans ((Fr.refl _ _).drew) hfr, hext⟩
    · have h0' : l.length ≤ 0 := by omega
      go_enter Tryz.func57, Tryz.ntmps57
      go_wp2_with fail
      go_still_tail 13, (by kernel_rfl)
      change wpList _ _ _ _ _ w.drew
      go_wp2_with fail
      refine (HA.out 0 (by omega) o1 cp rfl).mono ?_
      rintro e w' ⟨rfl, ow', hF, hk, hfr, hext, hme⟩
      go_wp2_with fail
      first
        | go_end0
        | refine bodyPost_ret (results_none rfl _ _ _) rfl ?_
      refine ⟨rfl, _, ow', by rw [HFIN.out 0 (by omega) (by omega)], ⟨c, (h.keep (w' := w.drew) (Nat.le_refl _) (fun _ _ => rfl)).setFile hk hme hF⟩, Fr.trans ((Fr.refl _ _).drew) hfr, hext⟩
  · by_cases h0 : 0 < n
    · obtain ⟨k, rfl⟩ := Int.eq_ofNat_of_zero_le (show 0 ≤ n by omega)
      have hk1 : k ≤ l.length := by omega
      have hk0 : 0 < k := by omega
      have hk2 : k ≤ cp := by omega
      have h4 : ((k : Nat) : Int) ≤ cp := by omega
      have h5 : ¬ l.length < k := by omega
      go_enter Tryz.func57, Tryz.ntmps57
      go_wp2_with fail
      go_still_tail 13, (by kernel_rfl)
      change wpList _ _ _ _ _ w.drew
      go_wp2_with fail
      refine (HA.out k (by omega) o1 cp rfl).mono ?_
      rintro e w' ⟨rfl, ow', hF, hk, hfr, hext, hme⟩
      go_wp2_with fail
      first
        | go_end0
        | refine bodyPost_ret (results_none rfl _ _ _) rfl ?_
      refine ⟨rfl, _, ow', by rw [HFIN.out k (by omega) (by omega)], ⟨c, (h.keep (w' := w.drew) (Nat.le_refl _) (fun _ _ => rfl)).setFile hk hme hF⟩, Fr.trans ((Fr.refl _ _).drew) hfr, hext⟩
    · have i1 : (if (l.length : Int) < n then (l.length : Int) else n) = n := if_neg h1
      have i2 : (if 0 < n then n else 0) = 0 := if_neg h0
      go_enter Tryz.func57, Tryz.ntmps57
      go_wp2_with fail
      go_still_tail 13, (by kernel_rfl)
      change wpList _ _ _ _ _ w.drew
      go_wp2_with fail
      refine (HA.out 0 (by omega) o1 cp rfl).mono ?_
      rintro e w' ⟨rfl, ow', hF, hk, hfr, hext, hme⟩
      go_wp2_with fail
      first
        | go_end0
        | refine bodyPost_ret (results_none rfl _ _ _) rfl ?_
      refine ⟨rfl, _, ow', by rw [HFIN.out 0 (by omega) (by omega)], ⟨c, (h.keep (w' := w.drew) (Nat.le_refl _) (fun _ _ => rfl)).setFile hk hme hF⟩, Fr.trans ((Fr.refl _ _).drew) hfr, hext⟩
end Go.Proofs.YtabfcciejhbajaaGreatDoor

namespace Go.Proofs.YtabfcciejhbajaaGreatDoor
open Go Go.RowKit

noncomputable def appendD (nm : ByteArray) (l : List UInt8) (D : ADisk) : ADisk := match D.names nm with
  | some f => { D with file := upd D.file f (addF (D.file f) l) }
  | none => D
theorem appendD_some {nm : ByteArray} {l : List UInt8} {D : ADisk} {f : Nat} (h : D.names nm = some f) : appendD nm l D = { D with file := upd D.file f (addF (D.file f) l) } := by
  unfold appendD; rw [h]
/-- a slice that lies outside the disk -/
def OutOf (ow : Own) (v : Value) : Prop := ∀ a n c, v = .slice (some a) n c → ow a.block = none

set_option maxRecDepth 100000 in
set_option maxHeartbeats 1000000 in
theorem disk_append {w : World} {bd K : Nat} {eb : Er → Addr} {S : Er → Bool} {D : ADisk} {ow : Own} (hD : DiskAt w bd D ow K) (G : Glob w K eb S) (nm : ByteArray) (v : Value) (l : List UInt8) (hv : SliceIs w 1 v l.length (l.map byteV)) (hvo : OutOf ow v)
    (hb : ∀ f, D.names nm = some f → (D.file f).seen.data.length + l.length ≤ maxData) :
    Calls Tryz.prog 29 #[.pointer (some ⟨bd, 0, none⟩), .string nm, v] w fun e w' => e = .returned (erV eb (opE D (goneE D.names nm))) ∧ After bd ow K w (OpR D (goneE D.names nm) true true (fun D D' => D' = appendD nm l D) (fun x D D' => D' = appendD nm (l.take x.toNat) D)) w' := by
  obtain ⟨o1, cp, hv'⟩ := hv.form
  subst hv'
  have HV := Lib.hid hv
  clear hv
  go_enter Tryz.func29, Tryz.ntmps29
  go_wp2_with fail
  have hDA := ((hD.alloc (.cells #[.pointer (some ⟨bd, 0, none⟩)] 28)).alloc (.cells #[.string nm] 9)).alloc (.cells #[.slice o1 l.length cp] 38)
  have hFA : FrO ow w (((w.alloc (.cells #[.pointer (some ⟨bd, 0, none⟩)] 28)).alloc (.cells #[.string nm] 9)).alloc (.cells #[.slice o1 l.length cp] 38)) := (((Fr.refl _ _).alloc _).alloc _).alloc _
  have q0 : (((w.alloc (.cells #[.pointer (some ⟨bd, 0, none⟩)] 28)).alloc (.cells #[.string nm] 9)).alloc (.cells #[.slice o1 l.length cp] 38)).cell? ⟨w.heap.size, 0, none⟩ = some (.pointer (some ⟨bd, 0, none⟩)) := by
    rw [World.cell?_alloc_past _ _ _ (by simp; omega), World.cell?_alloc_past _ _ _ (by simp)]; simp
  have q1 : (((w.alloc (.cells #[.pointer (some ⟨bd, 0, none⟩)] 28)).alloc (.cells #[.string nm] 9)).alloc (.cells #[.slice o1 l.length cp] 38)).cell? ⟨w.heap.size + 1, 0, none⟩ = some (.string nm) := by
    rw [World.cell?_alloc_past _ _ _ (by simp), World.cell?_alloc_at _ _ _ _ (by simp)]; rfl
  have q2 : (((w.alloc (.cells #[.pointer (some ⟨bd, 0, none⟩)] 28)).alloc (.cells #[.string nm] 9)).alloc (.cells #[.slice o1 l.length cp] 38)).cell? ⟨w.heap.size + 2, 0, none⟩ = some (.slice o1 l.length cp) := by
    rw [World.cell?_alloc_at _ _ _ _ (by simp)]; rfl
  have n0 : ow w.heap.size = none := own_none hD (Nat.le_refl _)
  have n1 : ow (w.heap.size + 1) = none := own_none hD (by omega)
  have n2 : ow (w.heap.size + 2) = none := own_none hD (by omega)
  have hsz : (((w.alloc (.cells #[.pointer (some ⟨bd, 0, none⟩)] 28)).alloc (.cells #[.string nm] 9)).alloc (.cells #[.slice o1 l.length cp] 38)).heap.size = w.heap.size + 3 := by simp
  have hKw : K ≤ w.heap.size := G.size
  have hvA := HV.out.fr hFA (fun a n c e => by have := hvo a n c e; simp [Own.has, this])
  have GA := glob_out hD G hFA
  generalize (((w.alloc (.cells #[.pointer (some ⟨bd, 0, none⟩)] 28)).alloc (.cells #[.string nm] 9)).alloc (.cells #[.slice o1 l.length cp] 38)) = wA at *
  clear HV
  generalize w.heap.size = z at *
  have cells : ∀ w3, FrO ow wA w3 → w3.cell? ⟨z, 0, none⟩ = some (.pointer (some ⟨bd, 0, none⟩)) ∧ w3.cell? ⟨z + 1, 0, none⟩ = some (.string nm) ∧ w3.cell? ⟨z + 2, 0, none⟩ = some (.slice o1 l.length cp) ∧ SliceIs w3 1 (.slice o1 l.length cp) l.length (l.map byteV) ∧ K ≤ w3.heap.size := fun w3 hf3 =>
    ⟨(hf3.cell (show z < _ by omega) (by simp [Own.has, n0])).trans q0, (hf3.cell (show z + 1 < _ by omega) (by simp [Own.has, n1])).trans q1, (hf3.cell (show z + 2 < _ by omega) (by simp [Own.has, n2])).trans q2,
     hvA.fr hf3 (fun a n c e => by have := hvo a n c e; simp [Own.has, this]), by have := hf3.size; omega⟩
  have dook : goneE D.names nm = none → ∀ D1 : ADisk, D1.names = D.names → D1.file = D.file → DoOk 55 #[.pointer (some ⟨z, 0, none⟩), .pointer (some ⟨z + 1, 0, none⟩), .pointer (some ⟨z + 2, 0, none⟩)] bd ow K wA D1 (fun D' => D' = appendD nm l D1) := by
    intro hg D1 e1 e2 w3 hf3 hD3
    obtain ⟨c3, hc3⟩ := hD3
    obtain ⟨a0, a1, a2, av, aK⟩ := cells w3 hf3
    cases hq : D.names nm with
    | none => unfold goneE at hg; rw [hq] at hg; cases hg
    | some f =>
      rw [appendD_some (show D1.names nm = some f by rw [e1, hq])]
      exact append_do hc3 aK z (z + 1) (z + 2) nm f (by rw [e1, hq]) _ l a0 a1 a2 av (by rw [e2]; exact hb f hq)
  have partok : goneE D.names nm = none → ∀ x : Int, DoOk 57 (#[.int .i64 x] ++ #[.pointer (some ⟨z, 0, none⟩), .pointer (some ⟨z + 1, 0, none⟩), .pointer (some ⟨z + 2, 0, none⟩)]) bd ow K wA D.tick (fun D' => D' = appendD nm (l.take x.toNat) D.tick) := by
    intro hg x w3 hf3 hD3
    obtain ⟨c3, hc3⟩ := hD3
    obtain ⟨a0, a1, a2, av, aK⟩ := cells w3 hf3
    cases hq : D.names nm with
    | none => unfold goneE at hg; rw [hq] at hg; cases hg
    | some f =>
      rw [appendD_some (show D.tick.names nm = some f from hq)]
      exact append_part hc3 aK x z (z + 1) (z + 2) nm f hq _ l a0 a1 a2 av (hb f hq)
  refine (run_op (k := 53) (kd := 55) (capd := #[.pointer (some ⟨z, 0, none⟩), .pointer (some ⟨z + 1, 0, none⟩), .pointer (some ⟨z + 2, 0, none⟩)]) hDA GA (fun _ _ => by kernel_rfl) (fun _ _ => by kernel_rfl) (goneE D.names nm) true
    (some (57, #[.pointer (some ⟨z, 0, none⟩), .pointer (some ⟨z + 1, 0, none⟩), .pointer (some ⟨z + 2, 0, none⟩)])) (fun p h => by cases h; exact fun _ _ => by kernel_rfl) (fun D D' => D' = appendD nm l D) (fun x D D' => D' = appendD nm (l.take x.toNat) D) ?_ (fun h => dook h _ rfl rfl) (fun h _ => dook h _ rfl rfl) (fun h p e x => by cases e; exact partok h x)).mono ?_
  · intro w1 hf1 hD1
    obtain ⟨c1, hc1⟩ := hD1
    have G1 := glob_out hDA GA hf1
    obtain ⟨a0, a1, a2, av, aK⟩ := cells w1 hf1
    have pc : w1.cell? ⟨bd, 0, none⟩ = some (.map (some c1.bn)) := cell_at hc1.cells 0
    exact append_plan G1 bd c1.bn z (z + 1) (z + 2) nm D.names a0 a1 pc hc1.names
  · rintro e w' ⟨rfl, hA⟩
    go_wp2_with fail
    go_ret
    exact ⟨rfl, hA.head hFA⟩
end Go.Proofs.YtabfcciejhbajaaGreatDoor

namespace Go.Proofs.YtabfcciejhbajaaGreatDoor
open Go Go.RowKit
open Go.ChangeMaps (setBlock)

noncomputable def leftStep (m : ByteArray → Option Nat) (c : AChange) : ByteArray → Option Nat :=
  match c.f with
  | none => if c.src = ByteArray.empty then m else upd m c.src none
  | some f => upd (if c.src = ByteArray.empty then m else upd m c.src none) c.dst (some f)
noncomputable def leftMap (m : ByteArray → Option Nat) (l : List AChange) : ByteArray → Option Nat := l.foldl leftStep m
theorem leftMap_take (m : ByteArray → Option Nat) (l : List AChange) (k : Nat) (h : k < l.length) : leftMap m (l.take (k + 1)) = leftStep (leftMap m (l.take k)) l[k] := by
  unfold leftMap
  rw [List.take_add_one, List.getElem?_eq_getElem h, List.foldl_append]; rfl
theorem chg_cells (fs : List AChange) (k : Nat) (h : k < fs.length) : (fs.flatMap chgCells)[k * 3]? = some (.string fs[k].src) ∧ (fs.flatMap chgCells)[k * 3 + 1]? = some (.string fs[k].dst) ∧ (fs.flatMap chgCells)[k * 3 + 2]? = some (optV fs[k].f) := by
  induction fs generalizing k with
  | nil => simp at h
  | cons f fs ih =>
    cases k with
    | zero => simp [chgCells]
    | succ k =>
      have := ih k (by simpa using h)
      rw [show (k + 1) * 3 = (k * 3) + 1 + 1 + 1 from by omega]
      simpa [chgCells] using this
theorem notEmpty {s : ByteArray} (h : ¬ s = ByteArray.empty) : s.toList.isEmpty = false := by
  cases hq : s.toList.isEmpty with
  | false => rfl
  | true =>
    exfalso; apply h
    have hq' := List.isEmpty_iff.1 hq
    rw [ByteArray.toList_eq] at hq'
    obtain ⟨⟨l⟩⟩ := s
    simp at hq'
    subst hq'
    rfl
theorem chg_after {wr : World} {z : Nat} (src dst : ByteArray) (v : Value) (o2 : Obj) (hz : z < wr.heap.size) : ∃ w5, w5 = setBlock (wr.alloc (.cells #[.string src, .string dst, v] 86)) z o2 ∧ w5.cell? ⟨wr.heap.size, 0, none⟩ = some (.string src) ∧ w5.cell? ⟨wr.heap.size, 1, none⟩ = some (.string dst) ∧ w5.cell? ⟨wr.heap.size, 2, none⟩ = some v ∧ w5.heap.size = wr.heap.size + 1 ∧ Fr (fun b => b = z) wr w5 := by
  have hh : (setBlock (wr.alloc (.cells #[.string src, .string dst, v] 86)) z o2).heap[wr.heap.size]? = some (.cells #[.string src, .string dst, v] 86 (0, 0)) := by
    have hne : ¬ z = wr.heap.size := by omega
    have e1 : (setBlock (wr.alloc (.cells #[.string src, .string dst, v] 86)) z o2).heap[wr.heap.size]? = (wr.alloc (.cells #[.string src, .string dst, v] 86)).heap[wr.heap.size]? := by simp [setBlock, hne]
    rw [e1]
    exact heap_alloc_new _ _
  exact ⟨_, rfl, cell_at hh 0, cell_at hh 1, cell_at hh 2, by simp [setBlock], ((Fr.refl (fun b => b = z) _).alloc _).setBlock (fun _ => rfl) _⟩
/-- what a loop that copies a map has copied -/
def CopiedM {κ α : Type} (s m : κ → Option α) (todo : κ → Prop) : Prop := ∀ k, (todo k → m k = none) ∧ (¬ todo k → m k = s k)

set_option maxRecDepth 100000 in
set_option maxHeartbeats 1000000 in
theorem disk_left (w : World) (bd bs : Nat) (s : ByteArray → Option Nat) (l : List AChange) (v : Value) (n p : Int) (k0 : Nat)
    (c1 : w.cell? ⟨bd, 1, none⟩ = some (.map (some bs))) (c2 : w.cell? ⟨bd, 2, none⟩ = some v) (hm : MapAt strE fileV w bs s) (hv : w.ownsRow 0 86 3 v l.length (l.flatMap chgCells))
    (hl : l.length ≤ 1000000000000) (i1 : (if (l.length : Int) < n then (l.length : Int) else n) = p) (i2 : (if 0 < p then p else 0) = (k0 : Int)) (hk0 : k0 ≤ l.length) :
    Calls Tryz.prog 50 #[.pointer (some ⟨bd, 0, none⟩), .int .i64 n] w fun e w' => ∃ b', e = .returned (.map (some b')) ∧ MapAt strE fileV w' b' (leftMap s (l.take k0)) ∧ w.heap.size ≤ b' ∧ Fr (fun _ => False) w w' := by
  have hmm := @run_makeMap Tryz.prog
  have HB := Lib.hid hm
  have HV := Lib.hid hv
  have HC2 := Lib.hid c2
  have I1 := Lib.hid i1
  have I2 := Lib.hid i2
  have l0 := World.block_lt_of_cell? _ _ c1
  simp only at l0
  clear hm hv c2 i1 i2
  go_enter Tryz.func50, Tryz.ntmps50
  have hb1 : ∀ o : Obj, MapAt strE fileV (w.alloc o) bs s := fun o => HB.out.of_block (heap_alloc_old _ _ HB.out.lt)
  have HB1 := Lib.hid hb1
  have hbl := HB.out.lt
  clear hb1
  go_wp2_with (at_range; refine wpl_rangeAt (E := strE) (V := fileV) (w.heap.size + 1) (by simp) rfl (.tmp 14) rfl (HB1.out _) Tryz.underlying50 rfl ?_; intro cl n0 hit0)
  go_frame
  go_loopw [6, 7] (fun _ _ wr => ∃ todo m cnt, IterAt strE fileV wr (w.heap.size + 1) bs s todo cnt ∧ MapAt strE fileV wr w.heap.size m ∧ CopiedM s m todo ∧ Fr (fun _ => False) w wr) (fun _ _ wr => iterLeft wr bs (w.heap.size + 1))
  case atStart =>
    refine ⟨_, fun _ => none, n0, hit0, ?_, fun k => ⟨fun _ => rfl, fun h => by cases hk : s k with
      | none => rfl
      | some v => simp [hk] at h⟩, ((Fr.refl _ _).alloc _).alloc _⟩
    refine (MapAt.made w).of_block ?_
    rw [heap_alloc_old _ _ (by simp)]
  case round =>
    obtain ⟨todo, m, cnt, hit, hmr, hC, hF⟩ := hrel
    have HC := Lib.hid hC
    have HF := Lib.hid hF
    have HM := Lib.hid hmr
    have HI := Lib.hid hit
    have hsz := hit.lt
    clear hC hF hmr hit
    go_wp2_with (at_next; refine wpl_next (E := strE) (V := fileV) rfl (.tmp 15) rfl HI.out rfl ?_ ?_)
    · intro hdone
      have hmb : m = s := funext fun k => (HC.out k).2 (hdone k)
      subst hmb
      clear hdone
      have w2 : wr.cell? ⟨bd, 2, none⟩ = some v := (HF.out.cell (World.block_lt_of_cell? _ _ HC2.out) (fun h => h)).trans HC2.out
      have hbd : bd < wr.heap.size := by omega
      have hvr : wr.ownsRow 0 86 3 v l.length (l.flatMap chgCells) := ownsRow_keep HV.out (fun g hg => HF.out.block g (HV.out.lt g hg).2 (fun h => h))
      obtain ⟨o, cap, rfl, hcap⟩ : ∃ o c, v = .slice o l.length c ∧ l.length ≤ c := by
        rcases HV.out.2 with ⟨q, q'⟩ | ⟨g, cap, cur, q, _, _, hnc, _⟩
        · exact ⟨none, 0, by rw [q, q'], by omega⟩
        · exact ⟨_, _, q, hnc⟩
      have hkc : ((k0 : Nat) : Int) ≤ cap := by omega
      have i1 := I1.out
      have i2 := I2.out
      have HVR := Lib.hid hvr
      clear hvr
      go_wp2_with fail
      go_quiet (fail)
      go_wp2_with fail
      have hm0 := HM.out
      have hF0 := Lib.hid HF.out
      have HMM := Lib.hid HM.out
      clear HM HI HC hm0 hmm HB1 HB HC2 I1 I2 i1 i2 w2 hit0
      have np := neq_ptr
      have nn := neq_nilptr
      clear HF
      go_loopw [38] (fun i wq => ∃ k : Nat, k ≤ k0 ∧ i = .int .i64 k ∧ MapAt strE fileV wq w.heap.size (leftMap m (l.take k)) ∧ Fr (fun _ => False) w wq) (fun i _ => k0 - (intOf i).toNat)
      case atStart => exact ⟨0, Nat.zero_le _, rfl, by simpa [leftMap] using (HMM.out.of_block (w' := wr.drewN nq) rfl), hF0.out.drewN _⟩
      case round =>
        obtain ⟨k, hk, rfl, hmk, hF⟩ := hrel
        have HK := Lib.hid hmk
        have HF := Lib.hid hF
        clear hF hmk
        by_cases hlt : k < k0
        · obtain ⟨g, rfl⟩ : ∃ g, o = some ⟨g, 0, none⟩ := by
            rcases HV.out.2 with ⟨q, q'⟩ | ⟨g, cap', cur, q, _⟩
            · omega
            · injection q with q1 q2 q3; exact ⟨g, q1⟩
          have hkl : k < l.length := by omega
          have hc1 := (HV.out.cellAt (k * 3) (by omega)).trans (chg_cells l k hkl).1
          have hc2 := (HV.out.cellAt (k * 3 + 1) (by omega)).trans (chg_cells l k hkl).2.1
          have hc3 := (HV.out.cellAt (k * 3 + 2) (by omega)).trans (chg_cells l k hkl).2.2
          have g1 := (HF.out.cell (World.block_lt_of_cell? _ _ hc1) (fun h => h)).trans hc1
          have g2 := (HF.out.cell (World.block_lt_of_cell? _ _ hc2) (fun h => h)).trans hc2
          have g3 := (HF.out.cell (World.block_lt_of_cell? _ _ hc3) (fun h => h)).trans hc3
          have hstep := Lib.hid (leftMap_take m l k hkl)
          clear hc1 hc2 hc3
          generalize l[k] = ch at *
          obtain ⟨src, dst, cf⟩ := ch
          have hwl := HK.out.lt
          have HK2 := Lib.hid (fun o : Obj => (HK.out.of_block (heap_alloc_old _ _ hwl) : MapAt strE fileV (wr.alloc o) w.heap.size (leftMap m (l.take k))))
          have ge1 : wr.cell? ⟨g, k * 3, none⟩ = some (.string src) := g1
          have ge2 : wr.cell? ⟨g, k * 3 + 1, none⟩ = some (.string dst) := g2
          have HCF := Lib.hid HF
          clear g1 g2
          rcases cf with _ | fb
          · have ge3 : wr.cell? ⟨g, k * 3 + 2, none⟩ = some (.pointer none) := g3
            clear g3
            by_cases he : src = ByteArray.empty
            · have hR : leftMap m (l.take (k + 1)) = leftMap m (l.take k) := by rw [hstep.out]; unfold leftStep; simp [he]
              have HR := Lib.hid hR
              clear hR
              subst he
              go_wp2_with fail
              refine ⟨⟨k + 1, by omega, by go_num, by rw [HR.out]; exact HK2.out _, HF.out.alloc _⟩, by simp [intOf]; omega⟩
            · have hR : leftMap m (l.take (k + 1)) = upd (leftMap m (l.take k)) src none := by rw [hstep.out]; unfold leftStep; simp [he]
              have HR := Lib.hid hR
              clear hR
              have hs : src.toList.isEmpty = false := notEmpty he
              have HS5 := Lib.hid (fun o2 => chg_after (wr := wr) (z := w.heap.size) src dst (.pointer none) o2 hwl)
              go_wp2_with (at_delete; refine wpl_delete (E := strE) (V := fileV) rfl (.tmp 45) (.tmp 47) rfl (HK2.out _) Tryz.underlying50 Tryz.underlying9 src rfl rfl ?_; intro o2 hm2; obtain ⟨w5, hw5, e0, e1, e2, hz5, hf5⟩ := HS5.out o2; rw [← hw5] at hm2 ⊢; have HM5 := Lib.hid hm2; have HF5 := Lib.hid hf5; clear hw5 hm2 hf5 HS5)
              refine ⟨⟨k + 1, by omega, by go_num, by rw [HR.out]; exact HM5.out, Fr.trans' HF.out HF5.out (fun i hi e => by omega)⟩, by simp [intOf]; omega⟩
          · have ge3 : wr.cell? ⟨g, k * 3 + 2, none⟩ = some (.pointer (some ⟨fb, 0, none⟩)) := g3
            clear g3
            by_cases he : src = ByteArray.empty
            · have hR : leftMap m (l.take (k + 1)) = upd (leftMap m (l.take k)) dst (some fb) := by rw [hstep.out]; unfold leftStep; simp [he]
              have HR := Lib.hid hR
              clear hR
              subst he
              go_wp2_with (at_mapUpdate; refine wpl_mapUpdate (E := strE) (V := fileV) rfl (.tmp 51) (.tmp 53) (.tmp 55) rfl (HK2.out _) Tryz.underlying50 Tryz.underlying9 dst fb rfl rfl rfl ?_; intro o3 hm3; go_frame)
              refine ⟨⟨k + 1, by omega, by go_num, by rw [HR.out]; exact hm3, (HF.out.alloc _).setBlock (fun h => by omega) _⟩, by simp [intOf]; omega⟩
            · have hR : leftMap m (l.take (k + 1)) = upd (upd (leftMap m (l.take k)) src none) dst (some fb) := by rw [hstep.out]; unfold leftStep; simp [he]
              have HR := Lib.hid hR
              clear hR
              have hs : src.toList.isEmpty = false := notEmpty he
              have HS5 := Lib.hid (fun o2 => chg_after (wr := wr) (z := w.heap.size) src dst (.pointer (some ⟨fb, 0, none⟩)) o2 hwl)
              go_wp2_with (first | (at_delete; refine wpl_delete (E := strE) (V := fileV) rfl (.tmp 45) (.tmp 47) rfl (HK2.out _) Tryz.underlying50 Tryz.underlying9 src rfl rfl ?_; intro o2 hm2; obtain ⟨w5, hw5, e0, e1, e2, hz5, hf5⟩ := HS5.out o2; rw [← hw5] at hm2 ⊢; have HM5 := Lib.hid hm2; have HF5 := Lib.hid hf5; clear hw5 hm2 hf5 HS5) | (at_mapUpdate; refine wpl_mapUpdate (E := strE) (V := fileV) rfl (.tmp 51) (.tmp 53) (.tmp 55) rfl HM5.out Tryz.underlying50 Tryz.underlying9 dst fb rfl rfl rfl ?_; intro o3 hm3; go_frame))
              refine ⟨⟨k + 1, by omega, by go_num, by rw [HR.out]; exact hm3, (Fr.trans' HF.out HF5.out (fun i hi e => by omega)).setBlock (fun h => by omega) _⟩, by simp [intOf]; omega⟩
        · have hkk : k = k0 := by omega
          subst hkk
          go_wp2_with fail
          go_ret
          exact ⟨_, rfl, HK.out, Nat.le_refl _, HF.out⟩
    · intro k v w1 cnt1 htodo hbad hit1 hlt1 hfr1 hsz1 hent
      have hm1 : MapAt strE fileV w1 w.heap.size m := HM.out.of_block (hfr1.block _ (by omega) (by omega))
      have HH := Lib.hid hit1
      have HL := Lib.hid hlt1
      have HF1 := Lib.hid hfr1
      have HBad := Lib.hid hbad
      have HT := Lib.hid htodo
      have HM1 := Lib.hid hm1
      clear hm1 hit1 hlt1 hfr1 hsz1 hbad htodo
      go_wp2_with (at_mapUpdate; refine wpl_mapUpdate (E := strE) (V := fileV) rfl (.tmp 21) (.tmp 22) (.tmp 23) rfl HM1.out Tryz.underlying50 Tryz.underlying9 k v rfl rfl rfl ?_; intro o2 hm2; go_frame)
      have hne : w.heap.size + 1 ≠ w.heap.size := by omega
      have hbn : bs ≠ w.heap.size := by omega
      have hsame : ∀ i, i ≠ w.heap.size → (setBlock w1 w.heap.size o2).heap[i]? = w1.heap[i]? := fun i hi => by simp [setBlock, hi.symm]
      have hit2 := HH.out.of_blocks (hsame bs hbn) (hsame _ hne)
      have hFr1 : Fr (fun _ => False) w w1 := Fr.trans' HF.out HF1.out (fun i hi e => by omega)
      refine ⟨⟨_, _, cnt1, hit2, hm2, fun x => ⟨fun hx => ?_, fun hx => ?_⟩, hFr1.setBlock (fun h => by omega) _⟩, ?_⟩
      · show upd m k (some v) x = none
        rw [upd_ne _ _ hx.2]; exact (HC.out x).1 hx.1
      · show upd m k (some v) x = s x
        rcases upd_at m k x (some v) with ⟨rfl, q⟩ | ⟨q, q'⟩
        · rw [q, HBad.out]
        · rw [q']; exact (HC.out x).2 (fun ht => hx ⟨ht, q⟩)
      · rw [hit2.left_eq, HI.out.left_eq]; exact HL.out
end Go.Proofs.YtabfcciejhbajaaGreatDoor
