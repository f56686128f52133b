/-
  (*Disk).Truncate: its deed. Conditions: the disk lies in memory as DiskAt says.
  (*Disk).Truncate, whole. Conditions: the disk lies in memory as DiskAt says.
  slices.Sort at a row of ints that the call owns; sets of small numbers as lists. Conditions: the row is owned.
  plain: a file as an image has it. Conditions: the side's parts are known; its bad sectors' numbers are small.
  (*Disk).Read. Conditions: the disk lies in memory as DiskAt says.
  (*Disk).Ops, Down, Arm. Conditions: the disk lies in memory as DiskAt says.
-/
import Derived.Test.YtdfnaphkppphkaaGreatDoorM08
import Derived.Test.YtdfnaphkppphkaaGreatDoorPlain
import Derived.Sort.OwnSortedInts
namespace Go.Proofs.YtdfnaphkppphkaaGreatDoor
open Go Go.RowKit
open Go.ChangeMaps (setBlock)

theorem wf_small {m : Int → Option Unit} {n : Nat} (h : ∀ k, m k ≠ none → 0 ≤ k ∧ k * 512 < n) (hn : n ≤ maxData) : ∀ k, m k ≠ none → 0 ≤ k ∧ k ≤ 1099511627776 := fun k hk => by
  have := h k hk
  unfold maxData at hn
  omega
theorem int_min {len : Nat} {n : Int} (h : 0 ≤ n) : (if (len : Int) < n then (len : Int) else n) = ((min n.toNat len : Nat) : Int) := by
  split <;> omega

set_option maxRecDepth 100000 in
set_option maxHeartbeats 1000000 in
theorem trunc_do {w : World} {bd K : Nat} {D : ADisk} {ow : Own} {c : DCells} (h : DiskIs w bd D ow K c) (q0 q1 q2 : Nat) (nm : ByteArray) (n : Int) (hn : 0 ≤ n) (f : Nat) (hf : D.names nm = some f)
    (b0 : w.cell? ⟨q0, 0, none⟩ = some (.pointer (some ⟨bd, 0, none⟩))) (b1 : w.cell? ⟨q1, 0, none⟩ = some (.string nm)) (b2 : w.cell? ⟨q2, 0, none⟩ = some (.int .i64 n)) (n2 : ow q2 = none) :
    Calls Tryz.prog 73 #[.pointer (some ⟨q0, 0, none⟩), .pointer (some ⟨q1, 0, none⟩), .pointer (some ⟨q2, 0, none⟩)] w fun e w' => e = .returned (.tuple #[]) ∧ After bd ow K w (fun D' => D' = { D with file := upd D.file f (truncF n (D.file f)) }) w' := by
  have c0 : w.cell? ⟨bd, 0, none⟩ = some (.map (some c.bn)) := cell_at h.cells 0
  have hl := look_some h.names hf
  have hl2 := fun (n : Nat) => look_some (w := w.drewN n) (h.names.of_block rfl) hf
  have hff := h.inNames nm f hf
  have hfl := (h.lt _ _ hff).2
  obtain ⟨cf, hc⟩ := h.files f hff
  obtain ⟨bw, hv5, how, hmw⟩ := hc.waits
  obtain ⟨bb, hv2, hob, hmb⟩ := hc.seen.bad
  obtain ⟨bb2, hv4, hob2, hmb2⟩ := hc.safe.bad
  have hbwl := (h.lt _ _ how).2
  have hbl := (h.lt _ _ hob).2
  have hbl2 := (h.lt _ _ hob2).2
  have hq2l := World.block_lt_of_cell? _ _ b2
  simp only at hq2l
  obtain ⟨o1, cap1, hv1⟩ := (ownsRow_slice hc.seen.data.row).form
  obtain ⟨o2, cap2, hv3⟩ := (ownsRow_slice hc.safe.data.row).form
  have hlc1 : (D.file f).seen.data.length ≤ cap1 := by
    rcases hc.seen.data.row.2 with ⟨q, q'⟩ | ⟨g, cap', cur, q, _, _, q1, _⟩
    · omega
    · rw [hv1] at q; injection q with _ _ q3; omega
  have hlc2 : (D.file f).safe.data.length ≤ cap2 := by
    rcases hc.safe.data.row.2 with ⟨q, q'⟩ | ⟨g, cap', cur, q, _, _, q1, _⟩
    · omega
    · rw [hv3] at q; injection q with _ _ q3; omega
  have nn : ∀ {b b' : Nat} {r r' : Role}, ow b = some r → ow b' = some r' → r ≠ r' → b ≠ b' := fun h1 h2 hr e => by rw [e, h2] at h1; cases h1; exact hr rfl
  have x1 := nn hff hob (by simp)
  have x2 := nn hff hob2 (by simp)
  have x3 := nn hff how (by simp)
  have x4 := nn hob hob2 (by simp)
  have x5 := nn hob how (by simp)
  have x6 := nn hob2 how (by simp)
  have y1 : q2 ≠ f := fun e => by rw [e, hff] at n2; cases n2
  have y2 : q2 ≠ bb := fun e => by rw [e, hob] at n2; cases n2
  have y3 : q2 ≠ bb2 := fun e => by rw [e, hob2] at n2; cases n2
  have y4 : q2 ≠ bw := fun e => by rw [e, how] at n2; cases n2
  have hcells := hc.cells
  rw [hv1, hv2, hv3, hv4, hv5] at hcells
  obtain ⟨m1, hm1⟩ : ∃ m, m = min n.toNat (D.file f).seen.data.length := ⟨_, rfl⟩
  obtain ⟨m2, hm2⟩ : ∃ m, m = min n.toNat (D.file f).safe.data.length := ⟨_, rfl⟩
  have C1 := Lib.hid (fun (w1 : World) (e : w1.heap = w.heap) => side_cutTo w1 f 1 bb #[.int .i64 (D.file f).born, .slice o1 (D.file f).seen.data.length cap1, .map (some bb), .slice o2 (D.file f).safe.data.length cap2, .map (some bb2), .map (some bw)] 88 o1 (D.file f).seen.data.length cap1 m1 n (D.file f).seen.bad (by rw [e]; exact hcells) rfl rfl (hmb.of_block (by rw [e])) x1 hlc1 (by omega) (hm1 ▸ int_min hn) (wf_small hc.wf.seen.bad hc.wf.seen.len))
  have C2 := Lib.hid (fun (w1 : World) (e : w1.heap[f]? = some (.cells #[.int .i64 (D.file f).born, .slice o1 m1 cap1, .map (some bb), .slice o2 (D.file f).safe.data.length cap2, .map (some bb2), .map (some bw)] 88 (0, 0))) (e2 : MapAt intE unitV w1 bb2 (D.file f).safe.bad) =>
    side_cutTo w1 f 3 bb2 _ _ o2 (D.file f).safe.data.length cap2 m2 n (D.file f).safe.bad e rfl rfl e2 x2 hlc2 (by omega) (hm2 ▸ int_min hn) (wf_small hc.wf.safe.bad hc.wf.safe.len))
  have HK := Lib.hid (wf_small hc.wf.waits hc.wf.seen.len)
  have HM := Lib.hid (fun (w' : World) => trunc_mem (w' := w') (n := n) h hff hc hv1 hv2 hv3 hv4 hv5 hm1 hm2)
  have MW := Lib.hid hmw
  have MB2 := Lib.hid hmb2
  clear hc hmw hmb hmb2 hv1 hv2 hv3 hv4 hv5 how hob hob2 hff h hm1 hm2 hcells nn hlc1 hlc2
  go_enter Tryz.func73, Tryz.ntmps73
  go_wp2_with fail
  go_quiet (fail)
  have z2 : (w.drewN nq).cell? ⟨q2, 0, none⟩ = some (.int .i64 n) := b2
  have Z1 := Lib.hid (C1.out (w.drewN nq).drew rfl)
  have ZF := Lib.hid (show Fr (fun i => i = f ∨ i = bb) w (w.drewN nq).drew from ((Fr.refl _ _).drewN nq).drew)
  clear C1 hl hl2 c0
  generalize w.drewN nq = w0 at *
  go_wp2_with fail
  go_still_tail 4, (by kernel_rfl)
  change wpList _ _ _ _ _ w0.drew
  go_wp2_with fail
  refine Z1.out.mono ?_
  rintro e w1 ⟨rfl, hx1, hs1, hf1⟩
  have hx1' : w1.heap[f]? = some (.cells #[.int .i64 (D.file f).born, .slice o1 m1 cap1, .map (some bb), .slice o2 (D.file f).safe.data.length cap2, .map (some bb2), .map (some bw)] 88 (0, 0)) := hx1
  have hF1 : Fr (fun i => i = f ∨ i = bb) w w1 := Fr.trans ZF.out hf1
  have r2 : w1.cell? ⟨q2, 0, none⟩ = some (.int .i64 n) := (hF1.cell hq2l (by simp; exact ⟨y1, y2⟩)).trans b2
  have HX1 := Lib.hid hx1'
  have HS1 := Lib.hid hs1
  have HF1 := Lib.hid hF1
  clear hx1 hx1' hs1 hf1 hF1 z2 Z1 ZF
  go_wp2_with fail
  go_still_tail 4, (by kernel_rfl)
  change wpList _ _ _ _ _ w1.drew
  go_wp2_with fail
  refine (C2.out w1.drew HX1.out (MB2.out.of_block (w' := w1.drew) (HF1.out.block bb2 hbl2 (by simp; exact ⟨Ne.symm x2, Ne.symm x4⟩)))).mono ?_
  rintro e w2 ⟨rfl, hx2, hs2, hf2⟩
  have hx2' : w2.heap[f]? = some (.cells #[.int .i64 (D.file f).born, .slice o1 m1 cap1, .map (some bb), .slice o2 m2 cap2, .map (some bb2), .map (some bw)] 88 (0, 0)) := hx2
  have hF2 : Fr (fun i => i = f ∨ i = bb ∨ i = bb2) w w2 := Fr.trans' (HF1.out.drew.mono (fun i _ e => by rcases e with e | e; exact .inl e; exact .inr (.inl e))) hf2 (fun i _ e => by rcases e with e | e; exact .inl e; exact .inr (.inr e))
  have r2 : w2.cell? ⟨q2, 0, none⟩ = some (.int .i64 n) := (hF2.cell hq2l (by simp; exact ⟨y1, y2, y3⟩)).trans b2
  have r5 : w2.cell? ⟨f, 5, none⟩ = some (.map (some bw)) := cell_at hx2' 5
  have hs1' : MapAt intE unitV w2 bb (cutSet n (D.file f).seen.bad) := HS1.out.of_block ((hf2.block bb (by have := HF1.out.size; simp; omega) (by simp; exact ⟨Ne.symm x1, x4⟩)))
  have hmw' : MapAt intE unitV w2 bw (D.file f).waits := MW.out.of_block (hF2.block bw hbwl (by simp; exact ⟨Ne.symm x3, Ne.symm x5, Ne.symm x6⟩))
  have HX2 := Lib.hid hx2'
  have HS1 := Lib.hid hs1'
  have HS2 := Lib.hid hs2
  have HF2 := Lib.hid hF2
  have HW2 := Lib.hid hmw'
  have hz2 := hF2.size
  clear hx2 hx2' hs1' hs2 hf2 hF2 hmw' C2 MW MB2 HX1 HF1
  go_wp2_with (at_range; refine wpl_rangeAt (E := intE) (V := unitV) w2.heap.size rfl rfl (.tmp 24) rfl HW2.out Tryz.underlying84 rfl ?_; intro cl cnt0 hit0)
  have HX := Lib.hid (fun ob : Obj => (heap_alloc_old w2 ob (show f < w2.heap.size by omega)).trans HX2.out)
  have HFA := Lib.hid (fun ob : Obj => HF2.out.alloc ob)
  have HI0 := Lib.hid hit0
  have HB1 := Lib.hid (fun ob : Obj => HS1.out.of_block (heap_alloc_old w2 ob HS1.out.lt))
  have HB2 := Lib.hid (fun ob : Obj => HS2.out.of_block (heap_alloc_old w2 ob HS2.out.lt))
  clear hit0
  go_frame
  go_loopw [4] (fun _ wr => ∃ todo mm cnt, IterAt intE unitV wr w2.heap.size bw mm todo cnt ∧ CutLoop n (D.file f).waits mm todo ∧ wr.heap[f]? = some (.cells #[.int .i64 (D.file f).born, .slice o1 m1 cap1, .map (some bb), .slice o2 m2 cap2, .map (some bb2), .map (some bw)] 88 (0, 0)) ∧
      MapAt intE unitV wr bb (cutSet n (D.file f).seen.bad) ∧ MapAt intE unitV wr bb2 (cutSet n (D.file f).safe.bad) ∧ Fr (fun i => i = f ∨ i = bb ∨ i = bb2 ∨ i = bw) w wr) (fun _ wr => iterLeft wr bw w2.heap.size)
  case atStart =>
    refine ⟨_, _, cnt0, HI0.out, fun k => ⟨fun _ => rfl, fun h => ?_⟩, HX.out _, HB1.out _, HB2.out _, (HFA.out _).mono (fun i _ e => by rcases e with e | e | e; exact .inl e; exact .inr (.inl e); exact .inr (.inr (.inl e)))⟩
    have : (D.file f).waits k = none := by simpa using h
    unfold cutSet; rw [this]; split <;> rfl
  case round =>
    obtain ⟨todo, mm, cnt, hit, hC, hx, hs1, hs2, hF⟩ := hrel
    have HC := Lib.hid hC
    have HF := Lib.hid hF
    have HXX := Lib.hid hx
    have HI := Lib.hid hit
    have HS1 := Lib.hid hs1
    have HS2 := Lib.hid hs2
    clear hC hF hx hit hs1 hs2 HX HFA HI0 HB1 HB2 HX2 HF2 HW2
    go_wp2_with (at_next; refine wpl_next (E := intE) (V := unitV) rfl (.tmp 25) rfl HI.out rfl ?_ ?_)
    · intro hdone
      have hmb : mm = cutSet n (D.file f).waits := funext fun k => (HC.out k).2 (hdone k)
      clear hdone
      go_wp2_with fail
      first
        | go_end0
        | refine bodyPost_ret (results_none rfl _ _ _) rfl ?_
      exact ⟨rfl, HM.out wr HXX.out HS1.out HS2.out (hmb ▸ HI.out.mapAt) HF.out⟩
    · intro k v w1 cnt1 htodo hbad hit1 hlt1 hfr1 hsz1 hent
      simp only [intE_enc] at hent ⊢
      have hbk : (D.file f).waits k = some v := ((HC.out k).1 htodo).symm.trans hbad
      obtain ⟨k0, k1⟩ := HK.out k (by rw [hbk]; simp)
      have hsz := HF.out.size
      have hil := HI.out.lt
      have hx1 : w1.heap[f]? = _ := (hfr1.block f (by omega) (show ¬ f = w2.heap.size by omega)).trans HXX.out
      have r5 : w1.cell? ⟨f, 5, none⟩ = some (.map (some bw)) := cell_at hx1 5
      have hFr : Fr (fun i => i = f ∨ i = bb ∨ i = bb2 ∨ i = bw) w w1 := Fr.trans' HF.out hfr1 (fun i hi e => by have : i = w2.heap.size := e; omega)
      have r2 : w1.cell? ⟨q2, 0, none⟩ = some (.int .i64 n) := (hFr.cell hq2l (by simp; exact ⟨y1, y2, y3, y4⟩)).trans b2
      have hs1' := HS1.out.of_block (w' := w1) (hfr1.block bb HS1.out.lt (show ¬ bb = w2.heap.size by omega))
      have hs2' := HS2.out.of_block (w' := w1) (hfr1.block bb2 HS2.out.lt (show ¬ bb2 = w2.heap.size by omega))
      have HB1 := Lib.hid hs1'
      have HB2 := Lib.hid hs2'
      have HFR := Lib.hid hFr
      have HH := Lib.hid hit1
      have HL := Lib.hid hlt1
      have HT := Lib.hid htodo
      have HX1 := Lib.hid hx1
      have HBK := Lib.hid hbk
      clear hit1 hlt1 hfr1 hsz1 htodo hx1 hbad hbk hs1' hs2' hFr
      have hwk : IntKind.i64.wrap (k * 512) = k * 512 := IntWalk.i64_in _ (by omega)
      by_cases hge : n ≤ k * 512
      · go_wp2_with (at_delete; refine wpl_delete_iter (E := intE) (V := unitV) rfl (.tmp 37) (.tmp 38) rfl HH.out Tryz.underlying84 Tryz.underlying3 k (fun h => h.2 rfl) rfl rfl ?_; intro o2' n2' hn2 hit2; have HN2 := Lib.hid hn2; have HI2 := Lib.hid hit2; clear hn2 hit2; go_frame)
        have hsame : ∀ i, i ≠ bw → (setBlock w1 bw o2').heap[i]? = w1.heap[i]? := fun i hi => by simp [setBlock, hi.symm]
        refine ⟨⟨_, _, n2', HI2.out, fun x => ⟨fun hx => ?_, fun hx => ?_⟩, ?_, HB1.out.of_block (hsame _ x5), HB2.out.of_block (hsame _ x6), ?_⟩, ?_⟩
        · rw [upd_ne _ _ hx.2]; exact (HC.out x).1 hx.1
        · rcases upd_at mm k x (none : Option Unit) with ⟨rfl, q⟩ | ⟨q, q'⟩
          · rw [q]; unfold cutSet; rw [if_pos hge]
          · rw [q']; exact (HC.out x).2 (fun ht => hx ⟨ht, q⟩)
        · exact (hsame f x3).trans HX1.out
        · exact HFR.out.setBlock (fun _ => .inr (.inr (.inr rfl))) _
        · rw [HI2.out.left_eq, HI.out.left_eq]; have := HN2.out; have := HL.out; omega
      · go_wp2_with fail
        refine ⟨⟨_, mm, cnt1, HH.out, fun x => ⟨fun hx => (HC.out x).1 hx.1, fun hx => ?_⟩, HX1.out, HB1.out, HB2.out, HFR.out⟩, ?_⟩
        · by_cases q : x = k
          · subst q; unfold cutSet; rw [if_neg hge]; exact (HC.out x).1 HT.out
          · exact (HC.out x).2 (fun ht => hx ⟨ht, q⟩)
        · rw [HH.out.left_eq, HI.out.left_eq]; exact HL.out
end Go.Proofs.YtdfnaphkppphkaaGreatDoor

namespace Go.Proofs.YtdfnaphkppphkaaGreatDoor
open Go Go.RowKit

noncomputable def truncD (nm : ByteArray) (n : Int) (D : ADisk) : ADisk := match D.names nm with
  | some f => { D with file := upd D.file f (truncF n (D.file f)) }
  | none => D
theorem truncD_some {nm : ByteArray} {n : Int} {D : ADisk} {f : Nat} (h : D.names nm = some f) : truncD nm n D = { D with file := upd D.file f (truncF n (D.file f)) } := by
  unfold truncD; rw [h]
theorem truncE_none {D : ADisk} {nm : ByteArray} {n : Int} (h : truncE D nm n = none) : ∃ f, D.names nm = some f ∧ 0 ≤ n ∧ n.tmod 512 = 0 ∧ n ≤ (D.file f).seen.data.length := by
  unfold truncE at h
  cases hq : D.names nm with
  | none => rw [hq] at h; cases h
  | some f =>
    rw [hq] at h
    simp only at h
    split at h
    · cases h
    · rename_i hx
      refine ⟨f, rfl, by omega, ?_, by omega⟩
      by_cases q : n.tmod 512 = 0
      · exact q
      · exact absurd (.inr (.inl q)) hx

set_option maxRecDepth 100000 in
set_option maxHeartbeats 1000000 in
theorem disk_truncate {w : World} {bd K : Nat} {eb : Er → Addr} {S : Er → Bool} {D : ADisk} {ow : Own} (hD : DiskAt w bd D ow K) (G : Glob w K eb S) (nm : ByteArray) (n : Int) :
    Calls Tryz.prog 38 #[.pointer (some ⟨bd, 0, none⟩), .string nm, .int .i64 n] w fun e w' => e = .returned (erV eb (opE D (truncE D nm n))) ∧ After bd ow K w (OpR D (truncE D nm n) false false (fun D D' => D' = truncD nm n D) (fun _ _ _ => False)) w' := by
  go_enter Tryz.func38, Tryz.ntmps38
  go_wp2_with fail
  have hDA := ((hD.alloc (.cells #[.pointer (some ⟨bd, 0, none⟩)] 27)).alloc (.cells #[.string nm] 9)).alloc (.cells #[.int .i64 n] 3)
  have hFA : FrO ow w (((w.alloc (.cells #[.pointer (some ⟨bd, 0, none⟩)] 27)).alloc (.cells #[.string nm] 9)).alloc (.cells #[.int .i64 n] 3)) := (((Fr.refl _ _).alloc _).alloc _).alloc _
  have q0 : (((w.alloc (.cells #[.pointer (some ⟨bd, 0, none⟩)] 27)).alloc (.cells #[.string nm] 9)).alloc (.cells #[.int .i64 n] 3)).cell? ⟨w.heap.size, 0, none⟩ = some (.pointer (some ⟨bd, 0, none⟩)) := by
    rw [World.cell?_alloc_past _ _ _ (by simp; omega), World.cell?_alloc_past _ _ _ (by simp)]; simp
  have q1 : (((w.alloc (.cells #[.pointer (some ⟨bd, 0, none⟩)] 27)).alloc (.cells #[.string nm] 9)).alloc (.cells #[.int .i64 n] 3)).cell? ⟨w.heap.size + 1, 0, none⟩ = some (.string nm) := by
    rw [World.cell?_alloc_past _ _ _ (by simp), World.cell?_alloc_at _ _ _ _ (by simp)]; rfl
  have q2 : (((w.alloc (.cells #[.pointer (some ⟨bd, 0, none⟩)] 27)).alloc (.cells #[.string nm] 9)).alloc (.cells #[.int .i64 n] 3)).cell? ⟨w.heap.size + 2, 0, none⟩ = some (.int .i64 n) := by
    rw [World.cell?_alloc_at _ _ _ _ (by simp)]; rfl
  have n0 : ow w.heap.size = none := own_none hD (Nat.le_refl _)
  have n1 : ow (w.heap.size + 1) = none := own_none hD (by omega)
  have n2 : ow (w.heap.size + 2) = none := own_none hD (by omega)
  have hsz : (((w.alloc (.cells #[.pointer (some ⟨bd, 0, none⟩)] 27)).alloc (.cells #[.string nm] 9)).alloc (.cells #[.int .i64 n] 3)).heap.size = w.heap.size + 3 := by simp
  have hKw : K ≤ w.heap.size := G.size
  have GA := glob_out hD G hFA
  generalize (((w.alloc (.cells #[.pointer (some ⟨bd, 0, none⟩)] 27)).alloc (.cells #[.string nm] 9)).alloc (.cells #[.int .i64 n] 3)) = wA at *
  generalize w.heap.size = z at *
  have cells : ∀ w3, FrO ow wA w3 → w3.cell? ⟨z, 0, none⟩ = some (.pointer (some ⟨bd, 0, none⟩)) ∧ w3.cell? ⟨z + 1, 0, none⟩ = some (.string nm) ∧ w3.cell? ⟨z + 2, 0, none⟩ = some (.int .i64 n) ∧ K ≤ w3.heap.size := fun w3 hf3 =>
    ⟨(hf3.cell (show z < _ by omega) (by simp [Own.has, n0])).trans q0, (hf3.cell (show z + 1 < _ by omega) (by simp [Own.has, n1])).trans q1, (hf3.cell (show z + 2 < _ by omega) (by simp [Own.has, n2])).trans q2, by have := hf3.size; omega⟩
  have dook : truncE D nm n = none → ∀ D1 : ADisk, D1.names = D.names → D1.file = D.file → DoOk 73 #[.pointer (some ⟨z, 0, none⟩), .pointer (some ⟨z + 1, 0, none⟩), .pointer (some ⟨z + 2, 0, none⟩)] bd ow K wA D1 (fun D' => D' = truncD nm n D1) := by
    intro hg D1 e1 e2 w3 hf3 hD3
    obtain ⟨c3, hc3⟩ := hD3
    obtain ⟨a0, a1, a2, aK⟩ := cells w3 hf3
    obtain ⟨f, hq, hn0, _⟩ := truncE_none hg
    rw [truncD_some (show D1.names nm = some f by rw [e1, hq])]
    exact trunc_do hc3 z (z + 1) (z + 2) nm n hn0 f (by rw [e1, hq]) a0 a1 a2 n2
  refine (run_op (k := 72) (kd := 73) (capd := #[.pointer (some ⟨z, 0, none⟩), .pointer (some ⟨z + 1, 0, none⟩), .pointer (some ⟨z + 2, 0, none⟩)]) hDA GA (fun _ _ => by kernel_rfl) (fun _ _ => by kernel_rfl) (truncE D nm n) false none (fun p h => by cases h) (fun D D' => D' = truncD nm n D) (fun _ _ _ => False) ?_ (fun h => dook h _ rfl rfl) (fun h _ => dook h _ rfl rfl) (fun h p e x => by cases e)).mono ?_
  · intro w1 hf1 hD1
    obtain ⟨c1, hc1⟩ := hD1
    have G1 := glob_out hDA GA hf1
    obtain ⟨a0, a1, a2, aK⟩ := cells w1 hf1
    have pc : w1.cell? ⟨bd, 0, none⟩ = some (.map (some c1.bn)) := cell_at hc1.cells 0
    unfold truncE
    cases hq : D.names nm with
    | none => exact trunc_plan_gone G1 bd c1.bn z (z + 1) (z + 2) nm n D.names hq a0 a1 a2 pc hc1.names
    | some f =>
      obtain ⟨cf, hcf⟩ := hc1.files f (hc1.inNames nm f hq)
      obtain ⟨o1, cap1, hv1⟩ := (ownsRow_slice hcf.seen.data.row).form
      have pf : w1.cell? ⟨f, 1, none⟩ = some (.slice o1 (D.file f).seen.data.length cap1) := (cell_at hcf.cells 1).trans (by rw [← show cf.v1 = .slice o1 (D.file f).seen.data.length cap1 from hv1]; rfl)
      simp only
      by_cases g1 : n < 0
      · rw [if_pos (.inl g1)]; exact trunc_plan_neg G1 bd c1.bn z (z + 1) (z + 2) nm n D.names f hq o1 _ cap1 pf g1 a0 a1 a2 pc hc1.names
      · by_cases g2 : n.tmod 512 = 0
        · by_cases g3 : ((D.file f).seen.data.length : Int) < n
          · rw [if_pos (.inr (.inr g3))]; exact trunc_plan_far G1 bd c1.bn z (z + 1) (z + 2) nm n D.names f hq o1 _ cap1 pf (by simpa using g1) (by simpa using g2) (by simpa using g3) a0 a1 a2 pc hc1.names
          · rw [if_neg (by omega)]; exact trunc_plan_ok G1 bd c1.bn z (z + 1) (z + 2) nm n D.names f hq o1 _ cap1 pf (by simpa using g1) (by simpa using g2) (by simpa using g3) a0 a1 a2 pc hc1.names
        · rw [if_pos (.inr (.inl g2))]; exact trunc_plan_odd G1 bd c1.bn z (z + 1) (z + 2) nm n D.names f hq o1 _ cap1 pf (by simpa using g1) (by simpa using g2) a0 a1 a2 pc hc1.names
  · rintro e w' ⟨rfl, hA⟩
    go_wp2_with fail
    go_ret
    exact ⟨rfl, hA.head hFA⟩
end Go.Proofs.YtdfnaphkppphkaaGreatDoor

namespace Go.Proofs.YtdfnaphkppphkaaGreatDoor
open Go Go.RowKit Go.Sort

def sortI (zs : List Int) : List Int := zs.mergeSort (fun x y => decide (x ≤ y))
theorem sort_ints (w : World) (base : Nat) (v : Value) (zs : List Int) (h : w.ownsRow base 3 1 v zs.length (zs.map (Value.int .i64))) (hsz : zs.length < 4611686018427387904) :
    Calls Tryz.prog 76 #[v] w fun e w' => e = .returned (.tuple #[]) ∧ w'.ownsRow base 3 1 v zs.length ((sortI zs).map (Value.int .i64)) ∧ Fr (fun b => v.ownBlock = some b) w w' := by
  rcases h.2 with ⟨rfl, hz⟩ | ⟨g, cap, cur, rfl, hbase, hg, r1, r2, r3, r4⟩
  · have : zs = [] := List.eq_nil_of_length_eq_zero hz
    subst this
    refine (Tryz.slices_Sort_int_none none 0 w).mono ?_
    rintro e w' ⟨rfl, rfl⟩
    exact ⟨rfl, by simpa [sortI] using h, Fr.refl _ _⟩
  · have hH := holds_of_blockI (ss := zs) hg (by simpa using r4)
    have hgl : g < w.heap.size := (Array.getElem?_eq_some_iff.1 hg).1
    refine (Tryz.slices_Sort_int g 0 cap zs w hH hgl hsz).mono ?_
    rintro e w' ⟨rfl, n, os, rfl⟩
    exact ⟨rfl, ownsRow_sortedI (by simp) hbase hg r1 r2 r3, (Fr.refl _ _).grown (grownBy_sortedI _) (fun k hk _ => hk)⟩
theorem sortI_mem (zs : List Int) (x : Int) : x ∈ sortI zs ↔ x ∈ zs := List.mem_mergeSort
theorem sortI_length (zs : List Int) : (sortI zs).length = zs.length := by unfold sortI; simp
theorem sortI_sorted (zs : List Int) (h : zs.Nodup) : (sortI zs).Pairwise (· < ·) := by
  have h1 : (sortI zs).Pairwise (fun a b => decide (a ≤ b) = true) := List.pairwise_mergeSort (fun a b c => by simp; omega) (fun a b => by simp; omega) zs
  have h2 : (sortI zs).Nodup := (List.mergeSort_perm zs _).symm.nodup h
  refine (h1.and h2).imp (fun {a b} h => ?_)
  have h3 : a ≤ b := by simpa using h.1
  have h4 : a ≠ b := h.2
  omega
/-- a strictly rising list of numbers from a on, below b, has at most b - a of them -/
theorem rising_length (l : List Int) (a b : Int) (hs : l.Pairwise (· < ·)) (h : ∀ x ∈ l, a ≤ x ∧ x < b) : (l.length : Int) ≤ max 0 (b - a) := by
  induction l generalizing a with
  | nil => simp; omega
  | cons x l ih =>
    obtain ⟨hx, hs'⟩ := List.pairwise_cons.1 hs
    have h1 := h x (List.mem_cons_self ..)
    have := ih (x + 1) hs' (fun y hy => ⟨by have := hx y hy; omega, (h y (List.mem_cons_of_mem _ hy)).2⟩)
    simp only [List.length_cons]; omega
theorem small_length (l : List Int) (b : Int) (hn : l.Nodup) (hb : 0 ≤ b) (h : ∀ x ∈ l, 0 ≤ x ∧ x < b) : (l.length : Int) ≤ b := by
  have := rising_length (sortI l) 0 b (sortI_sorted l hn) (fun x hx => h x ((sortI_mem l x).1 hx))
  rw [sortI_length] at this; omega
end Go.Proofs.YtdfnaphkppphkaaGreatDoor

namespace Go.Proofs.YtdfnaphkppphkaaGreatDoor
open Go Go.RowKit
open Go.ChangeMaps (setBlock)

theorem infoInt : (Tryz.prog.info? 3).map (fun i => (i.zero, i.size, i.bytes)) = some (some (.int .i64 0), 1, 8) := by kernel_rfl
theorem build_file (nm : ByteArray) (o : Option Addr) (n c : Nat) (w : World) : (Instr.build 82 #[(0, .string nm), (1, .slice o n c)]).run Tryz.prog w = .ok (.agg #[.string nm, .slice o n c, .slice none 0 0]) w := by kernel_rfl
/-- the numbers of a set, rising -/
def ListOf (m : Int → Option Unit) (l : List Int) : Prop := l.Pairwise (· < ·) ∧ ∀ k, k ∈ l ↔ m k ≠ none
theorem ListOf.unique {m : Int → Option Unit} {l l' : List Int} (h : ListOf m l) (h' : ListOf m l') : l = l' := by
  obtain ⟨s, e⟩ := h
  obtain ⟨s', e'⟩ := h'
  have hm : ∀ x, x ∈ l ↔ x ∈ l' := fun x => (e x).trans (e' x).symm
  clear e e'
  induction l generalizing l' with
  | nil => cases l' with
    | nil => rfl
    | cons y t => exact absurd ((hm y).2 (List.mem_cons_self ..)) (by simp)
  | cons x t ih =>
    cases l' with
    | nil => exact absurd ((hm x).1 (List.mem_cons_self ..)) (by simp)
    | cons y t' =>
      obtain ⟨hx, s2⟩ := List.pairwise_cons.1 s
      obtain ⟨hy, s3⟩ := List.pairwise_cons.1 s'
      have hxy : x = y := by
        have h1 := (hm x).1 (List.mem_cons_self ..)
        have h2 := (hm y).2 (List.mem_cons_self ..)
        rcases List.mem_cons.1 h1 with h1 | h1
        · exact h1
        · rcases List.mem_cons.1 h2 with h2 | h2
          · exact h2.symm
          · have := hx y h2; have := hy x h1; omega
      subst hxy
      congr 1
      refine ih s2 s3 (fun z => ?_)
      have := hm z
      constructor
      · intro hz
        have h3 := hx z hz
        rcases List.mem_cons.1 (this.1 (List.mem_cons_of_mem _ hz)) with q | q
        · omega
        · exact q
      · intro hz
        have h3 := hy z hz
        rcases List.mem_cons.1 (this.2 (List.mem_cons_of_mem _ hz)) with q | q
        · omega
        · exact q

set_option maxRecDepth 100000 in
set_option maxHeartbeats 1000000 in
theorem disk_plain (w : World) (nm : ByteArray) (o : Option Addr) (n cp : Nat) (b : Nat) (xs : List Value) (bad : Int → Option Unit) (h : SliceIs w 1 (.slice o n cp) n xs) (h1 : ∀ u ∈ xs, u.oneCell' = true) (hn : n ≤ 1099511627776)
    (hb : MapAt intE unitV w b bad) (hk : ∀ k, bad k ≠ none → 0 ≤ k ∧ k ≤ 1099511627776) :
    Calls Tryz.prog 39 #[.string nm, .agg #[.slice o n cp, .map (some b)]] w fun e w' => ∃ (v v2 : Value) (l : List Int), e = .returned (.agg #[.string nm, v, v2]) ∧ w'.ownsRow w.heap.size 5 1 v n xs ∧ ListOf bad l ∧
      w'.ownsRow w.heap.size 3 1 v2 l.length (l.map (Value.int .i64)) ∧ Fr (fun _ => False) w w' := by
  have HB := Lib.hid hb
  have HS := Lib.hid h
  have H1 := Lib.hid h1
  have HK := Lib.hid hk
  clear hb h h1 hk
  go_enter Tryz.func39, Tryz.ntmps39
  go_wp2_with fail
  refine (clone_bytes _ _ n xs ((HS.out.fr (((Fr.refl (fun _ => False) w).alloc _).alloc _) (fun _ _ _ _ h => h))) H1.out (by omega)).mono ?_
  rintro e w1 ⟨v1, rfl, hown1, hfr1, _⟩
  have hz : w.heap.size + 2 ≤ w1.heap.size := by have := hfr1.size; simpa using this
  have hx0 : w1.heap[w.heap.size]? = some (.cells #[.slice o n cp, .map (some b)] 86 (0, 0)) := (hfr1.block _ (by simp; omega) (fun h => h)).trans ((heap_alloc_old _ _ (by simp)).trans (heap_alloc_new _ _))
  have hx1 : w1.heap[w.heap.size + 1]? = some (.cells #[.string ByteArray.empty, .slice none 0 0, .slice none 0 0] 82 (0, 0)) := (hfr1.block _ (by simp) (fun h => h)).trans (heap_new_at _ _ (by simp))
  have hF1 : Fr (fun _ => False) w w1 := Fr.trans (((Fr.refl _ _).alloc _).alloc _) hfr1
  obtain ⟨o1, c1', hv1⟩ := (ownsRow_slice hown1).form
  subst hv1
  have k1 : w1.cell? ⟨w.heap.size, 1, none⟩ = some (.map (some b)) := cell_at hx0 1
  have bl1 : MapAt intE unitV w1 b bad := HB.out.of_block (hF1.block b HB.out.lt (fun h => h))
  have HB1l := Lib.hid (show b < w1.heap.size from bl1.lt)
  have HX1 := Lib.hid hx1
  have HO1 := Lib.hid (show w1.ownsRow (w.heap.size + 2) 5 1 (.slice o1 n c1') n xs from by simpa using hown1)
  have HF1 := Lib.hid hF1
  have HB1 := Lib.hid (fun ob : Obj => bl1.of_block (heap_alloc_old w1 ob bl1.lt))
  have bf := build_file
  have hz1 : w.heap.size < w1.heap.size := by omega
  have hz2 : w.heap.size + 1 < w1.heap.size := by omega
  clear hx0 hx1 hown1 hF1 bl1 hfr1 HB HS
  go_wp2_with (at_range; refine wpl_rangeAt (E := intE) (V := unitV) (w1.heap.size + 1) (by simp) rfl (.tmp 13) rfl (HB1.out _) Tryz.underlying84 rfl ?_; intro cl cnt0 hit0)
  go_frame
  obtain ⟨i0, hi, hi0, hi1, hi2⟩ := info_parts infoInt
  have HI0 := Lib.hid hit0
  have HNEW := Lib.hid (fun o1 o2 : Obj => (heap_alloc_old (w1.alloc o1) o2 (by simp)).trans (heap_alloc_new w1 o1))
  clear hit0
  go_loopw [6] (fun _ wr => ∃ (todo : Int → Prop) (cnt : Nat) (l : List Int) (v2 : Value), IterAt intE unitV wr (w1.heap.size + 1) b bad todo cnt ∧ wr.heap[w1.heap.size]? = some (.cells #[.string nm, .slice o1 n c1', v2] 82 (0, 0)) ∧ l.Nodup ∧ (∀ k, k ∈ l ↔ (bad k ≠ none ∧ ¬ todo k)) ∧
      wr.ownsRow (w1.heap.size + 2) 3 1 v2 l.length (l.map (Value.int .i64)) ∧ Fr (fun _ => False) w1 wr) (fun _ wr => iterLeft wr b (w1.heap.size + 1))
  case atStart =>
    refine ⟨_, cnt0, [], .slice none 0 0, HI0.out, HNEW.out _ _, List.nodup_nil, fun k => ?_, World.ownsRow_nil _ _ _ _, ((Fr.refl _ _).alloc _).alloc _⟩
    cases hk : bad k <;> simp
  case round =>
    obtain ⟨todo, cnt, l, v2, hit, hx, hnd, hmem, hown, hF⟩ := hrel
    obtain ⟨o2, c2', hv2⟩ := (ownsRow_slice hown).form
    subst hv2
    have hll : (l.length : Int) ≤ 1099511627777 := small_length l _ hnd (by omega) (fun x hx => by have := HK.out x ((hmem x).1 hx).1; omega)
    have HX := Lib.hid hx
    have HI := Lib.hid hit
    have HND := Lib.hid hnd
    have HME := Lib.hid hmem
    have HO := Lib.hid hown
    have HF := Lib.hid hF
    have hil := hit.lt
    clear hx hit hnd hmem hown hF HI0 HNEW HB1
    go_wp2_with (at_next; refine wpl_next (E := intE) (V := unitV) rfl (.tmp 14) rfl HI.out rfl ?_ ?_)
    · intro hdone
      have HD := Lib.hid hdone
      clear hdone
      have q2 : wr.cell? ⟨w1.heap.size, 2, none⟩ = some (.slice o2 l.length c2') := cell_at HX.out 2
      have hw1l : w1.heap.size < wr.heap.size := by omega
      go_wp2_with fail
      refine (sort_ints wr (w1.heap.size + 2) _ l HO.out (by omega)).mono ?_
      rintro e w3 ⟨rfl, hown3, hf3⟩
      have hnb : ∀ i, i < w1.heap.size + 2 → ¬ (Value.slice o2 l.length c2').ownBlock = some i := fun i hi e => by have := (HO.out.lt i e).1; omega
      have hfile : w3.heap[w1.heap.size]? = some (.cells #[.string nm, .slice o1 n c1', .slice o2 l.length c2'] 82 (0, 0)) := (hf3.block _ hw1l (hnb _ (by omega))).trans HX.out
      have hres : w3.heap[w.heap.size + 1]? = some (.cells #[.string ByteArray.empty, .slice none 0 0, .slice none 0 0] 82 (0, 0)) := (hf3.block _ (by omega) (hnb _ (by omega))).trans ((HF.out.block _ (by omega) (fun h => h)).trans HX1.out)
      have d0 : w3.cell? ⟨w1.heap.size, 0, none⟩ = some (.string nm) := cell_at hfile 0
      have d1 : w3.cell? ⟨w1.heap.size, 1, none⟩ = some (.slice o1 n c1') := cell_at hfile 1
      have d2 : w3.cell? ⟨w1.heap.size, 2, none⟩ = some (.slice o2 l.length c2') := cell_at hfile 2
      have e0 : w3.cell? ⟨w.heap.size + 1, 0, none⟩ = some (.string ByteArray.empty) := cell_at hres 0
      have e1 : w3.cell? ⟨w.heap.size + 1, 1, none⟩ = some (.slice none 0 0) := cell_at hres 1
      have e2 : w3.cell? ⟨w.heap.size + 1, 2, none⟩ = some (.slice none 0 0) := cell_at hres 2
      have f0 := free_at hres 0
      have f1 := free_at hres 1
      have f2 := free_at hres 2
      have hc := heap_setCell_at (heap_setCell_at (heap_setCell_at hres 0 (.string nm)) 1 (.slice o1 n c1')) 2 (.slice o2 l.length c2')
      have r0 := Lib.hid (cell_at hc 0)
      have r1 := Lib.hid (cell_at hc 1)
      have r2 := Lib.hid (cell_at hc 2)
      have hlist : ListOf bad (sortI l) := ⟨sortI_sorted l HND.out, fun k => by rw [sortI_mem, HME.out k]; exact ⟨fun h => h.1, fun h => ⟨h, HD.out k⟩⟩⟩
      have hff : Fr (fun _ => False) w w3 := Fr.trans' (Fr.trans HF1.out HF.out) hf3 (fun i hi e => by have := (HO.out.lt i e).1; omega)
      have hrow : w3.ownsRow (w.heap.size + 2) 5 1 (.slice o1 n c1') n xs := ownsRow_keep HO1.out (fun g hg => by
        have hg' := HO1.out.lt g hg
        exact (hf3.block g (by have := HF.out.size; omega) (hnb g (by omega))).trans (HF.out.block g hg'.2 (fun h => h)))
      have HLI := Lib.hid hlist
      have HFF := Lib.hid hff
      have HROW := Lib.hid hrow
      have HO3 := Lib.hid hown3
      clear hc hlist hff hrow hown3 hfile hres hf3 hnb
      go_wp2_with fail
      refine bodyPost_ret (v := .agg #[.string nm, .slice o1 n c1', .slice o2 l.length c2']) (by simp [results, Tryz.results39, go_sem, r0.out, r1.out, r2.out]) rfl ⟨.slice o1 n c1', .slice o2 l.length c2', sortI l, rfl, ?_, HLI.out, ?_, ?_⟩
      · have := HROW.out
        refine ownsRow_setCell_other (ownsRow_setCell_other (ownsRow_setCell_other ⟨this.1, this.2.imp id (fun ⟨g, cap, cur, q1, q2, q3⟩ => ⟨g, cap, cur, q1, by omega, q3⟩)⟩ ?_ _) ?_ _) ?_ _
        all_goals (intro e; have := (this.lt _ e).1; simp only at this; omega)
      · rw [sortI_length]
        have := HO3.out
        refine ownsRow_setCell_other (ownsRow_setCell_other (ownsRow_setCell_other ⟨this.1, this.2.imp id (fun ⟨g, cap, cur, q1, q2, q3⟩ => ⟨g, cap, cur, q1, by omega, q3⟩)⟩ ?_ _) ?_ _) ?_ _
        all_goals (intro e; have := (this.lt _ e).1; simp only at this; omega)
      · refine (((HFF.out.setCell ?_ _).setCell ?_ _).setCell ?_ _) <;> (intro h; simp only at h; omega)
    · intro k u w2 cnt1 htodo hbad hit1 hlt1 hfr1 hsz1 hent
      simp only [intE_enc] at hent ⊢
      have hFile : w2.heap[w1.heap.size]? = some (.cells #[.string nm, .slice o1 n c1', .slice o2 l.length c2'] 82 (0, 0)) := (hfr1.block _ (by omega) (show ¬ w1.heap.size = w1.heap.size + 1 by omega)).trans HX.out
      have q2 : w2.cell? ⟨w1.heap.size, 2, none⟩ = some (.slice o2 l.length c2') := cell_at hFile 2
      have hs2 : w1.heap.size + 2 ≤ w2.heap.size := by omega
      have hw1l : w1.heap.size < w2.heap.size := by omega
      have hown2 := ownsRow_keep (w' := w2) HO.out (fun g hg => hfr1.block g (HO.out.lt g hg).2 (show ¬ g = w1.heap.size + 1 by have := (HO.out.lt g hg).1; omega))
      have HO2 := Lib.hid hown2
      have HFL := Lib.hid hFile
      have HH := Lib.hid hit1
      have HL := Lib.hid hlt1
      have HFR := Lib.hid hfr1
      have HT := Lib.hid htodo
      have HB := Lib.hid hbad
      have HNB := Lib.hid (show ∀ i, i < w1.heap.size + 2 → ¬ (Value.slice o2 l.length c2').ownBlock = some i from fun i hi e => by have := (HO.out.lt i e).1; omega)
      have bl := HI.out.mapAt.lt
      clear hown2 hFile hit1 hlt1 hfr1 htodo hbad hsz1
      have hnew := Lib.hid (fun (o : Obj) => heap_alloc_new w2 o)
      go_wp2_with (at_builtin; refine wpList_append_own_at _ rfl (.tmp 20) (.tmp 22) 48 rfl (w1.heap.size + 2) 3 i0 _ 1 8 Tryz.underlying48 hi hi0 hi1 hi2 rfl (by decide) (.slice o2 l.length c2') l.length _ rfl (HO2.out.alloc _) ⟨w2.heap.size, 0, none⟩ 1 1 [.int .i64 k] rfl rfl (World.news_of_block (hnew.out _)) (by simp [Value.oneCell']) (by unfold maxLen; omega) (by omega) (by simp; omega) ?_; intro v3 w4 hown4 hgrow4 hnil4 hat4; obtain ⟨o3, c3, hv3⟩ := (ownsRow_slice hown4).form; subst hv3; have q3 : w4.heap[w1.heap.size]? = _ := (hgrow4.block _ (by simp; omega) (fun e => HNB.out _ (by omega) e.symm)).trans ((heap_alloc_old w2 _ hw1l).trans HFL.out); have q4 : w4.cell? ⟨w1.heap.size, 2, none⟩ = some (.slice o2 l.length c2') := cell_at q3 2; have q5 := free_at q3 2; have HW4 := Lib.hid hown4; have HG4 := Lib.hid hgrow4; have HQ3 := Lib.hid q3; clear hown4 hgrow4 q3)
      have hz4 := HG4.out.size
      have hne3 : ∀ i, i < w1.heap.size + 2 → ¬ (Value.slice o3 (l.length + 1) c3).ownBlock = some i := fun i hi e => by have := (HW4.out.lt i e).1; omega
      have hzw : (w2.alloc (.cells #[.int .i64 k] 3)).heap.size = w2.heap.size + 1 := by simp
      have hb4 : w4.heap[b]? = w2.heap[b]? := (HG4.out.block b (by simp; have := HH.out.mapAt.lt; omega) (fun e => by
        have q := (HO.out.lt b e.symm).1
        have := HB1l.out; omega)).trans (heap_alloc_old w2 _ HH.out.mapAt.lt)
      have hr4 : w4.heap[w1.heap.size + 1]? = w2.heap[w1.heap.size + 1]? := (HG4.out.block _ (by simp; omega) (fun e => HNB.out _ (by omega) e.symm)).trans (heap_alloc_old w2 _ (by omega))
      have hFr4 : Fr (fun _ => False) w1 w4 := Fr.trans' HF.out ((Fr.trans' (S := fun i => i = w1.heap.size + 1 ∨ (Value.slice o2 l.length c2').ownBlock = some i) (HFR.out.mono (fun i _ e => .inl e)) ((Fr.refl (fun i => (Value.slice o2 l.length c2').ownBlock = some i) w2).alloc _ |>.grown HG4.out (fun i hi _ => hi)) (fun i _ e => .inr e))) (fun i hi e => by
        rcases e with e | e
        · omega
        · have := (HO.out.lt i e).1; omega)
      refine ⟨⟨_, cnt1, l ++ [k], .slice o3 (l.length + 1) c3, HH.out.of_blocks ?_ ?_, ?_, ?_, fun x => ?_, ?_, hFr4.setCell (fun h => by simp at h) _⟩, ?_⟩
      · rw [Below.heap_setCell _ _ _ _ (by have := HB1l.out; simp only; omega)]; exact hb4
      · rw [Below.heap_setCell _ _ _ _ (by simp)]; exact hr4
      · exact heap_setCell_at HQ3.out 2 _
      · refine List.nodup_append.2 ⟨HND.out, by simp, fun a ha x hx e => ?_⟩
        have : x = k := by simpa using hx
        subst this; subst e
        exact ((HME.out _).1 ha).2 HT.out
      · have hbk : bad k ≠ none := by rw [HB.out]; simp
        constructor
        · intro hx
          rcases List.mem_append.1 hx with hx | hx
          · exact ⟨((HME.out x).1 hx).1, fun q => ((HME.out x).1 hx).2 q.1⟩
          · have : x = k := by simpa using hx
            subst this; exact ⟨hbk, fun q => q.2 rfl⟩
        · rintro ⟨q1, q2⟩
          by_cases e : x = k
          · subst e; simp
          · exact List.mem_append_left _ ((HME.out x).2 ⟨q1, fun ht => q2 ⟨ht, e⟩⟩)
      · have := HW4.out
        refine ownsRow_setCell_other ?_ (fun e => hne3 w1.heap.size (by omega) e) _
        simpa using this
      · have e1 : (w4.setCell ⟨w1.heap.size, 2, none⟩ (.slice o3 (l.length + 1) c3)).heap[b]? = w2.heap[b]? := by rw [Below.heap_setCell _ _ _ _ (by have := HB1l.out; simp only; omega)]; exact hb4
        have e2 : (w4.setCell ⟨w1.heap.size, 2, none⟩ (.slice o3 (l.length + 1) c3)).heap[w1.heap.size + 1]? = w2.heap[w1.heap.size + 1]? := by rw [Below.heap_setCell _ _ _ _ (by simp)]; exact hr4
        rw [(HH.out.of_blocks e1 e2).left_eq, HI.out.left_eq]; exact HL.out
end Go.Proofs.YtdfnaphkppphkaaGreatDoor

namespace Go.Proofs.YtdfnaphkppphkaaGreatDoor
open Go Go.RowKit

def readE (D : ADisk) (nm : ByteArray) : Option Er := if D.down = true then some .down else goneE D.names nm
theorem eql_ptr (b : Nat) (w : World) : (binOp .eql 72 (.pointer (some ⟨b, 0, none⟩)) (.pointer none)).run Tryz.prog w = .ok (.bool false) w := by kernel_rfl
theorem eql_nilptr (w : World) : (binOp .eql 72 (.pointer none) (.pointer none)).run Tryz.prog w = .ok (.bool true) w := by kernel_rfl
theorem eql_disk (b : Nat) (w : World) : (binOp .eql 27 (.pointer (some ⟨b, 0, none⟩)) (.pointer none)).run Tryz.prog w = .ok (.bool false) w := by kernel_rfl

set_option maxRecDepth 100000 in
set_option maxHeartbeats 1000000 in
theorem read_err {w : World} {bd K : Nat} {eb : Er → Addr} {S : Er → Bool} {D : ADisk} {ow : Own} {c : DCells} (h : DiskIs w bd D ow K c) (G : Glob w K eb S) (nm : ByteArray) (x : Er) (hx : readE D nm = some x) :
    Calls Tryz.prog 20 #[.pointer (some ⟨bd, 0, none⟩), .string nm] w fun e w' => e = .returned (.tuple #[.slice none 0 0, .slice none 0 0, erV eb (some x)]) ∧ Fr (fun _ => False) w w' := by
  have c0 : w.cell? ⟨bd, 0, none⟩ = some (.map (some c.bn)) := cell_at h.cells 0
  have c8 : w.cell? ⟨bd, 8, none⟩ = some (.bool D.down) := cell_at h.cells 8
  have e1 := eql_disk
  have e2 := eql_nilptr
  cases hd : D.down with
  | true =>
    have hxx : x = .down := by unfold readE at hx; rw [if_pos hd] at hx; cases hx; rfl
    subst hxx
    have v3 : w.cell? ⟨4, 0, none⟩ = some (.iface 211 (.pointer (some (eb .down)))) := G.var .down rfl
    rw [hd] at c8
    clear hx G h
    go_enter Tryz.func20, Tryz.ntmps20
    go_wp2_with fail
    go_quiet (fail)
    go_wp2_with fail
    refine bodyPost_ret (v := .tuple #[.slice none 0 0, .slice none 0 0, .iface 211 (.pointer (some (eb .down)))]) (by simp [results, Tryz.results20, go_sem]) rfl ?_
    exact ⟨rfl, (Fr.refl _ _).drewN _⟩
  | false =>
    have hg : goneE D.names nm = some x := by unfold readE at hx; rw [if_neg (by simp [hd])] at hx; exact hx
    have hq : D.names nm = none := by
      unfold goneE at hg
      cases hq : D.names nm with
      | none => rfl
      | some f => rw [hq] at hg; cases hg
    have hxx : x = .gone := by unfold goneE at hg; rw [hq] at hg; cases hg; rfl
    subst hxx
    have v3 : w.cell? ⟨5, 0, none⟩ = some (.iface 211 (.pointer (some (eb .gone)))) := G.var .gone rfl
    have hl := look_none h.names hq
    rw [hd] at c8
    clear hx G h hg
    go_enter Tryz.func20, Tryz.ntmps20
    go_wp2_with fail
    go_quiet (fail)
    go_wp2_with fail
    refine bodyPost_ret (v := .tuple #[.slice none 0 0, .slice none 0 0, .iface 211 (.pointer (some (eb .gone)))]) (by simp [results, Tryz.results20, go_sem]) rfl ?_
    exact ⟨rfl, (Fr.refl _ _).drewN _⟩
set_option maxRecDepth 100000 in
set_option maxHeartbeats 1000000 in
theorem read_ok {w : World} {bd K : Nat} {D : ADisk} {ow : Own} {c : DCells} (h : DiskIs w bd D ow K c) (nm : ByteArray) (f : Nat) (hd : D.down = false) (hf : D.names nm = some f) :
    Calls Tryz.prog 20 #[.pointer (some ⟨bd, 0, none⟩), .string nm] w fun e w' => ∃ (v v2 : Value) (l : List Int), e = .returned (.tuple #[v, v2, .nilIface]) ∧ w'.ownsRow w.heap.size 5 1 v (D.file f).seen.data.length ((D.file f).seen.data.map byteV) ∧
      ListOf (D.file f).seen.bad l ∧ w'.ownsRow w.heap.size 3 1 v2 l.length (l.map (Value.int .i64)) ∧ Fr (fun _ => False) w w' := by
  have c0 : w.cell? ⟨bd, 0, none⟩ = some (.map (some c.bn)) := cell_at h.cells 0
  have c8 : w.cell? ⟨bd, 8, none⟩ = some (.bool D.down) := cell_at h.cells 8
  rw [hd] at c8
  have e1 := eql_disk
  have e2 := eql_ptr
  have hl := look_some h.names hf
  have hff := h.inNames nm f hf
  obtain ⟨cf, hc⟩ := h.files f hff
  obtain ⟨bb, hv2, hob, hmb⟩ := hc.seen.bad
  have g1 : w.cell? ⟨f, 1, none⟩ = some cf.v1 := cell_at hc.cells 1
  have g2 : w.cell? ⟨f, 2, none⟩ = some (.map (some bb)) := hv2 ▸ cell_at hc.cells 2
  obtain ⟨o, cap, hv1⟩ := (ownsRow_slice hc.seen.data.row).form
  have hlen := hc.wf.seen.len
  have HP := Lib.hid (disk_plain w nm o (D.file f).seen.data.length cap bb _ (D.file f).seen.bad (ownsRow_slice (hv1 ▸ hc.seen.data.row)) (by simp [byteV, Value.oneCell']) (by unfold maxData at hlen; exact hlen) hmb (wf_small hc.wf.seen.bad hc.wf.seen.len))
  rw [hv1] at g1
  clear hv1 hc hmb hv2 hob hff h hlen
  go_enter Tryz.func20, Tryz.ntmps20
  go_wp2_with fail
  refine HP.out.mono ?_
  rintro e w1 ⟨v, v2, l, rfl, hr, hl, hr2, hfr⟩
  obtain ⟨o1, k1, hv1⟩ := (ownsRow_slice hr).form
  obtain ⟨o2, k2, hv2⟩ := (ownsRow_slice hr2).form
  subst hv1
  subst hv2
  have HR := Lib.hid hr
  have HR2 := Lib.hid hr2
  have HL := Lib.hid hl
  have HF := Lib.hid hfr
  clear hr hr2 hl hfr HP
  go_wp2_with fail
  go_quiet (fail)
  go_wp2_with fail
  refine bodyPost_ret (v := .tuple #[.slice o1 (D.file f).seen.data.length k1, .slice o2 l.length k2, .nilIface]) (by simp [results, Tryz.results20, go_sem]) rfl ?_
  exact ⟨_, _, l, rfl, HR.out.alloc _, HL.out, HR2.out.alloc _, (HF.out.alloc _).drewN _⟩
end Go.Proofs.YtdfnaphkppphkaaGreatDoor

namespace Go.Proofs.YtdfnaphkppphkaaGreatDoor
open Go Go.RowKit

theorem disk_ops {w : World} {bd K : Nat} {D : ADisk} {ow : Own} (hD : DiskAt w bd D ow K) :
    Calls Tryz.prog 18 #[.pointer (some ⟨bd, 0, none⟩)] w fun e w' => e = .returned (.int .i64 D.ops) ∧ w' = w := by
  obtain ⟨c, h⟩ := hD
  have c4 : w.cell? ⟨bd, 4, none⟩ = some (.int .i64 D.ops) := cell_at h.cells 4
  have e1 := eql_disk
  clear h
  go_enter Tryz.func18, Tryz.ntmps18
  go_wp2_with fail
  go_ret
  exact ⟨rfl, rfl⟩
noncomputable def armD (l : List (Int × Int)) (cut : Int) (D : ADisk) : ADisk := if D.down = true then D else { D with fails := l, cut := cut, since := 0 }
set_option maxRecDepth 100000 in
set_option maxHeartbeats 1000000 in
theorem disk_arm {w : World} {bd K : Nat} {D : ADisk} {ow : Own} (hD : DiskAt w bd D ow K) (hK : K ≤ w.heap.size) (v : Value) (l : List (Int × Int)) (cut : Int) (hv : SliceIs w 2 v l.length (l.flatMap failCells)) (hl : l.length ≤ 8796093022208) :
    Calls Tryz.prog 21 #[.pointer (some ⟨bd, 0, none⟩), v, .int .i64 cut] w fun e w' => e = .returned (.tuple #[]) ∧ After bd ow K w (fun D' => D' = armD l cut D) w' := by
  obtain ⟨c, h⟩ := hD
  have c8 : w.cell? ⟨bd, 8, none⟩ = some (.bool D.down) := cell_at h.cells 8
  have e1 := eql_disk
  obtain ⟨o, cap, hv'⟩ := hv.form
  subst hv'
  cases hd : D.down with
  | true =>
    rw [hd] at c8
    have HD := Lib.hid (show DiskAt w bd D ow K from ⟨c, h⟩)
    clear h hv
    go_enter Tryz.func21, Tryz.ntmps21
    go_wp2_with fail
    first
      | go_end0
      | refine bodyPost_ret (results_none rfl _ _ _) rfl ?_
    exact ⟨rfl, After.of (by unfold armD; rw [if_pos hd]) HD.out (Fr.refl _ _)⟩
  | false =>
    rw [hd] at c8
    have HC := Lib.hid (clone_fails w (.slice o l.length cap) l.length _ hv (by
      intro u hu
      obtain ⟨x, _, hx⟩ := List.mem_flatMap.1 hu
      simp [failCells] at hx
      rcases hx with rfl | rfl <;> rfl) hl)
    have HH := Lib.hid h
    clear h hv
    go_enter Tryz.func21, Tryz.ntmps21
    go_wp2_with fail
    refine HC.out.mono ?_
    rintro e w1 ⟨v', rfl, hown, hfr, _⟩
    obtain ⟨o', c', hv2⟩ := (ownsRow_slice hown).form
    subst hv2
    have hb := (hfr.block bd (HH.out.lt _ _ HH.out.me).2 (fun h => h)).trans HH.out.cells
    have a5 : w1.cell? ⟨bd, 5, none⟩ = some (.int .i64 D.since) := cell_at hb 5
    have a6 : w1.cell? ⟨bd, 6, none⟩ = some c.vf := cell_at hb 6
    have a7 : w1.cell? ⟨bd, 7, none⟩ = some (.int .i64 D.cut) := cell_at hb 7
    have f5 := free_at hb 5
    have f6 := free_at hb 6
    have f7 := free_at hb 7
    have HB := Lib.hid hb
    have HO := Lib.hid hown
    have HF := Lib.hid hfr
    have hbl : bd < w1.heap.size := by have := hfr.size; have := (HH.out.lt _ _ HH.out.me).2; omega
    clear hb hown hfr HC
    go_wp2_with fail
    first
      | go_end0
      | refine bodyPost_ret (results_none rfl _ _ _) rfl ?_
    refine ⟨rfl, ?_⟩
    have hlt := HH.out.lt
    have hc := heap_setCell_at (heap_setCell_at (heap_setCell_at HB.out 6 (.slice o' l.length c')) 7 (.int .i64 cut)) 5 (.int .i64 0)
    have hobn : ∀ g, (Value.slice o' l.length c').ownBlock = some g → w.heap.size ≤ g ∧ g < w1.heap.size := fun g hg => HO.out.lt g hg
    let ow' : Own := fun i => if (Value.slice o' l.length c').ownBlock = some i then some .fails else ow i
    have hold : ∀ i, i < w.heap.size → ow' i = ow i := fun i hi => by
      show (if _ then _ else _) = _
      rw [if_neg (fun e => by have := (hobn i e).1; omega)]
    have hbd : bd < w.heap.size := (hlt _ _ HH.out.me).2
    have hF : FrO ow w (((w1.setCell ⟨bd, 6, none⟩ (.slice o' l.length c')).setCell ⟨bd, 7, none⟩ (.int .i64 cut)).setCell ⟨bd, 5, none⟩ (.int .i64 0)) :=
      (((HF.out.mono (fun _ _ h => h.elim)).setCell (fun _ => Own.has_some HH.out.me) _).setCell (fun _ => Own.has_some HH.out.me) _).setCell (fun _ => Own.has_some HH.out.me) _
    refine ⟨_, ow', by unfold armD; rw [if_neg (by simp [hd])], ⟨_, HH.out.setFails (w' := ((w1.setCell ⟨bd, 6, none⟩ (.slice o' l.length c')).setCell ⟨bd, 7, none⟩ (.int .i64 cut)).setCell ⟨bd, 5, none⟩ (.int .i64 0)) ⟨fun i r hi hr => ?_, fun i r hr => ?_, fun i r hi => ?_⟩ ((hold bd hbd).trans HH.out.me) hc ⟨?_, fun g hg => ?_⟩ (by omega)⟩, hF, fun i hi hn => (hold i hi).trans hn⟩
    · have hne : i ≠ bd := fun e => hr (.inr (by rw [e, HH.out.me] at hi; cases hi; rfl))
      rw [Below.heap_setCell _ _ _ _ hne, Below.heap_setCell _ _ _ _ hne, Below.heap_setCell _ _ _ _ hne]
      exact HF.out.block i (hlt i r hi).2 (fun h => h)
    · show (if _ then some Role.fails else ow i) = some r ↔ _
      by_cases e : (Value.slice o' l.length c').ownBlock = some i
      · rw [if_pos e, own_none ⟨c, HH.out⟩ (hobn i e).1]
        constructor
        · intro q; cases q; exact absurd (.inl rfl) hr
        · intro q; cases q
      · rw [if_neg e]
    · have hi' : (if (Value.slice o' l.length c').ownBlock = some i then some Role.fails else ow i) = some r := hi
      rw [World.size_setCell, World.size_setCell, World.size_setCell]
      by_cases e : (Value.slice o' l.length c').ownBlock = some i
      · have := hobn i e; exact ⟨by omega, this.2⟩
      · rw [if_neg e] at hi'
        have := hlt i r hi'
        have := HF.out.size; omega
    · have hne : ∀ j, some (⟨bd, j, none⟩ : Addr).block ≠ (Value.slice o' l.length c').ownBlock := fun j e => by have := (hobn bd e.symm).1; omega
      have hne' : ¬ (Value.slice o' l.length c').ownBlock = some bd := fun e => by have := (hobn bd e).1; omega
      have := HO.out
      exact ownsRow_setCell_other (ownsRow_setCell_other (ownsRow_setCell_other ⟨this.1, this.2.imp id (fun ⟨g, cap, cur, q1, q2, q3⟩ => ⟨g, cap, cur, q1, Nat.zero_le _, q3⟩)⟩ hne' _) hne' _) hne' _
    · show (if _ then some Role.fails else ow g) = some .fails
      rw [if_pos hg]
end Go.Proofs.YtdfnaphkppphkaaGreatDoor
