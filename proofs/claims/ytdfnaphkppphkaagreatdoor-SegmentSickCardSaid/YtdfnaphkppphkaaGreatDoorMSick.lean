/-
  The law SegmentSick. Conditions: the table and the error variables are there; the arguments can be read.
-/
import Derived.Test.YtdfnaphkppphkaaGreatDoorM17
import Derived.Deep.RegionHeld3
namespace Go.Proofs.YtdfnaphkppphkaaGreatDoor
open Go Go.RowKit

theorem neqS_same (b : Addr) (W : World) : (binOp .neq 31 (.iface 211 (.pointer (some b))) (.iface 211 (.pointer (some b)))).run Tryz.prog W = .ok (.bool false) W := by
  obtain ⟨i, hi, hcmp⟩ := Option.map_eq_some_iff.1 isComp
  obtain ⟨j, hj, hjs⟩ := Option.map_eq_some_iff.1 isSize
  simp only [binOp]
  simp [Op.equal, Op.maxDepth, run_equalIn_iface_ptr_same (P := Tryz.prog) W 9998 b Tryz.underlying31 Tryz.underlying211 hi hcmp hj]
theorem eql_same (b : Addr) (W : World) : (binOp .eql 31 (.iface 211 (.pointer (some b))) (.iface 211 (.pointer (some b)))).run Tryz.prog W = .ok (.bool true) W := by
  obtain ⟨i, hi, hcmp⟩ := Option.map_eq_some_iff.1 isComp
  obtain ⟨j, hj, hjs⟩ := Option.map_eq_some_iff.1 isSize
  exact run_eql_iface_ptr_same (P := Tryz.prog) W b Tryz.underlying31 Tryz.underlying211 hi hcmp hj
theorem eql_two {W : World} {K : Nat} {eb : Er → Addr} {S : Er → Bool} (G : Glob W K eb S) (x y : Er) (hx : S x = true) (hy : S y = true) (hne : x ≠ y) :
    (binOp .eql 31 (.iface 211 (.pointer (some (eb x)))) (.iface 211 (.pointer (some (eb y))))).run Tryz.prog W = .ok (.bool false) W := by
  obtain ⟨i, hi, hcmp⟩ := Option.map_eq_some_iff.1 isComp
  obtain ⟨j, hj, hjs⟩ := Option.map_eq_some_iff.1 isSize
  obtain ⟨c, t, q⟩ := G.blk x hx
  obtain ⟨c', t', q'⟩ := G.blk y hy
  exact run_eql_iface_ptr_other (P := Tryz.prog) W Tryz.underlying31 Tryz.underlying211 hi hcmp hj (by rw [hjs]; decide) (fun e => hne (G.inj _ _ hx hy e)) q q'
/-- where the law stands at the loop's head -/
structure SickSt (w wr : World) (K first bd bs f : Nat) (D : ADisk) (ow : Own) : Prop where
  disk : DiskAt wr bd D ow K
  down : D.down = false
  has : D.names (nameB first) = some f
  data : (D.file f).seen.data = []
  seg : SegAt wr bd bs ⟨nameB first, first, 0, true, false⟩
  out : ow bs = none
  up : K ≤ bs
  fr : FrUp K w wr
theorem SickSt.step {w wr wr' : World} {K first bd bs f : Nat} {D : ADisk} {ow : Own} (h : SickSt w wr K first bd bs f D ow) (hf : Fr (fun _ => False) wr wr') : SickSt w wr' K first bd bs f D ow :=
  ⟨h.disk.out hf (fun _ _ h => h), h.down, h.has, h.data, h.seg.fr hf (fun h => h), h.out, h.up, Fr.trans h.fr (FrUp.none hf)⟩
theorem SickSt.upOf {w wr wr' : World} {K first bd bs f : Nat} {D : ADisk} {ow : Own} (h : SickSt w wr K first bd bs f D ow) (hf : Fr (fun b => ow.has b ∨ b = bs) wr wr') : FrUp K wr wr' :=
  hf.mono (fun b _ q => by
    rcases q with q | q
    · exact own_geD h.disk b q
    · rw [q]; exact h.up)
/-- behind the operation that failed -/
def SickEnd (w w8 : World) (K first bd bs : Nat) : Prop := ∃ D8 ow8, DiskAt w8 bd D8 ow8 K ∧ SegAt w8 bd bs ⟨nameB first, first, 0, true, true⟩ ∧ FrUp K w w8
/-- the disk behind Arm -/
theorem SickSt.arm {w wr wr' : World} {K first bd bs f : Nat} {D : ADisk} {ow : Own} {p : Int} (h : SickSt w wr K first bd bs f D ow) (ha : After bd ow K wr (fun D' => D' = armD [(1, p)] 0 D) wr') :
    ∃ D' ow', SickSt w wr' K first bd bs f D' ow' ∧ D'.arm = (p, some .io) := by
  obtain ⟨D', ow', rfl, hD', hfr, hext⟩ := ha
  have he : armD [(1, p)] 0 D = { D with fails := [(1, p)], cut := 0, since := 0 } := by unfold armD; rw [if_neg (by rw [h.down]; decide)]
  refine ⟨_, ow', ⟨hD', by rw [he]; exact h.down, by rw [he]; exact h.has, by rw [he]; exact h.data, h.seg.fr hfr (fun q => q h.out), hext bs h.seg.lt h.out, h.up, Fr.trans h.fr (hfr.mono (fun b _ q => own_geD h.disk b q))⟩, ?_⟩
  rw [he]
  unfold ADisk.arm ADisk.tick armedOf
  simp [wrap64]
theorem armed_io {D : ADisk} {p : Int} (hd : D.down = false) (ha : D.arm = (p, some .io)) (ref : Option Er) : opE D ref = some .io := by
  unfold opE runE
  rw [if_neg (by rw [hd]; decide), ha]
set_option maxRecDepth 100000 in
set_option maxHeartbeats 4000000 in
theorem law_sick (w : World) (K : Nat) (eb : Er → Addr) (S : Er → Bool) (E : Env w K eb S) (hK : K = w.heap.size) (hS : S .sick = true) (first : Nat) (hf64 : first < 18446744073709551616) (v : Value) (gs : List AGroup) (hv : GrpsIn w v gs) (part : Int) :
    Calls Tryz.prog 4 #[.int .u64 first, v, .int .i64 part] w fun e w' => e = .returned (.bool true) ∧ FrUp K w w' := by
  have HA := Lib.hid (law_awake w K eb S E)
  have HE := Lib.hid E
  have HK := Lib.hid hK
  have HV := Lib.hid hv
  have HSS := Lib.hid hS
  obtain ⟨o, cap, hvv⟩ : ∃ o cap, v = .slice o gs.length cap := by
    rcases hv.form with ⟨h, h2⟩ | ⟨g, off, cap, h, _⟩
    · exact ⟨none, 0, by rw [h, h2]; rfl⟩
    · exact ⟨_, _, h⟩
  subst hvv
  have hglen := hv.len
  clear E hK hv hS
  have e2 := neq_er
  have e3 := neq_nilE
  have e4 := eql_nil
  have e5 := eql_er
  go_enter Tryz.func4, Tryz.ntmps4
  go_wp2_with fail
  refine HA.out.mono ?_
  rintro e w1 ⟨rfl, hf1⟩
  have HF1 := Lib.hid hf1
  have HH := Lib.hid (law_heavy w1 _ gs (HV.out.low (by rw [← HK.out]; exact hf1)))
  clear hf1 HA
  go_wp2_with fail
  refine HH.out.mono ?_
  rintro e w2 ⟨rfl, rfl⟩
  cases hh : decide (4194304 < weigh gs) with
  | true =>
    go_wp2_with fail
    go_ret
    exact ⟨rfl, HF1.out⟩
  | false =>
    have HW := Lib.hid (of_decide_eq_false hh)
    clear hh HH
    by_cases hz : gs.length = 0
    · have g0 : ((gs.length : Int) == 0) = true := by rw [beq_iff_eq]; omega
      clear hz
      go_wp2_with fail
      go_ret
      exact ⟨rfl, HF1.out⟩
    · have g0 : ((gs.length : Int) == 0) = false := by rw [beq_eq_false_iff_ne]; omega
      clear hz
      by_cases h1 : 1 ≤ first
      · by_cases h2 : first ≤ 2305843009213693952
        · have g2 : ¬ (first : Int) < 1 := by omega
          have g3 : ¬ (2305843009213693952 : Int) < (first : Int) := by omega
          have HN := Lib.hid (new_disk w2 K (Nat.le_trans HE.out.G.size HF1.out.size))
          go_wp2_with fail
          refine HN.out.mono ?_
          rintro e w3 ⟨bd, ow, rfl, hD, hfr, hbd⟩
          have HF3 := Lib.hid (Fr.trans HF1.out (FrUp.none (K := K) hfr))
          have hg : goodB first = true := decide_eq_true ⟨h1, by omega⟩
          have HC := Lib.hid (new_create hD (FrUp.env HE.out HF3.out) first hg)
          clear hD hfr HN hg
          go_wp2_with fail
          refine HC.out.mono ?_
          rintro e w4 ⟨bs, D, ow4, f, rfl, hst, hfr⟩
          have hF4 := Fr.trans HF3.out hfr
          have HST := Lib.hid (show SickSt w w4 K first bd bs f D ow4 from ⟨hst.disk, hst.st.calm.down, hst.st.has, hst.st.data, hst.seg, hst.out, hst.up, hF4⟩)
          clear hst hfr hF4 HC HF3 g2 g3 g0
          go_wp2_with fail
          go_loopw [10] (fun v10 wr => ∃ (k : Nat) (D : ADisk) (ow : Own), v10 = .int .i64 (k : Int) ∧ k ≤ gs.length ∧ SickSt w wr K first bd bs f D ow) (fun v10 _ => gs.length - (intOf v10).toNat)
          case atStart => exact ⟨0, D, ow4, rfl, Nat.zero_le _, HST.out⟩
          case round =>
            obtain ⟨k, D5, ow5, rfl, hk, hst⟩ := hrel
            have HS := Lib.hid hst
            clear hst HST
            by_cases hlt : k < gs.length
            · obtain ⟨g, off, ho, hgK, o1, c1, q1, q2, hrecs⟩ : ∃ g off, o = some ⟨g, off, none⟩ ∧ g < K ∧ ∃ o1 c1, w.cell? ⟨g, off + k * 2, none⟩ = some (.slice o1 gs[k].recs.length c1) ∧ w.cell? ⟨g, off + k * 2 + 1, none⟩ = some (.bool gs[k].sync) ∧ RecsIn w (.slice o1 gs[k].recs.length c1) gs[k].recs := by
                rcases HV.out.form with ⟨h, h2⟩ | ⟨g, off, cap', h, _, h3⟩
                · subst h2; simp at hlt
                · injection h with h1
                  obtain ⟨o1, c1, q1, q2, q3⟩ := h3 k hlt
                  have hl := World.block_lt_of_cell? _ _ q1
                  exact ⟨g, off, h1, by have := HK.out; simp only at hl; omega, o1, c1, q1, q2, q3⟩
              subst ho
              have hgw : g < w.heap.size := World.block_lt_of_cell? _ _ q1
              have hwt := weigh_take gs k hlt
              have hwl := weigh_le gs (k + 1)
              have hrw := weighR_count gs[k].recs
              obtain ⟨rs, hrs⟩ : ∃ rs, rs = gs[k].recs := ⟨_, rfl⟩
              obtain ⟨sy, hsy⟩ : ∃ sy, sy = gs[k].sync := ⟨_, rfl⟩
              rw [← hrs] at hwt hrw hrecs q1
              rw [← hsy] at q2
              have HRE := Lib.hid hrecs
              have Q1 := Lib.hid q1
              have Q2 := Lib.hid q2
              have hrl : rs.length ≤ 524288 := by have := HW.out; omega
              have HLEN := Lib.hid (show ∀ r ∈ rs, r.length ≤ 1099511627776 from fun r hr => by have := weighR_mem r rs hr; have := HW.out; omega)
              have HNX := Lib.hid (seg_next HS.out.seg)
              have HBL := Lib.hid (seg_blocks HS.out.seg)
              clear hrecs hwt hwl hrw hrs hsy q1 q2
              go_wp2_with fail
              refine HNX.out.mono ?_
              rintro e w5 ⟨rfl, rfl⟩
              go_wp2_with fail
              refine HBL.out.mono ?_
              rintro e w6 ⟨rfl, rfl⟩
              go_wp2_with fail
              have hfA : Fr (fun _ => False) w6 (w6.alloc (.cells #[.int .i64 1, .int .i64 part] 54)) := (Fr.refl _ _).alloc _
              have hsl : SliceIs (w6.alloc (.cells #[.int .i64 1, .int .i64 part] 54)) 2 (.slice (some ⟨w6.heap.size, 0, none⟩) 1 1) 1 ([((1 : Int), part)].flatMap failCells) := by
                refine .inr ⟨_, 1, rfl, by omega, rfl, fun j u hu => ?_⟩
                rw [addr_add, cell_at (Go.MapKept.heap_alloc w6 (.cells #[.int .i64 1, .int .i64 part] 54)).1, Nat.zero_add, ← Array.getElem?_toList]
                exact hu
              have hstA := HS.out.step hfA
              generalize (w6.alloc (.cells #[.int .i64 1, .int .i64 part] 54)) = wA at *
              generalize w6.heap.size = zA at *
              have HAR := Lib.hid (disk_arm hstA.disk (Nat.le_trans HE.out.G.size hstA.fr.size) (.slice (some ⟨zA, 0, none⟩) 1 1) [((1 : Int), part)] 0 hsl (by simp))
              have HSA := Lib.hid hstA
              clear hfA hsl hstA HNX HBL
              refine HAR.out.mono ?_
              rintro e w7 ⟨rfl, hA7⟩
              obtain ⟨D7, ow7, hst7, ha7⟩ := HSA.out.arm hA7
              have HS7 := Lib.hid hst7
              have HA7 := Lib.hid ha7
              have q2 : w7.cell? ⟨g, off + k * 2 + 1, none⟩ = some (.bool sy) := (hst7.fr.cell (a := ⟨g, off + k * 2 + 1, none⟩) hgw (by simp only; omega)).trans Q2.out
              have q1 : w7.cell? ⟨g, off + k * 2, none⟩ = some (.slice o1 rs.length c1) := (hst7.fr.cell (a := ⟨g, off + k * 2, none⟩) hgw (by simp only; omega)).trans Q1.out
              have HR7 := Lib.hid (HRE.out.low (w' := w7) (by rw [← HK.out]; exact hst7.fr))
              have HE7 := Lib.hid (FrUp.env HE.out hst7.fr)
              clear hA7 hst7 ha7 HAR HSA
              cases sy with
              | true =>
                have hop := armed_io HS7.out.down HA7.out (goneE D7.names (nameB first))
                have hSY := seg_sync_go HS7.out.seg HS7.out.disk HS7.out.out HE7.out.G rfl
                simp only at hSY
                rw [hop] at hSY
                have HSY := Lib.hid (hSY.mono (R' := fun e w8 => e = .returned (.iface 211 (.pointer (some (eb .io)))) ∧ SickEnd w w8 K first bd bs) (fun e w8 q => by
                  obtain ⟨q1, D8, ow8, _, q2, q3, _, q5, _⟩ := q
                  exact ⟨q1, D8, ow8, q2, q5, Fr.trans HS7.out.fr (HS7.out.upOf q3)⟩))
                clear hSY hop
                go_wp2_with fail
                refine HSY.out.mono ?_
                rintro e w8 ⟨rfl, hend⟩
                have HEND := Lib.hid hend
                clear hend HSY
                obtain ⟨D8, ow8, hd8, hs8, hu8⟩ := HEND.out
                have hE8 := FrUp.env HE.out hu8
                have vl : w8.cell? ⟨1, 0, none⟩ = some (.iface 211 (.pointer (some (eb .long)))) := hE8.G.var .long rfl
                have vi : w8.cell? ⟨2, 0, none⟩ = some (.iface 211 (.pointer (some (eb .io)))) := hE8.G.var .io rfl
                have vs : w8.cell? ⟨0, 0, none⟩ = some (.iface 211 (.pointer (some (eb .sick)))) := hE8.G.var' .sick HSS.out
                have heq1 := eql_two hE8.G .io .long (hE8.G.core _ rfl) (hE8.G.core _ rfl) (by decide)
                have HOP := Lib.hid (disk_ops hd8)
                have HSE := Lib.hid hs8
                have HDE := Lib.hid hd8
                have HUE := Lib.hid hu8
                have HGE := Lib.hid hE8.G
                clear hE8 hd8 hs8 hu8 HEND
                go_wp2_with fail
                refine HOP.out.mono ?_
                rintro e w9 ⟨rfl, rfl⟩
                clear heq1
                go_wp2_with fail
                have cs : (convert 24 24 (.slice (some ⟨w9.heap.size, 0, none⟩) 1 1)).run Tryz.prog (w9.alloc (.cells #[.int .u8 120] 5)).drew = .ok (.slice (some ⟨w9.heap.size, 0, none⟩) 1 1) (w9.alloc (.cells #[.int .u8 120] 5 (1, 2))).drew := Lib.run_convert_bytes_const w9.drew 24 5 #[.int .u8 120] 1 1 Tryz.underlying24 Tryz.underlying5
                have hzs : 0 < w9.heap.size := Nat.lt_of_lt_of_le (HGE.out.lt .sick HSS.out).1 HGE.out.size
                have hzi : 2 < w9.heap.size := Nat.lt_of_lt_of_le (HGE.out.lt .io (HGE.out.core _ rfl)).1 HGE.out.size
                have heq := neqS_same (eb .sick)
                have hei := neqS_same (eb .io)
                have HGW := Lib.hid (fun (W : World) (h : Fr (fun _ => False) w9 W) => HGE.out.fr h (fun _ h => h.elim))
                have HAP := Lib.hid (fun (W : World) (v : Value) (h : Fr (fun _ => False) w9 W) => (show Calls Tryz.prog 9 #[.pointer (some ⟨bs, 0, none⟩), v] W fun e w' => e = .returned (.iface 211 (.pointer (some (eb .sick)))) ∧ Fr (fun _ => False) w9 w' from (seg_append_sick (HSE.out.fr h (fun q => q)) (HGW.out W h) HSS.out (.inl rfl) v).mono (fun e w' q => ⟨q.1, q.2 ▸ h⟩)))
                have HSY := Lib.hid (fun (W : World) (h : Fr (fun _ => False) w9 W) => (show Calls Tryz.prog 22 #[.pointer (some ⟨bs, 0, none⟩)] W fun e w' => e = .returned (.iface 211 (.pointer (some (eb .sick)))) ∧ Fr (fun _ => False) w9 w' from (seg_sync_sick (HSE.out.fr h (fun q => q)) (HGW.out W h) HSS.out rfl).mono (fun e w' q => ⟨q.1, q.2 ▸ h⟩)))
                have HCT := Lib.hid (fun (W : World) (h : Fr (fun _ => False) w9 W) => (show Calls Tryz.prog 19 #[.pointer (some ⟨bs, 0, none⟩)] W fun e w' => e = .returned (.iface 211 (.pointer (some (eb .sick)))) ∧ Fr (fun _ => False) w9 w' from (seg_cut_sick (HSE.out.fr h (fun q => q)) (HGW.out W h) HSS.out rfl).mono (fun e w' q => ⟨q.1, q.2 ▸ h⟩)))
                have HOPX := Lib.hid (fun (W : World) (h : Fr (fun _ => False) w9 W) => disk_ops (HDE.out.out h (fun _ _ h => h)))
                have HNXX := Lib.hid (fun (W : World) (h : Fr (fun _ => False) w9 W) => seg_next (HSE.out.fr h (fun q => q)))
                have HBLX := Lib.hid (fun (W : World) (h : Fr (fun _ => False) w9 W) => seg_blocks (HSE.out.fr h (fun q => q)))
                have HKE := Lib.hid (fun (W : World) (h : Fr (fun _ => False) w9 W) => And.intro ((h.cell (a := ⟨2, 0, none⟩) hzi (fun q => q)).trans vi) ((h.cell (a := ⟨0, 0, none⟩) hzs (fun q => q)).trans vs))
                clear hzs hzi
                refine wp_region_noPanic ?_
                refine wp_region_held_drew (S := fun W => W.cell? ⟨2, 0, none⟩ = some (.iface 211 (.pointer (some (eb .io)))) ∧ W.cell? ⟨0, 0, none⟩ = some (.iface 211 (.pointer (some (eb .sick))))) (by kernel_rfl) ?_ (fun hH => ?_)
                · exact ⟨vi, vs⟩
                refine wpAnyH_take (i := 0) (v := ?_) (by simp only [List.getElem?_toArray, List.getElem?_cons_zero]; exact rfl) (by kernel_rfl) (by kernel_rfl) (by kernel_rfl) (fun _ _ _ h => h) (Or.inl ⟨by rfl, ?_⟩) hH ?_
                rotate_left
                · (intro w hSw; (try dsimp only at hSw); go_simp; all_goals (with_reducible rfl))
                try simp only [Act.put, List.setIfInBounds_toArray, List.set_cons_zero, List.set_cons_succ]
                refine wpAnyH_take (i := 1) (v := ?_) (by simp only [List.getElem?_toArray, List.getElem?_cons_succ, List.getElem?_cons_zero]; exact rfl) (by kernel_rfl) (by kernel_rfl) (by kernel_rfl) (fun _ _ _ h => h) (Or.inl ⟨by rfl, ?_⟩) hH ?_
                rotate_left
                · (intro w hSw; (try dsimp only at hSw); go_simp; all_goals (with_reducible rfl))
                try simp only [Act.put, List.setIfInBounds_toArray, List.set_cons_zero, List.set_cons_succ]
                refine wpAnyH_take (i := 2) (v := ?_) (by simp only [List.getElem?_toArray, List.getElem?_cons_succ, List.getElem?_cons_zero]; exact rfl) (by kernel_rfl) (by kernel_rfl) (by kernel_rfl) (fun _ _ _ h => h) (Or.inl ⟨by rfl, ?_⟩) hH ?_
                rotate_left
                · (intro w hSw; (try dsimp only at hSw); go_simp; all_goals (with_reducible rfl))
                try simp only [Act.put, List.setIfInBounds_toArray, List.set_cons_zero, List.set_cons_succ]
                refine wpAnyH_take (i := 3) (v := ?_) (by simp only [List.getElem?_toArray, List.getElem?_cons_succ, List.getElem?_cons_zero]; exact rfl) (by kernel_rfl) (by kernel_rfl) (by kernel_rfl) (fun _ _ _ h => h) (Or.inl ⟨by rfl, ?_⟩) hH ?_
                rotate_left
                · (intro w hSw; (try dsimp only at hSw); go_simp; all_goals (with_reducible rfl))
                try simp only [Act.put, List.setIfInBounds_toArray, List.set_cons_zero, List.set_cons_succ]
                refine wpAnyH_take (i := 4) (v := ?_) (by simp only [List.getElem?_toArray, List.getElem?_cons_succ, List.getElem?_cons_zero]; exact rfl) (by kernel_rfl) (by kernel_rfl) (by kernel_rfl) (fun _ _ _ h => h) (Or.inl ⟨by rfl, ?_⟩) hH ?_
                rotate_left
                · (intro w hSw; (try dsimp only at hSw); go_simp; all_goals (with_reducible rfl))
                try simp only [Act.put, List.setIfInBounds_toArray, List.set_cons_zero, List.set_cons_succ]
                refine wpAnyH_take (i := 9) (v := ?_) (by simp only [List.getElem?_toArray, List.getElem?_cons_succ, List.getElem?_cons_zero]; exact rfl) (by kernel_rfl) (by kernel_rfl) (by kernel_rfl) (fun _ _ _ h => h) (Or.inl ⟨by rfl, ?_⟩) hH ?_
                rotate_left
                · (intro w hSw; (try dsimp only at hSw); go_simp; all_goals (with_reducible rfl))
                try simp only [Act.put, List.setIfInBounds_toArray, List.set_cons_zero, List.set_cons_succ]
                refine wpAnyH_ready (rs := [5]) (by kernel_rfl) (by simp) ?_
                refine AllReadyH.cons (by simp only [List.getElem?_toArray, List.getElem?_cons_succ, List.getElem?_cons_zero]; exact rfl) (fun KK hKK => ?_) AllReadyH.nil
                go_simp
                refine hKK.out _ _ ?_ (fun hH2 => ?_)
                · (first | exact ⟨vi, vs⟩ | (refine HKE.out _ ?_; repeat (first | exact Fr.refl _ _ | assumption | refine Fr.drew ?_ | refine Fr.alloc ?_ _)))
                clear hH hKK KK
                have hH := hH2
                clear hH2
                try simp only [Act.put, List.setIfInBounds_toArray, List.set_cons_zero, List.set_cons_succ]
                refine wpAnyH_ready (rs := [6]) (by kernel_rfl) (by simp) ?_
                refine AllReadyH.cons (by simp only [List.getElem?_toArray, List.getElem?_cons_succ, List.getElem?_cons_zero]; exact rfl) (fun KK hKK => ?_) AllReadyH.nil
                go_simp
                refine hKK.out _ _ ?_ (fun hH2 => ?_)
                · (first | exact ⟨vi, vs⟩ | (refine HKE.out _ ?_; repeat (first | exact Fr.refl _ _ | assumption | refine Fr.drew ?_ | refine Fr.alloc ?_ _)))
                clear hH hKK KK
                have hH := hH2
                clear hH2
                try simp only [Act.put, List.setIfInBounds_toArray, List.set_cons_zero, List.set_cons_succ]
                refine wpAnyH_ready (rs := [7]) (by kernel_rfl) (by simp) ?_
                refine AllReadyH.cons (by simp only [List.getElem?_toArray, List.getElem?_cons_succ, List.getElem?_cons_zero]; exact rfl) (fun KK hKK => ?_) AllReadyH.nil
                go_simp
                refine hKK.out _ _ ?_ (fun hH2 => ?_)
                · (first | exact ⟨vi, vs⟩ | (refine HKE.out _ ?_; repeat (first | exact Fr.refl _ _ | assumption | refine Fr.drew ?_ | refine Fr.alloc ?_ _)))
                clear hH hKK KK
                have hH := hH2
                clear hH2
                try simp only [Act.put, List.setIfInBounds_toArray, List.set_cons_zero, List.set_cons_succ]
                refine wpAnyH_ready (rs := [8]) (by kernel_rfl) (by simp) ?_
                refine AllReadyH.cons (by simp only [List.getElem?_toArray, List.getElem?_cons_succ, List.getElem?_cons_zero]; exact rfl) (fun KK hKK => ?_) AllReadyH.nil
                go_simp
                refine (HAP.out _ _ (by repeat (first | exact Fr.refl _ _ | assumption | refine Fr.drew ?_ | refine Fr.alloc ?_ _))).mono ?_
                rintro e wW1 ⟨rfl, hfW1⟩
                go_wp2_with fail
                refine hKK.out _ _ ?_ (fun hH2 => ?_)
                · (first | exact ⟨vi, vs⟩ | (refine HKE.out _ ?_; repeat (first | exact Fr.refl _ _ | assumption | refine Fr.drew ?_ | refine Fr.alloc ?_ _)))
                clear hH hKK KK
                have hH := hH2
                clear hH2
                try simp only [Act.put, List.setIfInBounds_toArray, List.set_cons_zero, List.set_cons_succ]
                refine wpAnyH_take (i := 10) (v := ?_) (by simp only [List.getElem?_toArray, List.getElem?_cons_succ, List.getElem?_cons_zero]; exact rfl) (by kernel_rfl) (by kernel_rfl) (by kernel_rfl) (fun _ _ _ h => h) (Or.inl ⟨by rfl, ?_⟩) hH ?_
                rotate_left
                · (intro w hSw; (try dsimp only at hSw); go_simp; all_goals (with_reducible rfl))
                try simp only [Act.put, List.setIfInBounds_toArray, List.set_cons_zero, List.set_cons_succ]
                refine wpAnyH_take (i := 11) (v := ?_) (by simp only [List.getElem?_toArray, List.getElem?_cons_succ, List.getElem?_cons_zero]; exact rfl) (by kernel_rfl) (by kernel_rfl) (by kernel_rfl) (fun _ _ _ h => h) (Or.inl ⟨by rfl, ?_⟩) hH ?_
                rotate_left
                · (intro w hSw; (try dsimp only at hSw); go_simp; all_goals (with_reducible rfl))
                try simp only [Act.put, List.setIfInBounds_toArray, List.set_cons_zero, List.set_cons_succ]
                refine wpAnyH_take (i := 12) (v := ?_) (by simp only [List.getElem?_toArray, List.getElem?_cons_succ, List.getElem?_cons_zero]; exact rfl) (by kernel_rfl) (by kernel_rfl) (by kernel_rfl) (fun _ _ _ h => h) (Or.inl ⟨by rfl, ?_⟩) hH ?_
                rotate_left
                · (intro w hSw; (try dsimp only at hSw); go_simp; all_goals (with_reducible rfl))
                try simp only [Act.put, List.setIfInBounds_toArray, List.set_cons_zero, List.set_cons_succ]
                refine wpAnyH_take (i := 13) (v := ?_) (by simp only [List.getElem?_toArray, List.getElem?_cons_succ, List.getElem?_cons_zero]; exact rfl) (by kernel_rfl) (by kernel_rfl) (by kernel_rfl) (fun _ _ _ h => h) (Or.inl ⟨by rfl, ?_⟩) hH ?_
                rotate_left
                · (intro w hSw; (try dsimp only at hSw); go_simp; all_goals (with_reducible rfl))
                try simp only [Act.put, List.setIfInBounds_toArray, List.set_cons_zero, List.set_cons_succ]
                refine wpAnyH_take (i := 15) (v := ?_) (by simp only [List.getElem?_toArray, List.getElem?_cons_succ, List.getElem?_cons_zero]; exact rfl) (by kernel_rfl) (by kernel_rfl) (by kernel_rfl) (fun _ _ _ h => h) (Or.inl ⟨by rfl, ?_⟩) hH ?_
                rotate_left
                · (intro w hSw; (try dsimp only at hSw); go_simp; all_goals (with_reducible rfl))
                try simp only [Act.put, List.setIfInBounds_toArray, List.set_cons_zero, List.set_cons_succ]
                refine wpAnyH_ready (rs := [14]) (by kernel_rfl) (by simp) ?_
                refine AllReadyH.cons (by simp only [List.getElem?_toArray, List.getElem?_cons_succ, List.getElem?_cons_zero]; exact rfl) (fun KK hKK => ?_) AllReadyH.nil
                go_simp
                refine (HAP.out _ _ (by repeat (first | exact Fr.refl _ _ | assumption | refine Fr.drew ?_ | refine Fr.alloc ?_ _))).mono ?_
                rintro e wW2 ⟨rfl, hfW2⟩
                go_wp2_with fail
                refine hKK.out _ _ ?_ (fun hH2 => ?_)
                · (first | exact ⟨vi, vs⟩ | (refine HKE.out _ ?_; repeat (first | exact Fr.refl _ _ | assumption | refine Fr.drew ?_ | refine Fr.alloc ?_ _)))
                clear hH hKK KK
                have hH := hH2
                clear hH2
                try simp only [Act.put, List.setIfInBounds_toArray, List.set_cons_zero, List.set_cons_succ]
                refine wpAnyH_take (i := 16) (v := ?_) (by simp only [List.getElem?_toArray, List.getElem?_cons_succ, List.getElem?_cons_zero]; exact rfl) (by kernel_rfl) (by kernel_rfl) (by kernel_rfl) (fun _ _ _ h => h) (Or.inl ⟨by rfl, ?_⟩) hH ?_
                rotate_left
                · (intro w hSw; (try dsimp only at hSw); go_simp; all_goals (with_reducible rfl))
                try simp only [Act.put, List.setIfInBounds_toArray, List.set_cons_zero, List.set_cons_succ]
                refine wpAnyH_take (i := 17) (v := ?_) (by simp only [List.getElem?_toArray, List.getElem?_cons_succ, List.getElem?_cons_zero]; exact rfl) (by kernel_rfl) (by kernel_rfl) (by kernel_rfl) (fun _ _ _ h => h) (Or.inl ⟨by rfl, ?_⟩) hH ?_
                rotate_left
                · (intro w hSw; (try dsimp only at hSw); go_simp; all_goals (with_reducible rfl))
                try simp only [Act.put, List.setIfInBounds_toArray, List.set_cons_zero, List.set_cons_succ]
                refine wpAnyH_take (i := 18) (v := ?_) (by simp only [List.getElem?_toArray, List.getElem?_cons_succ, List.getElem?_cons_zero]; exact rfl) (by kernel_rfl) (by kernel_rfl) (by kernel_rfl) (fun _ _ _ h => h) (Or.inl ⟨by rfl, ?_⟩) hH ?_
                rotate_left
                · (intro w hSw; (try dsimp only at hSw); go_simp; all_goals (with_reducible rfl))
                try simp only [Act.put, List.setIfInBounds_toArray, List.set_cons_zero, List.set_cons_succ]
                refine wpAnyH_take (i := 19) (v := ?_) (by simp only [List.getElem?_toArray, List.getElem?_cons_succ, List.getElem?_cons_zero]; exact rfl) (by kernel_rfl) (by kernel_rfl) (by kernel_rfl) (fun _ _ _ h => h) (Or.inl ⟨by rfl, ?_⟩) hH ?_
                rotate_left
                · (intro w hSw; (try dsimp only at hSw); go_simp; all_goals (with_reducible rfl))
                try simp only [Act.put, List.setIfInBounds_toArray, List.set_cons_zero, List.set_cons_succ]
                refine wpAnyH_take (i := 21) (v := ?_) (by simp only [List.getElem?_toArray, List.getElem?_cons_succ, List.getElem?_cons_zero]; exact rfl) (by kernel_rfl) (by kernel_rfl) (by kernel_rfl) (fun _ _ _ h => h) (Or.inl ⟨by rfl, ?_⟩) hH ?_
                rotate_left
                · (intro w hSw; (try dsimp only at hSw); go_simp; all_goals (with_reducible rfl))
                try simp only [Act.put, List.setIfInBounds_toArray, List.set_cons_zero, List.set_cons_succ]
                refine wpAnyH_ready (rs := [20]) (by kernel_rfl) (by simp) ?_
                refine AllReadyH.cons (by simp only [List.getElem?_toArray, List.getElem?_cons_succ, List.getElem?_cons_zero]; exact rfl) (fun KK hKK => ?_) AllReadyH.nil
                go_simp
                refine (HSY.out _ (by repeat (first | exact Fr.refl _ _ | assumption | refine Fr.drew ?_ | refine Fr.alloc ?_ _))).mono ?_
                rintro e wW3 ⟨rfl, hfW3⟩
                go_wp2_with fail
                refine hKK.out _ _ ?_ (fun hH2 => ?_)
                · (first | exact ⟨vi, vs⟩ | (refine HKE.out _ ?_; repeat (first | exact Fr.refl _ _ | assumption | refine Fr.drew ?_ | refine Fr.alloc ?_ _)))
                clear hH hKK KK
                have hH := hH2
                clear hH2
                try simp only [Act.put, List.setIfInBounds_toArray, List.set_cons_zero, List.set_cons_succ]
                refine wpAnyH_take (i := 22) (v := ?_) (by simp only [List.getElem?_toArray, List.getElem?_cons_succ, List.getElem?_cons_zero]; exact rfl) (by kernel_rfl) (by kernel_rfl) (by kernel_rfl) (fun _ _ _ h => h) (Or.inl ⟨by rfl, ?_⟩) hH ?_
                rotate_left
                · (intro w hSw; (try dsimp only at hSw); go_simp; all_goals (with_reducible rfl))
                try simp only [Act.put, List.setIfInBounds_toArray, List.set_cons_zero, List.set_cons_succ]
                refine wpAnyH_take (i := 23) (v := ?_) (by simp only [List.getElem?_toArray, List.getElem?_cons_succ, List.getElem?_cons_zero]; exact rfl) (by kernel_rfl) (by kernel_rfl) (by kernel_rfl) (fun _ _ _ h => h) (Or.inl ⟨by rfl, ?_⟩) hH ?_
                rotate_left
                · (intro w hSw; (try dsimp only at hSw); go_simp; all_goals (with_reducible rfl))
                try simp only [Act.put, List.setIfInBounds_toArray, List.set_cons_zero, List.set_cons_succ]
                refine wpAnyH_take (i := 24) (v := ?_) (by simp only [List.getElem?_toArray, List.getElem?_cons_succ, List.getElem?_cons_zero]; exact rfl) (by kernel_rfl) (by kernel_rfl) (by kernel_rfl) (fun _ _ _ h => h) (Or.inl ⟨by rfl, ?_⟩) hH ?_
                rotate_left
                · (intro w hSw; (try dsimp only at hSw); go_simp; all_goals (with_reducible rfl))
                try simp only [Act.put, List.setIfInBounds_toArray, List.set_cons_zero, List.set_cons_succ]
                refine wpAnyH_take (i := 25) (v := ?_) (by simp only [List.getElem?_toArray, List.getElem?_cons_succ, List.getElem?_cons_zero]; exact rfl) (by kernel_rfl) (by kernel_rfl) (by kernel_rfl) (fun _ _ _ h => h) (Or.inl ⟨by rfl, ?_⟩) hH ?_
                rotate_left
                · (intro w hSw; (try dsimp only at hSw); go_simp; all_goals (with_reducible rfl))
                try simp only [Act.put, List.setIfInBounds_toArray, List.set_cons_zero, List.set_cons_succ]
                refine wpAnyH_take (i := 27) (v := ?_) (by simp only [List.getElem?_toArray, List.getElem?_cons_succ, List.getElem?_cons_zero]; exact rfl) (by kernel_rfl) (by kernel_rfl) (by kernel_rfl) (fun _ _ _ h => h) (Or.inl ⟨by rfl, ?_⟩) hH ?_
                rotate_left
                · (intro w hSw; (try dsimp only at hSw); go_simp; all_goals (with_reducible rfl))
                try simp only [Act.put, List.setIfInBounds_toArray, List.set_cons_zero, List.set_cons_succ]
                refine wpAnyH_ready (rs := [26]) (by kernel_rfl) (by simp) ?_
                refine AllReadyH.cons (by simp only [List.getElem?_toArray, List.getElem?_cons_succ, List.getElem?_cons_zero]; exact rfl) (fun KK hKK => ?_) AllReadyH.nil
                go_simp
                refine (HCT.out _ (by repeat (first | exact Fr.refl _ _ | assumption | refine Fr.drew ?_ | refine Fr.alloc ?_ _))).mono ?_
                rintro e wW4 ⟨rfl, hfW4⟩
                go_wp2_with fail
                refine hKK.out _ _ ?_ (fun hH2 => ?_)
                · (first | exact ⟨vi, vs⟩ | (refine HKE.out _ ?_; repeat (first | exact Fr.refl _ _ | assumption | refine Fr.drew ?_ | refine Fr.alloc ?_ _)))
                clear hH hKK KK
                have hH := hH2
                clear hH2
                try simp only [Act.put, List.setIfInBounds_toArray, List.set_cons_zero, List.set_cons_succ]
                refine wpAnyH_take (i := 28) (v := ?_) (by simp only [List.getElem?_toArray, List.getElem?_cons_succ, List.getElem?_cons_zero]; exact rfl) (by kernel_rfl) (by kernel_rfl) (by kernel_rfl) (fun _ _ _ h => h) (Or.inl ⟨by rfl, ?_⟩) hH ?_
                rotate_left
                · (intro w hSw; (try dsimp only at hSw); go_simp; all_goals (with_reducible rfl))
                try simp only [Act.put, List.setIfInBounds_toArray, List.set_cons_zero, List.set_cons_succ]
                refine wpAnyH_take (i := 29) (v := ?_) (by simp only [List.getElem?_toArray, List.getElem?_cons_succ, List.getElem?_cons_zero]; exact rfl) (by kernel_rfl) (by kernel_rfl) (by kernel_rfl) (fun _ _ _ h => h) (Or.inl ⟨by rfl, ?_⟩) hH ?_
                rotate_left
                · (intro w hSw; (try dsimp only at hSw); go_simp; all_goals (with_reducible rfl))
                try simp only [Act.put, List.setIfInBounds_toArray, List.set_cons_zero, List.set_cons_succ]
                refine wpAnyH_done (by kernel_rfl) ?_ _
                refine NoPanic.normal ?_
                clear cs heq hei HAP HSY HCT HKE vi vs vl hH
                have b1 : (D8.ops == D8.ops) = true := beq_self_eq_true _
                have b2 : ((first : Int) == first) = true := beq_self_eq_true _
                go_wp2_with fail
                refine (HOPX.out _ hfW4).mono ?_
                rintro e wX ⟨rfl, rfl⟩
                go_wp2_with fail
                refine (HNXX.out _ hfW4).mono ?_
                rintro e wY ⟨rfl, rfl⟩
                go_wp2_with fail
                refine (HBLX.out _ hfW4).mono ?_
                rintro e wZ ⟨rfl, rfl⟩
                go_wp2_with fail
                go_ret
                exact ⟨rfl, Fr.trans HUE.out (FrUp.none (K := K) hfW4)⟩
              | false =>
                by_cases h0 : rs = []
                · have hr0 : ¬ (0 : Int) < (rs.length : Int) := by rw [h0]; simp
                  have HAP := Lib.hid (show Calls Tryz.prog 9 #[.pointer (some ⟨bs, 0, none⟩), .slice o1 rs.length c1] w7 fun e w' => e = .returned .nilIface ∧ w' = w7 from by
                    subst h0; exact seg_append_none HS7.out.seg rfl rfl o1 c1)
                  clear h0
                  go_wp2_with fail
                  refine HAP.out.mono ?_
                  rintro e w8 ⟨rfl, rfl⟩
                  go_wp2_with fail
                  exact ⟨⟨k + 1, D7, ow7, by go_num, by omega, HS7.out⟩, by simp [intOf]; omega⟩
                · cases hp : packE first rs with
                  | some x =>
                    have hx : x = .long := by
                      unfold packE at hp
                      rw [if_neg h0] at hp
                      split at hp
                      · rename_i hnum
                        exfalso
                        unfold numbersB at hnum
                        have := of_decide_eq_false hnum
                        have := List.length_pos_iff.2 h0
                        omega
                      · split at hp
                        · cases hp; rfl
                        · cases hp
                    subst hx
                    have HAP := Lib.hid (seg_append_bad HS7.out.seg HE7.out.G rfl rfl hf64 o1 c1 rs HR7.out (by omega) HLEN.out .long hp)
                    rw [show erV eb (some Er.long) = .iface 211 (.pointer (some (eb .long))) from rfl] at HAP
                    clear h0 hp
                    go_wp2_with fail
                    refine HAP.out.mono ?_
                    rintro e w8 ⟨rfl, hf8⟩
                    have vl : w8.cell? ⟨1, 0, none⟩ = some (.iface 211 (.pointer (some (eb .long)))) := (HE7.out.fr hf8 (fun _ h => h.elim)).G.var .long rfl
                    have heq := eql_same (eb .long)
                    have HS8 := Lib.hid (HS7.out.step hf8)
                    clear hf8 HAP
                    go_wp2_with fail
                    exact ⟨⟨k + 1, D7, ow7, by go_num, by omega, HS8.out⟩, by simp [intOf]; omega⟩
                  | none =>
                    obtain ⟨g1, off1, ho1, hcap1⟩ : ∃ g1 off1, o1 = some ⟨g1, off1, none⟩ ∧ rs.length ≤ c1 := by
                      obtain ⟨vs1, hl1, hs1, _⟩ := HR7.out
                      rcases hs1 with ⟨_, q, _⟩ | ⟨a, c', q, q2, q3, q4⟩
                      · exact absurd (List.eq_nil_of_length_eq_zero q) h0
                      · injection q with q1 _ q5
                        have hpos := List.length_pos_iff.2 h0
                        have hc := q4 0 (vs1[0]'(by omega)) (List.getElem?_eq_getElem (by omega))
                        have hsp := World.cell?_spot hc
                        obtain ⟨b, off, sp⟩ := a
                        have : sp = none := by simpa [Addr.add] using hsp
                        subst this
                        exact ⟨b, off, q1, by omega⟩
                    subst ho1
                    have hpl := packB_length first rs
                    have hop := armed_io HS7.out.down HA7.out (goneE D7.names (nameB first))
                    have hAP := seg_append_go HS7.out.seg HS7.out.disk HS7.out.out HE7.out rfl rfl hf64 (by simp only; omega) g1 off1 c1 rs HR7.out hcap1 (by omega) h0 hp (fun f' hf' => by
                      have : f' = f := by have := HS7.out.has; simp only at hf'; rw [hf'] at this; cases this; rfl
                      subst this
                      rw [HS7.out.data]
                      unfold maxData
                      simp only [List.length_nil]
                      omega)
                    simp only at hAP
                    rw [hop] at hAP
                    have HSY := Lib.hid (hAP.mono (R' := fun e w8 => e = .returned (.iface 211 (.pointer (some (eb .io)))) ∧ SickEnd w w8 K first bd bs) (fun e w8 q => by
                      obtain ⟨q1, D8, ow8, _, q2, q3, _, q5⟩ := q
                      exact ⟨q1, D8, ow8, q2, q5, Fr.trans HS7.out.fr (HS7.out.upOf q3)⟩))
                    clear hAP hop h0 hp
                    go_wp2_with fail
                    refine HSY.out.mono ?_
                    rintro e w8 ⟨rfl, hend⟩
                    have HEND := Lib.hid hend
                    clear hend HSY
                    obtain ⟨D8, ow8, hd8, hs8, hu8⟩ := HEND.out
                    have hE8 := FrUp.env HE.out hu8
                    have vl : w8.cell? ⟨1, 0, none⟩ = some (.iface 211 (.pointer (some (eb .long)))) := hE8.G.var .long rfl
                    have vi : w8.cell? ⟨2, 0, none⟩ = some (.iface 211 (.pointer (some (eb .io)))) := hE8.G.var .io rfl
                    have vs : w8.cell? ⟨0, 0, none⟩ = some (.iface 211 (.pointer (some (eb .sick)))) := hE8.G.var' .sick HSS.out
                    have heq1 := eql_two hE8.G .io .long (hE8.G.core _ rfl) (hE8.G.core _ rfl) (by decide)
                    have HOP := Lib.hid (disk_ops hd8)
                    have HSE := Lib.hid hs8
                    have HDE := Lib.hid hd8
                    have HUE := Lib.hid hu8
                    have HGE := Lib.hid hE8.G
                    clear hE8 hd8 hs8 hu8 HEND
                    go_wp2_with fail
                    refine HOP.out.mono ?_
                    rintro e w9 ⟨rfl, rfl⟩
                    clear heq1
                    go_wp2_with fail
                    have cs : (convert 24 24 (.slice (some ⟨w9.heap.size, 0, none⟩) 1 1)).run Tryz.prog (w9.alloc (.cells #[.int .u8 120] 5)).drew = .ok (.slice (some ⟨w9.heap.size, 0, none⟩) 1 1) (w9.alloc (.cells #[.int .u8 120] 5 (1, 2))).drew := Lib.run_convert_bytes_const w9.drew 24 5 #[.int .u8 120] 1 1 Tryz.underlying24 Tryz.underlying5
                    have hzs : 0 < w9.heap.size := Nat.lt_of_lt_of_le (HGE.out.lt .sick HSS.out).1 HGE.out.size
                    have hzi : 2 < w9.heap.size := Nat.lt_of_lt_of_le (HGE.out.lt .io (HGE.out.core _ rfl)).1 HGE.out.size
                    have heq := neqS_same (eb .sick)
                    have hei := neqS_same (eb .io)
                    have HGW := Lib.hid (fun (W : World) (h : Fr (fun _ => False) w9 W) => HGE.out.fr h (fun _ h => h.elim))
                    have HAP := Lib.hid (fun (W : World) (v : Value) (h : Fr (fun _ => False) w9 W) => (show Calls Tryz.prog 9 #[.pointer (some ⟨bs, 0, none⟩), v] W fun e w' => e = .returned (.iface 211 (.pointer (some (eb .sick)))) ∧ Fr (fun _ => False) w9 w' from (seg_append_sick (HSE.out.fr h (fun q => q)) (HGW.out W h) HSS.out (.inl rfl) v).mono (fun e w' q => ⟨q.1, q.2 ▸ h⟩)))
                    have HSY := Lib.hid (fun (W : World) (h : Fr (fun _ => False) w9 W) => (show Calls Tryz.prog 22 #[.pointer (some ⟨bs, 0, none⟩)] W fun e w' => e = .returned (.iface 211 (.pointer (some (eb .sick)))) ∧ Fr (fun _ => False) w9 w' from (seg_sync_sick (HSE.out.fr h (fun q => q)) (HGW.out W h) HSS.out rfl).mono (fun e w' q => ⟨q.1, q.2 ▸ h⟩)))
                    have HCT := Lib.hid (fun (W : World) (h : Fr (fun _ => False) w9 W) => (show Calls Tryz.prog 19 #[.pointer (some ⟨bs, 0, none⟩)] W fun e w' => e = .returned (.iface 211 (.pointer (some (eb .sick)))) ∧ Fr (fun _ => False) w9 w' from (seg_cut_sick (HSE.out.fr h (fun q => q)) (HGW.out W h) HSS.out rfl).mono (fun e w' q => ⟨q.1, q.2 ▸ h⟩)))
                    have HOPX := Lib.hid (fun (W : World) (h : Fr (fun _ => False) w9 W) => disk_ops (HDE.out.out h (fun _ _ h => h)))
                    have HNXX := Lib.hid (fun (W : World) (h : Fr (fun _ => False) w9 W) => seg_next (HSE.out.fr h (fun q => q)))
                    have HBLX := Lib.hid (fun (W : World) (h : Fr (fun _ => False) w9 W) => seg_blocks (HSE.out.fr h (fun q => q)))
                    have HKE := Lib.hid (fun (W : World) (h : Fr (fun _ => False) w9 W) => And.intro ((h.cell (a := ⟨2, 0, none⟩) hzi (fun q => q)).trans vi) ((h.cell (a := ⟨0, 0, none⟩) hzs (fun q => q)).trans vs))
                    clear hzs hzi
                    refine wp_region_noPanic ?_
                    refine wp_region_held_drew (S := fun W => W.cell? ⟨2, 0, none⟩ = some (.iface 211 (.pointer (some (eb .io)))) ∧ W.cell? ⟨0, 0, none⟩ = some (.iface 211 (.pointer (some (eb .sick))))) (by kernel_rfl) ?_ (fun hH => ?_)
                    · exact ⟨vi, vs⟩
                    refine wpAnyH_take (i := 0) (v := ?_) (by simp only [List.getElem?_toArray, List.getElem?_cons_zero]; exact rfl) (by kernel_rfl) (by kernel_rfl) (by kernel_rfl) (fun _ _ _ h => h) (Or.inl ⟨by rfl, ?_⟩) hH ?_
                    rotate_left
                    · (intro w hSw; (try dsimp only at hSw); go_simp; all_goals (with_reducible rfl))
                    try simp only [Act.put, List.setIfInBounds_toArray, List.set_cons_zero, List.set_cons_succ]
                    refine wpAnyH_take (i := 1) (v := ?_) (by simp only [List.getElem?_toArray, List.getElem?_cons_succ, List.getElem?_cons_zero]; exact rfl) (by kernel_rfl) (by kernel_rfl) (by kernel_rfl) (fun _ _ _ h => h) (Or.inl ⟨by rfl, ?_⟩) hH ?_
                    rotate_left
                    · (intro w hSw; (try dsimp only at hSw); go_simp; all_goals (with_reducible rfl))
                    try simp only [Act.put, List.setIfInBounds_toArray, List.set_cons_zero, List.set_cons_succ]
                    refine wpAnyH_take (i := 2) (v := ?_) (by simp only [List.getElem?_toArray, List.getElem?_cons_succ, List.getElem?_cons_zero]; exact rfl) (by kernel_rfl) (by kernel_rfl) (by kernel_rfl) (fun _ _ _ h => h) (Or.inl ⟨by rfl, ?_⟩) hH ?_
                    rotate_left
                    · (intro w hSw; (try dsimp only at hSw); go_simp; all_goals (with_reducible rfl))
                    try simp only [Act.put, List.setIfInBounds_toArray, List.set_cons_zero, List.set_cons_succ]
                    refine wpAnyH_take (i := 3) (v := ?_) (by simp only [List.getElem?_toArray, List.getElem?_cons_succ, List.getElem?_cons_zero]; exact rfl) (by kernel_rfl) (by kernel_rfl) (by kernel_rfl) (fun _ _ _ h => h) (Or.inl ⟨by rfl, ?_⟩) hH ?_
                    rotate_left
                    · (intro w hSw; (try dsimp only at hSw); go_simp; all_goals (with_reducible rfl))
                    try simp only [Act.put, List.setIfInBounds_toArray, List.set_cons_zero, List.set_cons_succ]
                    refine wpAnyH_take (i := 4) (v := ?_) (by simp only [List.getElem?_toArray, List.getElem?_cons_succ, List.getElem?_cons_zero]; exact rfl) (by kernel_rfl) (by kernel_rfl) (by kernel_rfl) (fun _ _ _ h => h) (Or.inl ⟨by rfl, ?_⟩) hH ?_
                    rotate_left
                    · (intro w hSw; (try dsimp only at hSw); go_simp; all_goals (with_reducible rfl))
                    try simp only [Act.put, List.setIfInBounds_toArray, List.set_cons_zero, List.set_cons_succ]
                    refine wpAnyH_take (i := 9) (v := ?_) (by simp only [List.getElem?_toArray, List.getElem?_cons_succ, List.getElem?_cons_zero]; exact rfl) (by kernel_rfl) (by kernel_rfl) (by kernel_rfl) (fun _ _ _ h => h) (Or.inl ⟨by rfl, ?_⟩) hH ?_
                    rotate_left
                    · (intro w hSw; (try dsimp only at hSw); go_simp; all_goals (with_reducible rfl))
                    try simp only [Act.put, List.setIfInBounds_toArray, List.set_cons_zero, List.set_cons_succ]
                    refine wpAnyH_ready (rs := [5]) (by kernel_rfl) (by simp) ?_
                    refine AllReadyH.cons (by simp only [List.getElem?_toArray, List.getElem?_cons_succ, List.getElem?_cons_zero]; exact rfl) (fun KK hKK => ?_) AllReadyH.nil
                    go_simp
                    refine hKK.out _ _ ?_ (fun hH2 => ?_)
                    · (first | exact ⟨vi, vs⟩ | (refine HKE.out _ ?_; repeat (first | exact Fr.refl _ _ | assumption | refine Fr.drew ?_ | refine Fr.alloc ?_ _)))
                    clear hH hKK KK
                    have hH := hH2
                    clear hH2
                    try simp only [Act.put, List.setIfInBounds_toArray, List.set_cons_zero, List.set_cons_succ]
                    refine wpAnyH_ready (rs := [6]) (by kernel_rfl) (by simp) ?_
                    refine AllReadyH.cons (by simp only [List.getElem?_toArray, List.getElem?_cons_succ, List.getElem?_cons_zero]; exact rfl) (fun KK hKK => ?_) AllReadyH.nil
                    go_simp
                    refine hKK.out _ _ ?_ (fun hH2 => ?_)
                    · (first | exact ⟨vi, vs⟩ | (refine HKE.out _ ?_; repeat (first | exact Fr.refl _ _ | assumption | refine Fr.drew ?_ | refine Fr.alloc ?_ _)))
                    clear hH hKK KK
                    have hH := hH2
                    clear hH2
                    try simp only [Act.put, List.setIfInBounds_toArray, List.set_cons_zero, List.set_cons_succ]
                    refine wpAnyH_ready (rs := [7]) (by kernel_rfl) (by simp) ?_
                    refine AllReadyH.cons (by simp only [List.getElem?_toArray, List.getElem?_cons_succ, List.getElem?_cons_zero]; exact rfl) (fun KK hKK => ?_) AllReadyH.nil
                    go_simp
                    refine hKK.out _ _ ?_ (fun hH2 => ?_)
                    · (first | exact ⟨vi, vs⟩ | (refine HKE.out _ ?_; repeat (first | exact Fr.refl _ _ | assumption | refine Fr.drew ?_ | refine Fr.alloc ?_ _)))
                    clear hH hKK KK
                    have hH := hH2
                    clear hH2
                    try simp only [Act.put, List.setIfInBounds_toArray, List.set_cons_zero, List.set_cons_succ]
                    refine wpAnyH_ready (rs := [8]) (by kernel_rfl) (by simp) ?_
                    refine AllReadyH.cons (by simp only [List.getElem?_toArray, List.getElem?_cons_succ, List.getElem?_cons_zero]; exact rfl) (fun KK hKK => ?_) AllReadyH.nil
                    go_simp
                    refine (HAP.out _ _ (by repeat (first | exact Fr.refl _ _ | assumption | refine Fr.drew ?_ | refine Fr.alloc ?_ _))).mono ?_
                    rintro e wW1 ⟨rfl, hfW1⟩
                    go_wp2_with fail
                    refine hKK.out _ _ ?_ (fun hH2 => ?_)
                    · (first | exact ⟨vi, vs⟩ | (refine HKE.out _ ?_; repeat (first | exact Fr.refl _ _ | assumption | refine Fr.drew ?_ | refine Fr.alloc ?_ _)))
                    clear hH hKK KK
                    have hH := hH2
                    clear hH2
                    try simp only [Act.put, List.setIfInBounds_toArray, List.set_cons_zero, List.set_cons_succ]
                    refine wpAnyH_take (i := 10) (v := ?_) (by simp only [List.getElem?_toArray, List.getElem?_cons_succ, List.getElem?_cons_zero]; exact rfl) (by kernel_rfl) (by kernel_rfl) (by kernel_rfl) (fun _ _ _ h => h) (Or.inl ⟨by rfl, ?_⟩) hH ?_
                    rotate_left
                    · (intro w hSw; (try dsimp only at hSw); go_simp; all_goals (with_reducible rfl))
                    try simp only [Act.put, List.setIfInBounds_toArray, List.set_cons_zero, List.set_cons_succ]
                    refine wpAnyH_take (i := 11) (v := ?_) (by simp only [List.getElem?_toArray, List.getElem?_cons_succ, List.getElem?_cons_zero]; exact rfl) (by kernel_rfl) (by kernel_rfl) (by kernel_rfl) (fun _ _ _ h => h) (Or.inl ⟨by rfl, ?_⟩) hH ?_
                    rotate_left
                    · (intro w hSw; (try dsimp only at hSw); go_simp; all_goals (with_reducible rfl))
                    try simp only [Act.put, List.setIfInBounds_toArray, List.set_cons_zero, List.set_cons_succ]
                    refine wpAnyH_take (i := 12) (v := ?_) (by simp only [List.getElem?_toArray, List.getElem?_cons_succ, List.getElem?_cons_zero]; exact rfl) (by kernel_rfl) (by kernel_rfl) (by kernel_rfl) (fun _ _ _ h => h) (Or.inl ⟨by rfl, ?_⟩) hH ?_
                    rotate_left
                    · (intro w hSw; (try dsimp only at hSw); go_simp; all_goals (with_reducible rfl))
                    try simp only [Act.put, List.setIfInBounds_toArray, List.set_cons_zero, List.set_cons_succ]
                    refine wpAnyH_take (i := 13) (v := ?_) (by simp only [List.getElem?_toArray, List.getElem?_cons_succ, List.getElem?_cons_zero]; exact rfl) (by kernel_rfl) (by kernel_rfl) (by kernel_rfl) (fun _ _ _ h => h) (Or.inl ⟨by rfl, ?_⟩) hH ?_
                    rotate_left
                    · (intro w hSw; (try dsimp only at hSw); go_simp; all_goals (with_reducible rfl))
                    try simp only [Act.put, List.setIfInBounds_toArray, List.set_cons_zero, List.set_cons_succ]
                    refine wpAnyH_take (i := 15) (v := ?_) (by simp only [List.getElem?_toArray, List.getElem?_cons_succ, List.getElem?_cons_zero]; exact rfl) (by kernel_rfl) (by kernel_rfl) (by kernel_rfl) (fun _ _ _ h => h) (Or.inl ⟨by rfl, ?_⟩) hH ?_
                    rotate_left
                    · (intro w hSw; (try dsimp only at hSw); go_simp; all_goals (with_reducible rfl))
                    try simp only [Act.put, List.setIfInBounds_toArray, List.set_cons_zero, List.set_cons_succ]
                    refine wpAnyH_ready (rs := [14]) (by kernel_rfl) (by simp) ?_
                    refine AllReadyH.cons (by simp only [List.getElem?_toArray, List.getElem?_cons_succ, List.getElem?_cons_zero]; exact rfl) (fun KK hKK => ?_) AllReadyH.nil
                    go_simp
                    refine (HAP.out _ _ (by repeat (first | exact Fr.refl _ _ | assumption | refine Fr.drew ?_ | refine Fr.alloc ?_ _))).mono ?_
                    rintro e wW2 ⟨rfl, hfW2⟩
                    go_wp2_with fail
                    refine hKK.out _ _ ?_ (fun hH2 => ?_)
                    · (first | exact ⟨vi, vs⟩ | (refine HKE.out _ ?_; repeat (first | exact Fr.refl _ _ | assumption | refine Fr.drew ?_ | refine Fr.alloc ?_ _)))
                    clear hH hKK KK
                    have hH := hH2
                    clear hH2
                    try simp only [Act.put, List.setIfInBounds_toArray, List.set_cons_zero, List.set_cons_succ]
                    refine wpAnyH_take (i := 16) (v := ?_) (by simp only [List.getElem?_toArray, List.getElem?_cons_succ, List.getElem?_cons_zero]; exact rfl) (by kernel_rfl) (by kernel_rfl) (by kernel_rfl) (fun _ _ _ h => h) (Or.inl ⟨by rfl, ?_⟩) hH ?_
                    rotate_left
                    · (intro w hSw; (try dsimp only at hSw); go_simp; all_goals (with_reducible rfl))
                    try simp only [Act.put, List.setIfInBounds_toArray, List.set_cons_zero, List.set_cons_succ]
                    refine wpAnyH_take (i := 17) (v := ?_) (by simp only [List.getElem?_toArray, List.getElem?_cons_succ, List.getElem?_cons_zero]; exact rfl) (by kernel_rfl) (by kernel_rfl) (by kernel_rfl) (fun _ _ _ h => h) (Or.inl ⟨by rfl, ?_⟩) hH ?_
                    rotate_left
                    · (intro w hSw; (try dsimp only at hSw); go_simp; all_goals (with_reducible rfl))
                    try simp only [Act.put, List.setIfInBounds_toArray, List.set_cons_zero, List.set_cons_succ]
                    refine wpAnyH_take (i := 18) (v := ?_) (by simp only [List.getElem?_toArray, List.getElem?_cons_succ, List.getElem?_cons_zero]; exact rfl) (by kernel_rfl) (by kernel_rfl) (by kernel_rfl) (fun _ _ _ h => h) (Or.inl ⟨by rfl, ?_⟩) hH ?_
                    rotate_left
                    · (intro w hSw; (try dsimp only at hSw); go_simp; all_goals (with_reducible rfl))
                    try simp only [Act.put, List.setIfInBounds_toArray, List.set_cons_zero, List.set_cons_succ]
                    refine wpAnyH_take (i := 19) (v := ?_) (by simp only [List.getElem?_toArray, List.getElem?_cons_succ, List.getElem?_cons_zero]; exact rfl) (by kernel_rfl) (by kernel_rfl) (by kernel_rfl) (fun _ _ _ h => h) (Or.inl ⟨by rfl, ?_⟩) hH ?_
                    rotate_left
                    · (intro w hSw; (try dsimp only at hSw); go_simp; all_goals (with_reducible rfl))
                    try simp only [Act.put, List.setIfInBounds_toArray, List.set_cons_zero, List.set_cons_succ]
                    refine wpAnyH_take (i := 21) (v := ?_) (by simp only [List.getElem?_toArray, List.getElem?_cons_succ, List.getElem?_cons_zero]; exact rfl) (by kernel_rfl) (by kernel_rfl) (by kernel_rfl) (fun _ _ _ h => h) (Or.inl ⟨by rfl, ?_⟩) hH ?_
                    rotate_left
                    · (intro w hSw; (try dsimp only at hSw); go_simp; all_goals (with_reducible rfl))
                    try simp only [Act.put, List.setIfInBounds_toArray, List.set_cons_zero, List.set_cons_succ]
                    refine wpAnyH_ready (rs := [20]) (by kernel_rfl) (by simp) ?_
                    refine AllReadyH.cons (by simp only [List.getElem?_toArray, List.getElem?_cons_succ, List.getElem?_cons_zero]; exact rfl) (fun KK hKK => ?_) AllReadyH.nil
                    go_simp
                    refine (HSY.out _ (by repeat (first | exact Fr.refl _ _ | assumption | refine Fr.drew ?_ | refine Fr.alloc ?_ _))).mono ?_
                    rintro e wW3 ⟨rfl, hfW3⟩
                    go_wp2_with fail
                    refine hKK.out _ _ ?_ (fun hH2 => ?_)
                    · (first | exact ⟨vi, vs⟩ | (refine HKE.out _ ?_; repeat (first | exact Fr.refl _ _ | assumption | refine Fr.drew ?_ | refine Fr.alloc ?_ _)))
                    clear hH hKK KK
                    have hH := hH2
                    clear hH2
                    try simp only [Act.put, List.setIfInBounds_toArray, List.set_cons_zero, List.set_cons_succ]
                    refine wpAnyH_take (i := 22) (v := ?_) (by simp only [List.getElem?_toArray, List.getElem?_cons_succ, List.getElem?_cons_zero]; exact rfl) (by kernel_rfl) (by kernel_rfl) (by kernel_rfl) (fun _ _ _ h => h) (Or.inl ⟨by rfl, ?_⟩) hH ?_
                    rotate_left
                    · (intro w hSw; (try dsimp only at hSw); go_simp; all_goals (with_reducible rfl))
                    try simp only [Act.put, List.setIfInBounds_toArray, List.set_cons_zero, List.set_cons_succ]
                    refine wpAnyH_take (i := 23) (v := ?_) (by simp only [List.getElem?_toArray, List.getElem?_cons_succ, List.getElem?_cons_zero]; exact rfl) (by kernel_rfl) (by kernel_rfl) (by kernel_rfl) (fun _ _ _ h => h) (Or.inl ⟨by rfl, ?_⟩) hH ?_
                    rotate_left
                    · (intro w hSw; (try dsimp only at hSw); go_simp; all_goals (with_reducible rfl))
                    try simp only [Act.put, List.setIfInBounds_toArray, List.set_cons_zero, List.set_cons_succ]
                    refine wpAnyH_take (i := 24) (v := ?_) (by simp only [List.getElem?_toArray, List.getElem?_cons_succ, List.getElem?_cons_zero]; exact rfl) (by kernel_rfl) (by kernel_rfl) (by kernel_rfl) (fun _ _ _ h => h) (Or.inl ⟨by rfl, ?_⟩) hH ?_
                    rotate_left
                    · (intro w hSw; (try dsimp only at hSw); go_simp; all_goals (with_reducible rfl))
                    try simp only [Act.put, List.setIfInBounds_toArray, List.set_cons_zero, List.set_cons_succ]
                    refine wpAnyH_take (i := 25) (v := ?_) (by simp only [List.getElem?_toArray, List.getElem?_cons_succ, List.getElem?_cons_zero]; exact rfl) (by kernel_rfl) (by kernel_rfl) (by kernel_rfl) (fun _ _ _ h => h) (Or.inl ⟨by rfl, ?_⟩) hH ?_
                    rotate_left
                    · (intro w hSw; (try dsimp only at hSw); go_simp; all_goals (with_reducible rfl))
                    try simp only [Act.put, List.setIfInBounds_toArray, List.set_cons_zero, List.set_cons_succ]
                    refine wpAnyH_take (i := 27) (v := ?_) (by simp only [List.getElem?_toArray, List.getElem?_cons_succ, List.getElem?_cons_zero]; exact rfl) (by kernel_rfl) (by kernel_rfl) (by kernel_rfl) (fun _ _ _ h => h) (Or.inl ⟨by rfl, ?_⟩) hH ?_
                    rotate_left
                    · (intro w hSw; (try dsimp only at hSw); go_simp; all_goals (with_reducible rfl))
                    try simp only [Act.put, List.setIfInBounds_toArray, List.set_cons_zero, List.set_cons_succ]
                    refine wpAnyH_ready (rs := [26]) (by kernel_rfl) (by simp) ?_
                    refine AllReadyH.cons (by simp only [List.getElem?_toArray, List.getElem?_cons_succ, List.getElem?_cons_zero]; exact rfl) (fun KK hKK => ?_) AllReadyH.nil
                    go_simp
                    refine (HCT.out _ (by repeat (first | exact Fr.refl _ _ | assumption | refine Fr.drew ?_ | refine Fr.alloc ?_ _))).mono ?_
                    rintro e wW4 ⟨rfl, hfW4⟩
                    go_wp2_with fail
                    refine hKK.out _ _ ?_ (fun hH2 => ?_)
                    · (first | exact ⟨vi, vs⟩ | (refine HKE.out _ ?_; repeat (first | exact Fr.refl _ _ | assumption | refine Fr.drew ?_ | refine Fr.alloc ?_ _)))
                    clear hH hKK KK
                    have hH := hH2
                    clear hH2
                    try simp only [Act.put, List.setIfInBounds_toArray, List.set_cons_zero, List.set_cons_succ]
                    refine wpAnyH_take (i := 28) (v := ?_) (by simp only [List.getElem?_toArray, List.getElem?_cons_succ, List.getElem?_cons_zero]; exact rfl) (by kernel_rfl) (by kernel_rfl) (by kernel_rfl) (fun _ _ _ h => h) (Or.inl ⟨by rfl, ?_⟩) hH ?_
                    rotate_left
                    · (intro w hSw; (try dsimp only at hSw); go_simp; all_goals (with_reducible rfl))
                    try simp only [Act.put, List.setIfInBounds_toArray, List.set_cons_zero, List.set_cons_succ]
                    refine wpAnyH_take (i := 29) (v := ?_) (by simp only [List.getElem?_toArray, List.getElem?_cons_succ, List.getElem?_cons_zero]; exact rfl) (by kernel_rfl) (by kernel_rfl) (by kernel_rfl) (fun _ _ _ h => h) (Or.inl ⟨by rfl, ?_⟩) hH ?_
                    rotate_left
                    · (intro w hSw; (try dsimp only at hSw); go_simp; all_goals (with_reducible rfl))
                    try simp only [Act.put, List.setIfInBounds_toArray, List.set_cons_zero, List.set_cons_succ]
                    refine wpAnyH_done (by kernel_rfl) ?_ _
                    refine NoPanic.normal ?_
                    clear cs heq hei HAP HSY HCT HKE vi vs vl hH
                    have b1 : (D8.ops == D8.ops) = true := beq_self_eq_true _
                    have b2 : ((first : Int) == first) = true := beq_self_eq_true _
                    go_wp2_with fail
                    refine (HOPX.out _ hfW4).mono ?_
                    rintro e wX ⟨rfl, rfl⟩
                    go_wp2_with fail
                    refine (HNXX.out _ hfW4).mono ?_
                    rintro e wY ⟨rfl, rfl⟩
                    go_wp2_with fail
                    refine (HBLX.out _ hfW4).mono ?_
                    rintro e wZ ⟨rfl, rfl⟩
                    go_wp2_with fail
                    go_ret
                    exact ⟨rfl, Fr.trans HUE.out (FrUp.none (K := K) hfW4)⟩
            · have hst := HS.out
              go_wp2_with fail
              go_ret
              exact ⟨rfl, hst.fr⟩
        · have g2 : (2305843009213693952 : Int) < (first : Int) := by omega
          have g3 : ¬ (first : Int) < 1 := by omega
          go_wp2_with fail
          go_ret
          exact ⟨rfl, HF1.out⟩
      · have g2 : (first : Int) < 1 := by omega
        go_wp2_with fail
        go_ret
        exact ⟨rfl, HF1.out⟩
end Go.Proofs.YtdfnaphkppphkaaGreatDoor
