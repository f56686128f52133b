/-
  slices.Clone at bytes and at api.Fail; (side).clone. Conditions: how the argument lies in memory.
  (side).clone: a copy of a side in new memory. Conditions: how the side lies in memory.
  (*file).add: data behind a file's bytes. Conditions: how the file and the data lie in memory; the length's bound.
  (*file).add, with no data too. Conditions: how the file and the data lie in memory; the length's bound.
-/
import Derived.Test.YtabfcciejhbajaaGreatDoorM04
import Derived.Maps.RangeWalk
import Derived.Maps.OwnSet
namespace Go.Proofs.YtabfcciejhbajaaGreatDoor
open Go Go.RowKit
open Go.ChangeMaps (setBlock)

theorem wpl_rangeAt {κ α : Type} {E : Enc κ} {V : α → Value} {P : Program} {w : World} {mty kt et : TypeId} {b : Nat} {m : κ → Option α} {ops : Array Oper} {rest : List Oper} {o : Oper} {a : Act} {Q : Exit → Act → World → Prop} (r : Nat) (hr : w.heap.size = r)
    (hg : o.guard = none) (mo : Operand) (hop : o.op = Op.range mty mo) (h : MapAt E V w b m)
    (hm : P.underlying mty = some (.map kt et)) (h1 : a.eval mo = .map (some b))
    (hK : ∀ c n, IterAt E V (w.alloc (.mapIter (some b) c #[] c)) r b m (fun k => (m k).isSome) n → wpList P ops Q rest (a.put o.dst (.pointer (some ⟨r, 0, none⟩))) (w.alloc (.mapIter (some b) c #[] c))) :
    wpList P ops Q (o :: rest) a w := by
  subst hr; exact wpl_range hg mo hop h hm h1 hK
theorem infoByte : (Tryz.prog.info? 5).map (fun i => (i.zero, i.size, i.bytes)) = some (some (.int .u8 0), 1, 1) := by kernel_rfl
theorem infoFail : (Tryz.prog.info? 149).map (fun i => (i.zero, i.size, i.bytes)) = some (some (.agg #[.int .i64 0, .int .i64 0]), 2, 16) := by kernel_rfl
theorem eql_slice_bytes (a : Addr) (n c : Nat) (w : World) : (binOp .eql 38 (.slice (some a) n c) (.slice none 0 0)).run Tryz.prog w = .ok (.bool false) w := by kernel_rfl
theorem eql_slice_fails (a : Addr) (n c : Nat) (w : World) : (binOp .eql 52 (.slice (some a) n c) (.slice none 0 0)).run Tryz.prog w = .ok (.bool false) w := by kernel_rfl
theorem eql_nil_bytes (w : World) : (binOp .eql 38 (.slice none 0 0) (.slice none 0 0)).run Tryz.prog w = .ok (.bool true) w := by kernel_rfl
theorem eql_nil_fails (w : World) : (binOp .eql 52 (.slice none 0 0) (.slice none 0 0)).run Tryz.prog w = .ok (.bool true) w := by kernel_rfl

/-- a slice value and what it holds, wherever it lies -/
def SliceIs (w : World) (size : Nat) (v : Value) (n : Nat) (xs : List Value) : Prop :=
  (v = .slice none 0 0 ∧ n = 0 ∧ xs = []) ∨ ∃ a c, v = .slice (some a) n c ∧ n ≤ c ∧ xs.length = n * size ∧ ∀ (j : Nat) u, xs[j]? = some u → w.cell? (a.add j) = some u
theorem SliceIs.form {w : World} {size : Nat} {v : Value} {n : Nat} {xs : List Value} (h : SliceIs w size v n xs) : ∃ o c, v = .slice o n c := by
  rcases h with ⟨rfl, rfl, _⟩ | ⟨a, c, rfl, _⟩ <;> exact ⟨_, _, rfl⟩

theorem ownsRow_keep {w w' : World} {base : Nat} {e : TypeId} {size : Nat} {v : Value} {n : Nat} {xs : List Value} (h : w.ownsRow base e size v n xs) (hk : ∀ g, v.ownBlock = some g → w'.heap[g]? = w.heap[g]?) : w'.ownsRow base e size v n xs := by
  refine ⟨h.1, ?_⟩
  rcases h.2 with hn | ⟨g, cap, cur, rfl, hb, hgg, rest⟩
  · exact .inl hn
  · exact .inr ⟨g, cap, cur, rfl, hb, (hk g rfl).trans hgg, rest⟩
theorem ownsRow_slice {w : World} {base : Nat} {e : TypeId} {size : Nat} {v : Value} {n : Nat} {xs : List Value} (h : w.ownsRow base e size v n xs) : SliceIs w size v n xs := by
  rcases h.2 with ⟨rfl, rfl⟩ | ⟨g, cap, cur, rfl, _, _, hnc, _⟩
  · exact .inl ⟨rfl, rfl, List.eq_nil_of_length_eq_zero (by simpa using h.1)⟩
  · exact .inr ⟨_, _, rfl, hnc, h.1, h.cells rfl⟩

set_option maxRecDepth 100000 in
theorem clone_bytes (w : World) (v : Value) (n : Nat) (xs : List Value) (h : SliceIs w 1 v n xs) (h1 : ∀ u ∈ xs, u.oneCell' = true) (hn : n ≤ 140737488355328) :
    Calls Tryz.prog 86 #[v] w fun e w' => ∃ v', e = .returned v' ∧ w'.ownsRow w.heap.size 5 1 v' n xs ∧ Fr (fun _ => False) w w' ∧ (v' = .slice none 0 0 ↔ v = .slice none 0 0) := by
  rcases h with ⟨rfl, rfl, rfl⟩ | ⟨a, c, rfl, _, hl, hc⟩
  · have he := eql_nil_bytes
    go_enter Tryz.func86, Tryz.ntmps86
    go_wp2_with fail
    go_ret
    exact ⟨_, rfl, World.ownsRow_nil _ _ _ _, Fr.refl _ _, ⟨fun _ => trivial, fun _ => rfl⟩⟩
  · have he := eql_slice_bytes a n c
    obtain ⟨i0, hi, hz0, hz1, hz2⟩ := info_parts infoByte
    have hnews : ∀ (o : Obj) (j : Nat) u, xs[j]? = some u → (w.alloc o).cell? (a.add j) = some u := fun o j u hu => by
      have := hc j u hu
      exact (World.cell?_of_block (heap_alloc_old w o (World.block_lt_of_cell? _ _ this))).trans this
    have HC := Lib.hid hnews
    have HL := Lib.hid hl
    have H1 := Lib.hid h1
    clear hc hl h1 hnews
    go_enter Tryz.func86, Tryz.ntmps86
    go_wp2_with (at_builtin; refine wpList_append_own_at _ rfl (.tmp 5) (.tmp 6) 38 rfl w.heap.size 5 i0 _ 1 1 Tryz.underlying38 hi hz0 hz1 hz2 rfl (by decide) (.slice (some ⟨w.heap.size, 0, none⟩) 0 0) 0 [] rfl (World.ownsRow_made w #[] 0 (Nat.le_refl _) (by decide) (by simp)) a n c xs rfl HL.out (HC.out _) H1.out (by unfold maxLen; omega) (by omega) (by simp) ?_; intro v' w' hown hgrow hnil hat)
    go_ret
    exact ⟨v', rfl, by simpa using hown, (((Fr.refl _ _).alloc _).grown hgrow (fun k hk hlt => by simp [Value.ownBlock] at hk; omega)), ⟨fun hv => by have := hnil.1 hv; simp at this, fun hv => by cases hv⟩⟩
end Go.Proofs.YtabfcciejhbajaaGreatDoor

namespace Go.Proofs.YtabfcciejhbajaaGreatDoor
open Go Go.RowKit
open Go.ChangeMaps (setBlock)

theorem SliceIs.fr {S : Nat → Prop} {w w' : World} {size : Nat} {v : Value} {n : Nat} {xs : List Value} (h : SliceIs w size v n xs) (hf : Fr S w w') (hS : ∀ a n c, v = .slice (some a) n c → ¬ S a.block) : SliceIs w' size v n xs := by
  rcases h with q | ⟨a, c, rfl, hnc, hl, hc⟩
  · exact .inl q
  · refine .inr ⟨a, c, rfl, hnc, hl, fun j u hu => ?_⟩
    have hb : (a.add j).block = a.block := by unfold Addr.add; split <;> rfl
    have := hc j u hu
    exact (hf.cell (World.block_lt_of_cell? _ _ this) (by rw [hb]; exact hS a n c rfl)).trans this
theorem build_side (o : Option Addr) (n c : Nat) (b : Nat) (w : World) : (Instr.build 94 #[(0, .slice o n c), (1, .map (some b))]).run Tryz.prog w = .ok (.agg #[.slice o n c, .map (some b)]) w := by kernel_rfl
/-- what a loop that copies a set has copied -/
def Copied (bad m : Int → Option Unit) (todo : Int → Prop) : Prop := ∀ k, (todo k → m k = none) ∧ (¬ todo k → m k = bad k)

set_option maxRecDepth 100000 in
set_option maxHeartbeats 1000000 in
theorem side_clone (w : World) (vd : Value) (b n : Nat) (xs : List Value) (bad : Int → Option Unit) (h : SliceIs w 1 vd n xs) (h1 : ∀ u ∈ xs, u.oneCell' = true) (hn : n ≤ 140737488355328)
    (hb : MapAt intE unitV w b bad) :
    Calls Tryz.prog 60 #[.agg #[vd, .map (some b)]] w fun e w' => ∃ v' b', e = .returned (.agg #[v', .map (some b')]) ∧ w'.ownsRow w.heap.size 5 1 v' n xs ∧ MapAt intE unitV w' b' bad ∧
      w.heap.size ≤ b' ∧ v'.ownBlock ≠ some b' ∧ Fr (fun _ => False) w w' := by
  have hmm := @run_makeMap Tryz.prog
  obtain ⟨z, hz⟩ : ∃ z, z = w.heap.size := ⟨_, rfl⟩
  have HB := Lib.hid hb
  have HS := Lib.hid h
  have H1 := Lib.hid h1
  have HZ := Lib.hid hz
  clear hb h h1 hz
  go_enter Tryz.func60, Tryz.ntmps60
  have hb3 : ∀ o0 o1 o2 : Obj, MapAt intE unitV (((w.alloc o0).alloc o1).alloc o2) b bad := fun o0 o1 o2 => HB.out.of_block (by
    have := HB.out.lt
    rw [heap_alloc_old _ _ (by simp; omega), heap_alloc_old _ _ (by simp; omega), heap_alloc_old _ _ this])
  have HB3 := Lib.hid hb3
  have hbl := HB.out.lt
  clear hb3
  go_wp2_with (at_range; refine wpl_rangeAt (E := intE) (V := unitV) (w.heap.size + 3) (by simp) rfl (.tmp 7) rfl (HB3.out _ _ _) Tryz.underlying92 rfl ?_; intro cl n0 hit0)
  go_frame
  go_loopw [4] (fun _ wr => ∃ todo m cnt, IterAt intE unitV wr (w.heap.size + 3) b bad todo cnt ∧ MapAt intE unitV wr (w.heap.size + 2) m ∧ Copied bad m todo ∧ Fr (fun _ => False) w wr ∧
      wr.heap[w.heap.size]? = some (.cells #[vd, .map (some b)] 94 (0, 0)) ∧ wr.heap[w.heap.size + 1]? = some (.cells #[.slice none 0 0, .map none] 94 (0, 0))) (fun _ wr => iterLeft wr b (w.heap.size + 3))
  case atStart =>
    refine ⟨_, fun _ => none, n0, hit0, ?_, fun k => ⟨fun _ => rfl, fun h => by cases hk : bad k with
      | none => rfl
      | some v => simp [hk] at h⟩, (((Fr.refl _ _).alloc _).alloc _ |>.alloc _).alloc _, ?_, ?_⟩
    · refine (MapAt.made ((w.alloc (.cells #[vd, .map (some b)] 94)).alloc (.cells #[.slice none 0 0, .map none] 94)) |>.of_block ?_) |> fun h => by simpa using h
      rw [heap_alloc_old _ _ (by simp)]
    · rw [heap_alloc_old _ _ (by simp; omega), heap_alloc_old _ _ (by simp; omega), heap_alloc_old _ _ (by simp)]; exact heap_alloc_new _ _
    · rw [heap_alloc_old _ _ (by simp), heap_alloc_old _ _ (by simp)]; exact heap_new_at _ _ (by simp)
  case round =>
    obtain ⟨todo, m, cnt, hit, hm, hC, hF, hx0, hx1⟩ := hrel
    have HC := Lib.hid hC
    have HF := Lib.hid hF
    have HX0 := Lib.hid hx0
    have HX1 := Lib.hid hx1
    have HM := Lib.hid hm
    have HI := Lib.hid hit
    have hsz := hit.lt
    clear hC hF hx0 hx1 hm hit
    go_wp2_with (at_next; refine wpl_next (E := intE) (V := unitV) rfl (.tmp 8) rfl HI.out rfl ?_ ?_)
    · intro hdone
      have c0 : wr.cell? ⟨w.heap.size, 0, none⟩ = some vd := cell_at HX0.out 0
      have hmb : m = bad := funext fun k => (HC.out k).2 (hdone k)
      subst hmb
      clear hdone
      go_wp2_with fail
      refine (clone_bytes wr vd n xs (HS.out.fr HF.out (fun _ _ _ _ h => h)) H1.out hn).mono ?_
      rintro e w4 ⟨v', rfl, hown, hfr, _⟩
      have e1 : w4.heap[w.heap.size + 1]? = _ := (hfr.block _ (by omega) (fun h => h)).trans HX1.out
      have r0 : w4.cell? ⟨w.heap.size + 1, 0, none⟩ = some (.slice none 0 0) := cell_at e1 0
      have r1 : w4.cell? ⟨w.heap.size + 1, 1, none⟩ = some (.map none) := cell_at e1 1
      have f0 := free_at e1 0
      have f1 := free_at e1 1
      have hm4 := HM.out.of_block (hfr.block (w.heap.size + 2) (by omega) (fun h => h))
      have hob : ∀ k, v'.ownBlock = some k → wr.heap.size ≤ k := fun k hk => (hown.lt k hk).1
      have HO := Lib.hid hown
      have HM4 := Lib.hid hm4
      have HF4 := Lib.hid (Fr.trans HF.out hfr)
      have HOB := Lib.hid hob
      have hv := hown.2
      have hc0 := Lib.hid (fun v'' : Value => cell_at (heap_setCell_at (heap_setCell_at e1 0 v'') 1 (.map (some (w.heap.size + 1 + 1)))) 0)
      have hc1 := Lib.hid (fun v'' : Value => cell_at (heap_setCell_at (heap_setCell_at e1 0 v'') 1 (.map (some (w.heap.size + 1 + 1)))) 1)
      clear hown hm4 hfr hob e1
      have hfin : ∀ v'', v'' = v' → bodyPost Tryz.prog Tryz.f60 (fun e w' => ∃ v' b', e = Ending.returned (Value.agg #[v', Value.map (some b')]) ∧ w'.ownsRow w.heap.size 5 1 v' n xs ∧ MapAt intE unitV w' b' m ∧
          w.heap.size ≤ b' ∧ v'.ownBlock ≠ some b' ∧ Fr (fun _ => False) w w') Exit.ret { tmps := #[], defers := [] } w4 → True := fun _ _ _ => trivial
      clear hfin
      have hpost : ∀ (v'' : Value), v'' = v' → ∃ v' b', Ending.returned (Value.agg #[v'', Value.map (some (w.heap.size + 1 + 1))]) = Ending.returned (Value.agg #[v', Value.map (some b')]) ∧ ((w4.setCell ⟨w.heap.size + 1, 0, none⟩ v'').setCell ⟨w.heap.size + 1, 1, none⟩ (.map (some (w.heap.size + 1 + 1)))).ownsRow w.heap.size 5 1 v' n xs ∧
          MapAt intE unitV ((w4.setCell ⟨w.heap.size + 1, 0, none⟩ v'').setCell ⟨w.heap.size + 1, 1, none⟩ (.map (some (w.heap.size + 1 + 1)))) b' m ∧ w.heap.size ≤ b' ∧ v'.ownBlock ≠ some b' ∧ Fr (fun _ => False) w ((w4.setCell ⟨w.heap.size + 1, 0, none⟩ v'').setCell ⟨w.heap.size + 1, 1, none⟩ (.map (some (w.heap.size + 1 + 1)))) := by
        rintro v'' rfl
        refine ⟨v'', w.heap.size + 2, rfl, ?_, ?_, by omega, fun e => by have := HOB.out _ e; omega, ?_⟩
        · refine ownsRow_setCell_other (ownsRow_setCell_other ?_ (fun e => by have := HOB.out _ e; simp only at this; omega) _) (fun e => by have := HOB.out _ e; simp only at this; omega) _
          exact ⟨HO.out.1, HO.out.2.imp id (fun ⟨g, cap, cur, q1, q2, q3⟩ => ⟨g, cap, cur, q1, by omega, q3⟩)⟩
        · exact HM4.out.of_block (by rw [Below.heap_setCell _ _ _ _ (by simp), Below.heap_setCell _ _ _ _ (by simp)])
        · exact ((HF4.out).setCell (fun h => by simp at h; omega) _).setCell (fun h => by simp at h; omega) _
      have HP := Lib.hid hpost
      clear hpost
      have bs := build_side
      obtain ⟨o', n', c', rfl⟩ : ∃ o n c, v' = .slice o n c := by
        rcases hv with ⟨rfl, _⟩ | ⟨g, cap, cur, rfl, _⟩ <;> exact ⟨_, _, _, rfl⟩
      clear hv
      go_wp2_with fail
      exact bodyPost_ret (v := .agg #[.slice o' n' c', .map (some (w.heap.size + 1 + 1))]) (by simp [results, Tryz.results60, go_sem, hc0.out, hc1.out]) rfl (HP.out _ rfl)
    · intro k v w1 cnt1 htodo hbad hit1 hlt1 hfr1 hsz1 hent
      have hm1 : MapAt intE unitV w1 (w.heap.size + 2) m := HM.out.of_block (hfr1.block _ (by omega) (by omega))
      have HH := Lib.hid hit1
      have HL := Lib.hid hlt1
      have HF1 := Lib.hid hfr1
      have HBad := Lib.hid hbad
      have HT := Lib.hid htodo
      have HM1 := Lib.hid hm1
      clear hm1 hit1 hlt1 hfr1 hsz1 hbad htodo
      go_wp2_with (at_mapUpdate; refine wpl_mapUpdate (E := intE) (V := unitV) rfl (.tmp 13) (.tmp 14) (.const (.int .i64 1)) rfl HM1.out Tryz.underlying92 Tryz.underlying3 k () rfl rfl rfl ?_; intro o2 hm2; go_frame)
      have hne : w.heap.size + 3 ≠ w.heap.size + 2 := by omega
      have hbn : b ≠ w.heap.size + 2 := by omega
      have hsame : ∀ i, i ≠ w.heap.size + 2 → (setBlock w1 (w.heap.size + 2) o2).heap[i]? = w1.heap[i]? := fun i hi => by simp [setBlock, hi.symm]
      have hit2 := HH.out.of_blocks (hsame b hbn) (hsame _ hne)
      have hFr1 : Fr (fun _ => False) w w1 := Fr.trans' HF.out HF1.out (fun i hi e => by omega)
      refine ⟨⟨_, _, cnt1, hit2, hm2, fun x => ⟨fun hx => ?_, fun hx => ?_⟩, hFr1.setBlock (fun h => by omega) _, ?_, ?_⟩, ?_⟩
      · show upd m k (some ()) x = none
        rw [upd_ne _ _ hx.2]; exact (HC.out x).1 hx.1
      · show upd m k (some ()) x = bad x
        rcases upd_at m k x (some ()) with ⟨rfl, q⟩ | ⟨q, q'⟩
        · rw [q, HBad.out]
        · rw [q']; exact (HC.out x).2 (fun ht => hx ⟨ht, q⟩)
      · exact (hsame _ (by omega)).trans ((HF1.out.block _ (by omega) (by omega)).trans HX0.out)
      · exact (hsame _ (by omega)).trans ((HF1.out.block _ (by omega) (by omega)).trans HX1.out)
      · rw [hit2.left_eq, HI.out.left_eq]; exact HL.out
end Go.Proofs.YtabfcciejhbajaaGreatDoor

namespace Go.Proofs.YtabfcciejhbajaaGreatDoor
open Go Go.RowKit
open Go.ChangeMaps (setBlock)

/-- whether sector k lies from 'lo' on, below 'hi' -/
def inR (lo hi k : Int) : Prop := lo ≤ k ∧ k < hi
open Classical in
/-- a set with the sectors of a range put in, or taken out -/
noncomputable def rng (m : Int → Option Unit) (lo hi : Int) (v : Option Unit) : Int → Option Unit := fun k => if lo ≤ k ∧ k < hi then v else m k
theorem rng_nil (m : Int → Option Unit) (lo hi : Int) (v : Option Unit) (h : hi ≤ lo) : rng m lo hi v = m := by
  funext k; unfold rng; rw [if_neg (by omega)]
theorem rng_step (m : Int → Option Unit) (lo k : Int) (v : Option Unit) (h : lo ≤ k) : upd (rng m lo k v) k v = rng m lo (k + 1) v := by
  funext j
  rcases upd_at (rng m lo k v) k j v with ⟨rfl, q⟩ | ⟨q, q'⟩
  · rw [q]; unfold rng; rw [if_pos (by omega)]
  · rw [q']; unfold rng
    by_cases hj : lo ≤ j ∧ j < k
    · rw [if_pos hj, if_pos (by omega)]
    · rw [if_neg hj, if_neg (by omega)]
/-- a file with data behind its bytes -/
noncomputable def addF (x : AFile) (l : List UInt8) : AFile :=
  if l = [] then x else
    { x with
      seen := ⟨x.seen.data ++ l, rng x.seen.bad (x.seen.data.length / 512) ((x.seen.data.length + l.length + 511) / 512) none⟩
      waits := rng x.waits (x.seen.data.length / 512) ((x.seen.data.length + l.length + 511) / 512) (some ()) }
theorem rng_at (m : Int → Option Unit) (lo hi k : Int) (v : Option Unit) : (lo ≤ k ∧ k < hi ∧ rng m lo hi v k = v) ∨ (¬ (lo ≤ k ∧ k < hi) ∧ rng m lo hi v k = m k) := by
  unfold rng
  by_cases h : lo ≤ k ∧ k < hi
  · exact .inl ⟨h.1, h.2, if_pos h⟩
  · exact .inr ⟨h, if_neg h⟩
theorem addF_wf {x : AFile} {l : List UInt8} (h : WFFile x) (hb : x.seen.data.length + l.length ≤ maxData) : WFFile (addF x l) := by
  unfold addF
  split
  · exact h
  · refine ⟨⟨by simpa using hb, fun k hk => ?_⟩, h.safe, fun k hk => ?_⟩
    · rcases rng_at x.seen.bad ((x.seen.data.length : Int) / 512) (((x.seen.data.length : Int) + l.length + 511) / 512) k none with ⟨_, _, q⟩ | ⟨_, q⟩
      · exact absurd q hk
      · have := h.seen.bad k (by rw [← q]; exact hk)
        simp only [List.length_append]; omega
    · rcases rng_at x.waits ((x.seen.data.length : Int) / 512) (((x.seen.data.length : Int) + l.length + 511) / 512) k (some ()) with ⟨q1, q2, _⟩ | ⟨_, q⟩
      · simp only [List.length_append]; omega
      · have := h.waits k (by rw [← q]; exact hk)
        simp only [List.length_append]; omega
theorem add_close {w w2 wr : World} {ow : Own} {fb K bw bb g cap2 : Nat} {x : AFile} {c : FCells} (h : FileIs w ow fb x c) (hf : ow fb = some (.file fb)) (hlt : ∀ b r, ow b = some r → K ≤ b ∧ b < w.heap.size) (hK : K ≤ w.heap.size)
    (how : ow bw = some (.waits fb)) (hob : ow bb = some (.sbad fb)) {l : List UInt8} (hl : l ≠ []) (hb : x.seen.data.length + l.length ≤ maxData) (hg : ow g = some (.sdata fb) ∨ (ow g = none ∧ w.heap.size ≤ g))
    (hF2 : Fr (fun b => ow b = some (.sdata fb) ∨ b = fb) w w2) (hc : wr.heap[fb]? = some (.cells #[.int .i64 x.born, .slice (some ⟨g, 0, none⟩) (x.seen.data.length + l.length) cap2, .map (some bb), c.v3, c.v4, .map (some bw)] 96 (0, 0)))
    (hown : w2.ownsRow 0 5 1 (.slice (some ⟨g, 0, none⟩) (x.seen.data.length + l.length) cap2) (x.seen.data.length + l.length) (x.seen.data.map byteV ++ l.map byteV)) (hglt : g < w2.heap.size)
    (hmw : MapAt intE unitV wr bw (rng x.waits ((x.seen.data.length : Int) / 512) (((x.seen.data.length : Int) + l.length + 511) / 512) (some ())))
    (hmb : MapAt intE unitV wr bb (rng x.seen.bad ((x.seen.data.length : Int) / 512) (((x.seen.data.length : Int) + l.length + 511) / 512) none)) (hF3 : Fr (fun b => b = bw ∨ b = bb) w2 wr) :
    ∃ ow', FileAt wr ow' fb (addF x l) ∧ Kept (fun r => r.fileOf = some fb) K w ow wr ow' ∧ FrO ow w wr ∧ ow.ext ow' w ∧ ow' fb = some (.file fb) := by
  let ow' : Own := fun b => if b = g then some (.sdata fb) else ow b
  have e1 : ow' g = some (.sdata fb) := by simp [ow']
  have e2 : ∀ b, b ≠ g → ow' b = ow b := fun b hb => by simp [ow', hb]
  clear_value ow'
  have e3 : ∀ b r, ow b = some r → r ≠ .sdata fb → ow' b = some r := fun b r hbr hr => by
    have hne : b ≠ g := fun e => by
      subst e
      rcases hg with q | ⟨q, _⟩
      · rw [q] at hbr; cases hbr; exact hr rfl
      · rw [q] at hbr; cases hbr
    rw [e2 b hne, hbr]
  have hkeep : ∀ b r, ow b = some r → r ≠ .sdata fb → b ≠ fb → b ≠ bw → b ≠ bb → wr.heap[b]? = w.heap[b]? := fun b r hbr hr n1 n2 n3 =>
    (hF3.block b (Nat.lt_of_lt_of_le (hlt b r hbr).2 hF2.size) (fun e => by rcases e with e | e; exact n2 e; exact n3 e)).trans
      (hF2.block b (hlt b r hbr).2 (fun e => by rcases e with e | e; (rw [e] at hbr; cases hbr; exact hr rfl); exact n1 e))
  have nn : ∀ {b b' : Nat} {r r' : Role}, ow b = some r → ow b' = some r' → r ≠ r' → b ≠ b' := fun h1 h2 hr e => by rw [e, h2] at h1; cases h1; exact hr rfl
  have hg1 : g ≠ bw := fun e => by rcases hg with q | ⟨q, _⟩ <;> (rw [e, how] at q; cases q)
  have hg2 : g ≠ bb := fun e => by rcases hg with q | ⟨q, _⟩ <;> (rw [e, hob] at q; cases q)
  refine ⟨ow', ⟨⟨.slice (some ⟨g, 0, none⟩) (x.seen.data.length + l.length) cap2, .map (some bb), c.v3, c.v4, .map (some bw)⟩, ?_, ?_, ?_, ?_, addF_wf h.wf hb⟩, ⟨fun b r hbr hr => ?_, fun b r hr => ?_, fun b r hbr => ?_⟩, ?_, fun b hb hn => ?_, e3 _ _ hf (by simp)⟩
  · unfold addF; rw [if_neg hl]; exact hc
  · unfold addF; rw [if_neg hl]
    refine ⟨⟨?_, fun k hk => ?_⟩, bb, rfl, e3 _ _ hob (by simp), hmb⟩
    · rw [List.length_append, List.map_append]
      exact ⟨hown.1, hown.2.imp id (fun ⟨g', cap, cur, q1, q2, q3, q4⟩ => ⟨g', cap, cur, q1, q2, by cases q1; exact (hF3.block g hglt (fun e => by rcases e with e | e; exact hg1 e; exact hg2 e)).trans q3, q4⟩)⟩
    · have : k = g := by simpa [Value.ownBlock] using hk.symm
      subst this; exact e1
  · rw [show (addF x l).safe = x.safe from by unfold addF; split <;> rfl]
    refine h.safe.keep (fun b hbr => ?_)
    rcases hbr with hbr | hbr
    · exact ⟨hkeep b _ hbr (by simp) (nn hbr hf (by simp)) (nn hbr how (by simp)) (nn hbr hob (by simp)), (e3 _ _ hbr (by simp)).trans hbr.symm⟩
    · exact ⟨hkeep b _ hbr (by simp) (nn hbr hf (by simp)) (nn hbr how (by simp)) (nn hbr hob (by simp)), (e3 _ _ hbr (by simp)).trans hbr.symm⟩
  · unfold addF; rw [if_neg hl]; exact ⟨bw, rfl, e3 _ _ how (by simp), hmw⟩
  · refine hkeep b r hbr (fun e => hr (by rw [e]; rfl)) (nn hbr hf (fun e => hr (by rw [e]; rfl))) (nn hbr how (fun e => hr (by rw [e]; rfl))) (nn hbr hob (fun e => hr (by rw [e]; rfl)))
  · by_cases e : b = g
    · subst e
      rw [e1]
      constructor
      · intro q; cases q; exact absurd rfl hr
      · intro q; rcases hg with q' | ⟨q', _⟩
        · rw [q'] at q; cases q; exact absurd rfl hr
        · rw [q'] at q; cases q
    · rw [e2 b e]
  · have hs := hF3.size
    have hs2 := hF2.size
    by_cases e : b = g
    · subst e
      rcases hg with q | ⟨_, q⟩
      · exact ⟨(hlt _ _ q).1, by omega⟩
      · exact ⟨by omega, by omega⟩
    · rw [e2 b e] at hbr
      have := hlt b r hbr
      exact ⟨this.1, by omega⟩
  · exact Fr.trans' (hF2.mono (fun b _ e => by rcases e with e | e; exact Own.has_some e; (subst e; exact Own.has_some hf))) hF3 (fun b _ e => by rcases e with e | e; (subst e; exact Own.has_some how); (subst e; exact Own.has_some hob))
  · by_cases e : b = g
    · subst e
      rcases hg with q | ⟨_, q⟩
      · rw [q] at hn; cases hn
      · omega
    · rw [e2 b e]; exact hn
set_option maxRecDepth 100000 in
set_option maxHeartbeats 1000000 in
theorem file_add {w : World} {ow : Own} {fb K : Nat} {x : AFile} {c : FCells} (h : FileIs w ow fb x c) (hf : ow fb = some (.file fb)) (hlt : ∀ b r, ow b = some r → K ≤ b ∧ b < w.heap.size) (hK : K ≤ w.heap.size)
    (a : Addr) (cap : Nat) (l : List UInt8) (hl : l ≠ []) (hv : ∀ (j : Nat) u, (l.map byteV)[j]? = some u → w.cell? (a.add j) = some u) (hb : x.seen.data.length + l.length ≤ maxData) :
    Calls Tryz.prog 56 #[.pointer (some ⟨fb, 0, none⟩), .slice (some a) l.length cap] w fun e w' => e = .returned (.tuple #[]) ∧
      ∃ ow', FileAt w' ow' fb (addF x l) ∧ Kept (fun r => r.fileOf = some fb) K w ow w' ow' ∧ FrO ow w w' ∧ ow.ext ow' w ∧ ow' fb = some (.file fb) := by
  have c1 : w.cell? ⟨fb, 1, none⟩ = some c.v1 := cell_at h.cells 1
  have f1 := free_at h.cells 1
  have hn : x.seen.data.length ≤ 1099511627776 := by unfold maxData at hb; omega
  have hn2 : x.seen.data.length + l.length ≤ 1099511627776 := hb
  have hl0 : 0 < l.length := List.length_pos_iff.2 hl
  have hlz : ((l.length : Int) == 0) = false := by simp; omega
  have hrow := Lib.hid h.seen.data.row
  have hform := (ownsRow_slice h.seen.data.row).form
  obtain ⟨o1, cap1, hv1⟩ := hform
  rw [hv1] at c1
  have HV1 := Lib.hid hv1
  have HV := Lib.hid hv
  clear hv1 hv hl
  obtain ⟨bw, hv5, how, hmw⟩ := h.waits
  obtain ⟨bb, hv2, hob, hmb⟩ := h.seen.bad
  have hne1 : fb ≠ bw := fun e => by rw [e, how] at hf; cases hf
  have hne2 : fb ≠ bb := fun e => by rw [e, hob] at hf; cases hf
  have hne3 : bw ≠ bb := fun e => by rw [e, hob] at how; cases how
  have hnd : ∀ b r, ow b = some r → r ≠ .sdata fb → some b ≠ (Value.slice o1 x.seen.data.length cap1).ownBlock := fun b r hb hr e => by
    have := h.seen.data.own b (by rw [HV1.out]; exact e.symm)
    rw [hb] at this; cases this; exact hr rfl
  have hcells := h.cells
  rw [HV1.out, hv2, hv5] at hcells
  have HW1 := Lib.hid (show ∀ w1 : World, w.grownBy w1 (Value.slice o1 x.seen.data.length cap1).ownBlock → w1.heap[fb]? = w.heap[fb]? from fun w1 hg => hg.block fb (hlt _ _ hf).2 (hnd _ _ hf (by simp)))
  have HC := Lib.hid hcells
  have HMW := Lib.hid hmw
  have HMB := Lib.hid hmb
  have HND := Lib.hid hnd
  have HLT := Lib.hid hlt
  clear hcells hmw hmb hnd hlt hv5 hv2
  obtain ⟨i0, hi, hz0, hz1, hz2⟩ := info_parts infoByte
  go_enter Tryz.func56, Tryz.ntmps56
  go_wp2_with (at_builtin; refine wpList_append_lies _ rfl (.tmp 17) (.tmp 18) 38 rfl 0 5 i0 _ 1 1 Tryz.underlying38 hi hz0 hz1 hz2 rfl (by decide) (.slice o1 x.seen.data.length cap1) x.seen.data.length _ rfl (HV1.out ▸ hrow.out) a l.length cap (l.map byteV) rfl (by simp) HV.out (by simp [byteV, Value.oneCell']) hl0 (by unfold maxLen; omega) (by omega) (Nat.zero_le _) _ rfl ?_; intro g cap2 w1 hown1 hgrow1 hat1 hlt1; have c1' : w1.cell? ⟨fb, 1, none⟩ = some (.slice o1 x.seen.data.length cap1) := cell_at ((HW1.out w1 hgrow1).trans HC.out) 1; have f1' := free_at ((HW1.out w1 hgrow1).trans HC.out) 1; have HO1 := Lib.hid hown1; have HG1 := Lib.hid hgrow1; have HA1 := Lib.hid hat1; have HL1 := Lib.hid hlt1; clear hown1 hgrow1 hat1 hlt1)
  have hfr1 : Fr (fun b => ow b = some (.sdata fb)) w w1 := (Fr.refl _ _).grown HG1.out (fun k hk _ => h.seen.data.own k (by rw [HV1.out]; exact hk))
  have hc2 := heap_setCell_at ((HW1.out w1 HG1.out).trans HC.out) 1 (.slice (some ⟨g, 0, none⟩) (x.seen.data.length + l.length) cap2)
  have hfr2 : Fr (fun b => ow b = some (.sdata fb) ∨ b = fb) w (w1.setCell ⟨fb, 1, none⟩ (.slice (some ⟨g, 0, none⟩) (x.seen.data.length + l.length) cap2)) := (hfr1.mono (fun _ _ => .inl)).setCell (fun _ => .inr rfl) _
  have hg : ow g = some (.sdata fb) ∨ (ow g = none ∧ w.heap.size ≤ g) := by
    rcases HA1.out with q | q
    · exact .inl (h.seen.data.own g (by rw [HV1.out]; exact q))
    · right
      refine ⟨?_, by omega⟩
      cases ho : ow g with
      | none => rfl
      | some r => have := (HLT.out g r ho).2; omega
  have hgf : g ≠ fb := fun e => by rcases hg with q | ⟨q, _⟩ <;> (rw [e, hf] at q; cases q)
  have hgw : g ≠ bw := fun e => by rcases hg with q | ⟨q, _⟩ <;> (rw [e, how] at q; cases q)
  have hgb : g ≠ bb := fun e => by rcases hg with q | ⟨q, _⟩ <;> (rw [e, hob] at q; cases q)
  have hown2 : (w1.setCell ⟨fb, 1, none⟩ (.slice (some ⟨g, 0, none⟩) (x.seen.data.length + l.length) cap2)).ownsRow 0 5 1 (.slice (some ⟨g, 0, none⟩) (x.seen.data.length + l.length) cap2) (x.seen.data.length + l.length) (x.seen.data.map byteV ++ l.map byteV) :=
    ownsRow_setCell_other HO1.out (fun e => hgf (by simpa [Value.ownBlock] using e)) _
  have hglt : g < (w1.setCell ⟨fb, 1, none⟩ (.slice (some ⟨g, 0, none⟩) (x.seen.data.length + l.length) cap2)).heap.size := by rw [World.size_setCell]; exact HL1.out
  have hmw2 := HMW.out.of_block (hfr2.block bw (HLT.out _ _ how).2 (fun e => by rcases e with e | e; (rw [how] at e; cases e); exact hne1 e.symm))
  have hmb2 := HMB.out.of_block (hfr2.block bb (HLT.out _ _ hob).2 (fun e => by rcases e with e | e; (rw [hob] at e; cases e); exact hne2 e.symm))
  have HF2 := Lib.hid hfr2
  have HC2 := Lib.hid hc2
  have HO2 := Lib.hid hown2
  have HG2 := Lib.hid hglt
  have HM2 := Lib.hid hmw2
  have HB2 := Lib.hid hmb2
  have HGG := Lib.hid hg
  clear hfr1 hc2 hfr2 hown2 hglt hmw2 hmb2 HO1 HG1 HA1 HL1 HW1 c1 f1 hrow hg
  generalize (w1.setCell ⟨fb, 1, none⟩ (.slice (some ⟨g, 0, none⟩) (x.seen.data.length + l.length) cap2)) = w2 at *
  go_loopw [5] (fun i wr => ∃ k : Int, (x.seen.data.length : Int) / 512 ≤ k ∧ k ≤ ((x.seen.data.length : Int) + l.length + 511) / 512 ∧ i = .int .i64 k ∧ MapAt intE unitV wr bw (rng x.waits ((x.seen.data.length : Int) / 512) k (some ())) ∧
      MapAt intE unitV wr bb (rng x.seen.bad ((x.seen.data.length : Int) / 512) k none) ∧ Fr (fun b => b = bw ∨ b = bb) w2 wr) (fun i _ => (((x.seen.data.length : Int) + l.length + 511) / 512 - intOf i).toNat)
  case atStart =>
    exact ⟨_, Int.le_refl _, by omega, rfl, by rw [rng_nil _ _ _ _ (Int.le_refl _)]; exact HM2.out, by rw [rng_nil _ _ _ _ (Int.le_refl _)]; exact HB2.out, Fr.refl _ _⟩
  case round =>
    obtain ⟨k, hk0, hk1, rfl, hmw3, hmb3, hf3⟩ := hrel
    have hcc : wr.heap[fb]? = _ := (hf3.block fb (by have := (HLT.out _ _ hf).2; have := HF2.out.size; omega) (fun e => by rcases e with e | e; exact hne1 e; exact hne2 e)).trans HC2.out
    have c1 : wr.cell? ⟨fb, 1, none⟩ = some (.slice (some ⟨g, 0, none⟩) (x.seen.data.length + l.length) cap2) := cell_at hcc 1
    have c2 : wr.cell? ⟨fb, 2, none⟩ = some (.map (some bb)) := cell_at hcc 2
    have c5 : wr.cell? ⟨fb, 5, none⟩ = some (.map (some bw)) := cell_at hcc 5
    have HMW3 := Lib.hid hmw3
    have HMB3 := Lib.hid hmb3
    have HF3 := Lib.hid hf3
    have HCC := Lib.hid hcc
    clear hmw3 hmb3 hf3 hcc
    go_wp2_with fail
    refine (disk_sectors _ _ (by omega) (by omega)).mono ?_
    rintro e w' ⟨rfl, rfl⟩
    by_cases hlt : k < ((x.seen.data.length : Int) + l.length + 511) / 512
    · go_wp2_with (first
        | (at_mapUpdate; refine wpl_mapUpdate (E := intE) (V := unitV) rfl (.tmp 42) (.tmp 43) (.const (.int .i64 1)) rfl HMW3.out Tryz.underlying92 Tryz.underlying3 k () rfl rfl rfl ?_; intro o2 hm2; have HM2 := Lib.hid hm2; have hs2 := Lib.hid (show ∀ i, i ≠ bw → (setBlock wr bw o2).heap[i]? = wr.heap[i]? from fun i hi => by simp [setBlock, hi.symm]); have d2 : (setBlock wr bw o2).cell? ⟨fb, 2, none⟩ = some (.map (some bb)) := cell_at ((hs2.out fb hne1).trans HCC.out) 2; have HMB4 := Lib.hid (HMB3.out.of_block (hs2.out bb hne3.symm)); clear hm2)
        | (at_delete; refine wpl_delete (E := intE) (V := unitV) rfl (.tmp 48) (.tmp 49) rfl HMB4.out Tryz.underlying92 Tryz.underlying3 k rfl rfl ?_; intro o3 hm3; have HM3 := Lib.hid hm3; clear hm3))
      have hn1 : bw ≠ bb := hne3
      go_roundw
      case rel =>
        refine ⟨k + 1, by omega, by omega, rfl, ?_, ?_, ?_⟩
        · rw [← rng_step _ _ _ _ hk0]
          exact HM2.out.of_block (by simp [setBlock, hn1.symm])
        · rw [← rng_step _ _ _ _ hk0]; exact HM3.out
        · exact (HF3.out.setBlock (fun _ => .inl rfl) _).setBlock (fun _ => .inr rfl) _
      case measure => simp [intOf]; omega
    · have hk : k = ((x.seen.data.length : Int) + l.length + 511) / 512 := by omega
      have HK := Lib.hid hk
      clear hk
      go_wp2_with fail
      go_end0
      refine ⟨rfl, ?_⟩
      have hk := HK.out
      subst hk
      exact add_close h hf HLT.out hK how hob (List.length_pos_iff.1 hl0) hb HGG.out HF2.out HCC.out HO2.out HG2.out HMW3.out HMB3.out HF3.out
end Go.Proofs.YtabfcciejhbajaaGreatDoor

namespace Go.Proofs.YtabfcciejhbajaaGreatDoor
open Go Go.RowKit
open Go.ChangeMaps (setBlock)

theorem run_append_nothing {P : Program} (w : World) {t ty e : TypeId} {i : TypeInfo} (ht : P.underlying t = some (.slice e)) (hi : P.info? e = some i) (o1 : Option Addr) (n c1 : Nat) (o : Option Addr) (c : Nat) (hn : n ≤ c1) :
    (Builtin.append_ #[t, t] ty #[.slice o1 n c1, .slice o 0 c]).run P w = .ok (.slice o1 n c1) w := by
  cases o1 <;> cases o <;> simp [Builtin.append_, run_underlying ht, sizeOf, typeInfo, hi, Builtin.lenOf, Builtin.firstCells, loadCells, loadCellsFrom, hn, storeCells]
theorem wpl_append_nothing {P : Program} {w : World} {ops : Array Oper} {rest : List Oper} {o : Oper} {a : Act} {Q : Exit → Act → World → Prop} (hgd : o.guard = none) (s x : Operand) (t : TypeId)
    (ho : o.op = .call { callee := .builtin .append, args := #[s, x], argTypes := #[t, t] }) {e : TypeId} {i : TypeInfo} (ht : P.underlying t = some (.slice e)) (hi : P.info? e = some i)
    (o1 : Option Addr) (n c1 : Nat) (o2 : Option Addr) (c : Nat) (hn : n ≤ c1) (hs : a.eval s = .slice o1 n c1) (hx : a.eval x = .slice o2 0 c)
    (h : wpList P ops Q rest (a.put o.dst (.slice o1 n c1)) w) : wpList P ops Q (o :: rest) a w := by
  refine wpList_plain hgd fun K hK => ?_
  have hr := run_append_nothing (P := P) w (ty := o.type) ht hi o1 n c1 o2 c hn
  unfold Oper.wp execOp
  simp only [ho, resolve, invoke, builtin, Sem.run_bind, Sem.run_pure, Result.andThen_ok, List.map_toArray, List.map_cons, List.map_nil, hs, hx, hr]
  exact hK _ _ h
theorem setCell_same_heap {w : World} {b : Nat} {c : Array Value} {t : TypeId} {z : Nat × Nat} (h : w.heap[b]? = some (.cells c t z)) (i : Nat) (v : Value) (hv : c[i]? = some v) (k : Nat) : (w.setCell ⟨b, i, none⟩ v).heap[k]? = w.heap[k]? := by
  by_cases e : k = b
  · subst e
    rw [heap_setCell_at h, h]
    congr 2
    apply Array.ext_getElem?
    intro j
    rw [Array.getElem?_setIfInBounds]
    split
    · rename_i e; subst e
      split
      · exact hv.symm
      · rename_i hh; rw [Array.getElem?_eq_none (by omega)] at hv; cases hv
    · rfl
  · exact Below.heap_setCell _ _ _ _ e
set_option maxRecDepth 100000 in
set_option maxHeartbeats 1000000 in
theorem file_add_nil {w : World} {ow : Own} {fb : Nat} {x : AFile} {c : FCells} (h : FileIs w ow fb x c) (o : Option Addr) (cap : Nat) :
    Calls Tryz.prog 56 #[.pointer (some ⟨fb, 0, none⟩), .slice o 0 cap] w fun e w' => e = .returned (.tuple #[]) ∧ (∀ k : Nat, w'.heap[k]? = w.heap[k]?) ∧ Fr (· = fb) w w' := by
  have c1 : w.cell? ⟨fb, 1, none⟩ = some c.v1 := cell_at h.cells 1
  have f1 := free_at h.cells 1
  have hn : x.seen.data.length ≤ 1099511627776 := h.wf.seen.len
  obtain ⟨o1, cap1, hv1, hcap⟩ : ∃ o1 cap1, c.v1 = .slice o1 x.seen.data.length cap1 ∧ x.seen.data.length ≤ cap1 := by
    rcases h.seen.data.row.2 with ⟨q, q'⟩ | ⟨g, cp, cur, q, _, _, q', _⟩
    · exact ⟨none, 0, by rw [q, q'], by omega⟩
    · exact ⟨_, _, q, q'⟩
  rw [hv1] at c1
  have HC := Lib.hid h.cells
  have HV := Lib.hid hv1
  have HCAP := Lib.hid hcap
  clear hv1 hcap
  obtain ⟨i0, hi, hz0, hz1, hz2⟩ := info_parts infoByte
  go_enter Tryz.func56, Tryz.ntmps56
  go_wp2_with (at_builtin; refine wpl_append_nothing rfl (.tmp 17) (.tmp 18) 38 rfl Tryz.underlying38 hi o1 x.seen.data.length cap1 o cap HCAP.out rfl rfl ?_)
  first
    | (go_ret; skip)
    | go_end0
    | refine bodyPost_ret (results_none rfl _ _ _) rfl ?_
  refine ⟨rfl, fun k => ?_, Fr.setCell (S := (· = fb)) (Fr.refl _ _) (fun _ => rfl) _⟩
  exact setCell_same_heap HC.out 1 _ (by rw [HV.out]; rfl) k
theorem file_add_all {w : World} {ow : Own} {fb K : Nat} {x : AFile} (h : FileAt w ow fb x) (hf : ow fb = some (.file fb)) (hlt : ∀ b r, ow b = some r → K ≤ b ∧ b < w.heap.size) (hK : K ≤ w.heap.size)
    (v : Value) (l : List UInt8) (hv : SliceIs w 1 v l.length (l.map byteV)) (hb : x.seen.data.length + l.length ≤ maxData) :
    Calls Tryz.prog 56 #[.pointer (some ⟨fb, 0, none⟩), v] w fun e w' => e = .returned (.tuple #[]) ∧
      ∃ ow', FileAt w' ow' fb (addF x l) ∧ Kept (fun r => r.fileOf = some fb) K w ow w' ow' ∧ FrO ow w w' ∧ ow.ext ow' w ∧ ow' fb = some (.file fb) := by
  obtain ⟨c, hc⟩ := h
  by_cases hl : l = []
  · subst hl
    obtain ⟨o, cap, hv'⟩ := hv.form
    rw [hv']
    refine (file_add_nil hc o cap).mono ?_
    rintro e w' ⟨rfl, hh, hfr⟩
    refine ⟨rfl, ow, ?_, ⟨fun b _ _ _ => hh b, fun _ _ _ => Iff.rfl, fun b r hb => ⟨(hlt b r hb).1, Nat.lt_of_lt_of_le (hlt b r hb).2 hfr.size⟩⟩, hfr.mono (fun b _ e => by subst e; exact Own.has_some hf), Own.ext_refl _ _, hf⟩
    have : addF x [] = x := by unfold addF; simp
    rw [this]
    exact ⟨c, hc.keep hf (fun b _ _ _ => ⟨hh b, rfl⟩)⟩
  · rcases hv with ⟨_, q, _⟩ | ⟨a, cap, rfl, _, _, hcs⟩
    · exact absurd (List.eq_nil_of_length_eq_zero q) hl
    · exact file_add hc hf hlt hK a cap l hl hcs hb
end Go.Proofs.YtabfcciejhbajaaGreatDoor
