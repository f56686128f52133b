/-
  The law SegmentSick of layer 9 returns true for every input: behind an operation that failed the segment is sick: Append, Sync and Cut refuse, nothing is done any more. Conditions: the listed package-level variables hold what the program's own text lays (the card ties them).
-/
import Derived.Test.YtdfnaphkppphkaaGreatDoorMSick
import Derived.Test.YtdfnaphkppphkaaGreatDoorM18
import Derived.Test.YtdfnaphkppphkaaGreatDoorRows
import Derived.Test.YtdfnaphkppphkaaGreatDoorTie
import Derived.Test.YtdfnaphkppphkaaGreatDoorCards
namespace Go.Proofs.YtdfnaphkppphkaaGreatDoor
set_option maxRecDepth 100000
open Go Go.RowKit Go.ChangeShapes Go.WideShapes Go.ChangeAt
open Go.Proofs.YtdfnaphkppphkaaGreatDoor

/-- the sentinels of the row -/
def sickS (x : Er) : Bool := x.core || decide (x = .sick)
theorem sick_mem (x : Er) (hx : sickS x = true) : Tryz.prog.globalNamed x.name = some x.var ∧ (Tryz.prog.globals[x.var]?).map (·.type) = some 31 ∧ ∃ text, (x.name, errD text) ∈ Rows.segmentSickRow.laid := by
  cases x <;> first
    | exact absurd hx (by decide)
    | exact ⟨by kernel_rfl, by kernel_rfl, _, by unfold Rows.segmentSickRow; simp only [List.mem_cons]; repeat (first | exact .inl rfl | exact Or.inl rfl | refine Or.inr ?_)⟩
theorem sick_env {W : World} (h : laidMet Tryz.prog Rows.segmentSickRow.laid W) : Env W W.heap.size (ebOf W) sickS :=
  env_of_laid h sickS (fun x hx => by unfold sickS; rw [hx]; rfl) sick_mem 1 (by rfl) 3 (by rfl)
theorem sick_witness (os : Os) (args : Array Value) : laidMetH Tryz.prog Rows.segmentSickRow.laid ((World.laidAll Tryz.prog os Rows.segmentSickRow.laid).forCall (fun _ _ => 0) ⟨#[], args, []⟩).memory := by
  rw [MakeChecks.laidMetH_plain _ _ _ (by kernel_rfl)]
  exact laidMet_laidAll _ (by kernel_rfl) (by kernel_rfl)
set_option maxRecDepth 100000 in
theorem sick_lifted (os : Os) (started : os.Started) (H : Type) (enc : TypeId × Value → H) :
    ReturnsInHanded {} Tryz.checked os 4 .any (fun w args => (Rows.segmentSickSpec.pre enc Tryz.prog Tryz.f4 [] false w args ∧ laidMetH Tryz.prog Rows.segmentSickRow.laid w) ∧ sizedMet enc Tryz.prog Tryz.f4 (OpenSpec.ofChange Rows.segmentSickSpec) false w args)
      (Rows.segmentSickSpec.post enc Tryz.prog Tryz.f4 false true false false) := by
  refine returnsInHanded_of_change_and (C := Tryz.checked) (X := fun w _ => laidMetH Tryz.prog Rows.segmentSickRow.laid w) (fun _ _ _ hh h => h.of_heap hh) ownK started (by kernel_rfl) Tryz.func4
    (ChangeSpec.witness_shaped (enc := enc) (C := Tryz.checked) (os := os) (X := fun w _ => laidMetH Tryz.prog Rows.segmentSickRow.laid w) false (World.laidAll Tryz.prog os Rows.segmentSickRow.laid) #[.int .u64 0, .slice none 0 0, .int .i64 0] 8 (World.laidAll_os _ _ _)
      (World.shaped_of_ZipB (by kernel_rfl) (by kernel_rfl)) (by kernel_rfl) (by kernel_rfl) (by kernel_rfl) (sick_witness os _)) ?_
  intro W base args ds gs before hval0 hW _ hz hL _
  have hval : ∀ (j : Nat) t v, Tryz.f4.params[j]? = some t → args[j]? = some v → Value.okWide Tryz.prog W .any base t v := hval0
  have hW' := hW
  have hlt0 : ∀ p ∈ before, p.block < W.heap.size := fun p hp => hW.lt p hp
  obtain ⟨p, q, hA0, hV, hbef, hfz, hnd⟩ := hW
  have hA : DataW.TrodAll enc Tryz.prog W 0 (fun _ => true) true Tryz.f4.params.toList args.toList ds p := hA0
  rw [Tryz.params4] at hA hval
  obtain ⟨v0, v1, v2, d0, d1, d2, p0, p1, p2, rfl, rfl, hp, h0, h1, h2⟩ := trodAll_three hA
  obtain ⟨rfl, rfl⟩ := trodVars_none hV
  have k1 := h1
  obtain ⟨x, rfl, rfl, rfl, wx⟩ := open_int Tryz.underlying22 (hval 0 22 v0 rfl rfl) h0
  have hz1 := each_weights hz (j := 1) (t := 23) (d := d1) (by rw [Tryz.params4]; rfl) rfl
  obtain ⟨groups, hgs⟩ := open_grps (hval 1 23 v1 rfl rfl) h1 hz1
  obtain ⟨y, rfl, rfl, rfl, wy⟩ := open_int Tryz.underlying3 (hval 2 3 v2 rfl rfl) h2
  rw [MakeChecks.laidMetH_plain _ _ _ (by kernel_rfl)] at hL
  have hx : 0 ≤ x ∧ x ≤ 18446744073709551615 := by simp only [Lit.wf, Bool.and_eq_true, decide_eq_true_eq] at wx; exact wx
  have hlaw := law_sick W W.heap.size (ebOf W) sickS (sick_env hL) rfl rfl x.toNat (by omega) v1 groups hgs y
  rw [Int.toNat_of_nonneg hx.1] at hlaw
  refine hlaw.mono fun e W' ⟨he, hup⟩ => ?_
  subst he
  have hb := FrUp.below hup
  have e1 : Rows.segmentSickSpec.fn H ([.lit (.int .u64 x), d1, .lit (.int .i64 y)] ++ []) = { results := [.lit (.bool true)], args := [.lit (.int .u64 x), d1, .lit (.int .i64 y)] } := rfl
  refine ⟨_, rfl, _, _, before, [], [] ++ (p1 ++ []), [], hW', ?_, ?_, ?_, World.keptBut_mono (fun m hm => ⟨hm, ?_⟩) (hb.frame (· ∈ before)), fun h => by cases h⟩
  · rw [e1]; exact trodAll_mk1 (shut_bool Tryz.underlying4 true)
  · rw [e1, Tryz.params4]
    exact trodAll_mk3 (shut_int Tryz.underlying22 wx)
      (Below.trod laidOutP (by kernel_rfl) (of_decide_eq_true (by kernel_rfl)) k1 hb (fun q hq => hlt0 q (by rw [hbef, hp]; simp [hq])))
      (shut_int Tryz.underlying3 wy)
  · rw [e1]; rfl
  · rw [hbef, hp] at hm
    simpa using hm
theorem segmentSick_holds : Rows.SegmentSickSaid :=
  OpenClaim.holds_of_wide 4 Tryz.f4 rfl rfl rfl rfl rfl rfl rfl ⟨rfl, rfl, rfl, rfl, rfl⟩ rfl rfl rfl rfl rfl (by kernel_rfl) Tryz.func4 (by kernel_rfl)
    (of_decide_eq_true (by kernel_rfl)) (by unfold Func.isWrapper; rw [if_neg (of_decide_eq_false (by kernel_rfl))]; exact ⟨rfl, rfl⟩)
    (fun os started H enc _ => sick_lifted os started H enc)
theorem segmentSick_card : Rows.SegmentSickCardSaid :=
  Claim7.holds_tied_plain_at .later [] [.data, .data, .data, .data, .data, .sentinel, .sentinel, .sentinel, .sentinel, .sentinel, .sentinel, .sentinel, .sentinel, .sentinel, .sentinel, .sentinel, .pinned] true (true, Rows.segmentSickCard.stood.harness.2) true
    segmentSick_holds (fun _ h => by cases h) (by kernel_rfl) (fun _ h => by cases h) segmentSick_row_tie rfl ⟨rfl, rfl⟩ (by kernel_rfl) rfl
    (fun f fn hf hfn => by
      obtain rfl : f = 4 := Option.some.inj ((show Tryz.prog.funcNamed "turnstile/turnstilelaw09.SegmentSick" = some 4 by kernel_rfl).symm.trans hf) |>.symm
      obtain rfl : fn = Tryz.f4 := (Option.some.inj (Tryz.func4.symm.trans hfn)).symm
      exact ⟨by kernel_rfl, fun j t ht => by
        rw [Tryz.params4] at ht
        have h3 : t = 22 ∨ t = 23 ∨ t = 3 := by
          match j, ht with
          | 0, ht => exact .inl (by simpa using ht.symm)
          | 1, ht => exact .inr (.inl (by simpa using ht.symm))
          | 2, ht => exact .inr (.inr (by simpa using ht.symm))
          | j + 3, ht => simp at ht
        rcases h3 with rfl | rfl | rfl
        · exact (show Tryz.prog.wantsStandIn 22 = false by kernel_rfl)
        · exact (show Tryz.prog.wantsStandIn 23 = false by kernel_rfl)
        · exact (show Tryz.prog.wantsStandIn 3 = false by kernel_rfl)⟩)
    (by kernel_rfl)
#print axioms segmentSick_card
end Go.Proofs.YtdfnaphkppphkaaGreatDoor
