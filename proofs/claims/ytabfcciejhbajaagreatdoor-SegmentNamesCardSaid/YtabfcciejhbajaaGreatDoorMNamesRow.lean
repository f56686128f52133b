/-
  The law SegmentNames of layer 9 returns true for every input: Name is the document's for every number, First for every name; each is the other's way back. Conditions: the listed package-level variables hold what the program's own text lays (the card ties them).
-/
import Derived.Test.YtabfcciejhbajaaGreatDoorMNames
import Derived.Test.YtabfcciejhbajaaGreatDoorM17
import Derived.ChangeMaps5
import Derived.Test.YtabfcciejhbajaaGreatDoorRows
import Derived.Test.YtabfcciejhbajaaGreatDoorTie
import Derived.Test.YtabfcciejhbajaaGreatDoorCards
namespace Go.Proofs.YtabfcciejhbajaaGreatDoor
set_option maxRecDepth 100000
open Go Go.RowKit Go.ChangeShapes Go.WideShapes Go.ChangeAt
open Go.Proofs.YtabfcciejhbajaaGreatDoor

/-- the sentinels of the row -/
def namesS (x : Er) : Bool := x.core || decide (x = .sick)
theorem names_mem (x : Er) (hx : namesS x = true) : Tryz.prog.globalNamed x.name = some x.var ∧ (Tryz.prog.globals[x.var]?).map (·.type) = some 32 ∧ ∃ text, (x.name, errD text) ∈ Rows.segmentNamesRow.laid := by
  cases x <;> first
    | exact absurd hx (by decide)
    | exact ⟨by kernel_rfl, by kernel_rfl, _, by unfold Rows.segmentNamesRow; simp only [List.mem_cons]; repeat (first | exact .inl rfl | exact Or.inl rfl | refine Or.inr ?_)⟩
theorem names_env {W : World} (h : laidMet Tryz.prog Rows.segmentNamesRow.laid W) : Env W W.heap.size (ebOf W) namesS :=
  env_of_laid h namesS (fun x hx => by unfold namesS; rw [hx]; rfl) names_mem 1 (by rfl) 3 (by rfl)
theorem names_num {W : World} (h : laidMet Tryz.prog Rows.segmentNamesRow.laid W) : NumVars W := by
  obtain ⟨ps, hl, hnd, hr⟩ := h
  have one : ∀ (n : String) (g : Nat), Tryz.prog.globalNamed n = some g → (Tryz.prog.globals[g]?).map (·.type) = some 32 → (∃ text, (n, errD text) ∈ Rows.segmentNamesRow.laid) → ∃ v, W.cell? ⟨g, 0, none⟩ = some v ∧ (v = .nilIface ∨ ∃ te pe, v = .iface te pe) := by
    rintro n g h1 h2 ⟨text, h3⟩
    obtain ⟨a, k1, _, _⟩ := sent_one h1 h2 hl hr h3
    exact ⟨_, k1, .inr ⟨_, _, rfl⟩⟩
  exact ⟨one "strconv.ErrSyntax" 11 (by kernel_rfl) (by kernel_rfl) ⟨_, by unfold Rows.segmentNamesRow; simp only [List.mem_cons]; repeat (first | exact .inl rfl | exact Or.inl rfl | refine Or.inr ?_)⟩,
    one "strconv.ErrRange" 12 (by kernel_rfl) (by kernel_rfl) ⟨_, by unfold Rows.segmentNamesRow; simp only [List.mem_cons]; repeat (first | exact .inl rfl | exact Or.inl rfl | refine Or.inr ?_)⟩⟩
theorem names_witness (os : Os) (args : Array Value) : laidMetH Tryz.prog Rows.segmentNamesRow.laid ((World.laidAll Tryz.prog os Rows.segmentNamesRow.laid).forCall (fun _ _ => 0) ⟨#[], args, []⟩).memory := by
  rw [MakeChecks.laidMetH_plain _ _ _ (by kernel_rfl)]
  exact laidMet_laidAll _ (by kernel_rfl) (by kernel_rfl)
set_option maxRecDepth 100000 in
theorem names_lifted (os : Os) (started : os.Started) (H : Type) (enc : TypeId × Value → H) :
    ReturnsInHanded {} Tryz.checked os 3 .any (fun w args => (Rows.segmentNamesSpec.pre enc Tryz.prog Tryz.f3 [] false w args ∧ laidMetH Tryz.prog Rows.segmentNamesRow.laid w) ∧ sizedMet enc Tryz.prog Tryz.f3 (OpenSpec.ofChange Rows.segmentNamesSpec) false w args)
      (Rows.segmentNamesSpec.post enc Tryz.prog Tryz.f3 false true false false) := by
  refine returnsInHanded_of_change_and (C := Tryz.checked) (X := fun w _ => laidMetH Tryz.prog Rows.segmentNamesRow.laid w) (fun _ _ _ hh h => h.of_heap hh) ownK started (by kernel_rfl) Tryz.func3
    (ChangeSpec.witness_shaped (enc := enc) (C := Tryz.checked) (os := os) (X := fun w _ => laidMetH Tryz.prog Rows.segmentNamesRow.laid w) false (World.laidAll Tryz.prog os Rows.segmentNamesRow.laid) #[.int .u64 0, .string ⟨#[]⟩] 8 (World.laidAll_os _ _ _)
      (World.shaped_of_ZipB (by kernel_rfl) (by kernel_rfl)) (by kernel_rfl) (by kernel_rfl) (by kernel_rfl) (names_witness os _)) ?_
  intro W base args ds gs before hval0 hW _ hz hL _
  have hval : ∀ (j : Nat) t v, Tryz.f3.params[j]? = some t → args[j]? = some v → Value.okWide Tryz.prog W .any base t v := hval0
  have hW' := hW
  have hlt0 : ∀ p ∈ before, p.block < W.heap.size := fun p hp => hW.lt p hp
  obtain ⟨p, q, hA0, hV, hbef, hfz, hnd⟩ := hW
  have hA : DataW.TrodAll enc Tryz.prog W 0 (fun _ => true) true Tryz.f3.params.toList args.toList ds p := hA0
  rw [Tryz.params3] at hA hval
  obtain ⟨v0, v1, d0, d1, p0, p1, rfl, rfl, hp, h0, h1⟩ := trodAll_two hA
  obtain ⟨rfl, rfl⟩ := trodVars_none hV
  obtain ⟨x, rfl, rfl, rfl, wx⟩ := open_int Tryz.underlying22 (hval 0 22 v0 rfl rfl) h0
  obtain ⟨name, rfl, rfl, rfl, hmx⟩ := Go.ChangeMaps.open_string Tryz.underlying9 (hval 1 9 v1 rfl rfl) h1
  have hz1 := sized_string hz (j := 1) (t := 9) (bytes := name.data.toList) (by rw [Tryz.params3]; rfl) rfl
  rw [MakeChecks.laidMetH_plain _ _ _ (by kernel_rfl)] at hL
  have hx : 0 ≤ x ∧ x ≤ 18446744073709551615 := by simp only [Lit.wf, Bool.and_eq_true, decide_eq_true_eq] at wx; exact wx
  have hlaw := law_names W W.heap.size (ebOf W) namesS (names_env hL) rfl (names_num hL) x.toNat (by omega) name (by rw [Lib.size_eq]; unfold reachBytes at hz1; omega)
  rw [Int.toNat_of_nonneg hx.1] at hlaw
  refine hlaw.mono fun e W' ⟨he, hup⟩ => ?_
  subst he
  have hb := FrUp.below hup
  have e1 : Rows.segmentNamesSpec.fn H ([.lit (.int .u64 x), .lit (.string name.data.toList)] ++ []) = { results := [.lit (.bool true)], args := [.lit (.int .u64 x), .lit (.string name.data.toList)] } := rfl
  refine ⟨_, rfl, _, _, before, [], [] ++ [], [], hW', ?_, ?_, ?_, World.keptBut_mono (fun m hm => ⟨hm, ?_⟩) (hb.frame (· ∈ before)), fun h => by cases h⟩
  · rw [e1]; exact trodAll_mk1 (shut_bool Tryz.underlying4 true)
  · rw [e1, Tryz.params3]
    exact trodAll_mk2 (shut_int Tryz.underlying22 wx) (Go.ChangeMaps.shut_string Tryz.underlying9 hmx)
  · rw [e1]; rfl
  · rw [hbef, hp] at hm
    simp at hm
theorem segmentNames_holds : Rows.SegmentNamesSaid :=
  OpenClaim.holds_of_wide 3 Tryz.f3 rfl rfl rfl rfl rfl rfl rfl ⟨rfl, rfl, rfl, rfl, rfl⟩ rfl rfl rfl rfl rfl (by kernel_rfl) Tryz.func3 (by kernel_rfl)
    (of_decide_eq_true (by kernel_rfl)) (by unfold Func.isWrapper; rw [if_neg (of_decide_eq_false (by kernel_rfl))]; exact ⟨rfl, rfl⟩)
    (fun os started H enc _ => names_lifted os started H enc)
theorem segmentNames_card : Rows.SegmentNamesCardSaid :=
  Claim7.holds_tied_plain_at .later [] [.data, .data, .data, .data, .data, .sentinel, .sentinel, .sentinel, .sentinel, .sentinel, .sentinel, .sentinel, .sentinel, .sentinel, .sentinel, .sentinel, .sentinel, .sentinel, .pinned] true (true, Rows.segmentNamesCard.stood.harness.2) true
    segmentNames_holds (fun _ h => by cases h) (by kernel_rfl) (fun _ h => by cases h) segmentNames_row_tie rfl ⟨rfl, rfl⟩ (by kernel_rfl) rfl
    (fun f fn hf hfn => by
      obtain rfl : f = 3 := Option.some.inj ((show Tryz.prog.funcNamed "turnstile/turnstilelaw09.SegmentNames" = some 3 by kernel_rfl).symm.trans hf) |>.symm
      obtain rfl : fn = Tryz.f3 := (Option.some.inj (Tryz.func3.symm.trans hfn)).symm
      exact ⟨by kernel_rfl, fun j t ht => by
        rw [Tryz.params3] at ht
        have h3 : t = 22 ∨ t = 9 := by
          match j, ht with
          | 0, ht => exact .inl (by simpa using ht.symm)
          | 1, ht => exact .inr (by simpa using ht.symm)
          | j + 2, ht => simp at ht
        rcases h3 with rfl | rfl
        · exact (show Tryz.prog.wantsStandIn 22 = false by kernel_rfl)
        · exact (show Tryz.prog.wantsStandIn 9 = false by kernel_rfl)⟩)
    (by kernel_rfl)
#print axioms segmentNames_card
end Go.Proofs.YtabfcciejhbajaaGreatDoor
