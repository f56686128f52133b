/-
  The law SegmentNames. Conditions: the table and the error variables are there; the name is no longer than memory lets.
-/
import Derived.Test.YtabfcciejhbajaaGreatDoorM16
import Derived.Test.YtabfcciejhbajaaGreatDoorM20
namespace Go.Proofs.YtabfcciejhbajaaGreatDoor
open Go Go.RowKit

set_option maxRecDepth 100000 in
set_option maxHeartbeats 2000000 in
theorem law_names (w : World) (K : Nat) (eb : Er → Addr) (S : Er → Bool) (E : Env w K eb S) (hK : K = w.heap.size) (hN : NumVars w) (x : Nat) (hx : x < 18446744073709551616) (name : ByteArray) (hlim : name.size ≤ 281474976710656) :
    Calls Tryz.prog 3 #[.int .u64 x, .string name] w fun e w' => e = .returned (.bool true) ∧ FrUp K w w' := by
  have HA := Lib.hid (law_awake w K eb S E)
  have HE := Lib.hid E
  have HK := Lib.hid hK
  have HN := Lib.hid hN
  have HX := Lib.hid hx
  have HL := Lib.hid hlim
  clear E hK hN hx hlim
  go_enter Tryz.func3, Tryz.ntmps3
  go_wp2_with fail
  refine HA.out.mono ?_
  rintro e w1 ⟨rfl, hf1⟩
  have HF1 := Lib.hid hf1
  have HE1 := Lib.hid (FrUp.env HE.out hf1)
  have HN1 := Lib.hid (show NumVars w1 from by
    obtain ⟨v, h1, h2⟩ := HN.out.syn
    obtain ⟨u, k1, k2⟩ := HN.out.rng
    have hk := HK.out
    exact ⟨⟨v, (hf1.cell (World.block_lt_of_cell? _ _ h1) (by have := World.block_lt_of_cell? _ _ h1; omega)).trans h1, h2⟩, ⟨u, (hf1.cell (World.block_lt_of_cell? _ _ k1) (by have := World.block_lt_of_cell? _ _ k1; omega)).trans k1, k2⟩⟩)
  have HC1 := Lib.hid (seg_first w1 K eb S HE1.out HN1.out name HL.out)
  clear hf1 HA
  go_wp2_with fail
  refine HC1.out.mono ?_
  rintro e w2 ⟨y, ok, rfl, hy, hf⟩
  have HF2 := Lib.hid hf
  have HY := Lib.hid hy
  have HC2 := Lib.hid (ref_first w2 name)
  have HE2 := Lib.hid (HE1.out.fr hf (fun _ h => h.elim))
  clear hf hy HC1
  go_wp2_with fail
  refine HC2.out.mono ?_
  rintro e w3 ⟨z, had, rfl, hz, rfl⟩
  obtain ⟨q1, q2⟩ := HY.out.same hz
  subst q1
  subst q2
  have HNM := Lib.hid (seg_name w3 K eb S HE2.out x HX.out)
  clear hz HC2
  go_wp2_with fail
  refine HNM.out.mono ?_
  rintro e w4 ⟨rfl, hf⟩
  have HF4 := Lib.hid hf
  have HE4 := Lib.hid (HE2.out.fr hf (fun _ h => h.elim))
  have HC3 := Lib.hid (seg_first w4 K eb S HE4.out ((HN1.out.fr HF2.out).fr hf) (nameB x) (by show (nameL x).toArray.size ≤ _; simp [nameL, hexB_length]))
  clear hf HNM
  go_wp2_with fail
  refine HC3.out.mono ?_
  rintro e w5 ⟨back, is, rfl, hb, hf⟩
  have HF5 := Lib.hid hf
  have HB := Lib.hid hb
  have HE5 := Lib.hid (HE4.out.fr hf (fun _ h => h.elim))
  have HNM := Lib.hid (seg_name w5 K eb S HE5.out x HX.out)
  clear hf hb HC3
  rcases HY.out with ⟨hgy, hny, rfl⟩ | ⟨_, rfl, rfl⟩
  · have HGY := Lib.hid hgy
    subst hny
    clear hgy
    rcases HB.out with ⟨hgb, hnb, rfl⟩ | ⟨hno, rfl, rfl⟩
    · have hbx := nameB_inj HX.out hgb.lt hnb
      subst hbx
      have g1 : ¬ (x : Int) < 1 := by have := hgb.1; omega
      have g2 : ¬ (4611686018427387904 : Int) < (x : Int) := by have := hgb.2; omega
      clear hgb hnb
      go_wp2_with fail
      refine HNM.out.mono ?_
      rintro e w6 ⟨rfl, hf⟩
      have HF6 := Lib.hid hf
      have HE6 := Lib.hid (HE5.out.fr hf (fun _ h => h.elim))
      have HRN := Lib.hid (ref_name w6 x HX.out)
      clear hf HNM
      go_wp2_with fail
      refine HRN.out.mono ?_
      rintro e w7 ⟨rfl, hf⟩
      have HF7 := Lib.hid hf
      have HNY := Lib.hid (seg_name w7 K eb S (HE6.out.fr hf (fun _ h => h.elim)) y HGY.out.lt)
      clear hf HRN
      go_wp2_with fail
      refine HNY.out.mono ?_
      rintro e w8 ⟨rfl, hf⟩
      have HF8 := Lib.hid hf
      clear hf HNY
      go_wp2_with fail
      go_ret
      exact ⟨rfl, Fr.trans HF1.out (FrUp.none (K := K) (Fr.trans HF2.out (Fr.trans HF4.out (Fr.trans HF5.out (Fr.trans HF6.out (Fr.trans HF7.out HF8.out))))))⟩
    · by_cases h1 : x < 1
      · have g1 : (x : Int) < 1 := by omega
        clear h1 hno
        go_wp2_with fail
        refine HNM.out.mono ?_
        rintro e w6 ⟨rfl, hf⟩
        have HF6 := Lib.hid hf
        have HE6 := Lib.hid (HE5.out.fr hf (fun _ h => h.elim))
        have HRN := Lib.hid (ref_name w6 x HX.out)
        clear hf HNM
        go_wp2_with fail
        refine HRN.out.mono ?_
        rintro e w7 ⟨rfl, hf⟩
        have HF7 := Lib.hid hf
        have HNY := Lib.hid (seg_name w7 K eb S (HE6.out.fr hf (fun _ h => h.elim)) y HGY.out.lt)
        clear hf HRN
        go_wp2_with fail
        refine HNY.out.mono ?_
        rintro e w8 ⟨rfl, hf⟩
        have HF8 := Lib.hid hf
        clear hf HNY
        go_wp2_with fail
        go_ret
        exact ⟨rfl, Fr.trans HF1.out (FrUp.none (K := K) (Fr.trans HF2.out (Fr.trans HF4.out (Fr.trans HF5.out (Fr.trans HF6.out (Fr.trans HF7.out HF8.out))))))⟩
      · have g1 : ¬ (x : Int) < 1 := by omega
        have g2 : (4611686018427387904 : Int) < (x : Int) := by
          rcases Nat.lt_or_ge 4611686018427387904 x with h | h
          · omega
          · exact absurd rfl (hno x ⟨by omega, h⟩)
        clear h1 hno
        go_wp2_with fail
        refine HNM.out.mono ?_
        rintro e w6 ⟨rfl, hf⟩
        have HF6 := Lib.hid hf
        have HE6 := Lib.hid (HE5.out.fr hf (fun _ h => h.elim))
        have HRN := Lib.hid (ref_name w6 x HX.out)
        clear hf HNM
        go_wp2_with fail
        refine HRN.out.mono ?_
        rintro e w7 ⟨rfl, hf⟩
        have HF7 := Lib.hid hf
        have HNY := Lib.hid (seg_name w7 K eb S (HE6.out.fr hf (fun _ h => h.elim)) y HGY.out.lt)
        clear hf HRN
        go_wp2_with fail
        refine HNY.out.mono ?_
        rintro e w8 ⟨rfl, hf⟩
        have HF8 := Lib.hid hf
        clear hf HNY
        go_wp2_with fail
        go_ret
        exact ⟨rfl, Fr.trans HF1.out (FrUp.none (K := K) (Fr.trans HF2.out (Fr.trans HF4.out (Fr.trans HF5.out (Fr.trans HF6.out (Fr.trans HF7.out HF8.out))))))⟩
  · rcases HB.out with ⟨hgb, hnb, rfl⟩ | ⟨hno, rfl, rfl⟩
    · have hbx := nameB_inj HX.out hgb.lt hnb
      subst hbx
      have g1 : ¬ (x : Int) < 1 := by have := hgb.1; omega
      have g2 : ¬ (4611686018427387904 : Int) < (x : Int) := by have := hgb.2; omega
      clear hgb hnb
      go_wp2_with fail
      refine HNM.out.mono ?_
      rintro e w6 ⟨rfl, hf⟩
      have HF6 := Lib.hid hf
      have HE6 := Lib.hid (HE5.out.fr hf (fun _ h => h.elim))
      have HRN := Lib.hid (ref_name w6 x HX.out)
      clear hf HNM
      go_wp2_with fail
      refine HRN.out.mono ?_
      rintro e w7 ⟨rfl, hf⟩
      have HF7 := Lib.hid hf
      clear hf HRN
      go_wp2_with fail
      go_ret
      exact ⟨rfl, Fr.trans HF1.out (FrUp.none (K := K) (Fr.trans HF2.out (Fr.trans HF4.out (Fr.trans HF5.out (Fr.trans HF6.out HF7.out)))))⟩
    · by_cases h1 : x < 1
      · have g1 : (x : Int) < 1 := by omega
        clear h1 hno
        go_wp2_with fail
        refine HNM.out.mono ?_
        rintro e w6 ⟨rfl, hf⟩
        have HF6 := Lib.hid hf
        have HE6 := Lib.hid (HE5.out.fr hf (fun _ h => h.elim))
        have HRN := Lib.hid (ref_name w6 x HX.out)
        clear hf HNM
        go_wp2_with fail
        refine HRN.out.mono ?_
        rintro e w7 ⟨rfl, hf⟩
        have HF7 := Lib.hid hf
        clear hf HRN
        go_wp2_with fail
        go_ret
        exact ⟨rfl, Fr.trans HF1.out (FrUp.none (K := K) (Fr.trans HF2.out (Fr.trans HF4.out (Fr.trans HF5.out (Fr.trans HF6.out HF7.out)))))⟩
      · have g1 : ¬ (x : Int) < 1 := by omega
        have g2 : (4611686018427387904 : Int) < (x : Int) := by
          rcases Nat.lt_or_ge 4611686018427387904 x with h | h
          · omega
          · exact absurd rfl (hno x ⟨by omega, h⟩)
        clear h1 hno
        go_wp2_with fail
        refine HNM.out.mono ?_
        rintro e w6 ⟨rfl, hf⟩
        have HF6 := Lib.hid hf
        have HE6 := Lib.hid (HE5.out.fr hf (fun _ h => h.elim))
        have HRN := Lib.hid (ref_name w6 x HX.out)
        clear hf HNM
        go_wp2_with fail
        refine HRN.out.mono ?_
        rintro e w7 ⟨rfl, hf⟩
        have HF7 := Lib.hid hf
        clear hf HRN
        go_wp2_with fail
        go_ret
        exact ⟨rfl, Fr.trans HF1.out (FrUp.none (K := K) (Fr.trans HF2.out (Fr.trans HF4.out (Fr.trans HF5.out (Fr.trans HF6.out HF7.out)))))⟩
end Go.Proofs.YtabfcciejhbajaaGreatDoor
