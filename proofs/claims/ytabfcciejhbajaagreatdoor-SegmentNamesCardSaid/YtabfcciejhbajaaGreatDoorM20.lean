/-
  What a segment's name says of a number. No conditions.
  strconv.ParseUint at base 16, and segment.First. Conditions: the listed variables are there; the name is no longer than memory lets.
  The reference's Name and First. No conditions.
-/
import Derived.Test.YtabfcciejhbajaaGreatDoorM18
import Derived.Test.YtabfcciejhbajaaGreatDoorM14
import Derived.Test.YtabfcciejhbajaaGreatDoorM19
import Derived.Lib.IfaceEq
namespace Go.Proofs.YtabfcciejhbajaaGreatDoor
open Go Go.RowKit

theorem nameB_inj {v u : Nat} (h : v < 18446744073709551616) (h' : u < 18446744073709551616) (q : nameB v = nameB u) : v = u := by
  unfold nameB nameL at q
  have q1 := congrArg (fun b => b.data.toList) q
  simp at q1
  exact hexB_inj h h' q1
/-- a number that a segment may begin with -/
def goodN (x : Nat) : Prop := 1 ≤ x ∧ x ≤ 4611686018427387904
theorem goodN.lt {x : Nat} (h : goodN x) : x < 18446744073709551616 := by have := h.2; omega
/-- what a name says of a number -/
def FirstIs (name : ByteArray) (x : Nat) (b : Bool) : Prop := (goodN x ∧ name = nameB x ∧ b = true) ∨ ((∀ v, goodN v → name ≠ nameB v) ∧ x = 0 ∧ b = false)
theorem FirstIs.same {name : ByteArray} {x y : Nat} {b c : Bool} (h : FirstIs name x b) (h' : FirstIs name y c) : x = y ∧ b = c := by
  rcases h with ⟨h1, h2, rfl⟩ | ⟨h1, rfl, rfl⟩
  · rcases h' with ⟨k1, k2, rfl⟩ | ⟨k1, rfl, rfl⟩
    · exact ⟨nameB_inj h1.lt k1.lt (h2.symm.trans k2), rfl⟩
    · exact absurd h2 (k1 _ h1)
  · rcases h' with ⟨k1, k2, rfl⟩ | ⟨k1, rfl, rfl⟩
    · exact absurd k2 (h1 _ k1)
    · exact ⟨rfl, rfl⟩
end Go.Proofs.YtabfcciejhbajaaGreatDoor

namespace Go.Proofs.YtabfcciejhbajaaGreatDoor
open Go Go.RowKit

/-- the two error variables of strconv hold interface values -/
structure NumVars (w : World) : Prop where
  syn : ∃ v, w.cell? ⟨11, 0, none⟩ = some v ∧ (v = .nilIface ∨ ∃ te pe, v = .iface te pe)
  rng : ∃ v, w.cell? ⟨12, 0, none⟩ = some v ∧ (v = .nilIface ∨ ∃ te pe, v = .iface te pe)
theorem NumVars.fr {w w' : World} (h : NumVars w) (hf : Fr (fun _ => False) w w') : NumVars w' := by
  obtain ⟨v, h1, h2⟩ := h.syn
  obtain ⟨u, k1, k2⟩ := h.rng
  exact ⟨⟨v, (hf.cell (World.block_lt_of_cell? _ _ h1) (fun q => q)).trans h1, h2⟩, ⟨u, (hf.cell (World.block_lt_of_cell? _ _ k1) (fun q => q)).trans k1, k2⟩⟩
theorem compErr : (Tryz.prog.info? 104).map (·.comparable) = some true := by kernel_rfl
set_option maxRecDepth 100000 in
theorem to_error (w : World) (fn s : ByteArray) (hlim : s.size ≤ 281474976710656) (hN : NumVars w) (k : Int) (hk : k = 1 ∨ k = 2) :
    Calls Tryz.prog 35 #[.string fn, .string s, .int .i64 16, .int .i64 64, .iface 104 (.int .i64 k)] w fun e w' => ∃ N, e = .returned (.iface 106 (.pointer (some ⟨N, 0, none⟩))) ∧ Fr (fun _ => False) w w' := by
  have hq12 : ∀ W, (binOp .eql 32 (.iface 104 (.int .i64 1)) (.iface 104 (.int .i64 2))).run Tryz.prog W = .ok (.bool false) W := fun W => Lib.run_eql_iface_int W 1 2 Tryz.underlying32 compErr Tryz.underlying104
  have hq : ∀ (a : Int) W, (binOp .eql 32 (.iface 104 (.int .i64 a)) (.iface 104 (.int .i64 a))).run Tryz.prog W = .ok (.bool true) W := fun a W => by
    have := Lib.run_eql_iface_int W a a Tryz.underlying32 compErr Tryz.underlying104 (k := .i64)
    rw [show (a == a) = true from by simp] at this
    exact this
  rcases hk with rfl | rfl
  · obtain ⟨v, h1, h2⟩ := hN.rng
    have HC := Lib.hid (Tryz.strconv_rangeError fn s v w hlim h1 h2)
    clear h1 h2 hN
    go_enter Tryz.func35, Tryz.ntmps35
    go_wp2_with fail
    refine HC.out.mono ?_
    rintro e w2 ⟨N, rfl, h1, h2, h3⟩
    have HF := Lib.hid (fr_belowN h3)
    clear h1 h2 h3
    go_wp2_with fail
    go_ret
    exact ⟨N, rfl, HF.out⟩
  · obtain ⟨v, h1, h2⟩ := hN.syn
    have HC := Lib.hid (Tryz.strconv_syntaxError fn s v w hlim h1 h2)
    clear h1 h2 hN
    go_enter Tryz.func35, Tryz.ntmps35
    go_wp2_with fail
    refine HC.out.mono ?_
    rintro e w2 ⟨N, rfl, h1, h2, h3⟩
    have HF := Lib.hid (fr_belowN h3)
    clear h1 h2 h3
    go_wp2_with fail
    go_ret
    exact ⟨N, rfl, HF.out⟩
/-- what ParseUint answers -/
def Parsed (s : ByteArray) (x : Nat) (ev : Value) : Prop := (ev = .nilIface ∧ ∀ v, v < 18446744073709551616 → s.data.toList = hexB 16 v → x = v) ∨ ((∃ N, ev = .iface 106 (.pointer (some ⟨N, 0, none⟩))) ∧ ∀ v, v < 18446744073709551616 → s.data.toList ≠ hexB 16 v)
theorem parse16_lt : ∀ l acc n, acc < 18446744073709551616 → parse16 acc l = .ok n → n < 18446744073709551616 := by
  intro l
  induction l with
  | nil => intro acc n h e; simp only [parse16] at e; injection e with e; omega
  | cons c l ih =>
    intro acc n h e
    rw [parse16] at e
    cases hd : dig16 c.toNat with
    | none => rw [hd] at e; cases e
    | some d =>
      rw [hd] at e
      simp only at e
      split at e
      · cases e
      · rename_i hlt
        refine ih _ n ?_ e
        have h8 := c.toNat_lt
        have hv1 := bits_hi_u8 .or (c.toNat : Int) 32
        have : d ≤ 15 := by
          unfold dig16 at hd
          split at hd
          · injection hd with hd; omega
          · split at hd
            · injection hd with hd; omega
            · cases hd
        omega
set_option maxRecDepth 100000 in
theorem parse_pub (w : World) (s : ByteArray) (hlim : s.size ≤ 281474976710656) (hN : NumVars w) :
    Calls Tryz.prog 18 #[.string s, .int .i64 16, .int .i64 64] w fun e w' => ∃ (x : Nat) (ev : Value), e = .returned (.tuple #[.int .u64 x, ev]) ∧ x < 18446744073709551616 ∧ Parsed s x ev ∧ Fr (fun _ => False) w w' := by
  have hI : ∃ p : Pu16, (Calls Tryz.prog 34 #[.string s, .int .i64 16, .int .i64 64] w fun e w' => e = .returned (pu16V 104 p) ∧ Fr (fun _ => False) w w') ∧ ((∃ n, p = .ok n ∧ n < 18446744073709551616 ∧ ∀ v, v < 18446744073709551616 → s.data.toList = hexB 16 v → n = v) ∨ ((p = .syn ∨ p = .rng) ∧ ∀ v, v < 18446744073709551616 → s.data.toList ≠ hexB 16 v)) := by
    by_cases h0 : s.size = 0
    · refine ⟨.syn, ?_, .inr ⟨.inl rfl, fun v _ e => ?_⟩⟩
      · have hs : s = ⟨#[]⟩ := by
          apply ByteArray.ext
          exact Array.eq_empty_of_size_eq_zero h0
        subst hs
        refine (Tryz.internal_strconv_ParseUint_empty 16 64 w).mono ?_
        rintro e w' ⟨rfl, rfl⟩
        exact ⟨rfl, Fr.refl _ _⟩
      · have := congrArg List.length e
        rw [hexB_length, ← Lib.size_eq] at this
        omega
    · refine ⟨_, parse_in s h0 (by omega) w, ?_⟩
      have hv : ∀ v, v < 18446744073709551616 → s.data.toList = hexB 16 v → parse16 0 s.data.toList = .ok v := fun v h e => by rw [e]; exact parse_hex16 v h
      have hl : ∀ n, parse16 0 s.data.toList = .ok n → n < 18446744073709551616 := fun n h => parse16_lt _ 0 n (by omega) h
      generalize parse16 0 s.data.toList = p at *
      cases p with
      | ok n => exact .inl ⟨n, rfl, hl n rfl, fun v h e => by have := hv v h e; injection this⟩
      | syn => exact .inr ⟨.inl rfl, fun v h e => by cases hv v h e⟩
      | rng => exact .inr ⟨.inr rfl, fun v h e => by cases hv v h e⟩
  obtain ⟨p, hc, hp⟩ := hI
  have HC := Lib.hid hc
  have HN := Lib.hid hN
  clear hc hN
  rcases hp with ⟨n, rfl, hn, hv⟩ | ⟨hp, hv⟩
  · have HV := Lib.hid hv
    have HL := Lib.hid hn
    clear hv hn
    go_enter Tryz.func18, Tryz.ntmps18
    go_wp2_with fail
    refine HC.out.mono ?_
    rintro e w2 ⟨rfl, hf⟩
    have HF := Lib.hid hf
    clear hf HC
    rw [pu16V]
    go_wp2_with fail
    go_ret2
    exact ⟨n, .nilIface, rfl, HL.out, .inl ⟨rfl, HV.out⟩, HF.out⟩
  · obtain ⟨k, x, hk, hx, hpv⟩ : ∃ (k : Int) (x : Nat), (k = 1 ∨ k = 2) ∧ x < 18446744073709551616 ∧ pu16V 104 p = .tuple #[.int .u64 (x : Nat), .iface 104 (.int .i64 k)] := by
      rcases hp with rfl | rfl
      · exact ⟨2, 0, .inr rfl, by omega, rfl⟩
      · exact ⟨1, 18446744073709551615, .inl rfl, by omega, rfl⟩
    have HV := Lib.hid hv
    have HL := Lib.hid hx
    have HK := Lib.hid hk
    rw [hpv] at HC
    clear hv hx hk hp hpv
    go_enter Tryz.func18, Tryz.ntmps18
    go_wp2_with fail
    refine HC.out.mono ?_
    rintro e w2 ⟨rfl, hf⟩
    have HF := Lib.hid hf
    have HT := Lib.hid (to_error w2 ⟨#[80, 97, 114, 115, 101, 85, 105, 110, 116]⟩ s hlim (HN.out.fr hf) k HK.out)
    clear hf HC
    go_wp2_with fail
    refine HT.out.mono ?_
    rintro e w3 ⟨N, rfl, hf⟩
    have HF3 := Lib.hid hf
    clear hf HT
    go_wp2_with fail
    go_ret2
    exact ⟨x, _, rfl, HL.out, .inr ⟨⟨N, rfl⟩, HV.out⟩, Fr.trans HF.out HF3.out⟩
/-- what the prefix tells -/
theorem cut_name (name : ByteArray) : (Lib.hasPrefix name.data.toList [108, 111, 103, 46] = false ∧ ∀ v, name ≠ nameB v) ∨ (Lib.hasPrefix name.data.toList [108, 111, 103, 46] = true ∧ ∀ v, name = nameB v → Lib.trimPrefix name.data.toList [108, 111, 103, 46] = hexB 16 v) := by
  have h1 : ∀ v, name = nameB v → name.data.toList = [108, 111, 103, 46] ++ hexB 16 v := fun v e => by rw [e]; simp [nameB, nameL]
  cases hp : Lib.hasPrefix name.data.toList [108, 111, 103, 46] with
  | false =>
    refine .inl ⟨rfl, fun v e => ?_⟩
    rw [h1 v e] at hp
    unfold Lib.hasPrefix at hp
    rw [List.isPrefixOf_iff_prefix.2 (List.prefix_append _ _)] at hp
    cases hp
  | true =>
    refine .inr ⟨rfl, fun v e => ?_⟩
    unfold Lib.trimPrefix
    rw [if_pos hp, h1 v e]
    rfl
theorem bytes_ne {a b : ByteArray} (h : a ≠ b) : (a.toList == b.toList) = false := by
  rw [beq_eq_false_iff_ne, Lib.toList_data, Lib.toList_data]
  exact fun e => h (ByteArray.ext (Array.ext' e))
theorem goodB_true {x : Nat} (h : goodB x = true) : goodN x := by
  unfold goodB at h
  have := of_decide_eq_true h
  exact this
theorem goodB_false {x : Nat} (h : goodB x = false) : ¬ goodN x := by
  unfold goodB at h
  have := of_decide_eq_false h
  exact this
set_option maxRecDepth 100000 in
set_option maxHeartbeats 1000000 in
theorem seg_first (w : World) (K : Nat) (eb : Er → Addr) (S : Er → Bool) (E : Env w K eb S) (hN : NumVars w) (name : ByteArray) (hlim : name.size ≤ 281474976710656) :
    Calls Tryz.prog 5 #[.string name] w fun e w' => ∃ (x : Nat) (b : Bool), e = .returned (.tuple #[.int .u64 x, .bool b]) ∧ FirstIs name x b ∧ Fr (fun _ => False) w w' := by
  have HC := Lib.hid (Tryz.strings_CutPrefix name ⟨#[108, 111, 103, 46]⟩ w)
  have HE := Lib.hid E
  have hcn := cut_name name
  have htl := Lib.trimPrefix_le name.data.toList [108, 111, 103, 46]
  rw [show (⟨#[108, 111, 103, 46]⟩ : ByteArray).data.toList = [108, 111, 103, 46] from rfl] at HC
  generalize Lib.hasPrefix name.data.toList [108, 111, 103, 46] = ok at *
  generalize Lib.trimPrefix name.data.toList [108, 111, 103, 46] = rest at *
  obtain ⟨s, hs⟩ : ∃ s : ByteArray, s = ⟨rest.toArray⟩ := ⟨_, rfl⟩
  have hsl : s.data.toList = rest := by rw [hs]
  rw [← hs] at HC
  have hss : s.size ≤ 281474976710656 := by rw [Lib.size_eq, hsl]; rw [Lib.size_eq] at hlim; omega
  have HP := Lib.hid (parse_pub w s hss hN)
  clear hN E htl hs hss
  cases ok with
  | false =>
    have HX := Lib.hid (show ∀ v, name ≠ nameB v from by
      rcases hcn with ⟨_, h⟩ | ⟨h, _⟩
      · exact h
      · cases h)
    clear hcn hsl
    go_enter Tryz.func5, Tryz.ntmps5
    go_wp2_with fail
    refine HC.out.mono ?_
    rintro e w1 ⟨rfl, rfl⟩
    go_wp2_with fail
    refine HP.out.mono ?_
    rintro e w2 ⟨x, ev, rfl, hx, hpd, hf⟩
    have HF := Lib.hid hf
    have HPD := Lib.hid hpd
    clear hf hpd HP HC hx
    go_wp2_with fail
    go_ret2
    exact ⟨0, false, rfl, .inr ⟨fun v _ => HX.out v, rfl, rfl⟩, HF.out⟩
  | true =>
    have HX := Lib.hid (show ∀ v, name = nameB v → s.data.toList = hexB 16 v from fun v e => by
      rcases hcn with ⟨h, _⟩ | ⟨_, h⟩
      · cases h
      · rw [hsl]; exact h v e)
    clear hcn hsl
    go_enter Tryz.func5, Tryz.ntmps5
    go_wp2_with fail
    refine HC.out.mono ?_
    rintro e w1 ⟨rfl, rfl⟩
    go_wp2_with fail
    refine HP.out.mono ?_
    rintro e w2 ⟨x, ev, rfl, hx, hpd, hf⟩
    have HF := Lib.hid hf
    have HNM := Lib.hid (seg_name w2 K eb S (HE.out.fr hf (fun _ h => h.elim)) x hx)
    have HXL := Lib.hid hx
    clear hf HP HC hx HE
    rcases hpd with ⟨rfl, hv⟩ | ⟨⟨N, rfl⟩, hv⟩
    · have HV := Lib.hid hv
      clear hv
      by_cases hq : name = nameB x
      · subst hq
        cases hg : goodB x with
        | true =>
          have HG := Lib.hid (show goodN x from goodB_true hg)
          go_wp2_with fail
          refine HNM.out.mono ?_
          rintro e w3 ⟨rfl, hf⟩
          have HGC := Lib.hid (seg_good w3 x)
          rw [hg] at HGC
          have HF3 := Lib.hid hf
          clear hf HNM hg
          go_wp2_with fail
          refine HGC.out.mono ?_
          rintro e w4 ⟨rfl, rfl⟩
          go_wp2_with fail
          go_ret2
          exact ⟨x, true, rfl, .inl ⟨HG.out, rfl, rfl⟩, Fr.trans HF.out HF3.out⟩
        | false =>
          have HG := Lib.hid (show ¬ goodN x from goodB_false hg)
          go_wp2_with fail
          refine HNM.out.mono ?_
          rintro e w3 ⟨rfl, hf⟩
          have HGC := Lib.hid (seg_good w3 x)
          rw [hg] at HGC
          have HF3 := Lib.hid hf
          clear hf HNM hg
          go_wp2_with fail
          refine HGC.out.mono ?_
          rintro e w4 ⟨rfl, rfl⟩
          go_wp2_with fail
          go_ret2
          exact ⟨0, false, rfl, .inr ⟨fun v hv e => HG.out (by rw [nameB_inj HXL.out hv.lt e]; exact hv), rfl, rfl⟩, Fr.trans HF.out HF3.out⟩
      · have hq2 : ((nameB x).toList == name.toList) = false := bytes_ne (fun e => hq e.symm)
        have HQ := Lib.hid hq
        clear hq
        go_wp2_with fail
        refine HNM.out.mono ?_
        rintro e w3 ⟨rfl, hf⟩
        have HF3 := Lib.hid hf
        clear hf HNM
        go_wp2_with fail
        go_ret2
        exact ⟨0, false, rfl, .inr ⟨fun v hv e => HQ.out (by rw [HV.out v hv.lt (HX.out v e)]; exact e), rfl, rfl⟩, Fr.trans HF.out HF3.out⟩
    · have HV := Lib.hid hv
      clear hv
      go_wp2_with fail
      go_ret2
      exact ⟨0, false, rfl, .inr ⟨fun v hv e => HV.out v hv.lt (HX.out v e), rfl, rfl⟩, HF.out⟩
end Go.Proofs.YtabfcciejhbajaaGreatDoor

namespace Go.Proofs.YtabfcciejhbajaaGreatDoor
open Go Go.RowKit

theorem name_parts (x : Nat) : (⟨#[108, 111, 103, 46]⟩ : ByteArray) ++ ⟨(hexB 16 x).toArray⟩ = nameB x := by
  apply ByteArray.ext
  rw [ByteArray.data_append]
  apply Array.ext'
  simp [nameB, nameL]
set_option maxRecDepth 100000 in
theorem ref_name (w : World) (x : Nat) (hx : x < 18446744073709551616) :
    Calls Tryz.prog 8 #[.int .u64 x] w fun e w' => e = .returned (.string (nameB x)) ∧ Fr (fun _ => False) w w' := by
  have HD := Lib.hid (ref_digits w x hx)
  obtain ⟨s, hs⟩ : ∃ s : ByteArray, s = ⟨(hexB 16 x).toArray⟩ := ⟨_, rfl⟩
  have hss : s.size = 16 := by rw [hs]; show (hexB 16 x).toArray.size = _; simp [hexB_length]
  have HP := Lib.hid (name_parts x)
  rw [← hs] at HD HP
  clear hs hx
  go_enter Tryz.func8, Tryz.ntmps8
  go_wp2_with fail
  refine HD.out.mono ?_
  rintro e w1 ⟨rfl, hf⟩
  have HF := Lib.hid hf
  clear hf HD
  go_wp2_with fail
  go_ret
  exact ⟨retv (by show Value.string _ = _; rw [HP.out]), HF.out⟩
set_option maxRecDepth 100000 in
set_option maxHeartbeats 1000000 in
theorem ref_first (w : World) (name : ByteArray) :
    Calls Tryz.prog 6 #[.string name] w fun e w' => ∃ (x : Nat) (b : Bool), e = .returned (.tuple #[.int .u64 x, .bool b]) ∧ FirstIs name x b ∧ w' = w := by
  by_cases h20 : name.size = 20
  · have hraw := Lib.hasPrefix_raw name ⟨#[108, 111, 103, 46]⟩
    rw [show (⟨#[108, 111, 103, 46]⟩ : ByteArray).toList = [108, 111, 103, 46] from by rw [Lib.toList_data], show (⟨#[108, 111, 103, 46]⟩ : ByteArray).data.toList = [108, 111, 103, 46] from rfl, show (⟨#[108, 111, 103, 46]⟩ : ByteArray).size = 4 from rfl, decide_eq_true (by omega), Bool.true_and] at hraw
    have hcn := cut_name name
    rcases hcn with ⟨hp, hno⟩ | ⟨hp, hrest⟩
    · rw [hp] at hraw
      have HX := Lib.hid hno
      clear hno hp
      go_enter Tryz.func6, Tryz.ntmps6
      go_wp2_with fail
      go_ret2
      exact ⟨0, false, rfl, .inr ⟨fun v _ => HX.out v, rfl, rfl⟩, rfl⟩
    · have hex : (name.extract 4 20).data.toList = Lib.trimPrefix name.data.toList [108, 111, 103, 46] := by
        rw [Lib.extract_data, Lib.trimPrefix, if_pos hp]
        exact List.take_of_length_le (by rw [List.length_drop, ← Lib.size_eq]; simp; omega)
      have hback : ∀ x, name.extract 4 20 = ⟨(hexB 16 x).toArray⟩ → name = nameB x := fun x e => by
        have h1 : (name.extract 4 20).data.toList = hexB 16 x := by rw [e]
        rw [Lib.extract_data] at h1
        have h2 : name.data.toList.take 4 = [108, 111, 103, 46] := by
          rw [hp] at hraw
          have := beq_iff_eq.1 hraw
          rw [Lib.extract_toList] at this
          simpa using this
        rw [List.take_of_length_le (by rw [List.length_drop, ← Lib.size_eq]; omega)] at h1
        apply ByteArray.ext
        apply Array.ext'
        rw [← List.take_append_drop 4 name.data.toList, h1, h2]
        rfl
      have hfwd : ∀ v, name = nameB v → name.extract 4 20 = ⟨(hexB 16 v).toArray⟩ := fun v e => by
        have h1 := hrest v e
        rw [← hex] at h1
        rw [← Lib.mk_data (name.extract 4 20), h1]
      rw [hp] at hraw
      have HNUM := Lib.hid (ref_number w (name.extract 4 20))
      have HB := Lib.hid hback
      have HW := Lib.hid hfwd
      clear hback hfwd hex hrest hp
      go_enter Tryz.func6, Tryz.ntmps6
      go_wp2_with fail
      refine HNUM.out.mono ?_
      rintro e w1 (⟨x, hx, hs, rfl, rfl⟩ | ⟨hs, rfl, rfl⟩)
      · have HXL := Lib.hid hx
        have HN := Lib.hid (HB.out x hs)
        clear hs HNUM HW HB
        by_cases h1 : x < 1
        · have g1 : (x : Int) < 1 := by omega
          have HG := Lib.hid h1
          clear h1 hx
          go_wp2_with fail
          go_ret2
          exact ⟨0, false, rfl, .inr ⟨fun v hv e => by
            have := nameB_inj HXL.out hv.lt (HN.out.symm.trans e)
            have h2 := hv.1
            have h3 := HG.out
            omega, rfl, rfl⟩, rfl⟩
        · by_cases h2 : x ≤ 4611686018427387904
          · have g1 : ¬ (x : Int) < 1 := by omega
            have g2 : ¬ (4611686018427387904 : Int) < (x : Int) := by omega
            have HG := Lib.hid (show goodN x from ⟨by omega, h2⟩)
            clear h1 h2 hx
            go_wp2_with fail
            go_ret2
            exact ⟨x, true, rfl, .inl ⟨HG.out, HN.out, rfl⟩, rfl⟩
          · have g1 : ¬ (x : Int) < 1 := by omega
            have g2 : (4611686018427387904 : Int) < (x : Int) := by omega
            have HG := Lib.hid h2
            clear h1 h2 hx
            go_wp2_with fail
            go_ret2
            exact ⟨0, false, rfl, .inr ⟨fun v hv e => by
              have := nameB_inj HXL.out hv.lt (HN.out.symm.trans e)
              have h2 := hv.2
              have h3 := HG.out
              omega, rfl, rfl⟩, rfl⟩
      · have HS := Lib.hid hs
        clear hs HNUM HB
        go_wp2_with fail
        go_ret2
        exact ⟨0, false, rfl, .inr ⟨fun v _ e => HS.out v (HW.out v e), rfl, rfl⟩, rfl⟩
  · have HX := Lib.hid (show ∀ v, name ≠ nameB v from fun v e => h20 (by rw [e]; show (nameL v).toArray.size = 20; simp [nameL, hexB_length]))
    go_enter Tryz.func6, Tryz.ntmps6
    go_wp2_with fail
    go_ret2
    exact ⟨0, false, rfl, .inr ⟨fun v _ => HX.out v, rfl, rfl⟩, rfl⟩
end Go.Proofs.YtabfcciejhbajaaGreatDoor
