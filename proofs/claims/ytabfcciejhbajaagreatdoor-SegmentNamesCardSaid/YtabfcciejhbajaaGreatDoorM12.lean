/-
  block.Scan. Conditions: the bytes and the list of bad sectors can be read; the table and the error variables are there.
  append(b, make([]T, n)...): the law at the operation. Its first law (run_append_zeros) is the one that print.sh printed for this seat. Conditions: the row is owned.
  block.Encode. Conditions: the records can be read; the table and the error variables are there.
  block.Encode: records that are too long. Conditions: the records can be read.
  block.Encode: records that go into one block. Conditions: the records can be read; the table is there.
-/
import Derived.Test.YtabfcciejhbajaaGreatDoorM11
import Derived.Laws.AppendOwn
import Derived.Test.YtabfcciejhbajaaGreatDoorM05
import Derived.Lib.SlBytesConst
namespace Go.Proofs.YtabfcciejhbajaaGreatDoor
open Go Go.RowKit

/-- records pushed behind the others -/
theorem RecsNew.append {w w2 : World} {B : Nat} {v v2 : Value} {rs rs2 : List (List UInt8)} {vs vs2 : List Value} (h1 : vs.length = rs.length)
    (h3 : ∀ (j : Nat) u l, vs[j]? = some u → rs[j]? = some l → BytesAt w u l ∧ ∀ a n c, u = .slice (some a) n c → B ≤ a.block ∧ a.block < w.heap.size ∧ v.ownBlock ≠ some a.block)
    (k1 : vs2.length = rs2.length)
    (k3 : ∀ (j : Nat) u l, vs2[j]? = some u → rs2[j]? = some l → BytesAt w u l ∧ ∀ a n c, u = .slice (some a) n c → B ≤ a.block ∧ a.block < w.heap.size ∧ v.ownBlock ≠ some a.block)
    (hg : w.grownBy w2 v.ownBlock) (hown : w2.ownsRow B 38 1 v2 (rs.length + rs2.length) (vs ++ vs2)) (hat : v2.ownBlock = v.ownBlock ∨ v2.ownBlock = some w.heap.size) : RecsNew w2 B v2 (rs ++ rs2) := by
  have hf2 : Fr (fun b => v.ownBlock = some b) w w2 := (Fr.refl _ _).grown hg (fun k hk _ => hk)
  have hs2 := hf2.size
  refine ⟨vs ++ vs2, by simp [h1, k1], by simpa using hown, fun j u l hu hl => ?_⟩
  have key : ∀ (x : Value) (m : List UInt8), BytesAt w x m → (∀ a n c, x = .slice (some a) n c → B ≤ a.block ∧ a.block < w.heap.size ∧ v.ownBlock ≠ some a.block) →
      BytesAt w2 x m ∧ ∀ a n c, x = .slice (some a) n c → B ≤ a.block ∧ a.block < w2.heap.size ∧ v2.ownBlock ≠ some a.block := by
    intro x m hb ha
    refine ⟨hb.fr hf2 (fun a n c e q => (ha a n c e).2.2 q), fun a n c e => ⟨(ha a n c e).1, Nat.lt_of_lt_of_le (ha a n c e).2.1 hs2, fun q => ?_⟩⟩
    rcases hat with q' | q'
    · exact (ha a n c e).2.2 (q' ▸ q)
    · rw [q'] at q; injection q with q; have := (ha a n c e).2.1; omega
  rcases Nat.lt_or_ge j vs.length with hj | hj
  · rw [List.getElem?_append_left hj] at hu
    rw [List.getElem?_append_left (by omega)] at hl
    obtain ⟨hb, ha⟩ := h3 j u l hu hl
    exact key u l hb ha
  · rw [List.getElem?_append_right hj] at hu
    rw [List.getElem?_append_right (by omega), ← h1] at hl
    obtain ⟨hb, ha⟩ := k3 _ u l hu hl
    exact key u l hb ha
theorem textsOf_length {n : Nat} {l : List UInt8} {rs : List (List UInt8)} {r : List UInt8} (h : textsOf n l = some (rs, r)) : rs.length = n := by
  induction n generalizing l rs with
  | zero => simp [textsOf] at h; simp [h.1.symm]
  | succ n ih =>
    simp only [textsOf] at h
    split at h
    · cases h
    · split at h
      · cases h
      · split at h
        · cases h
        · rename_i rs' r' hq
          cases h
          simp [ih hq]
/-- what is known of a good block -/
theorem decodeB_good {b : List UInt8} {first : Nat} {rs : List (List UInt8)} (h : decodeB b = .inr (first, rs)) : numbersB first rs.length = true ∧ 1 ≤ rs.length ∧ rs.length < 65536 := by
  unfold decodeB at h
  split at h
  · cases h
  · split at h
    · cases h
    · split at h
      · cases h
      · rename_i hn
        split at h
        · cases h
        · rename_i rs' r' hq
          split at h
          · cases h
            have hl := textsOf_length hq
            rw [not_or] at hn
            refine ⟨by rw [hl]; simpa using hn.2, by rw [hl]; omega, ?_⟩
            rw [hl]
            exact Nat.lt_of_lt_of_le (leNat_lt _) (Nat.le_trans (Nat.pow_le_pow_right (by omega) (show _ ≤ 2 from by rw [List.length_take]; omega)) (by decide))
          · cases h
theorem textOf_room {l t l' : List UInt8} (h : textOf l = some (t, l')) : 2 + l'.length ≤ l.length := by
  unfold textOf at h
  split at h
  · cases h
  · split at h
    · cases h
    · cases h; simp only [List.length_drop]; omega
theorem textsOf_room {n : Nat} {l : List UInt8} {rs : List (List UInt8)} {r : List UInt8} (h : textsOf n l = some (rs, r)) : 2 * n + r.length ≤ l.length := by
  induction n generalizing l rs with
  | zero => simp [textsOf] at h; rw [h.2]; omega
  | succ n ih =>
    simp only [textsOf] at h
    split at h
    · cases h
    · rename_i t l' hq
      split at h
      · cases h
      · split at h
        · cases h
        · rename_i rs' r' hq2
          cases h
          have := ih hq2
          have := textOf_room hq
          omega
theorem decodeB_room {b : List UInt8} {first : Nat} {rs : List (List UInt8)} (h : decodeB b = .inr (first, rs)) (hb : b.length = 512) : rs.length ≤ 247 := by
  unfold decodeB at h
  split at h
  · cases h
  · split at h
    · cases h
    · split at h
      · cases h
      · split at h
        · cases h
        · rename_i rs' r' hq
          split at h
          · cases h
            have h1 := textsOf_length hq
            have h2 := textsOf_room hq
            rw [List.length_drop, hb] at h2
            omega
          · cases h
/-- the k-th block of bytes -/
def blkB (data : List UInt8) (k : Nat) : List UInt8 := (data.drop (k * 512)).take 512
/-- the records of the good blocks from the k-th on, at most m of them, and how many blocks are good -/
def scanN (data : List UInt8) (bad : List Int) : Nat → Nat → Nat → List (List UInt8) × Nat
  | 0, k, _ => ([], k)
  | m + 1, k, first => if bad.contains (k : Int) then ([], k) else match decodeB (blkB data k) with
    | .inl _ => ([], k)
    | .inr (at', rs) => if at' = first then (rs ++ (scanN data bad m (k + 1) (first + rs.length)).1, (scanN data bad m (k + 1) (first + rs.length)).2) else ([], k)
def scanB (data : List UInt8) (bad : List Int) (first : Nat) : List (List UInt8) × Nat := scanN data bad (data.length / 512) 0 first
theorem scanN_bad {data : List UInt8} {bad : List Int} {m k first : Nat} (h : bad.contains (k : Int) = true) : scanN data bad m k first = ([], k) := by
  cases m with
  | zero => rfl
  | succ m => simp only [scanN]; rw [if_pos h]
theorem scanN_err {data : List UInt8} {bad : List Int} {m k first : Nat} {x : Er} (h : decodeB (blkB data k) = .inl x) : scanN data bad m k first = ([], k) := by
  cases m with
  | zero => rfl
  | succ m => simp [scanN, h]
theorem scanN_other {data : List UInt8} {bad : List Int} {m k first at' : Nat} {rs : List (List UInt8)} (h : decodeB (blkB data k) = .inr (at', rs)) (hne : at' ≠ first) : scanN data bad m k first = ([], k) := by
  cases m with
  | zero => rfl
  | succ m => simp [scanN, h, hne]
theorem scanN_good {data : List UInt8} {bad : List Int} {m k first : Nat} {rs : List (List UInt8)} (hb : bad.contains (k : Int) = false) (h : decodeB (blkB data k) = .inr (first, rs)) :
    scanN data bad (m + 1) k first = (rs ++ (scanN data bad m (k + 1) (first + rs.length)).1, (scanN data bad m (k + 1) (first + rs.length)).2) := by
  simp only [scanN]; rw [if_neg (by rw [hb]; decide), h]; simp
theorem contains_int (w : World) (o : Option Addr) (c : Nat) (zs : List Int) (x : Int) (hv : SliceIs w 1 (.slice o zs.length c) zs.length (zs.map (Value.int .i64))) (ho : ∀ a, o = some a → a.spot = none) (hl : zs.length ≤ 9223372036854775807) :
    Calls Tryz.prog 62 #[.slice o zs.length c, .int .i64 x] w fun e w' => e = .returned (.bool (zs.contains x)) ∧ w' = w := by
  by_cases hz : zs = []
  · subst hz
    exact Tryz.slices_Contains_int_empty o c x w
  · rcases hv with ⟨_, q, _⟩ | ⟨a, c', q, _, _, hc⟩
    · exact absurd (List.eq_nil_of_length_eq_zero q) hz
    · injection q with q1 _ q3
      subst q1
      obtain ⟨b, off, sp⟩ := a
      have hsp : sp = none := ho _ rfl
      subst hsp
      have := Tryz.slices_Contains_int b off zs.length c zs x w (Nat.le_refl _) hl (fun j hj => by
        have h := hc j (.int .i64 (zs.getD j 0)) (by simp [List.getD, List.getElem?_eq_getElem hj])
        rwa [addr_add] at h)
      rwa [List.take_length] at this

set_option maxRecDepth 100000 in
set_option maxHeartbeats 2000000 in
theorem block_scan (w : World) (K : Nat) (eb : Er → Addr) (S : Er → Bool) (G : Glob w K eb S) (hT : Tab w K) (o o2 : Option Addr) (cap c2 : Nat) (data : List UInt8) (bad : List Int) (first : Nat) (hv : BytesAt w (.slice o data.length cap) data) (ho : ∀ a, o = some a → a.spot = none)
    (hb : SliceIs w 1 (.slice o2 bad.length c2) bad.length (bad.map (Value.int .i64))) (ho2 : ∀ a, o2 = some a → a.spot = none) (hf : first < 18446744073709551616) (hl : data.length ≤ 1099511627776) (hbl : bad.length ≤ 1099511627776) :
    Calls Tryz.prog 32 #[.slice o data.length cap, .slice o2 bad.length c2, .int .u64 first] w fun e w' => ∃ v, e = .returned (.tuple #[v, .int .i64 ((scanB data bad first).2 : Nat)]) ∧ RecsNew w' w.heap.size v (scanB data bad first).1 ∧ Fr (fun _ => False) w w' := by
  obtain ⟨i0, hi, hi0, hi1, hi2⟩ := info_parts infoSl
  have HG := Lib.hid G
  have HT := Lib.hid hT
  have HV := Lib.hid hv
  have HO := Lib.hid ho
  have HBA := Lib.hid hb
  have HO2 := Lib.hid ho2
  obtain ⟨D, hD⟩ : ∃ D, D = data.length / 512 := ⟨_, rfl⟩
  have hDl : D ≤ 2147483648 := by omega
  have HD := Lib.hid hD
  obtain ⟨SB, hSB⟩ : ∃ SB, SB = scanB data bad first := ⟨_, rfl⟩
  rw [← hSB]
  have HSB := Lib.hid (show SB = (([] : List (List UInt8)) ++ (scanN data bad (D - 0) 0 first).1, (scanN data bad (D - 0) 0 first).2) from by rw [hSB, hD]; rfl)
  clear G hT hv ho hb ho2 hD hSB
  go_enter Tryz.func32, Tryz.ntmps32
  go_wp2_with fail
  go_loopw [2, 8, 9] (fun v2 v8 v9 wr => ∃ (k f : Nat) (rs : List (List UInt8)), v9 = .int .i64 (k : Int) ∧ v2 = .int .u64 (f : Int) ∧ f < 18446744073709551616 ∧ k ≤ D ∧ RecsNew wr w.heap.size v8 rs ∧ Hid (SB = (rs ++ (scanN data bad (D - k) k f).1, (scanN data bad (D - k) k f).2)) ∧ rs.length ≤ 247 * k ∧ Fr (fun _ => False) w wr) (fun _ _ v9 _ => D - (intOf v9).toNat)
  case atStart => exact ⟨0, first, [], rfl, rfl, hf, Nat.zero_le _, RecsNew.nil _ _, HSB, Nat.zero_le _, Fr.refl _ _⟩
  case round =>
    obtain ⟨k, f, rs, rfl, rfl, hfl, hk, hrecs, hso, hrl, hF⟩ := hrel
    obtain ⟨vs, hvl, hvo, hve⟩ := hrecs
    obtain ⟨o8, c8, hv8⟩ := (ownsRow_slice hvo).form
    subst hv8
    have HVL := Lib.hid hvl
    have HVO := Lib.hid hvo
    have HVE := Lib.hid hve
    have HF := Lib.hid hF
    have HC := Lib.hid (contains_int wr o2 c2 bad (k : Int) (HBA.out.fr hF (fun _ _ _ _ h => h)) HO2.out (by omega))
    have w1 : IntKind.i64.wrap (((k : Int) + 1) * 512) = ((k : Int) + 1) * 512 := IntWalk.i64_in _ (by omega)
    have hend : ∀ r2, SB = (rs ++ ([], k).1, (([] : List (List UInt8)), k).2) → r2 = k → SB.1 = rs ∧ SB.2 = r2 := fun r2 q e => by rw [q, e]; simp
    clear hvl hvo hve hF
    by_cases hlt : ((k : Int) + 1) * 512 ≤ (data.length : Int)
    · cases hcon : bad.contains (k : Int) with
      | true =>
        rw [hcon] at HC
        have hs : SB.1 = rs ∧ SB.2 = k := by have := hso.out; rw [scanN_bad hcon] at this; rw [this]; simp
        have HS := Lib.hid hs
        clear hs hso hend
        go_wp2_with fail
        refine HC.out.mono ?_
        rintro e w9 ⟨rfl, rfl⟩
        go_wp2_with fail
        go_ret2
        refine ⟨_, by rw [HS.out.2]; rfl, ?_, HF.out⟩
        rw [HS.out.1]
        exact ⟨vs, HVL.out, HVO.out, HVE.out⟩
      | false =>
        rw [hcon] at HC
        obtain ⟨pp, hpp⟩ : ∃ pp : Nat, pp = k * 512 := ⟨_, rfl⟩
        obtain ⟨qq, hqq⟩ : ∃ qq : Nat, qq = (k + 1) * 512 := ⟨_, rfl⟩
        have w1' : IntKind.i64.wrap (((k : Int) + 1) * 512) = (qq : Int) := by rw [w1]; omega
        have w2' : IntKind.i64.wrap ((k : Int) * 512) = (pp : Int) := by rw [IntWalk.i64_in _ (by omega)]; omega
        have hlt' : (qq : Int) ≤ (data.length : Int) := by omega
        obtain ⟨g, off, hog, hNc⟩ : ∃ g off, o = some ⟨g, off, none⟩ ∧ data.length ≤ cap := by
          rcases HV.out with ⟨q, q', _⟩ | ⟨a, c', q, hnc, _, _⟩
          · omega
          · injection q with q1 _ q3
            obtain ⟨b, off, sp⟩ := a
            have hsp : sp = none := HO.out _ q1
            subst hsp
            exact ⟨b, off, q1, by omega⟩
        subst hog
        have hpc : ¬ cap = pp := by omega
        have hpc2 : (pp : Int) ≤ cap := by omega
        have hqc : (qq : Int) ≤ cap := by omega
        have hpq : (pp : Int) ≤ qq := by omega
        have hqp : qq - pp = 512 := by omega
        have hblk : (blkB data k).length = 512 := by unfold blkB; rw [List.length_take, List.length_drop]; omega
        have HDE := Lib.hid (block_decode wr K eb S (HG.out.fr HF.out (fun _ h => h.elim)) (HT.out.fr HF.out (fun _ h => h.elim)) g (off + pp) (cap - pp) (by omega) (blkB data k) (by
          have := sub_bytes (HV.out.fr HF.out (fun _ _ _ _ h => h)) rfl pp 512 (by omega) (cap - pp) (by omega)
          rw [hpp] at this ⊢; exact this) hblk)
        rw [← hqp] at HDE
        have HP := Lib.hid (show qq = pp + 512 ∧ pp = k * 512 from ⟨by omega, hpp⟩)
        have HBK := Lib.hid hblk
        have HCON := Lib.hid hcon
        have hD1 : k < D := by have := HD.out; omega
        clear w1 hlt hcon hpp hqq hqp hblk hend
        go_wp2_with fail
        refine HC.out.mono ?_
        rintro e w9 ⟨rfl, rfl⟩
        go_wp2_with fail
        refine HDE.out.mono ?_
        rintro e w5 ⟨hf5, hcase⟩
        have HF5 := Lib.hid hf5
        have e2 := neq_er
        have e3 := neq_nilE
        have HRN := Lib.hid (RecsNew.fr (show RecsNew w9 w.heap.size (.slice o8 rs.length c8) rs from ⟨vs, HVL.out, HVO.out, HVE.out⟩) hf5 (fun _ _ _ h => h))
        have HOB := Lib.hid (fun q (hq : (Value.slice o8 rs.length c8).ownBlock = some q) => (HVO.out.lt q hq).2)
        clear hf5 HDE HC HVL HVO HVE
        rcases hcase with ⟨x, hdx, rfl⟩ | ⟨f', rs', v', hdx, rfl, hrn⟩
        · have hs : SB.1 = rs ∧ SB.2 = k := by have := hso.out; rw [scanN_err hdx] at this; rw [this]; simp
          have HS := Lib.hid hs
          rw [show erV eb (some x) = .iface 169 (.pointer (some (eb x))) from rfl]
          clear hs hso hdx
          go_wp2_with fail
          go_ret2
          exact ⟨_, by rw [HS.out.2]; rfl, by rw [HS.out.1]; exact HRN.out, Fr.trans HF.out HF5.out⟩
        · obtain ⟨hnum, hr1, hr2⟩ := decodeB_good hdx
          have hr247 := decodeB_room hdx HBK.out
          obtain ⟨vs9, hvl9, hvo9, hve9⟩ := hrn
          obtain ⟨g9, c9, hv9, hg9, hc9⟩ : ∃ g9 c9, v' = .slice (some ⟨g9, 0, none⟩) rs'.length c9 ∧ w9.heap.size ≤ g9 ∧ g9 < w5.heap.size := by
            rcases hvo9.2 with ⟨_, q⟩ | ⟨g9, c9, cur, q, q1, q2, _⟩
            · omega
            · exact ⟨g9, c9, q, q1, (Array.getElem?_eq_some_iff.1 q2).1⟩
          subst hv9
          have hnumf : f' + rs'.length ≤ 4611686018427387905 := by
            unfold numbersB at hnum
            have := of_decide_eq_true hnum
            omega
          have HVO9 := Lib.hid hvo9
          have HVE9 := Lib.hid hve9
          have HVL9 := Lib.hid hvl9
          have hone : ∀ u ∈ vs9, u.oneCell' = true := by
            intro u hu
            obtain ⟨j, hj, rfl⟩ := List.getElem_of_mem hu
            obtain ⟨q, _⟩ := hve9 j _ (rs'[j]'(by omega)) (List.getElem?_eq_getElem hj) (List.getElem?_eq_getElem (by omega))
            obtain ⟨oo, cc, hh⟩ := q.form
            rw [hh]; rfl
          have HONE := Lib.hid hone
          clear hvo9 hve9 hvl9 hone hnum
          by_cases hff : f' = f
          · subst hff
            have hqf : ((f' : Int) != (f' : Int)) = false := by simp
            have hqf2 : ((f' : Int) == (f' : Int)) = true := by simp
            have w3 : IntKind.u64.wrap (rs'.length : Int) = rs'.length := by rw [IntKind.wrap_u64]; omega
            have w4 : IntKind.u64.wrap ((f' : Int) + (rs'.length : Int)) = ((f' + rs'.length : Nat) : Int) := by rw [IntKind.wrap_u64]; omega
            have hs : SB = ((rs ++ rs') ++ (scanN data bad (D - (k + 1)) (k + 1) (f' + rs'.length)).1, (scanN data bad (D - (k + 1)) (k + 1) (f' + rs'.length)).2) := by
              have := hso.out
              rw [show D - k = (D - (k + 1)) + 1 from by omega, scanN_good HCON.out hdx] at this
              rw [this, List.append_assoc]
            have HS := Lib.hid hs
            obtain ⟨vs8, hvl8, hvo8, hve8⟩ := HRN.out
            have HVL8 := Lib.hid hvl8
            have HVO8 := Lib.hid hvo8
            have HVE8 := Lib.hid hve8
            have hwz : w.heap.size ≤ w9.heap.size := HF.out.size
            have hwz5 : w9.heap.size ≤ w5.heap.size := HF5.out.size
            have hrsl : rs.length ≤ 530428461056 := by omega
            clear hs hso hdx hvl8 hvo8 hve8 HRN
            go_wp2_with (at_builtin; refine wpList_append_own_at _ rfl (.tmp 44) (.tmp 45) 40 rfl w.heap.size 38 i0 _ 1 24 Tryz.underlying40 hi hi0 hi1 hi2 rfl (by decide) (.slice o8 rs.length c8) rs.length _ rfl HVO8.out ⟨g9, 0, none⟩ rs'.length c9 vs9 rfl (by rw [HVL9.out, Nat.mul_one]) (HVO9.out.cells rfl) HONE.out (by unfold maxLen; omega) (by omega) (by omega) ?_; intro v10' w10 hown10 hgrow10 hnil10 hat10; have HO10 := Lib.hid hown10; have HG10 := Lib.hid hgrow10; have HA10 := Lib.hid hat10; clear hown10 hgrow10 hnil10 hat10)
            have hFr : Fr (fun _ => False) w w10 := Fr.trans' (Fr.trans HF.out HF5.out) ((Fr.refl (fun i => (Value.slice o8 rs.length c8).ownBlock = some i) w5).grown HG10.out (fun i hi _ => hi)) (fun i hi e => by have := (HVO8.out.lt i e).1; omega)
            refine ⟨⟨k + 1, f' + rs'.length, rs ++ rs', by go_num, by simp, by omega, by omega, ?_, HS, by rw [List.length_append]; omega, hFr⟩, by simp [intOf]; omega⟩
            refine RecsNew.append (w := w5) HVL8.out HVE8.out HVL9.out (fun j u l hu hl => ?_) HG10.out HO10.out HA10.out
            obtain ⟨q1, q2⟩ := HVE9.out j u l hu hl
            refine ⟨q1, fun a n c e => ⟨by have := (q2 a n c e).1; omega, (q2 a n c e).2.1, fun q => ?_⟩⟩
            have h1 := HOB.out _ q
            have h2 := (q2 a n c e).1
            omega
          · have hs : SB.1 = rs ∧ SB.2 = k := by have := hso.out; rw [scanN_other hdx hff] at this; rw [this]; simp
            have HS := Lib.hid hs
            have hqf : ((f' : Int) != (f : Int)) = true := by simp; omega
            have hqf2 : ((f' : Int) == (f : Int)) = false := by rw [beq_eq_false_iff_ne]; omega
            clear hs hso hdx
            go_wp2_with fail
            go_ret2
            exact ⟨_, by rw [HS.out.2]; rfl, by rw [HS.out.1]; exact HRN.out, Fr.trans HF.out HF5.out⟩
    · have hkD : k = D := by have := HD.out; omega
      have hs : SB.1 = rs ∧ SB.2 = k := by have := hso.out; rw [hkD, Nat.sub_self] at this; rw [this]; simp [scanN, hkD]
      have HS := Lib.hid hs
      clear hs hso hend hkD
      go_wp2_with fail
      go_ret2
      refine ⟨_, by rw [HS.out.2]; rfl, ?_, HF.out⟩
      rw [HS.out.1]
      exact ⟨vs, HVL.out, HVO.out, HVE.out⟩
end Go.Proofs.YtabfcciejhbajaaGreatDoor

namespace Go.Proofs.YtabfcciejhbajaaGreatDoor
open Go Go.RowKit
theorem add_plain (g j : Nat) : (⟨g, 0, none⟩ : Addr).add j = ⟨g, j, none⟩ := by unfold Addr.add; split <;> simp_all
theorem setCells_far {g : Nat} : ∀ (vs : List Value) (o : Nat) {w : World} (k : Nat), k ≠ g → (w.setCells g o vs).heap[k]? = w.heap[k]?
  | [], _, _, _, _ => rfl
  | v :: r, o, w, k, hk => by
    rw [World.setCells, setCells_far r (o + 1) k hk]
    exact Below.heap_setCell w ⟨g, o, none⟩ v k hk
theorem setCells_same (g : Nat) : ∀ (vs : List Value) (o : Nat) (w : World), (w.setCells g o vs).os = w.os ∧ (w.setCells g o vs).tape = w.tape ∧ (w.setCells g o vs).output = w.output ∧ (w.setCells g o vs).heap.size = w.heap.size
  | [], _, _ => ⟨rfl, rfl, rfl, rfl⟩
  | v :: r, o, w => by
    obtain ⟨h1, h2, h3, h4⟩ := setCells_same g r (o + 1) (w.setCell ⟨g, o, none⟩ v)
    rw [World.setCells]
    exact ⟨h1, h2, h3, by rw [h4]; simp [World.setCell]⟩
theorem setCells_row {g : Nat} {e : TypeId} : ∀ (vs : List Value) (o : Nat) (w : World) (cur : Array Value), w.heap[g]? = some (.cells cur e (0, 0)) → o + vs.length ≤ cur.size →
    ∃ cur', (w.setCells g o vs).heap[g]? = some (.cells cur' e (0, 0)) ∧ cur'.size = cur.size ∧ cur'.toList = cur.toList.take o ++ vs ++ cur.toList.drop (o + vs.length)
  | [], o, w, cur, h, _ => ⟨cur, h, rfl, by simp⟩
  | v :: r, o, w, cur, h, hl => by
    have h2 := heap_setCell_at h o v
    simp only [List.length_cons] at hl
    obtain ⟨cur', h3, h4, h5⟩ := setCells_row r (o + 1) (w.setCell ⟨g, o, none⟩ v) _ h2 (by simp; omega)
    refine ⟨cur', h3, by rw [h4]; simp, ?_⟩
    rw [h5, Array.toList_setIfInBounds]
    have ho : o < cur.toList.length := by rw [Array.length_toList]; omega
    rw [List.take_set, List.drop_set_of_lt (by omega)]
    simp only [List.length_cons]
    rw [show o + 1 + r.length = o + (r.length + 1) by omega]
    congr 1
    rw [List.take_succ_eq_append_getElem ho, List.set_append_right _ _ (by rw [List.length_take]; omega)]
    have ho' : o < cur.size := by omega
    simp [Nat.min_eq_left (Nat.le_of_lt ho')]
section
variable {P : Program}
theorem run_append_zeros (w : World) (base : Nat) (t ti ty e : TypeId) (i : TypeInfo) (z : Value) (size bytes : Nat) (ht : P.underlying t = some (.slice e)) {k : IntKind} (hti : P.underlying ti = some (.int k)) (hi : P.info? e = some i) (hz : i.zero = some z)
    (hsize : i.size = size) (hby : i.bytes = bytes) (hzs : z.cells.size = size) (hsz : 0 < size) (hb0 : 0 < bytes)
    (v : Value) (n : Nat) (xs : List Value) (hown : w.ownsRow base e size v n xs) (kx : IntKind) (m : Nat) (h1 : ∀ u ∈ (Builtin.zeroCells z.cells m).toList, u.oneCell' = true)
    (hbytes : (n + m) * bytes ≤ 140737488355328) (hbase : base ≤ w.heap.size) :
    ∃ v' w', (Builtin.append_ #[t, ti] ty #[v, .int kx m]).run P w = .ok v' w' ∧ w'.ownsRow base e size v' (n + m) (xs ++ (Builtin.zeroCells z.cells m).toList) ∧ w.grownBy w' v.ownBlock ∧
      (v'.ownBlock = v.ownBlock ∨ v'.ownBlock = some w.heap.size) := by
  subst hsize
  subst hby
  have hle : n + m ≤ 140737488355328 := Nat.le_trans (Nat.le_mul_of_pos_right _ hb0) hbytes
  have h63 : n + m ≤ maxLen := by simp only [maxLen]; omega
  have hw : IntKind.i64.wrap (m : Int) = m := by rw [IntKind.wrap_i64]; omega
  have hw0 : IntKind.i64.wrap 0 = 0 := by rw [IntKind.wrap_i64]; rfl
  have hneg : ¬ ((m : Int) < 0) := by omega
  have hmb : m * i.bytes ≤ 140737488355328 := Nat.le_trans (Nat.mul_le_mul_right _ (Nat.le_add_left m n)) hbytes
  have hbig : ¬ (281474976710656 < (m : Int) * (i.bytes : Int)) := by
    rw [← Int.natCast_mul]
    omega
  have hsn : i.size ≠ 0 := by omega
  obtain ⟨news, hnews⟩ : ∃ news, news = (Builtin.zeroCells z.cells m).toList := ⟨_, rfl⟩
  rw [← hnews] at h1 ⊢
  have hl : news.length = m * i.size := by rw [hnews, Array.length_toList, size_zeroCells, hzs]
  have hna : Builtin.zeroCells z.cells m = news.toArray := by rw [hnews]
  have hlen : (xs ++ news).length = (n + m) * i.size := by rw [List.length_append, hown.1, hl, Nat.add_mul]
  have hnil : m = 0 → news = [] := fun h => List.eq_nil_of_length_eq_zero (by rw [hl, h, Nat.zero_mul])
  have grown : ∀ (old : Nat), old < n + m → ∀ (row : Option Nat),
      (w.drew.alloc (.cells (xs.toArray ++ news.toArray ++ Builtin.zeroCells z.cells (grownCap w (n + m) old e - (n + m))) e)).ownsRow base e i.size
        (.slice (some ⟨w.heap.size, 0, none⟩) (n + m) (grownCap w (n + m) old e)) (n + m) (xs ++ news) ∧
      w.grownBy (w.drew.alloc (.cells (xs.toArray ++ news.toArray ++ Builtin.zeroCells z.cells (grownCap w (n + m) old e - (n + m))) e)) row := by
    intro old ho row
    have hge := grownCap_ge w (n + m) old e
    have hcm : grownCap w (n + m) old e ≤ maxLen := grownCap_le_maxLen w (n + m) old e h63
    refine ⟨⟨hlen, .inr ⟨w.heap.size, _, _, rfl, hbase, heap_alloc_new w.drew _, hge, hcm, ?_, ?_⟩⟩, ⟨rfl, rfl, rfl, by simp, fun k hk _ => heap_alloc_old w.drew _ hk⟩⟩
    · simp only [Array.size_append, List.size_toArray, size_zeroCells, hzs, hown.1, hl, ← Nat.add_mul]
      congr 1
      omega
    · simp only [Array.toList_append, List.append_assoc]
      rw [← List.append_assoc, ← hlen]
      exact List.take_left
  have runs : ∀ (A : Option Addr) (cap : Nat), cap < n + m → (Builtin.firstCells i.size n (.slice A n cap)).run P w.drew = .ok xs.toArray w.drew → (Builtin.append_ #[t, ti] ty #[.slice A n cap, .int kx m]).run P w =
      .ok (.slice (some ⟨w.heap.size, 0, none⟩) (n + m) (grownCap w (n + m) cap e)) (w.drew.alloc (.cells (xs.toArray ++ news.toArray ++ Builtin.zeroCells z.cells (grownCap w (n + m) cap e - (n + m))) e)) := by
    intro A cap hcap hfo
    have hn : ¬ (n + m ≤ cap) := by omega
    have h63' : ¬ (9223372036854775807 < ((n : Int) + (m : Int))) := by omega
    have hfit := growslice_fits hcap hbytes
    have h48' : ¬ (281474976710656 < Builtin.nextslicecap (n + m) cap * i.bytes) := by omega
    by_cases hm : m = 0
    · have hnl := hnil hm
      subst hm
      rw [hnl]
      simp only [Nat.add_zero] at hn h63' h48' ⊢
      have h63'' : ¬ (9223372036854775807 < (n : Int)) := by omega
      simp [Builtin.append_, run_underlying ht, run_underlying hti, sizeOf, typeInfo, zeroValue, hi, hz, asInt, asIntOf, hw0, hn, h63'', h48', Question.forced, hfo, newRow, grownCap]
    · have hmz : ¬ (m * i.size = 0) := Nat.mul_ne_zero hm hsn
      simp [Builtin.append_, run_underlying ht, run_underlying hti, sizeOf, typeInfo, zeroValue, hi, hz, asInt, asIntOf, hw, hneg, hbig, hn, h63', h48', Question.forced, hfo, newRow, grownCap, hmz, hna]
      congr 2
      apply Array.ext'
      simp [List.append_assoc]
  rcases hown.2 with ⟨rfl, rfl⟩ | ⟨g, cap, cur, rfl, hbg, hg, hnc, hcm, hcs, htake⟩
  · have hx : xs = [] := List.eq_nil_of_length_eq_zero (by simpa using hown.1)
    subst hx
    by_cases hm : m = 0
    · have hnl := hnil hm
      subst hm
      rw [hnl]
      refine ⟨.slice none 0 0, w, ?_, World.ownsRow_nil w base e i.size, ⟨rfl, rfl, rfl, Nat.le_refl _, fun _ _ _ => rfl⟩, Or.inl rfl⟩
      simp [Builtin.append_, run_underlying ht, run_underlying hti, sizeOf, typeInfo, hi, asInt, asIntOf, hw0]
    · have hgr := grown 0 (by omega) (Value.ownBlock (.slice none 0 0))
      exact ⟨_, _, runs none 0 (by omega) (by simp [Builtin.firstCells]), hgr.1, hgr.2, Or.inr rfl⟩
  · by_cases hroom : n + m ≤ cap
    · have hfit : n * i.size + news.length ≤ cur.size := by rw [hl, hcs, ← Nat.add_mul]; exact Nat.mul_le_mul_right _ hroom
      obtain ⟨cur', h3, h4, h5⟩ := setCells_row news (n * i.size) w cur hg hfit
      obtain ⟨s1, s2, s3, s4⟩ := setCells_same g news (n * i.size) w
      have hst := run_storeCells_cells (P := P) g (n * i.size) news 0 w (fun j hj => by rw [cell_of_row w g _ cur e (0, 0) hg]; simp; omega) (fun j _ => free_at hg _) h1
      simp only [Nat.add_zero] at hst
      refine ⟨.slice (some ⟨g, 0, none⟩) (n + m) cap, w.setCells g (n * i.size) news, ?_, ⟨hlen, .inr ⟨g, cap, cur', rfl, hbg, h3, hroom, hcm, by rw [h4, hcs], ?_⟩⟩, ⟨s1, s2, s3, by rw [s4]; exact Nat.le_refl _, fun k _ hk => setCells_far news _ k (fun e => hk (by simp [Value.ownBlock, e]))⟩, Or.inl rfl⟩
      · by_cases hm : m = 0
        · have hnl := hnil hm
          subst hm
          rw [hnl] at hst ⊢
          simp [Builtin.append_, run_underlying ht, run_underlying hti, sizeOf, typeInfo, hi, asInt, asIntOf, hw0, hnc, add_plain, hst]
        · have hmz : ¬ (m * i.size = 0) := Nat.mul_ne_zero hm hsn
          simp [Builtin.append_, run_underlying ht, run_underlying hti, sizeOf, typeInfo, zeroValue, hi, hz, asInt, asIntOf, hw, hneg, hbig, hroom, hmz, hna, add_plain, hst]
      · rw [h5]
        have h6 : cur.toList.take (n * i.size) = xs := htake
        rw [h6, ← hlen]
        exact List.take_left
    · have holds : ∀ j u, xs[j]? = some u → w.cell? ((⟨g, 0, none⟩ : Addr).add j) = some u := hown.cells (g := g) rfl
      have hgr := grown cap (by omega) (Value.ownBlock (.slice (some ⟨g, 0, none⟩) n cap))
      exact ⟨_, _, runs (some ⟨g, 0, none⟩) cap (by omega) (run_firstCells_some (P := P) w.drew i.size n _ n cap xs hown.1 (by simpa using holds)), hgr.1, hgr.2, Or.inr rfl⟩
end
theorem wpl_append_zeros {P : Program} {w : World} {ops : Array Oper} {rest : List Oper} {o : Oper} {a : Act} {Q : Exit → Act → World → Prop} (hg : o.guard = none) (s x : Operand) (t ti : TypeId)
    (ho : o.op = .call { callee := .builtin .append, args := #[s, x], argTypes := #[t, ti] }) (base : Nat) (e : TypeId) (i : TypeInfo) (z : Value) (size bytes : Nat) (ht : P.underlying t = some (.slice e)) {k : IntKind} (hti : P.underlying ti = some (.int k)) (hi : P.info? e = some i) (hz : i.zero = some z)
    (hsize : i.size = size) (hby : i.bytes = bytes) (hzs : z.cells.size = size) (hsz : 0 < size) (hb0 : 0 < bytes)
    (v : Value) (n : Nat) (xs : List Value) (hs : a.eval s = v) (hown : w.ownsRow base e size v n xs) (kx : IntKind) (m : Nat) (hx : a.eval x = .int kx m) (h1 : ∀ u ∈ (Builtin.zeroCells z.cells m).toList, u.oneCell' = true)
    (hbytes : (n + m) * bytes ≤ 140737488355328) (hbase : base ≤ w.heap.size)
    (h : ∀ v' w', w'.ownsRow base e size v' (n + m) (xs ++ (Builtin.zeroCells z.cells m).toList) → w.grownBy w' v.ownBlock → (v'.ownBlock = v.ownBlock ∨ v'.ownBlock = some w.heap.size) → wpList P ops Q rest (a.put o.dst v') w') :
    wpList P ops Q (o :: rest) a w := by
  refine wpList_plain hg fun K hK => ?_
  obtain ⟨v', w', hr, h2, h3, h4⟩ := run_append_zeros (P := P) w base t ti o.type e i z size bytes ht hti hi hz hsize hby hzs hsz hb0 v n xs hown kx m h1 hbytes hbase
  unfold Oper.wp execOp
  simp only [ho, resolve, invoke, builtin, Sem.run_bind, Sem.run_pure, Result.andThen_ok, List.map_toArray, List.map_cons, List.map_nil, hs, hx, hr]
  exact hK _ _ (h v' w' h2 h3 h4)
end Go.Proofs.YtabfcciejhbajaaGreatDoor

namespace Go.Proofs.YtabfcciejhbajaaGreatDoor
open Go Go.RowKit

/-- a slice of byte slices that can be read -/
def RecsIn (w : World) (v : Value) (rs : List (List UInt8)) : Prop :=
  ∃ vs : List Value, vs.length = rs.length ∧ SliceIs w 1 v rs.length vs ∧ ∀ (j : Nat) u l, vs[j]? = some u → rs[j]? = some l → BytesAt w u l
theorem RecsNew.seen {w : World} {B : Nat} {v : Value} {rs : List (List UInt8)} (h : RecsNew w B v rs) : RecsIn w v rs := by
  obtain ⟨vs, h1, h2, h3⟩ := h
  exact ⟨vs, h1, ownsRow_slice h2, fun j u l hu hl => (h3 j u l hu hl).1⟩
/-- how much room records take -/
def roomB : List (List UInt8) → Nat
  | [] => 0
  | r :: rs => 2 + r.length + roomB rs
def bodyB : List (List UInt8) → List UInt8
  | [] => []
  | r :: rs => leB 2 r.length ++ r ++ bodyB rs
theorem bodyB_length (rs : List (List UInt8)) : (bodyB rs).length = roomB rs := by
  induction rs with
  | nil => rfl
  | cons r rs ih => simp [bodyB, roomB, ih, leB_length]; omega
theorem roomB_append (a b : List (List UInt8)) : roomB (a ++ b) = roomB a + roomB b := by
  induction a with
  | nil => simp [roomB]
  | cons r a ih => simp [roomB, ih]; omega
theorem bodyB_append (a b : List (List UInt8)) : bodyB (a ++ b) = bodyB a ++ bodyB b := by
  induction a with
  | nil => simp [bodyB]
  | cons r a ih => simp [bodyB, ih]
/-- a block with zeros in the place of its sum -/
def rawB (first : Nat) (rs : List (List UInt8)) : List UInt8 := magicB ++ leB 8 first ++ leB 2 rs.length ++ leB 4 0 ++ bodyB rs ++ List.replicate (512 - (18 + roomB rs)) 0
/-- a block -/
def encodeB (first : Nat) (rs : List (List UInt8)) : List UInt8 := (rawB first rs).take 14 ++ leB 4 (sumB (rawB first rs)) ++ (rawB first rs).drop 18
/-- why records don't go into one block -/
def encodeE (first : Nat) (rs : List (List UInt8)) : Option Er :=
  if rs = [] ∨ numbersB first rs.length = false then some .arg else if rs.any (fun r => 200 < r.length) ∨ 494 < roomB rs then some .long else none
theorem rawB_length (first : Nat) (rs : List (List UInt8)) (h : roomB rs ≤ 494) : (rawB first rs).length = 512 := by
  simp [rawB, leB_length, bodyB_length, magicB]; omega
theorem encodeB_length (first : Nat) (rs : List (List UInt8)) (h : roomB rs ≤ 494) : (encodeB first rs).length = 512 := by
  have := rawB_length first rs h
  simp [encodeB, leB_length, this]

set_option maxRecDepth 100000 in
set_option maxHeartbeats 1000000 in
theorem encode_arg (w : World) (K : Nat) (eb : Er → Addr) (S : Er → Bool) (G : Glob w K eb S) (first : Nat) (hf : first < 18446744073709551616) (o : Option Addr) (n cap : Nat) (hn : n ≤ 1099511627776) (h : n = 0 ∨ numbersB first n = false) :
    Calls Tryz.prog 52 #[.int .u64 first, .slice o n cap] w fun e w' => e = .returned (.tuple #[.slice none 0 0, erV eb (some .arg)]) ∧ Fr (fun _ => False) w w' := by
  have v4 : w.cell? ⟨2, 0, none⟩ = some (.iface 169 (.pointer (some (eb .arg)))) := G.var .arg rfl
  clear G
  by_cases h0 : n = 0
  · have hn0 : ((n : Int) == 0) = true := by rw [h0]; rfl
    clear h0 h
    go_enter Tryz.func52, Tryz.ntmps52
    go_wp2_with fail
    go_quiet (fail)
    go_wp2_with fail
    go_ret2
    exact ⟨rfl, (Fr.refl _ _).drewN _⟩
  · have hnum : numbersB first n = false := by rcases h with h | h; exact absurd h h0; exact h
    have hn0 : ((n : Int) == 0) = false := by rw [beq_eq_false_iff_ne]; omega
    have HNU := Lib.hid (block_numbers w first n hf (by omega) (by omega))
    rw [hnum] at HNU
    clear h0 h hnum
    go_enter Tryz.func52, Tryz.ntmps52
    go_wp2_with fail
    refine HNU.out.mono ?_
    rintro e w1 ⟨rfl, rfl⟩
    go_wp2_with fail
    go_quiet (fail)
    go_wp2_with fail
    go_ret2
    exact ⟨rfl, (Fr.refl _ _).drewN _⟩
end Go.Proofs.YtabfcciejhbajaaGreatDoor

namespace Go.Proofs.YtabfcciejhbajaaGreatDoor
open Go Go.RowKit

theorem roomB_take (rs : List (List UInt8)) (k : Nat) (h : k < rs.length) : roomB (rs.take (k + 1)) = roomB (rs.take k) + (2 + rs[k].length) := by
  rw [List.take_add_one, List.getElem?_eq_getElem h, roomB_append]; simp [roomB]
theorem recs_at {w : World} {o : Option Addr} {cap : Nat} {rs : List (List UInt8)} (h : RecsIn w (.slice o rs.length cap) rs) (k : Nat) (hk : k < rs.length) : ∃ a o1 c1, o = some a ∧ w.cell? (a.add k) = some (.slice o1 rs[k].length c1) ∧ BytesAt w (.slice o1 rs[k].length c1) rs[k] := by
  obtain ⟨vs, h1, h2, h3⟩ := h
  have hb := h3 k _ _ (List.getElem?_eq_getElem (show k < vs.length by omega)) (List.getElem?_eq_getElem hk)
  obtain ⟨o1, c1, hv⟩ := hb.form
  rcases h2 with ⟨_, q, _⟩ | ⟨a, c', q, _, _, hc⟩
  · omega
  · injection q with q1 _ _
    have := hc k _ (List.getElem?_eq_getElem (show k < vs.length by omega))
    rw [hv] at this hb
    exact ⟨a, o1, c1, q1, this, hb⟩

set_option maxRecDepth 100000 in
set_option maxHeartbeats 1000000 in
theorem encode_long (w : World) (K : Nat) (eb : Er → Addr) (S : Er → Bool) (G : Glob w K eb S) (first : Nat) (hf : first < 18446744073709551616) (o : Option Addr) (cap : Nat) (rs : List (List UInt8)) (hv : RecsIn w (.slice o rs.length cap) rs) (hn : rs.length ≤ 1099511627776)
    (h0 : rs ≠ []) (hnum : numbersB first rs.length = true) (hlen : ∀ r ∈ rs, r.length ≤ 1099511627776) (h : rs.any (fun r => 200 < r.length) = true ∨ 494 < roomB rs) :
    Calls Tryz.prog 52 #[.int .u64 first, .slice o rs.length cap] w fun e w' => e = .returned (.tuple #[.slice none 0 0, erV eb (some .long)]) ∧ Fr (fun _ => False) w w' := by
  have v1 : w.cell? ⟨4, 0, none⟩ = some (.iface 169 (.pointer (some (eb .long)))) := G.var .long rfl
  have hpos : 0 < rs.length := List.length_pos_iff.2 h0
  have hn0 : ((rs.length : Int) == 0) = false := by rw [beq_eq_false_iff_ne]; omega
  have HNU := Lib.hid (block_numbers w first rs.length hf (by omega) (by omega))
  rw [hnum] at HNU
  have HV := Lib.hid hv
  have HL := Lib.hid hlen
  have HH := Lib.hid h
  clear G hv hlen h hnum h0
  go_enter Tryz.func52, Tryz.ntmps52
  go_wp2_with fail
  refine HNU.out.mono ?_
  rintro e w1 ⟨rfl, rfl⟩
  go_wp2_with fail
  go_loopw [6, 25] (fun v6 v25 wr => ∃ k : Nat, k ≤ rs.length ∧ v25 = .int .i64 (k : Int) ∧ v6 = .int .i64 (roomB (rs.take k) : Nat) ∧ roomB (rs.take k) ≤ 494 ∧ Hid (∀ r ∈ rs.take k, r.length ≤ 200) ∧ wr = w1) (fun _ v25 _ => rs.length - (intOf v25).toNat)
  case atStart => exact ⟨0, Nat.zero_le _, rfl, by simp [roomB], by simp [roomB], Lib.hid (by simp), rfl⟩
  case round =>
    obtain ⟨k, hk, rfl, rfl, hroom, hall, rfl⟩ := hrel
    by_cases hlt : k < rs.length
    · obtain ⟨a, o1, c1, hoa, hcell, _⟩ := recs_at HV.out k hlt
      subst hoa
      have hrl := HL.out rs[k] (List.getElem_mem hlt)
      have hrt := Lib.hid (roomB_take rs k hlt)
      generalize hX : roomB (rs.take k) = X at *
      by_cases h200 : 200 < rs[k].length
      · have g1 : (200 : Int) < (rs[k].length : Int) := by omega
        go_wp2_with fail
        go_quiet (fail)
        go_wp2_with fail
        go_ret2
        exact ⟨rfl, (Fr.refl _ _).drewN _⟩
      · have g1 : ¬ (200 : Int) < (rs[k].length : Int) := by omega
        by_cases h494 : 494 < X + (2 + rs[k].length)
        · have g2 : (494 : Int) < (X : Int) + (2 + (rs[k].length : Int)) := by omega
          go_wp2_with fail
          go_quiet (fail)
          go_wp2_with fail
          go_ret2
          exact ⟨rfl, (Fr.refl _ _).drewN _⟩
        · have g2 : ¬ (494 : Int) < (X : Int) + (2 + (rs[k].length : Int)) := by omega
          have hall2 : ∀ r ∈ rs.take (k + 1), r.length ≤ 200 := by
            intro r hr
            rw [List.take_add_one, List.getElem?_eq_getElem hlt] at hr
            rcases List.mem_append.1 hr with hr | hr
            · exact hall.out r hr
            · have : r = rs[k] := by simpa using hr
              subst this; omega
          have HA2 := Lib.hid hall2
          clear hall2
          go_wp2_with fail
          exact ⟨⟨k + 1, by omega, by go_num, by rw [hrt.out]; simp, by rw [hrt.out]; omega, HA2, trivial⟩, by simp [intOf]; omega⟩
    · exfalso
      have hkk : k = rs.length := by omega
      have h1 := hall.out
      rw [hkk, List.take_length] at h1 hroom
      rcases HH.out with q | q
      · obtain ⟨r, hr, hr2⟩ := List.any_eq_true.1 q
        have := h1 r hr
        simp at hr2
        omega
      · omega
end Go.Proofs.YtabfcciejhbajaaGreatDoor

namespace Go.Proofs.YtabfcciejhbajaaGreatDoor
open Go Go.RowKit

theorem RecsIn.fr {w w' : World} {v : Value} {rs : List (List UInt8)} (h : RecsIn w v rs) (hf : Fr (fun _ => False) w w') : RecsIn w' v rs := by
  obtain ⟨vs, h1, h2, h3⟩ := h
  exact ⟨vs, h1, h2.fr hf (fun _ _ _ _ h => h), fun j u l hu hl => (h3 j u l hu hl).fr hf (fun _ _ _ _ h => h)⟩
theorem bodyB_take (rs : List (List UInt8)) (k : Nat) (h : k < rs.length) : bodyB (rs.take (k + 1)) = bodyB (rs.take k) ++ (leB 2 rs[k].length ++ rs[k]) := by
  rw [List.take_add_one, List.getElem?_eq_getElem h, bodyB_append]; simp [bodyB]
theorem OwnBytes.base {w : World} {B B' : Nat} {v : Value} {l : List UInt8} (h : OwnBytes w B v l) (hB : B' ≤ B) : OwnBytes w B' v l :=
  ⟨h.1, h.2.imp id (fun ⟨g, cap, cur, q1, q2, q3⟩ => ⟨g, cap, cur, q1, by omega, q3⟩)⟩
theorem zeros_list (m : Nat) : (Builtin.zeroCells (Value.int .u8 0).cells m).toList = (List.replicate m (0 : UInt8)).map byteV := by
  apply List.ext_getElem?
  intro j
  by_cases hj : j < m
  · rw [List.getElem?_map, List.getElem?_replicate_of_lt hj, Array.getElem?_toList]
    simp [Builtin.zeroCells, hj, byteV, Value.cells, Nat.mod_one]
  · rw [List.getElem?_eq_none (by simp [Builtin.zeroCells, Value.cells]; omega), List.getElem?_eq_none (by simp; omega)]
theorem zeros_one (m : Nat) : ∀ u ∈ (Builtin.zeroCells (Value.int .u8 0).cells m).toList, u.oneCell' = true := by
  intro u hu
  rw [zeros_list] at hu
  obtain ⟨x, _, rfl⟩ := List.mem_map.1 hu
  rfl
theorem fr_below {w w' : World} (h : Fr (fun _ => False) w w') : Below w.heap.size w w' := ⟨h.os, h.tape, h.output, h.size, fun k hk => h.block k hk (fun h => h)⟩
theorem copy_src {w w6 w7 : World} {g : Nat} {cur : Array Value} {t : TypeId} (h : w.heap[g]? = some (.cells cur t (0, 0))) (h6 : Fr (fun _ => False) w.drew w6) (h7 : Fr (fun _ => False) w6 w7) : w7.heap[g]? = some (.cells cur.toList.toArray t (0, 0)) := by
  have hl : g < w.heap.size := (Array.getElem?_eq_some_iff.1 h).1
  rw [Array.toArray_toList]
  exact (h7.block g (Nat.lt_of_lt_of_le hl h6.size) (fun h => h)).trans ((h6.block g hl (fun h => h)).trans h)
theorem copy_from {w : World} {B c : Nat} {o : Option Addr} {l : List UInt8} (h : w.ownsRow B 5 1 (.slice o ([] ++ l).length c) ([] ++ l).length (([] ++ l).map byteV)) (hl : 0 < l.length) : ∃ ad, o = some ad ∧ ∀ (j : Nat) u, (l.map byteV)[j]? = some u → w.cell? (ad.add j) = some u := by
  rcases ownsRow_slice h with ⟨_, q, _⟩ | ⟨a, c', q, _, _, hc⟩
  · simp at q; subst q; simp at hl
  · injection q with q1 _ _
    exact ⟨a, q1, fun j u hu => hc j u (by simpa using hu)⟩
theorem take_splice {α : Type} (L cs : List α) (off n : Nat) (h : off + cs.length ≤ n) (hn : n ≤ L.length) : (splice L off cs).take n = splice (L.take n) off cs := by
  unfold splice
  rw [List.take_append, List.take_append, List.take_take, List.length_take, List.take_take]
  rw [List.take_of_length_le (l := cs) (by omega)]
  congr 1
  · congr 1; omega
  · congr 1
    rw [List.drop_take]; congr 1; omega
/-- a block's front: 18 bytes, zeros in the place of the sum -/
def frontB (first n : Nat) : List UInt8 := magicB ++ leB 8 first ++ leB 2 n ++ leB 4 0
theorem frontB_length (first n : Nat) : (frontB first n).length = 18 := by simp [frontB, leB_length, magicB]
theorem any_false {rs : List (List UInt8)} (h : rs.any (fun r => 200 < r.length) = false) : ∀ r ∈ rs, r.length ≤ 200 := by
  intro r hr
  have := List.any_eq_false.1 h r hr
  simp at this; omega
theorem roomB_le (rs : List (List UInt8)) (k : Nat) : roomB (rs.take k) ≤ roomB rs := by
  have := roomB_append (rs.take k) (rs.drop k)
  rw [List.take_append_drop] at this; omega
theorem length_roomB (rs : List (List UInt8)) : 2 * rs.length ≤ roomB rs := by
  induction rs with
  | nil => simp
  | cons r rs ih => simp [roomB]; omega

set_option maxRecDepth 100000 in
set_option maxHeartbeats 2000000 in
theorem encode_ok (w : World) (K first : Nat) (hT : Tab w K) (hf : first < 18446744073709551616) (o : Option Addr) (cap : Nat) (rs : List (List UInt8)) (hv : RecsIn w (.slice o rs.length cap) rs)
    (h0 : rs ≠ []) (hnum : numbersB first rs.length = true) (h1 : ∀ r ∈ rs, r.length ≤ 200) (h2 : roomB rs ≤ 494) :
    Calls Tryz.prog 52 #[.int .u64 first, .slice o rs.length cap] w fun e w' => ∃ v, e = .returned (.tuple #[v, .nilIface]) ∧ OwnBytes w' w.heap.size v (encodeB first rs) ∧ Fr (fun _ => False) w w' := by
  have hpos : 0 < rs.length := List.length_pos_iff.2 h0
  have hn247 : rs.length ≤ 247 := by have := length_roomB rs; omega
  have hn0 : ((rs.length : Int) == 0) = false := by rw [beq_eq_false_iff_ne]; omega
  have HNU := Lib.hid (block_numbers w first rs.length hf (by omega) (by omega))
  rw [hnum] at HNU
  have HV := Lib.hid hv
  have HA := Lib.hid h1
  have HT := Lib.hid hT
  clear hv hnum h0 h1 hT
  go_enter Tryz.func52, Tryz.ntmps52
  go_wp2_with fail
  refine HNU.out.mono ?_
  rintro e w1 ⟨rfl, rfl⟩
  go_wp2_with fail
  go_loopw [6, 25] (fun v6 v25 wr => ∃ k : Nat, k ≤ rs.length ∧ v25 = .int .i64 (k : Int) ∧ v6 = .int .i64 (roomB (rs.take k) : Nat) ∧ wr = w1) (fun _ v25 _ => rs.length - (intOf v25).toNat)
  case atStart => exact ⟨0, Nat.zero_le _, rfl, by simp [roomB], rfl⟩
  case round =>
    obtain ⟨k, hk, rfl, rfl, rfl⟩ := hrel
    by_cases hlt : k < rs.length
    · obtain ⟨a, o1, c1, hoa, hcell, _⟩ := recs_at HV.out k hlt
      subst hoa
      have hrl := HA.out rs[k] (List.getElem_mem hlt)
      have hrt := Lib.hid (roomB_take rs k hlt)
      have hle := roomB_le rs (k + 1)
      rw [hrt.out] at hle
      generalize hX : roomB (rs.take k) = X at *
      have g1 : ¬ (200 : Int) < (rs[k].length : Int) := by omega
      have g2 : ¬ (494 : Int) < (X : Int) + (2 + (rs[k].length : Int)) := by omega
      go_wp2_with fail
      exact ⟨⟨k + 1, by omega, by go_num, by rw [hrt.out]; simp, trivial⟩, by simp [intOf]; omega⟩
    · have hkk : k = rs.length := by omega
      subst hkk
      rw [List.take_length]
      have w2 : IntKind.u16.wrap (rs.length : Int) = rs.length := IntWalk.u16_in _ (by omega)
      have cs : (convert 38 38 (.slice (some ⟨wr.heap.size, 0, none⟩) 4 4)).run Tryz.prog (wr.alloc (.cells #[.int .u8 84, .int .u8 66, .int .u8 48, .int .u8 49] 5)) = .ok (.slice (some ⟨wr.heap.size, 0, none⟩) 4 4) (wr.alloc (.cells #[.int .u8 84, .int .u8 66, .int .u8 48, .int .u8 49] 5 (4, 5))) := Lib.run_convert_bytes_const wr 38 5 #[.int .u8 84, .int .u8 66, .int .u8 48, .int .u8 49] 4 4 Tryz.underlying38 Tryz.underlying5
      have hm : BytesAt (wr.alloc (.cells #[.int .u8 84, .int .u8 66, .int .u8 48, .int .u8 49] 5 (4, 5))) (.slice (some ⟨wr.heap.size, 0, none⟩) 4 4) magicB := by
        refine .inr ⟨_, _, rfl, Nat.le_refl _, rfl, fun j u hu => ?_⟩
        rw [addr_add, cell_at (c := #[.int .u8 84, .int .u8 66, .int .u8 48, .int .u8 49]) (t := 5) (z := (4, 5)) (heap_alloc_new _ _), Nat.zero_add, ← hu]
        match j with
        | 0 => rfl
        | 1 => rfl
        | 2 => rfl
        | 3 => rfl
        | j + 4 => simp [magicB]
      have HP := Lib.hid (put_u64 _ _ magicB first hm hf (by decide))
      clear hm
      go_wp2_with fail
      refine HP.out.mono ?_
      rintro e w2 ⟨v2, rfl, hb2, hf2⟩
      have HP2 := Lib.hid (put_u16 w2 v2 _ rs.length (own_bytes hb2) (by omega) (by simp [leB_length, magicB]))
      have HF2 := Lib.hid (Fr.trans ((Fr.refl (fun _ => False) wr).alloc (.cells #[.int .u8 84, .int .u8 66, .int .u8 48, .int .u8 49] 5 (4, 5))) hf2)
      obtain ⟨o2, c2, hv2⟩ := (own_bytes hb2).form
      rw [hv2] at HP2 ⊢
      clear hb2 hf2 HP hv2
      go_wp2_with fail
      refine HP2.out.mono ?_
      rintro e w3 ⟨v3, rfl, hb3, hf3⟩
      have HP3 := Lib.hid (put_u32 w3 v3 _ 0 (own_bytes hb3) (by omega) (by simp [leB_length, magicB]))
      have HF3 := Lib.hid (Fr.trans HF2.out hf3)
      obtain ⟨o3, c3, hv3⟩ := (own_bytes hb3).form
      rw [hv3] at HP3 ⊢
      clear hb3 hf3 HP2 hv3 HF2
      go_wp2_with fail
      refine HP3.out.mono ?_
      rintro e w4 ⟨v4, rfl, hb4, hf4⟩
      have HF4 := Lib.hid (Fr.trans HF3.out hf4)
      have HB4 := Lib.hid (show OwnBytes w4 wr.heap.size v4 (frontB first rs.length) from ⟨hb4.1, hb4.2.imp id (fun ⟨g, cap, cur, q1, q2, q3⟩ => ⟨g, cap, cur, q1, by have := HF3.out.size; omega, q3⟩)⟩)
      clear hb4 hf4 HP3 HF3
      obtain ⟨o4, c4, hv4⟩ := (own_bytes HB4.out).form
      subst hv4
      have HRI := Lib.hid (RecsIn.fr HV.out HF4.out)
      have HTW := Lib.hid (HT.out.fr HF4.out (fun _ h => h.elim))
      obtain ⟨i0, hi, hi0, hi1, hi2⟩ := info_parts infoByte
      go_wp2_with fail
      go_loopw [9, 54] (fun v9 v54 wq => ∃ k : Nat, k ≤ rs.length ∧ v54 = .int .i64 (k : Int) ∧ OwnBytes wq wr.heap.size v9 (frontB first rs.length ++ bodyB (rs.take k)) ∧ Fr (fun _ => False) wr wq) (fun _ v54 _ => rs.length - (intOf v54).toNat)
      case atStart => exact ⟨0, Nat.zero_le _, rfl, by simpa [bodyB] using HB4.out, HF4.out⟩
      case round =>
        obtain ⟨k, hk, rfl, hown, hF⟩ := hrel
        obtain ⟨acc, hacc⟩ : ∃ acc, acc = frontB first rs.length ++ bodyB (rs.take k) := ⟨_, rfl⟩
        rw [← hacc] at hown
        have hal : acc.length ≤ 512 := by
          have := roomB_le rs k
          rw [hacc, List.length_append, frontB_length, bodyB_length]; omega
        obtain ⟨o9, c9, hv9⟩ := (own_bytes hown).form
        subst hv9
        have HOW := Lib.hid hown
        have HACC := Lib.hid hacc
        have HFQ := Lib.hid hF
        clear hown hacc hF
        by_cases hlt : k < rs.length
        · obtain ⟨a, o1, c1, hoa, hcell, hb⟩ := recs_at (RecsIn.fr HV.out HFQ.out) k hlt
          subst hoa
          have hrl := HA.out rs[k] (List.getElem_mem hlt)
          have w5 : IntKind.u16.wrap (rs[k].length : Int) = rs[k].length := IntWalk.u16_in _ (by omega)
          have HPU := Lib.hid (put_u16 wr (.slice o9 acc.length c9) acc rs[k].length (own_bytes HOW.out) (by omega) (by omega))
          have HNX := Lib.hid (show frontB first rs.length ++ bodyB (rs.take (k + 1)) = (acc ++ leB 2 rs[k].length) ++ rs[k] from by rw [HACC.out, bodyB_take rs k hlt]; simp)
          have HB := Lib.hid hb
          rcases hb with ⟨hn1, hn2, _⟩ | ⟨a1, c1', hs1, _, hs3, hs4⟩
          · have hr0 : rs[k].length = 0 := hn2
            have hrn : rs[k] = [] := List.eq_nil_of_length_eq_zero hr0
            rw [hn1] at hcell
            rw [hr0] at HPU
            rw [hr0, hrn, List.append_nil] at HNX
            clear hn1 hn2 hrl w5 HB hr0 hrn
            go_wp2_with fail
            refine HPU.out.mono ?_
            rintro e w5 ⟨v5, rfl, hb5, hf5⟩
            obtain ⟨o5, c5, hv5⟩ := (own_bytes hb5).form
            have hn5 : (acc ++ leB 2 0).length ≤ c5 := by
              rcases own_bytes hb5 with ⟨q, q', _⟩ | ⟨a', c', q, q', _⟩
              · rw [hv5] at q; injection q with _ _ q3; omega
              · rw [hv5] at q; injection q with _ _ q3; omega
            subst hv5
            have HBW := Lib.hid hb5
            have HF5 := Lib.hid hf5
            clear hb5 hf5 HPU
            generalize acc ++ leB 2 0 = acc2 at *
            go_wp2_with (at_builtin; refine wpl_append_nothing rfl (.tmp 62) (.tmp 63) 38 rfl Tryz.underlying38 hi o5 acc2.length c5 none 0 hn5 rfl rfl ?_)
            have hzq := HFQ.out.size
            exact ⟨⟨k + 1, by omega, by go_num, by rw [HNX.out]; exact OwnBytes.base HBW.out hzq, Fr.trans HFQ.out HF5.out⟩, by simp [intOf]; omega⟩
          · injection hs1 with hs1 _ hs2
            subst hs1
            have HCC := Lib.hid hs4
            have HLL := Lib.hid hs3
            clear hs2 hs3 hs4
            go_wp2_with fail
            refine HPU.out.mono ?_
            rintro e w5 ⟨v5, rfl, hb5, hf5⟩
            obtain ⟨o5, c5, hv5⟩ := (own_bytes hb5).form
            subst hv5
            have hl5 : (acc ++ leB 2 rs[k].length).length ≤ 514 := by rw [List.length_append, leB_length]; omega
            have HB5 := Lib.hid (OwnBytes.base (B' := 0) hb5 (Nat.zero_le _))
            have HBW := Lib.hid hb5
            have HF5 := Lib.hid hf5
            have HCC5 := Lib.hid (fun (j : Nat) u (hu : (rs[k].map byteV)[j]? = some u) => (hf5.cell (World.block_lt_of_cell? _ _ (HCC.out j u hu)) (fun h => h)).trans (HCC.out j u hu))
            have hz5 := hf5.size
            clear hb5 hf5 HPU HCC
            generalize acc ++ leB 2 rs[k].length = acc2 at *
            go_wp2_with (at_builtin; refine wpList_append_own_at _ rfl (.tmp 62) (.tmp 63) 38 rfl wr.heap.size 5 i0 _ 1 1 Tryz.underlying38 hi hi0 hi1 hi2 rfl (by decide) (.slice o5 acc2.length c5) acc2.length _ rfl HBW.out a1 rs[k].length c1 (rs[k].map byteV) rfl HLL.out HCC5.out (by simp [byteV, Value.oneCell']) (by unfold maxLen; omega) (by omega) hz5 ?_; intro v6 w6 hown6 hgrow6 hnil6 hat6; have HO6 := Lib.hid hown6; have HG6 := Lib.hid hgrow6; clear hown6 hgrow6 hnil6 hat6)
            have hzq := HFQ.out.size
            have hO : OwnBytes w6 wr.heap.size v6 (acc2 ++ rs[k]) := by
              unfold OwnBytes; rw [List.length_append, List.map_append]; exact HO6.out
            have hFr : Fr (fun _ => False) wr w6 := Fr.trans' HF5.out ((Fr.refl (fun i => (Value.slice o5 acc2.length c5).ownBlock = some i) w5).grown HG6.out (fun i hi _ => hi)) (fun i hi e => by have := (HBW.out.lt i e).1; omega)
            exact ⟨⟨k + 1, by omega, by go_num, by rw [HNX.out]; exact OwnBytes.base hO hzq, Fr.trans HFQ.out hFr⟩, by simp [intOf]; omega⟩
        · have hkk : k = rs.length := by omega
          have hraw : acc = frontB first rs.length ++ bodyB rs := by rw [HACC.out, hkk, List.take_length]
          have hL : acc.length = 18 + roomB rs := by rw [hraw, List.length_append, frontB_length, bodyB_length]
          obtain ⟨zc, hzc⟩ : ∃ zc : Nat, zc = 512 - acc.length := ⟨_, rfl⟩
          have hsub : (512 : Int) - (acc.length : Int) = (zc : Int) := by omega
          have HRAW := Lib.hid (show rawB first rs = acc ++ List.replicate zc 0 from by rw [hzc, hL, hraw]; simp [rawB, frontB])
          have h512 := Lib.hid (show acc.length + zc = 512 from by omega)
          have hzq := HFQ.out.size
          clear hraw hL hzc
          subst hkk
          go_wp2_with (at_builtin; refine wpl_append_zeros rfl (.tmp 66) (.tmp 69) 38 3 rfl _ 5 i0 _ 1 1 Tryz.underlying38 Tryz.underlying3 hi hi0 hi1 hi2 rfl (by decide) (by decide) (.slice o9 acc.length c9) acc.length _ rfl HOW.out .i64 zc rfl (zeros_one zc) (by omega) hzq ?_; intro v5 w5 hown5 hgrow5 hat5; have HO5 := Lib.hid hown5; have HG5 := Lib.hid hgrow5; clear hown5 hgrow5 hat5)
          have hN : acc.length + zc = 512 := h512.out
          have hO5 : OwnBytes w5 wr.heap.size v5 (rawB first rs) ∨ True := .inr trivial
          clear hO5
          have hlr := rawB_length first rs h2
          have hrow5 := HO5.out
          rw [zeros_list, ← List.map_append, ← HRAW.out, hN] at hrow5
          obtain ⟨g5, c5, cur5, hv5, hg5, hcur5, hc5, hc5', hsz5, htk5⟩ : ∃ g5 c5 cur5, v5 = .slice (some ⟨g5, 0, none⟩) 512 c5 ∧ _ ≤ g5 ∧ w5.heap[g5]? = some (.cells cur5 5 (0, 0)) ∧ 512 ≤ c5 ∧ c5 ≤ maxLen ∧ cur5.size = c5 * 1 ∧ cur5.toList.take (512 * 1) = (rawB first rs).map byteV := by
            rcases hrow5.2 with ⟨_, q⟩ | q
            · omega
            · exact q
          subst hv5
          have hF5 := Fr.trans' HFQ.out ((Fr.refl (fun i => (Value.slice o9 acc.length c9).ownBlock = some i) wr).grown HG5.out (fun i hi _ => hi)) (fun i hi e => by have := (HOW.out.lt i e).1; omega)
          have hb5 : BytesAt w5 (.slice (some ⟨g5, 0, none⟩) 512 c5) (rawB first rs) := by
            have := ownsRow_slice hrow5
            unfold BytesAt; rw [hlr]; exact this
          obtain ⟨raw, hraw⟩ : ∃ raw, raw = rawB first rs := ⟨_, rfl⟩
          rw [← hraw] at hb5 hlr htk5
          obtain ⟨sm, hsm⟩ : ∃ sm, sm = sumB raw := ⟨_, rfl⟩
          have HS := Lib.hid (block_sum w5.drew K g5 0 c5 raw (HT.out.fr (hF5.drew) (fun _ h => h.elim)) (hb5.fr ((Fr.refl (fun _ => False) _).drew) (fun _ _ _ _ h => h)) hlr)
          rw [← hsm] at HS
          have hsml : sm < 4294967296 := by rw [hsm]; exact crcAdd_lt _ _
          have HPUT := Lib.hid (fun (w6 : World) => put_u32 w6 (.slice none 0 0) [] sm (.inl ⟨rfl, rfl, rfl⟩) hsml (by decide))
          have hc14 : (14 : Int) < c5 := by omega
          have hcn14 : ¬ c5 = 14 := by omega
          have hsz1 : (Tryz.prog.info? 5).map (·.size) = some 1 := by kernel_rfl
          have HF5 := Lib.hid hF5
          have HC5 := Lib.hid hcur5
          have HG5' := Lib.hid hg5
          have HSM := Lib.hid hsm
          have HRW := Lib.hid hraw
          clear hrow5 hb5 hsm hF5 hcur5 hraw
          go_region_law (first
            | (go_simp; go_at_call 84; refine HS.out.mono ?_; rintro e w6 ⟨rfl, hf6⟩; have HF6 := Lib.hid hf6; clear hf6)
            | (go_simp; go_at_call 83; refine (HPUT.out _).mono ?_; rintro e w7 ⟨v7, rfl, hb7, hf7⟩; obtain ⟨o7, c7, hv7⟩ := (own_bytes hb7).form; subst hv7; have HB7 := Lib.hid hb7; have HF7 := Lib.hid hf7; clear hb7 hf7)
            | (refine step_copy_splice rfl (.tmp 72) (.tmp 75) 38 38 rfl 5 Tryz.underlying38 hsz1 _ _ _ _ _ _ rfl rfl g5 14 cur5.toList 5 (copy_src HC5.out HF6.out HF7.out) ((leB 4 sm).map byteV) (by simp [leB_length]) (fun _ => ⟨rfl, copy_from HB7.out (by rw [leB_length]; decide)⟩) (by simp [leB_length]; omega) (by simp [byteV, Value.oneCell']) _ _ (fr_below (Fr.trans (Fr.trans HF5.out.drew HF6.out) HF7.out)) HG5'.out ?_; intro w8 hg8 hb8))
          all_goals
            have HG8 := Lib.hid hg8.out
            have HB8 := Lib.hid hb8
            clear hg8 hb8
            go_wp2_with fail
            go_ret2
            refine ⟨_, rfl, ?_, Fr.below HB8.out⟩
            have hel := encodeB_length first rs h2
            unfold OwnBytes
            rw [hel]
            refine ⟨by rw [List.length_map, hel], .inr ⟨g5, c5, _, rfl, HG5'.out, HG8.out, hc5, hc5', ?_, ?_⟩⟩
            · rw [List.size_toArray, length_splice _ _ _ (by simp [leB_length]; omega)]; simpa using hsz5
            · rw [List.toList_toArray, Nat.mul_one, take_splice _ _ _ _ (by simp [leB_length]) (by simp; omega)]
              rw [Nat.mul_one] at htk5
              rw [htk5]
              unfold encodeB
              rw [← HRW.out, ← HSM.out]
              simp [splice, leB_length, List.map_take, List.map_drop]
end Go.Proofs.YtabfcciejhbajaaGreatDoor
