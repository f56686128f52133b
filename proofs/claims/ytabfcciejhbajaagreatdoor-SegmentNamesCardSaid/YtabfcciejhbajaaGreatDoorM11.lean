/-
  block.Decode at 512 bytes. Conditions: the bytes can be read; the table and the error variables are there.
-/
import Derived.Test.YtabfcciejhbajaaGreatDoorM10
import Derived.Test.YtabfcciejhbajaaGreatDoorPlain
namespace Go.Proofs.YtabfcciejhbajaaGreatDoor
open Go Go.RowKit

def magicB : List UInt8 := [84, 66, 48, 49]
/-- n texts off the front, none longer than 200 bytes -/
def textsOf : Nat → List UInt8 → Option (List (List UInt8) × List UInt8)
  | 0, l => some ([], l)
  | n + 1, l => match textOf l with
    | none => none
    | some (t, l') => if 200 < t.length then none else match textsOf n l' with
      | none => none
      | some (rs, r) => some (t :: rs, r)
theorem textsOf_none {l : List UInt8} (m : Nat) (h : textOf l = none) : textsOf (m + 1) l = none := by simp only [textsOf, h]
theorem textsOf_long {l t l' : List UInt8} (m : Nat) (h : textOf l = some (t, l')) (h2 : 200 < t.length) : textsOf (m + 1) l = none := by simp only [textsOf, h, if_pos h2]
theorem textsOf_step {l t l' : List UInt8} (m : Nat) (h : textOf l = some (t, l')) (h2 : ¬ 200 < t.length) : textsOf (m + 1) l = match textsOf m l' with
    | none => none
    | some (rs, r) => some (t :: rs, r) := by simp only [textsOf, h, if_neg h2]
/-- so far k texts were taken: rs; what is left is l -/
def SoFar (n : Nat) (L : List UInt8) (k : Nat) (rs : List (List UInt8)) (l : List UInt8) : Prop :=
  rs.length = k ∧ (∃ m, l = L.drop m) ∧ textsOf n L = match textsOf (n - k) l with
    | none => none
    | some (rs2, r) => some (rs ++ rs2, r)
theorem textOf_drop {l t l' : List UInt8} (h : textOf l = some (t, l')) : ∃ m, l' = l.drop m := by
  unfold textOf at h
  split at h
  · cases h
  · split at h
    · cases h
    · cases h; exact ⟨_, by rw [List.drop_drop]⟩
theorem SoFar.start (n : Nat) (L : List UInt8) : SoFar n L 0 [] L := ⟨rfl, ⟨0, rfl⟩, by
  cases textsOf (n - 0) L with
  | none => simp_all
  | some p => simp_all⟩
theorem SoFar.bad {n : Nat} {L : List UInt8} {k : Nat} {rs : List (List UInt8)} {l : List UInt8} (h : SoFar n L k rs l) (hk : k < n) (hb : ∀ m, textsOf (m + 1) l = none) : textsOf n L = none := by
  obtain ⟨_, _, h⟩ := h
  rw [h, show n - k = (n - k - 1) + 1 from by omega, hb]
theorem SoFar.next {n : Nat} {L : List UInt8} {k : Nat} {rs : List (List UInt8)} {l t l' : List UInt8} (h : SoFar n L k rs l) (hk : k < n) (ht : textOf l = some (t, l')) (h2 : ¬ 200 < t.length) : SoFar n L (k + 1) (rs ++ [t]) l' := by
  obtain ⟨h1, ⟨m, hm⟩, h3⟩ := h
  obtain ⟨m', hm'⟩ := textOf_drop ht
  refine ⟨by simp [h1], ⟨m + m', by rw [hm', hm, List.drop_drop]⟩, ?_⟩
  rw [h3, show n - k = (n - (k + 1)) + 1 from by omega, textsOf_step _ ht h2]
  cases textsOf (n - (k + 1)) l' with
  | none => rfl
  | some p => simp
theorem SoFar.done {n : Nat} {L : List UInt8} {rs : List (List UInt8)} {l : List UInt8} (h : SoFar n L n rs l) : textsOf n L = some (rs, l) := by
  obtain ⟨_, _, h3⟩ := h
  rw [h3, Nat.sub_self]; simp [textsOf]
/-- a block of 512 bytes -/
def decodeB (b : List UInt8) : Er ⊕ (Nat × List (List UInt8)) :=
  if b.take 4 ≠ magicB then .inl .form
  else if leNat (((b.drop 4).take 14).drop 10) ≠ sumB b then .inl .sum
  else if leNat ((((b.drop 4).take 14).drop 8).take 2) = 0 ∨ numbersB (leNat (((b.drop 4).take 14).take 8)) (leNat ((((b.drop 4).take 14).drop 8).take 2)) = false then .inl .form
  else match textsOf (leNat ((((b.drop 4).take 14).drop 8).take 2)) (b.drop 18) with
    | none => .inl .form
    | some (rs, r) => if r.all (· == 0) then .inr (leNat (((b.drop 4).take 14).take 8), rs) else .inl .form
theorem sub_bytes {w : World} {g off n cap : Nat} {l : List UInt8} (h : BytesAt w (.slice (some ⟨g, off, none⟩) n cap) l) (hn : l.length = n) (i m : Nat) (him : i + m ≤ n) (c : Nat) (hc : m ≤ c) :
    BytesAt w (.slice (some ⟨g, off + i, none⟩) m c) ((l.drop i).take m) := by
  have hlen : ((l.drop i).take m).length = m := by rw [List.length_take, List.length_drop]; omega
  unfold BytesAt
  rw [hlen]
  refine .inr ⟨_, _, rfl, hc, by rw [List.length_map]; omega, fun j u hu => ?_⟩
  rw [List.map_take, List.getElem?_take] at hu
  split at hu
  · rw [List.map_drop, List.getElem?_drop] at hu
    rcases h with ⟨q, _⟩ | ⟨a, c', q, _, _, hcc⟩
    · cases q
    · injection q with q1 _ _
      injection q1 with q1
      subst q1
      have := hcc (i + j) u hu
      rw [addr_add] at this
      rw [addr_add, show off + i + j = off + (i + j) from by omega]; exact this
  · cases hu

set_option maxRecDepth 100000 in
set_option maxHeartbeats 1000000 in
theorem decode_magic (w : World) (K : Nat) (eb : Er → Addr) (S : Er → Bool) (G : Glob w K eb S) (g off cap : Nat) (hcap : 512 ≤ cap) (b : List UInt8) (hv : BytesAt w (.slice (some ⟨g, off, none⟩) 512 cap) b) (hb : b.length = 512) (hm : b.take 4 ≠ magicB) :
    Calls Tryz.prog 63 #[.slice (some ⟨g, off, none⟩) 512 cap] w fun e w' => e = .returned (.tuple #[.int .u64 0, .slice none 0 0, erV eb (some .form)]) ∧ Fr (fun _ => False) w w' := by
  have hc4 : (4 : Int) ≤ cap := by omega
  have hcv : (convert 38 9 (.slice (some ⟨g, off, none⟩) 4 cap)).run Tryz.prog w = .ok (.string ⟨(b.take 4).toArray⟩) w := conv_bytes (by have := sub_bytes hv hb 0 4 (by omega) cap (by omega); simpa using this)
  have hs : ((⟨(b.take 4).toArray⟩ : ByteArray).toList == [84, 66, 48, 49]) = false := by
    rw [ByteArray.toList_mk]; exact beq_eq_false_iff_ne.2 hm
  have v1 : w.cell? ⟨9, 0, none⟩ = some (.iface 169 (.pointer (some (eb .form)))) := G.var .form rfl
  generalize (⟨(b.take 4).toArray⟩ : ByteArray) = s at *
  clear hv hb hm G
  go_enter Tryz.func63, Tryz.ntmps63
  go_wp2_with fail
  go_quiet (fail)
  go_wp2_with fail
  refine bodyPost_ret (v := .tuple #[.int .u64 0, .slice none 0 0, .iface 169 (.pointer (some (eb .form)))]) (by simp [results, Tryz.results63, go_sem]) rfl ⟨rfl, ?_⟩
  repeat (first | exact Fr.refl _ _ | refine Fr.drewN ?_ _ | refine Fr.drew ?_ | refine Fr.alloc ?_ _ | refine Fr.setCell ?_ (fun h => by first | (simp at h; done) | (simp at h; omega)) _)

theorem infoSl : (Tryz.prog.info? 38).map (fun i => (i.zero, i.size, i.bytes)) = some (some (.slice none 0 0), 1, 24) := by kernel_rfl
theorem dw_nil {α : Type} (p : α → Bool) (l : List α) : l.dropWhile p = [] ↔ ∀ x ∈ l, p x = true := by
  induction l with
  | nil => simp
  | cons y ys ih =>
    rw [List.dropWhile_cons]
    cases hp : p y with
    | true => simp [ih, hp]
    | false => simp [hp]
theorem trim_zero (l : List UInt8) : (Lib.trimB l 0).isEmpty = l.all (· == 0) := by
  rw [Bool.eq_iff_iff, List.isEmpty_iff, List.all_eq_true]
  unfold Lib.trimB Lib.trimLeftB Lib.trimRightB
  rw [dw_nil]
  constructor
  · intro h
    cases hq : l.reverse.dropWhile (· == 0) with
    | nil =>
      rw [dw_nil] at hq
      exact fun x hx => hq x (by simpa using hx)
    | cons y ys =>
      exfalso
      have h1 := h y (by rw [hq]; simp)
      have h2 := List.head?_dropWhile_not (· == (0 : UInt8)) l.reverse
      rw [hq] at h2
      simp only [List.head?_cons] at h2
      rw [h1] at h2; cases h2
  · intro h x hx
    exact h x (by
      rw [List.mem_reverse] at hx
      simpa using (List.dropWhile_sublist _).mem hx)
theorem RecsNew.base {w : World} {B B' : Nat} {v : Value} {rs : List (List UInt8)} (h : RecsNew w B v rs) (hB : B' ≤ B) : RecsNew w B' v rs := by
  obtain ⟨vs, h1, h2, h3⟩ := h
  exact ⟨vs, h1, ⟨h2.1, h2.2.imp id (fun ⟨g, cap, cur, q1, q2, q3⟩ => ⟨g, cap, cur, q1, by omega, q3⟩)⟩, fun j u l hu hl => ⟨(h3 j u l hu hl).1, fun a n c e => ⟨Nat.le_trans hB ((h3 j u l hu hl).2 a n c e).1, ((h3 j u l hu hl).2 a n c e).2⟩⟩⟩
/-- what Decode answers -/
def DecPost (w w' : World) (eb : Er → Addr) (b : List UInt8) (e : Ending) : Prop :=
  Fr (fun _ => False) w w' ∧ ((∃ x, decodeB b = .inl x ∧ e = .returned (.tuple #[.int .u64 0, .slice none 0 0, erV eb (some x)])) ∨ ∃ first rs v, decodeB b = .inr (first, rs) ∧ e = .returned (.tuple #[.int .u64 (first : Nat), v, .nilIface]) ∧ RecsNew w' w.heap.size v rs)
theorem fr_step {w w1 w2 : World} {r : Nat} (h : Fr (fun _ => False) w w1) (k : Fr (fun b => b = r) w1 w2) (hr : w.heap.size ≤ r) : Fr (fun _ => False) w w2 := Fr.trans' h k (fun i hi e => by omega)
set_option maxRecDepth 100000 in
set_option maxHeartbeats 2000000 in
theorem decode_rest (w : World) (K : Nat) (eb : Er → Addr) (S : Er → Bool) (G : Glob w K eb S) (hT : Tab w K) (g off cap : Nat) (hcap : 512 ≤ cap) (b : List UInt8) (hv : BytesAt w (.slice (some ⟨g, off, none⟩) 512 cap) b) (hb : b.length = 512) (hm : b.take 4 = magicB) :
    Calls Tryz.prog 63 #[.slice (some ⟨g, off, none⟩) 512 cap] w fun e w' => DecPost w w' eb b e := by
  have hc4 : (4 : Int) ≤ cap := by omega
  have hc18 : (18 : Int) ≤ cap := by omega
  have hcn : ¬ cap = 4 := by omega
  have hcv : (convert 38 9 (.slice (some ⟨g, off, none⟩) 4 cap)).run Tryz.prog w = .ok (.string ⟨(b.take 4).toArray⟩) w := conv_bytes (by have := sub_bytes hv hb 0 4 (by omega) cap (by omega); simpa using this)
  have hs : ((⟨(b.take 4).toArray⟩ : ByteArray).toList == [84, 66, 48, 49]) = true := by
    rw [ByteArray.toList_mk]; exact beq_iff_eq.2 hm
  have hhl : ((b.drop 4).take 14).length = 14 := by rw [List.length_take, List.length_drop]; omega
  have HNR := Lib.hid (new_reader w eb (.slice (some ⟨g, off + 4, none⟩) 14 (cap - 4)) ((b.drop 4).take 14) (sub_bytes hv hb 4 14 (by omega) (cap - 4) (by omega)) (fun e => by rw [e] at hhl; simp at hhl) (by omega))
  have HG := Lib.hid G
  have HT := Lib.hid hT
  have HV := Lib.hid hv
  have HB := Lib.hid hb
  have HM := Lib.hid hm
  have HHL := Lib.hid hhl
  generalize hsb : (⟨(b.take 4).toArray⟩ : ByteArray) = s at *
  clear hsb hv hb hm G hT hhl
  obtain ⟨h, hh⟩ : ∃ h, h = (b.drop 4).take 14 := ⟨_, rfl⟩
  rw [← hh] at HNR HHL
  have HH := Lib.hid hh
  clear hh
  go_enter Tryz.func63, Tryz.ntmps63
  go_wp2_with fail
  refine HNR.out.mono ?_
  rintro e w1 ⟨r, g1, cap1, rfl, hrd, hr, hg1, hf1⟩
  have HU := Lib.hid (reader_U64 w1 eb r g1 0 cap1 h hrd (by rw [HHL.out]; decide) (by rw [HHL.out]; decide))
  have HF1 := Lib.hid hf1
  clear hrd hf1 HNR
  go_wp2_with fail
  refine HU.out.mono ?_
  rintro e w2 ⟨rfl, off2, cap2, hrd, hf2⟩
  have HF2 := Lib.hid (fr_step HF1.out hf2 hr)
  have HU := Lib.hid (reader_U16 w2 eb r g1 off2 cap2 (h.drop 8) hrd (by rw [List.length_drop, HHL.out]; decide) (by rw [List.length_drop, HHL.out]; decide))
  obtain ⟨first, hfirst⟩ : ∃ x, x = leNat (h.take 8) := ⟨_, rfl⟩
  rw [← hfirst]
  have hf64 : first < 18446744073709551616 := by
    rw [hfirst]; refine Nat.lt_of_lt_of_le (leNat_lt _) (Nat.le_trans (Nat.pow_le_pow_right (by omega) (show _ ≤ 8 from by rw [List.length_take]; omega)) (by decide))
  have HFI := Lib.hid hfirst
  clear hrd hf2 HF1 hfirst
  obtain ⟨n, hn⟩ : ∃ x, x = leNat ((h.drop 8).take 2) := ⟨_, rfl⟩
  have hn64 : n < 65536 := by
    rw [hn]; refine Nat.lt_of_lt_of_le (leNat_lt _) (Nat.le_trans (Nat.pow_le_pow_right (by omega) (show _ ≤ 2 from by rw [List.length_take]; omega)) (by decide))
  have hnw : IntKind.i64.wrap (n : Int) = n := IntWalk.i64_in _ (by omega)
  rw [← hn] at HU
  have HN := Lib.hid hn
  clear hn
  go_wp2_with fail
  refine HU.out.mono ?_
  rintro e w3 ⟨rfl, off3, cap3, hrd, hf3⟩
  have HF3 := Lib.hid (fr_step HF2.out hf3 hr)
  rw [List.drop_drop] at hrd
  have HU := Lib.hid (reader_U32 w3 eb r g1 off3 cap3 (h.drop (8 + 2)) hrd (by rw [List.length_drop, HHL.out]; decide) (by rw [List.length_drop, HHL.out]; decide))
  obtain ⟨told, htold⟩ : ∃ x, x = leNat ((h.drop (8 + 2)).take 4) := ⟨_, rfl⟩
  rw [← htold] at HU
  have HTO := Lib.hid htold
  clear hrd hf3 HF2 htold
  go_wp2_with fail
  refine HU.out.mono ?_
  rintro e w4 ⟨rfl, off4, cap4, hrd, hf4⟩
  have HF4 := Lib.hid (fr_step HF3.out hf4 hr)
  have HSU := Lib.hid (block_sum w4 K g off cap b (HT.out.fr HF4.out (fun _ h => h.elim)) (HV.out.fr HF4.out (fun _ _ _ _ h => h)) HB.out)
  clear hrd hf4 HF3 HU
  go_wp2_with fail
  refine HSU.out.mono ?_
  rintro e w5 ⟨rfl, hf5⟩
  have HF5 := Lib.hid (Fr.trans HF4.out hf5)
  clear hf5 HF4 HSU
  have hdec : decodeB b = if told ≠ sumB b then .inl .sum else if n = 0 ∨ numbersB first n = false then .inl .form else match textsOf n (b.drop 18) with
      | none => .inl .form
      | some (rs, r) => if r.all (· == 0) then .inr (first, rs) else .inl .form := by
    unfold decodeB
    rw [if_neg (fun q => q HM.out), ← HH.out, ← HFI.out, ← HN.out]
    have e1 : leNat (h.drop 10) = told := by rw [HTO.out]; congr 1; rw [List.take_of_length_le]; rw [List.length_drop, HHL.out]; decide
    rw [e1]
  have HDEC := Lib.hid hdec
  clear hdec HH HFI HN HTO
  obtain ⟨sm, hsm⟩ : ∃ sm, sm = sumB b := ⟨_, rfl⟩
  rw [← hsm] at HDEC ⊢
  clear hsm
  have V := HG.out.fr HF5.out (fun _ h => h.elim)
  have v11 : w5.cell? ⟨10, 0, none⟩ = some (.iface 169 (.pointer (some (eb .sum)))) := V.var .sum rfl
  have v10 : w5.cell? ⟨9, 0, none⟩ = some (.iface 169 (.pointer (some (eb .form)))) := V.var .form rfl
  have HVG := Lib.hid V
  clear V
  by_cases ht : told = sm
  · have hq : ((told : Int) == (sm : Int)) = true := by rw [ht]; simp
    have hd1 : decodeB b = if n = 0 ∨ numbersB first n = false then .inl .form else match textsOf n (b.drop 18) with
      | none => .inl .form
      | some (rs, r) => if r.all (· == 0) then .inr (first, rs) else .inl .form := by rw [HDEC.out, if_neg (fun q => q ht)]
    have HD1 := Lib.hid hd1
    clear ht hd1 HDEC
    by_cases h0 : n = 0
    · have hn0 : ((n : Int) == 0) = true := by rw [h0]; rfl
      have HD := Lib.hid (show decodeB b = .inl .form from by rw [HD1.out, if_pos (.inl h0)])
      clear h0 HD1
      go_wp2_with fail
      go_quiet (fail)
      go_wp2_with fail
      refine bodyPost_ret (v := .tuple #[.int .u64 0, .slice none 0 0, .iface 169 (.pointer (some (eb .form)))]) (by simp [results, Tryz.results63, go_sem]) rfl ⟨?_, .inl ⟨.form, HD.out, rfl⟩⟩
      exact HF5.out.drewN _
    · have hn0 : ((n : Int) == 0) = false := by rw [beq_eq_false_iff_ne]; omega
      have HNU := Lib.hid (block_numbers w5 first n hf64 (by omega) (by omega))
      by_cases hnum : numbersB first n = false
      · rw [hnum] at HNU
        have HD := Lib.hid (show decodeB b = .inl .form from by rw [HD1.out, if_pos (.inr hnum)])
        clear h0 hnum HD1
        go_wp2_with fail
        refine HNU.out.mono ?_
        rintro e w6 ⟨rfl, rfl⟩
        go_wp2_with fail
        go_quiet (fail)
        go_wp2_with fail
        refine bodyPost_ret (v := .tuple #[.int .u64 0, .slice none 0 0, .iface 169 (.pointer (some (eb .form)))]) (by simp [results, Tryz.results63, go_sem]) rfl ⟨?_, .inl ⟨.form, HD.out, rfl⟩⟩
        exact HF5.out.drewN _
      · have hnum' : numbersB first n = true := by simpa using hnum
        rw [hnum'] at HNU
        have hd2 : decodeB b = match textsOf n (b.drop 18) with
            | none => .inl .form
            | some (rs, r) => if r.all (· == 0) then .inr (first, rs) else .inl .form := by rw [HD1.out, if_neg (by simp [h0, hnum'])]
        have HD2 := Lib.hid hd2
        have hcn18 : ¬ cap = 18 := by omega
        have hc18' : (18 : Int) < cap := by omega
        have hll : (b.drop 18).length = 494 := by rw [List.length_drop, HB.out]
        have HNR := Lib.hid (new_reader w5 eb (.slice (some ⟨g, off + 18, none⟩) 494 (cap - 18)) (b.drop 18) (by
          have := sub_bytes (HV.out.fr HF5.out (fun _ _ _ _ h => h)) HB.out 18 494 (by omega) (cap - 18) (by omega)
          rwa [List.take_of_length_le (by omega)] at this) (fun e => by rw [e] at hll; simp at hll) (by omega))
        have HLL := Lib.hid hll
        clear h0 hnum hnum' HD1 hd2 hll
        go_wp2_with fail
        refine HNU.out.mono ?_
        rintro e w6 ⟨rfl, rfl⟩
        go_wp2_with fail
        refine HNR.out.mono ?_
        rintro e w7 ⟨r2, g2, cap5, rfl, hrd, hr2, hg2, hf7⟩
        have HRD := Lib.hid hrd
        have hg2l : g2 < w7.heap.size := by
          have hc := hrd.row 0 _ (by rw [List.getElem?_map, List.getElem?_eq_getElem (show 0 < (b.drop 18).length by rw [HLL.out]; decide)]; rfl)
          exact World.block_lt_of_cell? _ _ hc
        have hr2w : w.heap.size ≤ r2 := by have := HF5.out.size; omega
        have hg2w : w.heap.size ≤ g2 := by have := HF5.out.size; omega
        have HF7 := Lib.hid (Fr.trans HF5.out hf7)
        have hr2l := World.block_lt_of_cell? _ _ (cell_at hrd.cells 0 : w7.cell? ⟨r2, 0, none⟩ = _)
        simp only at hr2l
        clear hrd hf7 HNR HNU HF5 HVG v10 v11 hcv
        go_wp2_with fail
        have hKr : K ≤ r2 := by have := HG.out.size; omega
        have HVG := Lib.hid (HG.out.fr HF7.out (fun _ h => h.elim))
        obtain ⟨i0, hi, hi0, hi1, hi2⟩ := info_parts infoSl
        go_loopw [9, 10, 56] (fun v9 _ vi wr => ∃ (k : Nat) (rs : List (List UInt8)) (l' : List UInt8) (off' cap' : Nat), k ≤ n ∧ vi = .int .i64 (k : Int) ∧ RecsNew wr w7.heap.size v9 rs ∧ RdAt wr eb r2 g2 off' cap' l' none ∧ l'.length ≤ 494 ∧ SoFar n (b.drop 18) k rs l' ∧ Fr (fun b => b = r2) w7 wr) (fun _ _ vi _ => n - (intOf vi).toNat)
        case atStart => exact ⟨0, [], _, 0, cap5, Nat.zero_le _, rfl, RecsNew.nil _ _, HRD.out, by rw [HLL.out]; exact Nat.le_refl _, SoFar.start _ _, Fr.refl _ _⟩
        case round =>
          obtain ⟨k, rs, l', off', cap', hk, rfl, hrecs, hrd, hl', hso, hF⟩ := hrel
          obtain ⟨vs, hvl, hvo, hve⟩ := hrecs
          obtain ⟨o9, c9, hv9⟩ := (ownsRow_slice hvo).form
          subst hv9
          have hGr : Glob wr K eb S := HVG.out.fr hF (fun b hb => by subst hb; exact hKr)
          have HVL := Lib.hid hvl
          have HVO := Lib.hid hvo
          have HVE := Lib.hid hve
          have HSO := Lib.hid hso
          have HFR := Lib.hid hF
          have hszr := hF.size
          have HTX := Lib.hid (reader_Text wr K eb S hGr r2 g2 off' cap' hKr l' hrd (by omega))
          have HGR := Lib.hid hGr
          have HRDW := Lib.hid hrd
          clear hvl hvo hve hso hF hrd hGr HRD
          by_cases hlt : k < n
          · go_wp2_with fail
            refine HTX.out.mono ?_
            rintro e w8 ⟨s8, rfl, hf8, htx⟩
            have HF8 := Lib.hid hf8
            have hG8 : Glob w8 K eb S := HGR.out.fr hf8 (fun b hb => by subst hb; exact hKr)
            have v10 : w8.cell? ⟨9, 0, none⟩ = some (.iface 169 (.pointer (some (eb .form)))) := hG8.var .form rfl
            have e2 := neq_er
            have e3 := neq_nilE
            have hFF : Fr (fun _ => False) w w8 := fr_step (Fr.trans' HF7.out HFR.out (fun i hi e => by omega)) hf8 hr2w
            have HFF := Lib.hid hFF
            clear hf8 hG8 hFF HTX HGR
            rcases htx with ⟨hnone, hs8, off8, cap8, hrd8⟩ | ⟨t, l2, hsome, hs8, off8, cap8, hrd8⟩
            · have HER := Lib.hid (reader_Err w8 eb r2 g2 off8 cap8 l' (some .short) hrd8)
              rw [show erV eb (some .short) = .iface 169 (.pointer (some (eb .short))) from rfl] at HER
              have HD := Lib.hid (show decodeB b = .inl .form from by rw [HD2.out, HSO.out.bad hlt (fun m => textsOf_none m hnone)])
              clear hrd8 hnone hs8
              go_wp2_with fail
              refine HER.out.mono ?_
              rintro e w9 ⟨rfl, rfl⟩
              go_wp2_with fail
              go_quiet (fail)
              go_wp2_with fail
              refine bodyPost_ret (v := .tuple #[.int .u64 0, .slice none 0 0, .iface 169 (.pointer (some (eb .form)))]) (by simp [results, Tryz.results63, go_sem]) rfl ⟨?_, .inl ⟨.form, HD.out, rfl⟩⟩
              exact HFF.out.drewN _
            · have HER := Lib.hid (reader_Err w8 eb r2 g2 off8 cap8 l2 none hrd8)
              rw [show erV eb none = .nilIface from rfl] at HER
              have hsz8 : s8.size = t.length := by rw [hs8]; simp [ByteArray.size]
              by_cases h200 : 200 < t.length
              · have hgt : decide ((200 : Int) < (s8.size : Int)) = true := decide_eq_true (by rw [hsz8]; exact Int.ofNat_lt.mpr h200)
                have hgt2 : (200 : Int) < (s8.size : Int) := by simpa using hgt
                have HD := Lib.hid (show decodeB b = .inl .form from by rw [HD2.out, HSO.out.bad hlt (fun m => textsOf_long m hsome h200)])
                clear hrd8 hsome hs8 hsz8 h200
                go_wp2_with fail
                refine HER.out.mono ?_
                rintro e w9 ⟨rfl, rfl⟩
                go_wp2_with fail
                go_quiet (fail)
                go_wp2_with fail
                refine bodyPost_ret (v := .tuple #[.int .u64 0, .slice none 0 0, .iface 169 (.pointer (some (eb .form)))]) (by simp [results, Tryz.results63, go_sem]) rfl ⟨?_, .inl ⟨.form, HD.out, rfl⟩⟩
                exact HFF.out.drewN _
              · have hgt2 : ¬ (200 : Int) < (s8.size : Int) := by rw [hsz8]; omega
                have hgt : decide ((200 : Int) < (s8.size : Int)) = false := decide_eq_false hgt2
                have hrecs8 : RecsNew w8 w7.heap.size (.slice o9 rs.length c9) rs := RecsNew.fr ⟨vs, HVL.out, HVO.out, HVE.out⟩ HF8.out (fun b hb _ e => by omega)
                obtain ⟨vs8, hvl8, hvo8, hve8⟩ := hrecs8
                obtain ⟨ct, wc, hcv, hbc, hfc, hsc⟩ := conv_str w8 t
                rw [← hs8] at hcv
                have HVL8 := Lib.hid hvl8
                have HVO8 := Lib.hid hvo8
                have HVE8 := Lib.hid hve8
                have HBC := Lib.hid hbc
                have HFC := Lib.hid hfc
                have HSC := Lib.hid hsc
                have HRD8 := Lib.hid hrd8
                have HSOM := Lib.hid hsome
                have HVOc := Lib.hid (ownsRow_keep hvo8 (fun q hq => hfc.block q (hvo8.lt q hq).2 (fun h => h)))
                have hz8 : w7.heap.size ≤ w8.heap.size := by have := HF8.out.size; omega
                have hzc : w7.heap.size ≤ wc.heap.size := by omega
                have hrsl : (rs.length : Int) ≤ 65536 := by have := HSO.out.1; omega
                have HNSO := Lib.hid (HSO.out.next hlt hsome h200)
                clear hrd8 hsome hs8 hsz8 h200 hvl8 hvo8 hve8 hbc hfc hsc HVL HVO HVE
                have hnew := Lib.hid (fun (o : Obj) => heap_alloc_new wc o)
                go_wp2_with (first
                  | (go_at_call 94; refine HER.out.mono ?_; rintro e w9 ⟨rfl, rfl⟩)
                  | (at_builtin; refine wpList_append_own_at _ rfl (.tmp 69) (.tmp 72) 40 rfl w7.heap.size 38 i0 _ 1 24 Tryz.underlying40 hi hi0 hi1 hi2 rfl (by decide) (.slice o9 rs.length c9) rs.length _ rfl (HVOc.out.alloc _) ⟨wc.heap.size, 0, none⟩ 1 1 [.slice (some ⟨w9.heap.size, 0, none⟩) t.length ct] rfl rfl (World.news_of_block (hnew.out _)) (by simp [Value.oneCell']) (by unfold maxLen; omega) (by omega) (by simp; omega) ?_; intro v10' w10 hown10 hgrow10 hnil10 hat10; have HO10 := Lib.hid hown10; have HG10 := Lib.hid hgrow10; have HA10 := Lib.hid hat10; clear hown10 hgrow10 hnil10 hat10))
                have hnb : ∀ i, i < w7.heap.size → ¬ (Value.slice o9 rs.length c9).ownBlock = some i := fun i hi e => by have := (HVO8.out.lt i e).1; omega
                have hfin : Fr (fun i => (Value.slice o9 rs.length c9).ownBlock = some i) w9 w10 := ((HFC.out.mono (fun _ _ h => h.elim)).alloc _).grown HG10.out (fun i hi _ => hi)
                refine ⟨⟨k + 1, rs ++ [t], l2, off8, cap8, by omega, by go_num, ?_, HRD8.out.fr hfin (hnb r2 hr2l) (hnb g2 hg2l), ?_, HNSO.out, ?_⟩, by simp [intOf]; omega⟩
                · refine RecsNew.push (w := w9) HVL8.out HVE8.out (HFC.out.alloc _) (.slice (some ⟨w9.heap.size, 0, none⟩) t.length ct) t (HBC.out.fr ((Fr.refl (fun _ => False) _).alloc _) (fun _ _ _ _ h => h)) ?_ HG10.out (by simpa using HO10.out) HA10.out
                  intro a n c e
                  cases e
                  refine ⟨hz8, ?_, fun q => ?_⟩
                  · have := HSC.out; simp; omega
                  · have := (HVO8.out.lt _ q).2; simp only at this; omega
                · obtain ⟨_, ⟨m, hm⟩, _⟩ := HNSO.out
                  rw [hm, List.length_drop, HLL.out]; omega
                · exact Fr.trans' (Fr.trans HFR.out HF8.out) hfin (fun i hi e => absurd e (hnb i hi))
          · have hkk : k = n := by omega
            subst hkk
            have HD := Lib.hid (show decodeB b = if l'.all (· == 0) then .inr (first, rs) else .inl .form from by rw [HD2.out, HSO.out.done])
            have HLE := Lib.hid (reader_Left wr eb r2 g2 off' cap' l' none HRDW.out)
            obtain ⟨st, hst⟩ : ∃ st : Nat, st = 512 - l'.length := ⟨_, rfl⟩
            have hsub : (512 : Int) - (l'.length : Int) = (st : Int) := by omega
            have hst18 : 18 ≤ st := by omega
            have hst512 : st ≤ 512 := by omega
            have hrest : b.drop st = l' := by
              obtain ⟨_, ⟨m, hm⟩, _⟩ := HSO.out
              have hlm : l'.length = 494 - m := by rw [hm, List.length_drop, HLL.out]
              by_cases hmm : m ≤ 494
              · rw [hst, hlm, hm, List.drop_drop]; congr 1; omega
              · rw [List.drop_of_length_le (by rw [HB.out]; omega), hm, List.drop_of_length_le (by rw [HLL.out]; omega)]
            have hFw : Fr (fun _ => False) w wr := Fr.trans' HF7.out HFR.out (fun i hi e => by omega)
            have HFW := Lib.hid hFw
            have HRN := Lib.hid (RecsNew.base (B' := w.heap.size) (show RecsNew wr w7.heap.size (.slice o9 rs.length c9) rs from ⟨vs, HVL.out, HVO.out, HVE.out⟩) (by have := HF7.out.size; omega))
            have hbr := HV.out.fr hFw (fun _ _ _ _ h => h)
            obtain ⟨s9, hs9⟩ : ∃ s9 : ByteArray, s9 = ⟨l'.toArray⟩ := ⟨_, rfl⟩
            have HTR := Lib.hid (Tryz.strings_Trim_one s9 0 (by decide) wr (by rw [hs9]; simp only [ByteArray.size, List.size_toArray]; omega))
            obtain ⟨s10, hs10⟩ : ∃ s10 : ByteArray, s10 = ⟨(Lib.trimB s9.data.toList 0).toArray⟩ := ⟨_, rfl⟩
            rw [← hs10] at HTR
            have hemp : s10.toList.isEmpty = l'.all (· == 0) := by rw [hs10, ByteArray.toList_mk, hs9]; exact trim_zero l'
            have v10 : wr.cell? ⟨9, 0, none⟩ = some (.iface 169 (.pointer (some (eb .form)))) := HGR.out.var .form rfl
            have hcv2 : ∀ c o, (c = cap - st ∧ o = off + st) ∨ (l' = [] ∧ st = 512) → (convert 38 9 (.slice (some ⟨g, o, none⟩) (512 - st) c)).run Tryz.prog wr = .ok (.string s9) wr := by
              rintro c o (⟨rfl, rfl⟩ | ⟨hq, hq2⟩)
              · rw [hs9]
                refine conv_bytes ?_
                have := sub_bytes hbr HB.out st (512 - st) (by omega) (cap - st) (by omega)
                rwa [hrest, List.take_of_length_le (by omega)] at this
              · rw [hs9, hq, hq2]
                exact conv_bytes (.inr ⟨⟨g, o, none⟩, c, rfl, Nat.zero_le _, by simp, fun j u hu => by simp at hu⟩)
            by_cases hcs : cap = st
            · have hst5 : st = 512 := by omega
              have hln : l' = [] := List.eq_nil_of_length_eq_zero (by omega)
              have hcv3 := hcv2 0 off (.inr ⟨hln, hst5⟩)
              have hz : l'.all (· == 0) = true := by rw [hln]; rfl
              rw [hz] at hemp HD
              clear hcv2 hbr HVL HVO HVE HSO HRDW HTX HGR hrest hst hs9 hs10 hln hz
              subst hst5
              have hc512 : cap = 512 := hcs
              subst hc512
              clear hcs
              go_wp2_with fail
              refine HLE.out.mono ?_
              rintro e w9 ⟨rfl, rfl⟩
              go_wp2_with fail
              refine HTR.out.mono ?_
              rintro e w10 ⟨rfl, hw⟩
              rcases hw with rfl | rfl
              all_goals
                go_wp2_with fail
                refine bodyPost_ret (v := .tuple #[.int .u64 (first : Nat), .slice o9 rs.length c9, .nilIface]) (by simp [results, Tryz.results63, go_sem]) rfl ⟨?_, .inr ⟨first, rs, _, by rw [HD.out]; rfl, rfl, ?_⟩⟩
              · exact HFW.out
              · exact HRN.out
              · exact HFW.out.drew
              · exact HRN.out.fr ((Fr.refl (fun _ => False) _).drew) (fun _ _ _ h => h)
            · have hcs2 : (st : Int) < cap := by omega
              have hcv3 := hcv2 (cap - st) (off + st) (.inl ⟨rfl, rfl⟩)
              clear hcv2 hbr HVL HVO HVE HSO HRDW HTX HGR hrest hst hs9 hs10
              cases hz : l'.all (· == 0) with
              | true =>
                rw [hz] at hemp
                rw [hz] at HD
                go_wp2_with fail
                refine HLE.out.mono ?_
                rintro e w9 ⟨rfl, rfl⟩
                go_wp2_with fail
                refine HTR.out.mono ?_
                rintro e w10 ⟨rfl, hw⟩
                rcases hw with rfl | rfl
                all_goals
                  go_wp2_with fail
                  refine bodyPost_ret (v := .tuple #[.int .u64 (first : Nat), .slice o9 rs.length c9, .nilIface]) (by simp [results, Tryz.results63, go_sem]) rfl ⟨?_, .inr ⟨first, rs, _, by rw [HD.out]; rfl, rfl, ?_⟩⟩
                · exact HFW.out
                · exact HRN.out
                · exact HFW.out.drew
                · exact HRN.out.fr ((Fr.refl (fun _ => False) _).drew) (fun _ _ _ h => h)
              | false =>
                rw [hz] at hemp
                rw [hz] at HD
                go_wp2_with fail
                refine HLE.out.mono ?_
                rintro e w9 ⟨rfl, rfl⟩
                go_wp2_with fail
                refine HTR.out.mono ?_
                rintro e w10 ⟨rfl, hw⟩
                rcases hw with rfl | rfl
                all_goals
                  go_wp2_with fail
                  go_quiet (fail)
                  go_wp2_with fail
                  refine bodyPost_ret (v := .tuple #[.int .u64 0, .slice none 0 0, .iface 169 (.pointer (some (eb .form)))]) (by simp [results, Tryz.results63, go_sem]) rfl ⟨?_, .inl ⟨.form, by rw [HD.out]; rfl, rfl⟩⟩
                · exact HFW.out.drewN _
                · exact HFW.out.drew.drewN _
  · have hq : ((told : Int) == (sm : Int)) = false := by rw [beq_eq_false_iff_ne]; omega
    have hd : decodeB b = .inl .sum := by rw [HDEC.out, if_pos ht]
    have HD := Lib.hid hd
    clear hd ht
    go_wp2_with fail
    go_quiet (fail)
    go_wp2_with fail
    refine bodyPost_ret (v := .tuple #[.int .u64 0, .slice none 0 0, .iface 169 (.pointer (some (eb .sum)))]) (by simp [results, Tryz.results63, go_sem]) rfl ⟨?_, .inl ⟨.sum, HD.out, rfl⟩⟩
    exact HF5.out.drewN _
theorem block_decode (w : World) (K : Nat) (eb : Er → Addr) (S : Er → Bool) (G : Glob w K eb S) (hT : Tab w K) (g off cap : Nat) (hcap : 512 ≤ cap) (b : List UInt8) (hv : BytesAt w (.slice (some ⟨g, off, none⟩) 512 cap) b) (hb : b.length = 512) :
    Calls Tryz.prog 63 #[.slice (some ⟨g, off, none⟩) 512 cap] w fun e w' => DecPost w w' eb b e := by
  by_cases hm : b.take 4 = magicB
  · exact decode_rest w K eb S G hT g off cap hcap b hv hb hm
  · refine (decode_magic w K eb S G g off cap hcap b hv hb hm).mono ?_
    rintro e w' ⟨rfl, hf⟩
    exact ⟨hf, .inl ⟨.form, by unfold decodeB; rw [if_pos hm], rfl⟩⟩
end Go.Proofs.YtabfcciejhbajaaGreatDoor
