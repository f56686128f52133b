/-
  A segment's name, and whether a number may be a segment's first. Conditions: the table of trailing zeros lies there.
  A segment in memory, and its small methods. Conditions: the segment lies in memory as SegAt says.
  segment.Create. Conditions: the disk lies in memory as DiskAt says; the number may be a first.
-/
import Derived.Test.YtabfcciejhbajaaGreatDoorM13
import Derived.Test.YtabfcciejhbajaaGreatDoorPlain
import Derived.Test.YtabfcciejhbajaaGreatDoorM08
namespace Go.Proofs.YtabfcciejhbajaaGreatDoor
open Go Go.RowKit

/-- what the walks read of the package-level variables -/
structure Env (w : World) (K : Nat) (eb : Er → Addr) (S : Er → Bool) : Prop where
  G : Glob w K eb S
  T : Tab w K
  Z : w.cell? ⟨16, 15, none⟩ = some (.int .u8 4)
  zlt : 16 < K
theorem Env.fr {T : Nat → Prop} {w w' : World} {K : Nat} {eb : Er → Addr} {S : Er → Bool} (E : Env w K eb S) (hf : Fr T w w') (hT : ∀ b, T b → K ≤ b) : Env w' K eb S :=
  ⟨E.G.fr hf hT, E.T.fr hf hT, (hf.cell (Nat.lt_of_lt_of_le E.zlt E.G.size) (fun h => by have := hT _ h; have := E.zlt; simp only at *; omega)).trans E.Z, E.zlt⟩
theorem hexB_lead (d k x : Nat) (hx : x < 16 ^ k) : hexB (k + d) x = List.replicate d 48 ++ hexB k x := by
  induction d with
  | zero => rfl
  | succ d ih =>
    rw [← Nat.add_assoc, hexB, ih, Nat.div_eq_of_lt (Nat.lt_of_lt_of_le hx (Nat.pow_le_pow_right (by omega) (by omega)))]
    rfl
theorem repeat48 (c : Nat) : Lib.repeatL [48] c = List.replicate c 48 := by
  induction c with
  | zero => rfl
  | succ c ih => simp [Lib.repeatL, ih, List.replicate_succ]
def nameL (first : Nat) : List UInt8 := [108, 111, 103, 46] ++ hexB 16 first
def nameB (first : Nat) : ByteArray := ⟨(nameL first).toArray⟩
theorem nameB_size (first : Nat) : (nameB first).size = 20 := by
  show (nameL first).toArray.size = 20
  simp [nameL, hexB_length]
theorem nameB_good (first : Nat) : goodName (nameB first) = true := by unfold goodName; rw [nameB_size]; decide
set_option maxRecDepth 100000 in
theorem strconv_format (w : World) (x : Nat) (hx : x < 18446744073709551616) (hz : w.cell? ⟨16, 15, none⟩ = some (.int .u8 4)) (hg : 16 < w.heap.size) :
    Calls Tryz.prog 36 #[.int .u64 x, .int .i64 16] w fun e w' => ∃ k, x < 16 ^ (k + 1) ∧ k ≤ 15 ∧ e = .returned (.string ⟨(hexB (k + 1) x).toArray⟩) ∧ Fr (fun _ => False) w w' := by
  have HF := Lib.hid (format_bits w x hx hz hg)
  clear hz hx hg
  go_enter Tryz.func36, Tryz.ntmps36
  go_wp2_with fail
  refine HF.out.mono ?_
  rintro e w1 ⟨k, hk, hk2, rfl, hfr⟩
  have HK := Lib.hid hk
  have HR := Lib.hid hfr
  clear hk hfr HF
  go_wp2_with fail
  go_ret
  exact ⟨k, HK.out, hk2, rfl, HR.out⟩
set_option maxRecDepth 100000 in
theorem strconv_format2 (w : World) (x : Nat) (hx : x < 18446744073709551616) (hz : w.cell? ⟨16, 15, none⟩ = some (.int .u8 4)) (hg : 16 < w.heap.size) :
    Calls Tryz.prog 21 #[.int .u64 x, .int .i64 16] w fun e w' => ∃ k, x < 16 ^ (k + 1) ∧ k ≤ 15 ∧ e = .returned (.string ⟨(hexB (k + 1) x).toArray⟩) ∧ Fr (fun _ => False) w w' := by
  have HF := Lib.hid (strconv_format w x hx hz hg)
  clear hz hx hg
  go_enter Tryz.func21, Tryz.ntmps21
  go_wp2_with fail
  refine HF.out.mono ?_
  rintro e w1 ⟨k, hk, hk2, rfl, hfr⟩
  have HK := Lib.hid hk
  have HR := Lib.hid hfr
  clear hk hfr HF
  go_wp2_with fail
  go_ret
  exact ⟨k, HK.out, hk2, rfl, HR.out⟩
set_option maxRecDepth 100000 in
set_option maxHeartbeats 1000000 in
theorem seg_name (w : World) (K : Nat) (eb : Er → Addr) (S : Er → Bool) (E : Env w K eb S) (x : Nat) (hx : x < 18446744073709551616) :
    Calls Tryz.prog 7 #[.int .u64 x] w fun e w' => e = .returned (.string (nameB x)) ∧ Fr (fun _ => False) w w' := by
  have HF := Lib.hid (strconv_format2 w x hx E.Z (Nat.lt_of_lt_of_le E.zlt E.G.size))
  clear E hx
  go_enter Tryz.func7, Tryz.ntmps7
  go_wp2_with fail
  refine HF.out.mono ?_
  rintro e w1 ⟨k, hk, hk2, rfl, hfr⟩
  have HK := Lib.hid hk
  have HR := Lib.hid hfr
  obtain ⟨s, hs⟩ : ∃ s : ByteArray, s = ⟨(hexB (k + 1) x).toArray⟩ := ⟨_, rfl⟩
  have hss : s.size ≤ 16 := by rw [hs]; show (hexB (k + 1) x).toArray.size ≤ _; simp [hexB_length]; omega
  have hsz : s.size = k + 1 := by rw [hs]; show (hexB (k + 1) x).toArray.size = _; simp [hexB_length]
  obtain ⟨c, hc⟩ : ∃ c : Nat, c = 15 - k := ⟨_, rfl⟩
  rw [← hs]
  have HS := Lib.hid hs
  have HC := Lib.hid hc
  have hsub : (16 : Int) - (s.size : Int) = (c : Int) := by rw [hsz]; omega
  have HP := Lib.hid (Tryz.strings_Repeat ⟨#[48]⟩ c w1 (by omega) (by show 1 * c ≤ _; omega))
  have hc16 : c ≤ 16 := by omega
  clear hk hfr HF hs hc hsz
  go_wp2_with fail
  refine HP.out.mono ?_
  rintro e w2 ⟨rfl, hb⟩
  have HB := Lib.hid (Fr.below hb)
  clear hb HP
  obtain ⟨z, hz⟩ : ∃ z : ByteArray, z = ⟨(Lib.repeatL [48] c).toArray⟩ := ⟨_, rfl⟩
  rw [show (⟨(Lib.repeatL (⟨#[48]⟩ : ByteArray).data.toList c).toArray⟩ : ByteArray) = z from hz.symm]
  have hzs : z.size ≤ 16 := by rw [hz]; show (Lib.repeatL [48] c).toArray.size ≤ _; simp [Lib.repeatL_length]; omega
  have hzs2 : ((⟨#[108, 111, 103, 46]⟩ : ByteArray) ++ z).size ≤ 20 := by rw [ByteArray.size_append]; show 4 + z.size ≤ 20; omega
  have HZ := Lib.hid hz
  clear hz
  go_wp2_with fail
  go_ret
  refine ⟨?_, Fr.trans HR.out HB.out⟩
  have e : (⟨#[108, 111, 103, 46]⟩ : ByteArray) ++ z ++ s = nameB x := by
    apply ByteArray.ext
    rw [ByteArray.data_append, ByteArray.data_append, HZ.out, HS.out]
    apply Array.ext'
    have h := hexB_lead c (k + 1) x HK.out
    rw [show k + 1 + c = 16 from by have := HC.out; omega] at h
    simp only [nameB, nameL, Array.toList_append, h, repeat48]
    simp
  exact retv (by show Value.string _ = _; rw [e])
end Go.Proofs.YtabfcciejhbajaaGreatDoor

namespace Go.Proofs.YtabfcciejhbajaaGreatDoor
open Go Go.RowKit

/-- an open segment -/
structure ASeg where
  name : ByteArray
  next : Nat
  blocks : Nat
  whole : Bool
  sick : Bool
/-- how it lies in memory -/
def SegAt (w : World) (bd bs : Nat) (s : ASeg) : Prop :=
  w.heap[bs]? = some (.cells #[.pointer (some ⟨bd, 0, none⟩), .string s.name, .int .u64 (s.next : Nat), .int .i64 (s.blocks : Nat), .bool s.whole, .bool s.sick] 57 (0, 0))
theorem SegAt.lt {w : World} {bd bs : Nat} {s : ASeg} (h : SegAt w bd bs s) : bs < w.heap.size := (Array.getElem?_eq_some_iff.1 h).1
theorem SegAt.fr {w w' : World} {bd bs : Nat} {s : ASeg} {T : Nat → Prop} (h : SegAt w bd bs s) (hf : Fr T w w') (hT : ¬ T bs) : SegAt w' bd bs s := (hf.block bs h.lt hT).trans h
set_option maxRecDepth 100000 in
theorem seg_next {w : World} {bd bs : Nat} {s : ASeg} (h : SegAt w bd bs s) :
    Calls Tryz.prog 11 #[.pointer (some ⟨bs, 0, none⟩)] w fun e w' => e = .returned (.int .u64 (s.next : Nat)) ∧ w' = w := by
  have c2 : w.cell? ⟨bs, 2, none⟩ = some (.int .u64 (s.next : Nat)) := cell_at h 2
  clear h
  go_enter Tryz.func11, Tryz.ntmps11
  go_wp2
  go_ret
  exact ⟨rfl, rfl⟩
set_option maxRecDepth 100000 in
theorem seg_blocks {w : World} {bd bs : Nat} {s : ASeg} (h : SegAt w bd bs s) :
    Calls Tryz.prog 12 #[.pointer (some ⟨bs, 0, none⟩)] w fun e w' => e = .returned (.int .i64 (s.blocks : Nat)) ∧ w' = w := by
  have c2 : w.cell? ⟨bs, 3, none⟩ = some (.int .i64 (s.blocks : Nat)) := cell_at h 3
  clear h
  go_enter Tryz.func12, Tryz.ntmps12
  go_wp2
  go_ret
  exact ⟨rfl, rfl⟩
set_option maxRecDepth 100000 in
theorem seg_whole {w : World} {bd bs : Nat} {s : ASeg} (h : SegAt w bd bs s) :
    Calls Tryz.prog 13 #[.pointer (some ⟨bs, 0, none⟩)] w fun e w' => e = .returned (.bool s.whole) ∧ w' = w := by
  have c2 : w.cell? ⟨bs, 4, none⟩ = some (.bool s.whole) := cell_at h 4
  clear h
  go_enter Tryz.func13, Tryz.ntmps13
  go_wp2
  go_ret
  exact ⟨rfl, rfl⟩
/-- whether a number may be a segment's first -/
def goodB (first : Nat) : Bool := decide (1 ≤ first ∧ first ≤ 4611686018427387904)
set_option maxRecDepth 100000 in
theorem seg_good (w : World) (first : Nat) : Calls Tryz.prog 19 #[.int .u64 first] w fun e w' => e = .returned (.bool (goodB first)) ∧ w' = w := by
  have e1 : goodB first = decide (1 ≤ (first : Int) ∧ (first : Int) ≤ 4611686018427387904) := by unfold goodB; congr 1; simp; omega
  generalize goodB first = b at *
  by_cases h1 : 1 ≤ (first : Int)
  · by_cases h2 : (first : Int) ≤ 4611686018427387904
    · have HB := Lib.hid (show b = true from by rw [e1]; exact decide_eq_true ⟨h1, h2⟩)
      clear e1
      go_enter Tryz.func19, Tryz.ntmps19
      go_wp2
      go_ret
      exact ⟨by rw [HB.out]; rfl, rfl⟩
    · have HB := Lib.hid (show b = false from by rw [e1]; exact decide_eq_false (fun h => h2 h.2))
      clear e1
      go_enter Tryz.func19, Tryz.ntmps19
      go_wp2
      go_ret
      exact ⟨by rw [HB.out]; rfl, rfl⟩
  · have HB := Lib.hid (show b = false from by rw [e1]; exact decide_eq_false (fun h => h1 h.1))
    clear e1
    go_enter Tryz.func19, Tryz.ntmps19
    go_wp2
    go_ret
    exact ⟨by rw [HB.out]; rfl, rfl⟩
/-- what is wrong with a number, the disk being there -/
def checkE (first : Nat) : Option Er := if goodB first = true then none else some .arg
set_option maxRecDepth 100000 in
theorem seg_check (w : World) (K : Nat) (eb : Er → Addr) (S : Er → Bool) (G : Glob w K eb S) (bd first : Nat) :
    Calls Tryz.prog 24 #[.pointer (some ⟨bd, 0, none⟩), .int .u64 first] w fun e w' => e = .returned (erV eb (checkE first)) ∧ w' = w := by
  have v4 : w.cell? ⟨2, 0, none⟩ = some (.iface 169 (.pointer (some (eb .arg)))) := G.var .arg rfl
  have HG := Lib.hid (seg_good w first)
  unfold checkE
  clear G
  cases hg : goodB first with
  | true =>
    rw [hg] at HG
    clear hg
    go_enter Tryz.func24, Tryz.ntmps24
    go_wp2_with fail
    refine HG.out.mono ?_
    rintro e w1 ⟨rfl, rfl⟩
    go_wp2_with fail
    go_ret
    exact ⟨rfl, rfl⟩
  | false =>
    rw [hg] at HG
    clear hg
    go_enter Tryz.func24, Tryz.ntmps24
    go_wp2_with fail
    refine HG.out.mono ?_
    rintro e w1 ⟨rfl, rfl⟩
    go_wp2_with fail
    go_ret
    exact ⟨rfl, rfl⟩
theorem SegAt.set {w : World} {bd bs : Nat} {s s' : ASeg} {i : Nat} {v : Value} (h : SegAt w bd bs s)
    (he : #[.pointer (some ⟨bd, 0, none⟩), .string s'.name, .int .u64 (s'.next : Nat), .int .i64 (s'.blocks : Nat), .bool s'.whole, .bool s'.sick] = (#[.pointer (some ⟨bd, 0, none⟩), .string s.name, .int .u64 (s.next : Nat), .int .i64 (s.blocks : Nat), .bool s.whole, .bool s.sick] : Array Value).setIfInBounds i v) :
    SegAt (w.setCell ⟨bs, i, none⟩ v) bd bs s' := by
  unfold SegAt
  rw [he]
  exact heap_setCell_at h i v
set_option maxRecDepth 100000 in
theorem seg_met {w : World} {eb : Er → Addr} {bd bs : Nat} {s : ASeg} (h : SegAt w bd bs s) (x : Option Er) :
    Calls Tryz.prog 28 #[.pointer (some ⟨bs, 0, none⟩), erV eb x] w fun e w' => e = .returned (erV eb x) ∧ w' = w.setCell ⟨bs, 5, none⟩ (.bool (s.sick || x.isSome)) := by
  have c5 : w.cell? ⟨bs, 5, none⟩ = some (.bool s.sick) := cell_at h 5
  have f5 : w.frozen? ⟨bs, 5, none⟩ = false := free_at h 5
  have hl := h.lt
  have e2 := neq_er
  have e3 := neq_nilE
  clear h
  generalize s.sick = b at *
  cases b <;> cases x
  · rw [show erV eb none = .nilIface from rfl]
    go_enter Tryz.func28, Tryz.ntmps28
    go_wp2
    go_ret
    exact ⟨rfl, rfl⟩
  · rename_i x
    rw [show erV eb (some x) = .iface 169 (.pointer (some (eb x))) from rfl]
    go_enter Tryz.func28, Tryz.ntmps28
    go_wp2
    go_ret
    exact ⟨rfl, rfl⟩
  · rw [show erV eb none = .nilIface from rfl]
    go_enter Tryz.func28, Tryz.ntmps28
    go_wp2
    go_ret
    exact ⟨rfl, rfl⟩
  · rename_i x
    rw [show erV eb (some x) = .iface 169 (.pointer (some (eb x))) from rfl]
    go_enter Tryz.func28, Tryz.ntmps28
    go_wp2
    go_ret
    exact ⟨rfl, rfl⟩
end Go.Proofs.YtabfcciejhbajaaGreatDoor

namespace Go.Proofs.YtabfcciejhbajaaGreatDoor
open Go Go.RowKit

/-- an operation that answers none was done -/
theorem op_none {D : ADisk} {ref : Option Er} {waits part : Bool} {f : ADisk → ADisk → Prop} {g : Int → ADisk → ADisk → Prop} {D' : ADisk} (he : opE D ref = none) (h : OpR D ref waits part f g D') :
    D.down = false ∧ ref = none ∧ D.arm.2 = none ∧ f D.tick D' := by
  unfold opE at he
  unfold OpR at h
  split at he
  · cases he
  · rename_i hd
    rw [if_neg hd] at h
    unfold runE at he
    split at he
    · cases he
    · rename_i ha
      unfold RunR at h
      split at h
      · rename_i hq; rw [hq] at ha; cases ha
      · rename_i x y hq; rw [hq] at ha; cases ha
      · rw [if_pos he] at h
        exact ⟨by simpa using hd, he, ha, h⟩
/-- what Create leaves -/
def CreatePost (bd : Nat) (ow : Own) (K : Nat) (w : World) (eb : Er → Addr) (D : ADisk) (first : Nat) (e : Ending) (w' : World) : Prop :=
  (∃ x, opE D (createE D (nameB first)) = some x ∧ e = .returned (.tuple #[.pointer none, erV eb (some x)]) ∧ After bd ow K w (OpR D (createE D (nameB first)) true false (createR (nameB first)) (fun _ _ _ => False)) w') ∨
  (opE D (createE D (nameB first)) = none ∧ ∃ D1, createR (nameB first) D.tick D1 ∧
    ((∃ x, opE D1 none = some x ∧ e = .returned (.tuple #[.pointer none, erV eb (some x)]) ∧ After bd ow K w (OpR D1 none false false (fun D D' => D' = syncNamesD D) (fun _ _ _ => False)) w') ∨
     (opE D1 none = none ∧ ∃ bs ow2, e = .returned (.tuple #[.pointer (some ⟨bs, 0, none⟩), .nilIface]) ∧ DiskAt w' bd (syncNamesD D1.tick) ow2 K ∧ FrO ow w w' ∧ ow.ext ow2 w ∧ SegAt w' bd bs ⟨nameB first, first, 0, true, false⟩ ∧ w.heap.size ≤ bs ∧ ow2 bs = none)))
theorem own_geD {w : World} {bd : Nat} {D : ADisk} {ow : Own} {K : Nat} (h : DiskAt w bd D ow K) : ∀ b, ow.has b → K ≤ b := by obtain ⟨c, hc⟩ := h; exact own_ge hc
theorem After.then {bd : Nat} {ow ow1 : Own} {K : Nat} {w w1 w' : World} {R : ADisk → Prop} (hf : FrO ow w w1) (he : ow.ext ow1 w) (h : After bd ow1 K w1 R w') : After bd ow K w R w' := by
  obtain ⟨D, ow4, h1, h2, h3, h4⟩ := h
  exact ⟨D, ow4, h1, h2, FrO.trans hf h3 he, Own.ext_trans he h4 hf.size⟩
set_option maxRecDepth 100000 in
set_option maxHeartbeats 1000000 in
theorem seg_create {w : World} {bd K : Nat} {eb : Er → Addr} {S : Er → Bool} {D : ADisk} {ow : Own} (hD : DiskAt w bd D ow K) (E : Env w K eb S) (first : Nat) (hg : goodB first = true) (hwl : D.waiting.length ≤ 999999999999) :
    Calls Tryz.prog 10 #[.pointer (some ⟨bd, 0, none⟩), .int .u64 first] w fun e w' => CreatePost bd ow K w eb D first e w' := by
  have hf64 : first < 18446744073709551616 := by unfold goodB at hg; have := of_decide_eq_true hg; omega
  have HC := Lib.hid (seg_check w K eb S E.G bd first)
  rw [show erV eb (checkE first) = .nilIface from by unfold checkE; rw [if_pos hg]; rfl] at HC
  have HN := Lib.hid (seg_name w K eb S E first hf64)
  have HD := Lib.hid hD
  have HE := Lib.hid E
  have HWL := Lib.hid hwl
  clear hD E hg hwl
  go_enter Tryz.func10, Tryz.ntmps10
  go_wp2_with fail
  refine HC.out.mono ?_
  rintro e w1 ⟨rfl, rfl⟩
  go_wp2_with fail
  refine HN.out.mono ?_
  rintro e w2 ⟨rfl, hf2⟩
  have HF2 := Lib.hid hf2
  clear hf2 HN HC
  go_wp2_with fail
  obtain ⟨bs, hbs⟩ : ∃ bs, bs = w2.heap.size := ⟨_, rfl⟩
  have hD3 := (HD.out.out HF2.out (fun _ _ h => h)).alloc (.cells #[.pointer (some ⟨bd, 0, none⟩), .string (nameB first), .int .u64 (first : Nat), .int .i64 0, .bool true, .bool false] 57)
  have hF3 : Fr (fun _ => False) w1 _ := HF2.out.alloc (.cells #[.pointer (some ⟨bd, 0, none⟩), .string (nameB first), .int .u64 (first : Nat), .int .i64 0, .bool true, .bool false] 57)
  have hS3 : SegAt (w2.alloc (.cells #[.pointer (some ⟨bd, 0, none⟩), .string (nameB first), .int .u64 (first : Nat), .int .i64 0, .bool true, .bool false] 57)) bd bs ⟨nameB first, first, 0, true, false⟩ := by
    rw [hbs]; exact (Go.MapKept.heap_alloc w2 _).1
  have hbn : ow bs = none := own_none (HD.out.out HF2.out (fun _ _ h => h)) (by omega)
  have hbw : w1.heap.size ≤ bs := by rw [hbs]; exact HF2.out.size
  rw [← hbs]
  generalize (w2.alloc (.cells #[.pointer (some ⟨bd, 0, none⟩), .string (nameB first), .int .u64 (first : Nat), .int .i64 0, .bool true, .bool false] 57)) = w3 at *
  have HC3 := Lib.hid (disk_create hD3 (HE.out.G.fr hF3 (fun _ h => h.elim)) (nameB first) (by rw [nameB_size]; omega) (by have := HWL.out; omega))
  have HS3 := Lib.hid hS3
  have HF3 := Lib.hid hF3
  have HBN := Lib.hid hbn
  clear hD3 hF3 hS3 hbn hbs
  refine HC3.out.mono ?_
  rintro e w4 ⟨rfl, hA⟩
  have e2 := neq_er
  have e3 := neq_nilE
  cases hop : opE D (createE D (nameB first)) with
  | some x =>
    have HA := Lib.hid hA
    have HOP := Lib.hid hop
    clear hA hop
    rw [show erV eb (some x) = .iface 169 (.pointer (some (eb x))) from rfl]
    go_wp2_with fail
    go_ret2
    exact .inl ⟨x, HOP.out, rfl, After.head (noFr HF3.out) HA.out⟩
  | none =>
    obtain ⟨D1, ow1, hR1, hD1, hfr1, hext1⟩ := hA
    obtain ⟨hdn, href, harm, hcr⟩ := op_none hop hR1
    have hwl1 : D1.waiting.length ≤ 1000000000000 := by
      obtain ⟨b, _, rfl⟩ := hcr
      have := HWL.out
      simp only [createD, ADisk.tick, List.length_append, List.length_singleton]
      omega
    have hE4 := HE.out.fr (Fr.trans (noFr HF3.out) hfr1) (own_geD HD.out)
    have HS4 := Lib.hid (HS3.out.fr hfr1 (fun h => h HBN.out))
    have hbn1 : ow1 bs = none := hext1 bs HS3.out.lt HBN.out
    have HC4 := Lib.hid (disk_syncNames hD1 hE4.G hwl1)
    have HCR := Lib.hid hcr
    have HF1 := Lib.hid hfr1
    have HX1 := Lib.hid hext1
    have HB1 := Lib.hid hbn1
    have HOP := Lib.hid hop
    clear hcr hfr1 hext1 hbn1 hop hwl1 hdn href harm hR1 hE4 hD1
    rw [show erV eb none = .nilIface from rfl]
    go_wp2_with fail
    refine HC4.out.mono ?_
    rintro e w5 ⟨rfl, hA2⟩
    cases hop2 : opE D1 none with
    | some x =>
      have HA2 := Lib.hid hA2
      have HOP2 := Lib.hid hop2
      clear hA2 hop2
      rw [show erV eb (some x) = .iface 169 (.pointer (some (eb x))) from rfl]
      go_wp2_with fail
      go_ret2
      exact .inr ⟨HOP.out, D1, HCR.out, .inl ⟨x, HOP2.out, rfl, After.then (Fr.trans (noFr HF3.out) HF1.out) (fun b hb hn => HX1.out b (Nat.lt_of_lt_of_le hb HF3.out.size) hn) HA2.out⟩⟩
    | none =>
      obtain ⟨D2, ow2, hR2, hD2, hfr2, hext2⟩ := hA2
      obtain ⟨_, _, _, hd2⟩ := op_none hop2 hR2
      subst hd2
      have HD2 := Lib.hid hD2
      have HFR2 := Lib.hid hfr2
      have HX2 := Lib.hid hext2
      have HOP2 := Lib.hid hop2
      clear hD2 hfr2 hext2 hop2 hR2
      rw [show erV eb none = .nilIface from rfl]
      go_wp2_with fail
      go_ret2
      have hx1 : ow.ext ow1 w1 := fun b hb hn => HX1.out b (Nat.lt_of_lt_of_le hb HF3.out.size) hn
      have hf4 : FrO ow w1 w4 := Fr.trans (noFr HF3.out) HF1.out
      exact .inr ⟨HOP.out, D1, HCR.out, .inr ⟨HOP2.out, bs, ow2, rfl, HD2.out, FrO.trans hf4 HFR2.out hx1, Own.ext_trans hx1 HX2.out hf4.size, HS4.out.fr HFR2.out (fun h => h HB1.out), hbw, HX2.out bs HS4.out.lt HB1.out⟩⟩
end Go.Proofs.YtabfcciejhbajaaGreatDoor
