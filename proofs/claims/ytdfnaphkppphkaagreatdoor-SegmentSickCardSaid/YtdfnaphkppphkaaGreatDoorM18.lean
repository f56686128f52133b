/-
  What listed variables give the walks: the sentinels are different pointers, the tables hold their numbers. Conditions: none.
  Arguments as data and as the walks read them: bytes, records, groups of records; the listed variables. Conditions: none.
  What the rows share.
-/
import Derived.Test.YtdfnaphkppphkaaGreatDoorM14
import Derived.LaidLaws
import Derived.Stop.LaidErr
import Derived.Lib.LaidTab
import Derived.ProofKit
import Derived.Test.YtdfnaphkppphkaaGreatDoorM17
import Derived.Deep.Slices
import Derived.Deep.Fields
import Derived.ChangeSame
import Derived.SizedLaws
import Derived.Test.YtdfnaphkppphkaaGreatDoorRows
import Derived.Test.YtdfnaphkppphkaaGreatDoorTie
import Derived.Test.YtdfnaphkppphkaaGreatDoorCards
import Derived.OpenShut
import Derived.Carry
import Derived.Lay
import Derived.MakeChecks
import Derived.LaidMore
import Derived.SevenTiedAt
import Derived.Stop.Joined
namespace Go.Proofs.YtdfnaphkppphkaaGreatDoor
set_option maxRecDepth 100000
open Go Go.RowKit Go.ChangeShapes Go.WideShapes

/-- an error as its initialiser lays it -/
def errD (text : List UInt8) : DataW Unit := .iface "*errors.errorString" (.ptr (.agg [.lit (.string text)]))
theorem cells_es : Tryz.prog.cellsOf 233 = 1 := by kernel_rfl
theorem cells_str : Tryz.prog.cellsOf 9 = 1 := by kernel_rfl
theorem star_es : ("*errors.errorString" : String) = "*" ++ "errors.errorString" := rfl
theorem row_es (u : TypeId) (h : Tryz.prog.typeName? 3 u = some "*errors.errorString") : u = 211 :=
  typeName_ptr_named (nm := "errors.errorString") (by rw [← star_es]; kernel_rfl) (by kernel_rfl) (by decide) u (by rw [← star_es]; exact h)
/-- what the condition says of the places -/
abbrev PlacesOk (W : World) (ps : List MemPlace) : Prop := ∀ b off, MemPlace.cell b off ∈ ps → (∃ c t, W.heap[b]? = some (.cells c t (0, 0))) ∧ ∀ u v, W.cell? ⟨b, off, none⟩ = some (.iface u v) → Value.okWide Tryz.prog W .any 0 u v
theorem sent_head {W : World} {g : Nat} {cs : Array Value} {fuel : Nat} {p : List MemPlace} {n : String} {text : List UInt8} (hg : Tryz.prog.globalNamed n = some g) (hv : W.var? Tryz.prog n = some cs)
    (hd : DataW.trod (fun _ => ()) Tryz.prog W 0 (fun _ => true) false fuel 31 cs.toList = some (errD text, p)) (hok : ∀ b off, MemPlace.cell b off ∈ MemPlace.row ⟨g, 0, none⟩ cs.size → ∀ u v, W.cell? ⟨b, off, none⟩ = some (.iface u v) → Value.okWide Tryz.prog W .any 0 u v) :
    ∃ a : Addr, W.cell? ⟨g, 0, none⟩ = some (ptrE a) ∧ MemPlace.cell a.block a.off ∈ p ∧ a.spot = none := by
  obtain ⟨l⟩ := cs
  have ok0 : ∀ u v, l = [.iface u v] → Value.okWide Tryz.prog W .any 0 u v := fun u v e => by
    subst e
    exact hok g 0 (by simp [MemPlace.row]) u v (by simpa using World.var?_cell hg hv 0)
  obtain ⟨f, hs, ft, fo⟩ : ∃ f : Field, Tryz.prog.underlying 233 = some (.struct #[f]) ∧ f.type = 9 ∧ f.offset = 0 := ⟨_, Tryz.underlying233, rfl, rfl⟩
  obtain ⟨a, s, e, hc, _, _, hp⟩ := errorString_of_trod Tryz.underlying31 row_es Tryz.underlying211 hs ft fo Tryz.underlying9 cells_es cells_str hd ok0
  have hcell := World.var?_cell hg hv 0
  have e' : l = [.iface 211 (.pointer (some a))] := e
  subst e'
  refine ⟨a, by simpa [ptrE] using hcell, ?_, World.cell?_spot hc⟩
  rw [hp]
  simp [MemPlace.row]
theorem sent_one {W : World} {n : String} {text : List UInt8} {g : Nat} (hg : Tryz.prog.globalNamed n = some g) (hty : (Tryz.prog.globals[g]?).map (·.type) = some 31) :
    ∀ {laid : List (String × DataW Unit)} {ps : List MemPlace}, DataW.LaidVars Tryz.prog W laid ps → PlacesOk W ps → (n, errD text) ∈ laid → ∃ a : Addr, W.cell? ⟨g, 0, none⟩ = some (ptrE a) ∧ MemPlace.cell a.block a.off ∈ ps ∧ a.spot = none
  | [], _, _, _, hm => by cases hm
  | (n0, d0) :: r, ps, h, hr, hm => by
    obtain ⟨g0, t0, cs, fuel, p, q, hg0, ht0, hv, hd, hq, rfl⟩ := h
    rcases List.mem_cons.1 hm with e | hm
    · cases e
      obtain rfl := Option.some.inj (hg.symm.trans hg0)
      obtain rfl := Option.some.inj (hty.symm.trans ht0)
      obtain ⟨a, h1, h2, h3⟩ := sent_head hg hv hd (fun b off hb => (hr b off (by simp [hb])).2)
      exact ⟨a, h1, by simp [h2], h3⟩
    · obtain ⟨a, h1, h2, h3⟩ := sent_one hg hty hq (fun b off hb => hr b off (by simp [hb])) hm
      exact ⟨a, h1, by simp [h2], h3⟩
theorem ptrE_inj {a b : Addr} (h : ptrE a = ptrE b) : a = b := by unfold ptrE at h; injection h with _ h; injection h with h; injection h
theorem sent_two {W : World} {n1 n2 : String} {t1 t2 : List UInt8} {g1 g2 : Nat} (hg1 : Tryz.prog.globalNamed n1 = some g1) (hty1 : (Tryz.prog.globals[g1]?).map (·.type) = some 31) (hg2 : Tryz.prog.globalNamed n2 = some g2) (hty2 : (Tryz.prog.globals[g2]?).map (·.type) = some 31)
    (hne : n1 ≠ n2) {a1 a2 : Addr} (c1 : W.cell? ⟨g1, 0, none⟩ = some (ptrE a1)) (c2 : W.cell? ⟨g2, 0, none⟩ = some (ptrE a2)) :
    ∀ {laid : List (String × DataW Unit)} {ps : List MemPlace}, DataW.LaidVars Tryz.prog W laid ps → PlacesOk W ps → ps.Nodup → (n1, errD t1) ∈ laid → (n2, errD t2) ∈ laid → a1 ≠ a2
  | [], _, _, _, _, hm, _ => by cases hm
  | (n0, d0) :: r, ps, h, hr, hnd, hm1, hm2 => by
    obtain ⟨g0, t0, cs, fuel, p, q, hg0, ht0, hv, hd, hq, rfl⟩ := h
    have hrq : PlacesOk W q := fun b off hb => hr b off (by simp [hb])
    rw [List.nodup_append] at hnd
    obtain ⟨_, hndq, hdis⟩ := hnd
    rcases List.mem_cons.1 hm1 with e1 | hm1'
    · rcases List.mem_cons.1 hm2 with e2 | hm2'
      · rw [← e1] at e2; cases e2; exact absurd rfl hne
      · cases e1
        obtain rfl := Option.some.inj (hg1.symm.trans hg0)
        obtain rfl := Option.some.inj (hty1.symm.trans ht0)
        obtain ⟨a, k1, k2, _⟩ := sent_head hg1 hv hd (fun b off hb => (hr b off (by simp [hb])).2)
        obtain ⟨a', k3, k4, _⟩ := sent_one hg2 hty2 hq hrq hm2'
        have x1 := ptrE_inj (Option.some.inj (c1.symm.trans k1))
        have x2 := ptrE_inj (Option.some.inj (c2.symm.trans k3))
        subst x1
        subst x2
        intro e
        exact hdis (.cell a1.block a1.off) (by simp [k2]) (.cell a2.block a2.off) k4 (by rw [e])
    · rcases List.mem_cons.1 hm2 with e2 | hm2'
      · cases e2
        obtain rfl := Option.some.inj (hg2.symm.trans hg0)
        obtain rfl := Option.some.inj (hty2.symm.trans ht0)
        obtain ⟨a, k1, k2, _⟩ := sent_head hg2 hv hd (fun b off hb => (hr b off (by simp [hb])).2)
        obtain ⟨a', k3, k4, _⟩ := sent_one hg1 hty1 hq hrq hm1'
        have x1 := ptrE_inj (Option.some.inj (c2.symm.trans k1))
        have x2 := ptrE_inj (Option.some.inj (c1.symm.trans k3))
        subst x1
        subst x2
        intro e
        exact hdis (.cell a2.block a2.off) (by simp [k2]) (.cell a1.block a1.off) k4 (by rw [e])
      · exact sent_two hg1 hty1 hg2 hty2 hne c1 c2 hq hrq hndq hm1' hm2'
theorem laid_drop {W : World} : ∀ (i : Nat) {laid : List (String × DataW Unit)}, laidMet Tryz.prog laid W → laidMet Tryz.prog (laid.drop i) W
  | 0, _, h => h
  | _ + 1, [], h => h
  | i + 1, _ :: _, h => laid_drop i (laidMet.tail h)
/-- the variable's name in Go -/
def Er.name : Er → String
  | .arg => "turnstile/api.ErrArg" | .short => "turnstile/api.ErrShort" | .form => "turnstile/api.ErrForm" | .long => "turnstile/api.ErrLong" | .sum => "turnstile/api.ErrSum" | .io => "turnstile/api.ErrIo" | .down => "turnstile/api.ErrDown"
  | .gone => "turnstile/api.ErrGone" | .there => "turnstile/api.ErrThere" | .image => "turnstile/api.ErrImage" | .gap => "turnstile/api.ErrGap" | .log => "turnstile/api.ErrLog" | .sick => "turnstile/api.ErrSick" | .config => "turnstile/api.ErrConfig" | .nil => "turnstile/api.ErrNil"
theorem Er.name_inj (x y : Er) (h : x ≠ y) : x.name ≠ y.name := by
  cases x <;> cases y <;> first | exact absurd rfl h | decide
/-- the address in an error variable -/
def ebOf (W : World) (x : Er) : Addr := match W.cell? ⟨x.var, 0, none⟩ with
  | some (.iface _ (.pointer (some a))) => a
  | _ => ⟨0, 0, none⟩
theorem glob_of_laid {W : World} {laid : List (String × DataW Unit)} (h : laidMet Tryz.prog laid W) (S : Er → Bool) (hcore : ∀ x : Er, x.core = true → S x = true)
    (hmem : ∀ x, S x = true → Tryz.prog.globalNamed x.name = some x.var ∧ (Tryz.prog.globals[x.var]?).map (·.type) = some 31 ∧ ∃ text, (x.name, errD text) ∈ laid) : Glob W W.heap.size (ebOf W) S := by
  obtain ⟨ps, hl, hnd, hr⟩ := h
  have hone : ∀ x, S x = true → W.cell? ⟨x.var, 0, none⟩ = some (ptrE (ebOf W x)) ∧ MemPlace.cell (ebOf W x).block (ebOf W x).off ∈ ps := by
    intro x hx
    obtain ⟨q1, q2, text, q3⟩ := hmem x hx
    obtain ⟨a, k1, k2, _⟩ := sent_one q1 q2 hl hr q3
    have e : ebOf W x = a := by unfold ebOf; rw [k1]; rfl
    rw [e]; exact ⟨k1, k2⟩
  refine ⟨hcore, fun x hx => (hone x hx).1, fun x hx => ⟨World.block_lt_of_cell? _ _ (hone x hx).1, ?_⟩, fun x hx => (hr _ _ (hone x hx).2).1, fun x y hx hy e => ?_, Nat.le_refl _⟩
  · obtain ⟨c, t, hb⟩ := (hr _ _ (hone x hx).2).1
    exact (Array.getElem?_eq_some_iff.1 hb).1
  · rcases Classical.em (x = y) with q | q
    · exact q
    · obtain ⟨p1, p2, _, p3⟩ := hmem x hx
      obtain ⟨p4, p5, _, p6⟩ := hmem y hy
      exact absurd e (sent_two p1 p2 p4 p5 (Er.name_inj x y q) (hone x hx).1 (hone y hy).1 hl hr hnd p3 p6)
def deb64 : List Int := [0, 1, 56, 2, 57, 49, 28, 3, 61, 58, 42, 50, 38, 29, 17, 4, 62, 47, 59, 36, 45, 43, 51, 22, 53, 39, 33, 30, 24, 18, 12, 5, 63, 55, 48, 27, 60, 41, 37, 16, 46, 35, 44, 21, 52, 32, 23, 11, 54, 26, 40, 15, 34, 20, 31, 10, 25, 14, 19, 9, 13, 8, 7, 6]
theorem deb_of_laid {W : World} {laid rest : List (String × DataW Unit)} (h : laidMet Tryz.prog laid W) (i : Nat) (hi : laid.drop i = ("math/bits.deBruijn64tab", Lib.tabData .u8 deb64) :: rest) :
    W.cell? ⟨15, 15, none⟩ = some (.int .u8 4) := by
  have h1 := laid_drop i h
  rw [hi] at h1
  have hT := Lib.tabIs_of_head (g := 15) (n := 64) (by kernel_rfl) (by kernel_rfl) Tryz.underlying200 Tryz.underlying5 (by kernel_rfl) (by kernel_rfl) h1
  exact hT.cell (by kernel_rfl) 15 (by decide)
theorem tab_of_laid {W : World} {laid rest : List (String × DataW Unit)} (h : laidMet Tryz.prog laid W) (i : Nat) (hi : laid.drop i = ("turnstile/crc.halves", Lib.tabData .u32 (halves.map fun (n : Nat) => (n : Int))) :: rest) : Tab W W.heap.size := by
  have h1 := laid_drop i h
  rw [hi] at h1
  have hT := Lib.tabIs_of_head (g := 13) (n := 16) (by kernel_rfl) (by kernel_rfl) Tryz.underlying192 Tryz.underlying115 (by kernel_rfl) (by kernel_rfl) h1
  have hc : ∀ j, j < 16 → W.cell? ⟨13, j, none⟩ = some (.int .u32 (halves.getD j 0 : Nat)) := by
    intro j hj
    have := hT.cell (g := 13) (by kernel_rfl) j (by rw [List.length_map]; exact hj)
    rw [this]
    congr 2
    have hl : j < halves.length := hj
    simp [List.getD, List.getElem?_map, List.getElem?_eq_getElem hl]
  exact ⟨hc, World.block_lt_of_cell? _ _ (hc 0 (by omega)), Nat.le_refl _⟩
theorem env_of_laid {W : World} {laid rest1 rest2 : List (String × DataW Unit)} (h : laidMet Tryz.prog laid W) (S : Er → Bool) (hcore : ∀ x : Er, x.core = true → S x = true)
    (hmem : ∀ x, S x = true → Tryz.prog.globalNamed x.name = some x.var ∧ (Tryz.prog.globals[x.var]?).map (·.type) = some 31 ∧ ∃ text, (x.name, errD text) ∈ laid)
    (i : Nat) (hi : laid.drop i = ("math/bits.deBruijn64tab", Lib.tabData .u8 deb64) :: rest1) (j : Nat) (hj : laid.drop j = ("turnstile/crc.halves", Lib.tabData .u32 (halves.map fun (n : Nat) => (n : Int))) :: rest2) : Env W W.heap.size (ebOf W) S :=
  ⟨glob_of_laid h S hcore hmem, tab_of_laid h j hj, deb_of_laid h i hi, World.block_lt_of_cell? _ _ (deb_of_laid h i hi)⟩
end Go.Proofs.YtdfnaphkppphkaaGreatDoor

namespace Go.Proofs.YtdfnaphkppphkaaGreatDoor
set_option maxRecDepth 100000
open Go Go.RowKit Go.ChangeShapes Go.WideShapes Go.Deep

theorem list_choice {α : Type} {P : Nat → α → Prop} : ∀ n : Nat, (∀ i, i < n → ∃ x, P i x) → ∃ xs : List α, xs.length = n ∧ ∀ i x, xs[i]? = some x → P i x
  | 0, _ => ⟨[], rfl, fun i x h => by simp at h⟩
  | n + 1, h => by
    obtain ⟨xs, hl, hx⟩ := list_choice n (fun i hi => h i (by omega))
    obtain ⟨x, hp⟩ := h n (by omega)
    refine ⟨xs ++ [x], by simp [hl], fun i y hy => ?_⟩
    rcases Nat.lt_or_ge i xs.length with hi | hi
    · rw [List.getElem?_append_left hi] at hy
      exact hx i y hy
    · rw [List.getElem?_append_right hi] at hy
      have h0 : i - xs.length = 0 := by
        rcases Nat.eq_zero_or_pos (i - xs.length) with q | q
        · exact q
        · rw [List.getElem?_eq_none (by simp only [List.length_singleton]; omega)] at hy; cases hy
      rw [h0] at hy
      cases hy
      rw [show i = n from by omega]
      exact hp
theorem weights_all {H : Type} {P : Program} {e : TypeId} {n : Nat} : ∀ {ds : List (DataW H)} {d : DataW H}, d ∈ ds → n ∈ d.weights P e → n ∈ DataW.weightsAll P e ds
  | [], _, h, _ => by cases h
  | d0 :: ds, d, h, hn => by
    simp only [DataW.weightsAll, List.mem_append]
    rcases List.mem_cons.1 h with h | h
    · subst h; exact .inl hn
    · exact .inr (weights_all h hn)
theorem bytes_u8 : Tryz.prog.bytesOf 5 = 1 := by kernel_rfl
theorem bytes_sl : Tryz.prog.bytesOf 24 = 24 := by kernel_rfl
theorem cells_u8 : Tryz.prog.cellsOf 5 = 1 := by kernel_rfl
theorem cells_sl : Tryz.prog.cellsOf 24 = 1 := by kernel_rfl
section
variable {H : Type} {enc : TypeId × Value → H} {W : World} {sp : Nat → Bool} {held : Bool}
theorem cells_one {a : Addr} {cs : List Value} (h : W.cells? 0 a 1 = some cs) : ∃ v, cs = [v] ∧ W.cell? a = some v := by
  obtain ⟨_, hl, hat⟩ := World.cells?_some h
  match cs, hl with
  | [v], _ =>
    have := hat 0 (by simp)
    exact ⟨v, rfl, by simpa [Addr.add] using this⟩
theorem open_bytes8 {fuel : Nat} {cs : List Value} {x : DataW H × List MemPlace} (h : DataW.trod enc Tryz.prog W 0 sp held fuel 24 cs = some x) (hw : ∀ n ∈ x.1.weights Tryz.prog 24, n ≤ reachBytes) :
    ∃ o l c, cs = [.slice o l.length c] ∧ BytesAt W (.slice o l.length c) l ∧ l.length ≤ 140737488355328 := by
  rcases open_slice Tryz.underlying24 h with ⟨h1, _⟩ | ⟨a, len, cap, m, n, D, Pl, h1, _, hlc, _, hm, hx, hi⟩
  · exact ⟨none, [], 0, h1, .inl ⟨rfl, rfl, rfl⟩, by simp⟩
  · have hb : ∀ i, i < len → ∃ b : UInt8, W.cell? (a.add i) = some (byteV b) := by
      intro i hil
      obtain ⟨cs', hc, ht⟩ := hi i (by rw [hm]; split <;> omega)
      rw [cells_u8, Nat.mul_one] at hc
      obtain ⟨v, hv, hcell⟩ := cells_one hc
      obtain ⟨z, e1, _, hz⟩ := DataW.trod_int Tryz.underlying5 ht
      rw [hv] at e1
      cases e1
      have hz' : 0 ≤ z ∧ z ≤ 255 := by simp only [Lit.wf, Bool.and_eq_true, decide_eq_true_eq] at hz; exact hz
      refine ⟨UInt8.ofNat z.toNat, ?_⟩
      rw [hcell, byteV]
      have : (UInt8.ofNat z.toNat).toNat = z.toNat := by simp [UInt8.toNat_ofNat']; omega
      rw [this]
      congr 2
      omega
    obtain ⟨l, hl, hlc2⟩ := list_choice len hb
    subst hl
    refine ⟨some a, l, cap, h1, .inr ⟨a, cap, rfl, hlc, by simp, fun j u hu => ?_⟩, ?_⟩
    · rw [List.getElem?_map] at hu
      obtain ⟨b, hb1, hb2⟩ := Option.map_eq_some_iff.1 hu
      rw [hlc2 j b hb1, hb2]
    · have := hw ((l.length + (m - l.length)) * Tryz.prog.bytesOf 5) (by rw [hx]; simp [DataW.weights, Tryz.underlying24])
      rw [bytes_u8] at this
      unfold reachBytes at this
      omega
theorem open_recs {fuel : Nat} {cs : List Value} {x : DataW H × List MemPlace} (h : DataW.trod enc Tryz.prog W 0 sp held fuel 34 cs = some x) (hw : ∀ n ∈ x.1.weights Tryz.prog 34, n ≤ reachBytes) :
    ∃ o rs c, cs = [.slice o rs.length c] ∧ RecsIn W (.slice o rs.length c) rs ∧ rs.length ≤ 140737488355328 ∧ ∀ r ∈ rs, r.length ≤ 140737488355328 := by
  rcases open_slice Tryz.underlying34 h with ⟨h1, _⟩ | ⟨a, len, cap, m, n, D, Pl, h1, _, hlc, _, hm, hx, hi⟩
  · exact ⟨none, [], 0, h1, ⟨[], rfl, .inl ⟨rfl, rfl, rfl⟩, fun j u l hu => by simp at hu⟩, by simp, by simp⟩
  · have hb : ∀ i, i < len → ∃ p : Value × List UInt8, W.cell? (a.add i) = some p.1 ∧ BytesAt W p.1 p.2 ∧ p.2.length ≤ 140737488355328 := by
      intro i hil
      obtain ⟨cs', hc, ht⟩ := hi i (by rw [hm]; split <;> omega)
      rw [cells_sl, Nat.mul_one] at hc
      obtain ⟨v, hv, hcell⟩ := cells_one hc
      obtain ⟨o, l, c, e1, e2, e3⟩ := open_bytes8 ht (fun n hn => hw n (by
        rw [hx]
        simp only [DataW.weights, Tryz.underlying34, List.mem_cons, List.mem_append]
        exact .inr (.inl (weights_all (List.mem_map.2 ⟨i, List.mem_range.2 hil, rfl⟩) hn))))
      rw [hv] at e1
      cases e1
      exact ⟨(_, l), hcell, e2, e3⟩
    obtain ⟨ps, hl, hps⟩ := list_choice len hb
    subst hl
    refine ⟨some a, ps.map (·.2), cap, by rw [List.length_map]; exact h1, ⟨ps.map (·.1), by simp, ?_, fun j u l hu hl => ?_⟩, ?_, fun r hr => ?_⟩
    · rw [List.length_map]
      refine .inr ⟨a, cap, rfl, hlc, by simp, fun j u hu => ?_⟩
      rw [List.getElem?_map] at hu
      obtain ⟨b, hb1, hb2⟩ := Option.map_eq_some_iff.1 hu
      rw [(hps j b hb1).1, hb2]
    · rw [List.getElem?_map] at hu hl
      obtain ⟨b, hb1, hb2⟩ := Option.map_eq_some_iff.1 hu
      rw [hb1] at hl
      cases hl
      rw [← hb2]
      exact (hps j b hb1).2.1
    · have := hw ((ps.length + (m - ps.length)) * Tryz.prog.bytesOf 24) (by rw [hx]; simp [DataW.weights, Tryz.underlying34])
      rw [bytes_sl] at this
      unfold reachBytes at this
      rw [List.length_map]
      omega
    · obtain ⟨b, hb1, hb2⟩ := List.mem_map.1 hr
      obtain ⟨j, hj, rfl⟩ := List.getElem_of_mem hb1
      rw [← hb2]
      exact (hps j _ (List.getElem?_eq_getElem hj)).2.2
theorem cells_grp : Tryz.prog.cellsOf 37 = 2 := by kernel_rfl
theorem cells_recs : Tryz.prog.cellsOf 34 = 1 := by kernel_rfl
theorem cells_bool : Tryz.prog.cellsOf 4 = 1 := by kernel_rfl
theorem grp_fields : ∃ f0 f1 : Field, Tryz.prog.underlying 37 = some (.struct #[f0, f1]) ∧ f0.type = 34 ∧ f0.offset = 0 ∧ f1.type = 4 ∧ f1.offset = 1 :=
  ⟨_, _, Tryz.underlying37, rfl, rfl, rfl, rfl⟩
theorem open_grp {fuel : Nat} {cs : List Value} {x : DataW H × List MemPlace} (h : DataW.trod enc Tryz.prog W 0 sp held fuel 37 cs = some x) (hl : cs.length = 2) (hw : ∀ n ∈ x.1.weights Tryz.prog 37, n ≤ reachBytes) :
    ∃ (g : AGroup) (o : Option Addr) (c : Nat), cs = [.slice o g.recs.length c, .bool g.sync] ∧ RecsIn W (.slice o g.recs.length c) g.recs ∧ g.recs.length ≤ 140737488355328 ∧ ∀ r ∈ g.recs, r.length ≤ 140737488355328 := by
  obtain ⟨f0, f1, hs, t0, o0, t1, o1⟩ := grp_fields
  obtain ⟨ys, n, _, hx, _, hyl, hf⟩ := DataW.trod_struct hs h
  match cs, hl with
  | [v0, v1], _ =>
    match ys, hyl with
    | [y0, y1], _ =>
      have h0 := hf 0 f0 rfl
      have h1 := hf 1 f1 rfl
      rw [t0, o0, cells_recs] at h0
      rw [t1, o1, cells_bool] at h1
      have h0' : DataW.trod enc Tryz.prog W 0 sp held n 34 [v0] = some y0 := h0
      have h1' : DataW.trod enc Tryz.prog W 0 sp held n 4 [v1] = some y1 := h1
      obtain ⟨o, rs, c, e1, e2, e3, e4⟩ := open_recs h0' (fun m hm => hw m (by
        rw [hx]
        simp only [List.map_cons, List.map_nil, DataW.weights, hs, DataW.weightsEach, t0, List.mem_append]
        exact .inl hm))
      obtain ⟨b, e5, _⟩ := DataW.trod_bool Tryz.underlying4 h1'
      cases e1
      cases e5
      exact ⟨⟨rs, b⟩, o, c, rfl, e2, e3, e4⟩
theorem okWide_slice {r : Reach} {b0 : Nat} {t e : TypeId} {a : Addr} {len cap : Nat} (ht : Tryz.prog.underlying t = some (.slice e)) (h : Value.okWide Tryz.prog W r b0 t (.slice (some a) len cap)) : a.spot = none ∧ a.block < W.heap.size := by
  unfold Value.okWide at h
  rw [ht] at h
  simp only [Cell.okWide, Cell.ok, ht] at h
  obtain ⟨_, _, _, h2, row, cells, h3, _⟩ := h
  refine ⟨h2, ?_⟩
  unfold World.shape? at h3
  cases hb : W.heap[a.block]? with
  | none => rw [hb] at h3; cases h3
  | some o => exact (Array.getElem?_eq_some_iff.1 hb).1
theorem okWide_cells {r : Reach} {b0 : Nat} {t e : TypeId} {v : Value} (ht : Tryz.prog.underlying t = some (.slice e)) (h : Value.okWide Tryz.prog W r b0 t v) : v.cells.toList = [v] := by
  unfold Value.okWide at h
  rw [ht] at h
  simp only [Cell.okWide, Cell.ok, ht] at h
  cases v <;> first | rfl | exact h.elim
theorem cells_single {r : Reach} {b0 : Nat} {t e : TypeId} {v u : Value} (ht : Tryz.prog.underlying t = some (.slice e)) (h : Value.okWide Tryz.prog W r b0 t v) (hc : v.cells.toList = [u]) : v = u := by
  rw [okWide_cells ht h] at hc
  injection hc
theorem open_junk {r : Reach} {b0 : Nat} {v : Value} {d : DataW H} {ps : List MemPlace} (hv : Value.okWide Tryz.prog W r b0 24 v) (h : DataW.Trod enc Tryz.prog W 0 sp held 24 v d ps) (hw : ∀ n ∈ d.weights Tryz.prog 24, n ≤ reachBytes) :
    ∃ o l c, v = .slice o l.length c ∧ BytesAt W (.slice o l.length c) l ∧ l.length ≤ 140737488355328 ∧ ∀ a, o = some a → a.spot = none ∧ a.block < W.heap.size := by
  obtain ⟨fuel, hf⟩ := h
  obtain ⟨o, l, c, h1, h2, h3⟩ := open_bytes8 hf hw
  have hvv := cells_single Tryz.underlying24 hv h1
  refine ⟨o, l, c, hvv, h2, h3, fun a ha => ?_⟩
  subst ha
  rw [hvv] at hv
  exact okWide_slice Tryz.underlying24 hv
theorem bytes_grp : Tryz.prog.bytesOf 37 = 32 := by kernel_rfl
theorem open_grps {r : Reach} {b0 : Nat} {v : Value} {d : DataW H} {ps : List MemPlace} (hv : Value.okWide Tryz.prog W r b0 23 v) (h : DataW.Trod enc Tryz.prog W 0 sp held 23 v d ps) (hw : ∀ n ∈ d.weights Tryz.prog 23, n ≤ reachBytes) :
    ∃ gs : List AGroup, GrpsIn W v gs := by
  obtain ⟨fuel, hf⟩ := h
  rcases open_slice Tryz.underlying23 hf with ⟨h1, _⟩ | ⟨a, len, cap, m, n, D, Pl, h1, _, hlc, _, hm, hx, hi⟩
  · have hvv : v = .slice none 0 0 := cells_single Tryz.underlying23 hv h1
    exact ⟨[], .inl ⟨hvv, rfl⟩, by simp, by simp, by simp⟩
  · have hvv : v = .slice (some a) len cap := cells_single Tryz.underlying23 hv h1
    subst hvv
    obtain ⟨hsp, _⟩ := okWide_slice Tryz.underlying23 hv
    obtain ⟨b, off, sp'⟩ := a
    simp only at hsp
    subst hsp
    have hb : ∀ i, i < len → ∃ g : AGroup, ∃ o c, W.cell? ⟨b, off + i * 2, none⟩ = some (.slice o g.recs.length c) ∧ W.cell? ⟨b, off + i * 2 + 1, none⟩ = some (.bool g.sync) ∧ RecsIn W (.slice o g.recs.length c) g.recs ∧ g.recs.length ≤ 140737488355328 ∧ ∀ r ∈ g.recs, r.length ≤ 140737488355328 := by
      intro i hil
      obtain ⟨cs', hc, ht⟩ := hi i (by rw [hm]; split <;> omega)
      rw [cells_grp] at hc
      obtain ⟨_, hcl, hat⟩ := World.cells?_some hc
      obtain ⟨g, o, c, e1, e2, e3, e4⟩ := open_grp ht hcl (fun q hq => hw q (by
        have hd : d = (DataW.slice ((List.range len).map D) ((List.range (m - len)).map fun j => D (len + j))) := congrArg Prod.fst hx
        rw [hd]
        simp only [DataW.weights, Tryz.underlying23, List.mem_cons, List.mem_append]
        exact .inr (.inl (weights_all (List.mem_map.2 ⟨i, List.mem_range.2 hil, rfl⟩) hq))))
      subst e1
      have k0 := hat 0 (by simp)
      have k1 := hat 1 (by simp)
      rw [addr_add, addr_add] at k0 k1
      exact ⟨g, o, c, by simpa using k0, by simpa using k1, e2, e3, e4⟩
    obtain ⟨gs, hl, hg⟩ := list_choice len hb
    subst hl
    refine ⟨gs, .inr ⟨b, off, cap, rfl, hlc, fun i hil => ?_⟩, ?_, fun g hgm => ?_, fun g hgm => ?_⟩
    · obtain ⟨o, c, q1, q2, q3, _⟩ := hg i gs[i] (List.getElem?_eq_getElem hil)
      exact ⟨o, c, q1, q2, q3⟩
    · have hd : d = (DataW.slice ((List.range gs.length).map D) ((List.range (m - gs.length)).map fun j => D (gs.length + j))) := congrArg Prod.fst hx
      have := hw ((gs.length + (m - gs.length)) * Tryz.prog.bytesOf 37) (by rw [hd]; simp [DataW.weights, Tryz.underlying23])
      rw [bytes_grp] at this
      unfold reachBytes at this
      omega
    · obtain ⟨j, hj, rfl⟩ := List.getElem_of_mem hgm
      exact (hg j _ (List.getElem?_eq_getElem hj)).choose_spec.choose_spec.2.2.2.1
    · obtain ⟨j, hj, rfl⟩ := List.getElem_of_mem hgm
      exact (hg j _ (List.getElem?_eq_getElem hj)).choose_spec.choose_spec.2.2.2.2
end
end Go.Proofs.YtdfnaphkppphkaaGreatDoor

namespace Go.Proofs.YtdfnaphkppphkaaGreatDoor
set_option maxRecDepth 100000
open Go Go.RowKit Go.ChangeShapes Go.WideShapes Go.ChangeAt
open Go.Proofs.YtdfnaphkppphkaaGreatDoor

theorem ownK : ownKnob Tryz.prog.godebug = none := by kernel_rfl
theorem laidOutP : laidOutB Tryz.prog = true := by kernel_rfl
/-- what has been added above the heap's old size leaves the arguments' reading -/
theorem FrUp.below {W W' : World} (h : FrUp W.heap.size W W') : Below W.heap.size W W' :=
  ⟨h.os, h.tape, h.output, h.size, fun k hk => h.block k hk (by omega)⟩
theorem each_weights {H : Type} {P : Program} {ts : List TypeId} {ds : List (DataW H)} (h : (DataW.weightsEach P ts ds).all (· ≤ reachBytes) = true) {j : Nat} {t : TypeId} {d : DataW H} (ht : ts[j]? = some t) (hd : ds[j]? = some d) : ∀ n ∈ d.weights P t, n ≤ reachBytes := by
  intro n hn
  have := List.all_eq_true.1 h n (DataW.weights_mem_each ht hd n hn)
  simpa using this
end Go.Proofs.YtdfnaphkppphkaaGreatDoor
