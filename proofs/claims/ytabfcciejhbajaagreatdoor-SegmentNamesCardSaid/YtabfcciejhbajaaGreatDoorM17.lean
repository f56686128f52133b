/-
  What listed variables give the walks: the sentinels are different pointers, the tables hold their numbers. Conditions: none.
  What the rows share.
-/
import Derived.Test.YtabfcciejhbajaaGreatDoorM14
import Derived.LaidLaws
import Derived.Stop.LaidErr
import Derived.Lib.LaidTab
import Derived.ProofKit
import Derived.Test.YtabfcciejhbajaaGreatDoorM16
import Derived.Deep.Slices
import Derived.Deep.Fields
import Derived.ChangeSame
import Derived.SizedLaws
import Derived.Test.YtabfcciejhbajaaGreatDoorRows
import Derived.Test.YtabfcciejhbajaaGreatDoorTie
import Derived.Test.YtabfcciejhbajaaGreatDoorCards
import Derived.OpenShut
import Derived.Carry
import Derived.Lay
import Derived.MakeChecks
import Derived.LaidMore
import Derived.SevenTiedAt
import Derived.Stop.Joined
namespace Go.Proofs.YtabfcciejhbajaaGreatDoor
set_option maxRecDepth 100000
open Go Go.RowKit Go.ChangeShapes Go.WideShapes

/-- an error as its initialiser lays it -/
def errD (text : List UInt8) : DataW Unit := .iface "*errors.errorString" (.ptr (.agg [.lit (.string text)]))
theorem cells_es : Tryz.prog.cellsOf 171 = 1 := by kernel_rfl
theorem cells_str : Tryz.prog.cellsOf 9 = 1 := by kernel_rfl
theorem star_es : ("*errors.errorString" : String) = "*" ++ "errors.errorString" := rfl
theorem row_es (u : TypeId) (h : Tryz.prog.typeName? 3 u = some "*errors.errorString") : u = 169 :=
  typeName_ptr_named (nm := "errors.errorString") (by rw [← star_es]; kernel_rfl) (by kernel_rfl) (by decide) u (by rw [← star_es]; exact h)
/-- what the condition says of the places -/
abbrev PlacesOk (W : World) (ps : List MemPlace) : Prop := ∀ b off, MemPlace.cell b off ∈ ps → (∃ c t, W.heap[b]? = some (.cells c t (0, 0))) ∧ ∀ u v, W.cell? ⟨b, off, none⟩ = some (.iface u v) → Value.okWide Tryz.prog W .any 0 u v
theorem sent_head {W : World} {g : Nat} {cs : Array Value} {fuel : Nat} {p : List MemPlace} {n : String} {text : List UInt8} (hg : Tryz.prog.globalNamed n = some g) (hv : W.var? Tryz.prog n = some cs)
    (hd : DataW.trod (fun _ => ()) Tryz.prog W 0 (fun _ => true) false fuel 32 cs.toList = some (errD text, p)) (hok : ∀ b off, MemPlace.cell b off ∈ MemPlace.row ⟨g, 0, none⟩ cs.size → ∀ u v, W.cell? ⟨b, off, none⟩ = some (.iface u v) → Value.okWide Tryz.prog W .any 0 u v) :
    ∃ a : Addr, W.cell? ⟨g, 0, none⟩ = some (ptrE a) ∧ MemPlace.cell a.block a.off ∈ p ∧ a.spot = none := by
  obtain ⟨l⟩ := cs
  have ok0 : ∀ u v, l = [.iface u v] → Value.okWide Tryz.prog W .any 0 u v := fun u v e => by
    subst e
    exact hok g 0 (by simp [MemPlace.row]) u v (by simpa using World.var?_cell hg hv 0)
  obtain ⟨f, hs, ft, fo⟩ : ∃ f : Field, Tryz.prog.underlying 171 = some (.struct #[f]) ∧ f.type = 9 ∧ f.offset = 0 := ⟨_, Tryz.underlying171, rfl, rfl⟩
  obtain ⟨a, s, e, hc, _, _, hp⟩ := errorString_of_trod Tryz.underlying32 row_es Tryz.underlying169 hs ft fo Tryz.underlying9 cells_es cells_str hd ok0
  have hcell := World.var?_cell hg hv 0
  have e' : l = [.iface 169 (.pointer (some a))] := e
  subst e'
  refine ⟨a, by simpa [ptrE] using hcell, ?_, World.cell?_spot hc⟩
  rw [hp]
  simp [MemPlace.row]
theorem sent_one {W : World} {n : String} {text : List UInt8} {g : Nat} (hg : Tryz.prog.globalNamed n = some g) (hty : (Tryz.prog.globals[g]?).map (·.type) = some 32) :
    ∀ {laid : List (String × DataW Unit)} {ps : List MemPlace}, DataW.LaidVars Tryz.prog W laid ps → PlacesOk W ps → (n, errD text) ∈ laid → ∃ a : Addr, W.cell? ⟨g, 0, none⟩ = some (ptrE a) ∧ MemPlace.cell a.block a.off ∈ ps ∧ a.spot = none
  | [], _, _, _, hm => by cases hm
  | (n0, d0) :: r, ps, h, hr, hm => by
    obtain ⟨g0, t0, cs, fuel, p, q, hg0, ht0, hv, hd, hq, rfl⟩ := h
    rcases List.mem_cons.1 hm with e | hm
    · cases e
      obtain rfl := Option.some.inj (hg.symm.trans hg0)
      obtain rfl := Option.some.inj (hty.symm.trans ht0)
      obtain ⟨a, h1, h2, h3⟩ := sent_head hg hv hd (fun b off hb => (hr b off (by simp [hb])).2)
      exact ⟨a, h1, by simp [h2], h3⟩
    · obtain ⟨a, h1, h2, h3⟩ := sent_one hg hty hq (fun b off hb => hr b off (by simp [hb])) hm
      exact ⟨a, h1, by simp [h2], h3⟩
theorem ptrE_inj {a b : Addr} (h : ptrE a = ptrE b) : a = b := by unfold ptrE at h; injection h with _ h; injection h with h; injection h
theorem sent_two {W : World} {n1 n2 : String} {t1 t2 : List UInt8} {g1 g2 : Nat} (hg1 : Tryz.prog.globalNamed n1 = some g1) (hty1 : (Tryz.prog.globals[g1]?).map (·.type) = some 32) (hg2 : Tryz.prog.globalNamed n2 = some g2) (hty2 : (Tryz.prog.globals[g2]?).map (·.type) = some 32)
    (hne : n1 ≠ n2) {a1 a2 : Addr} (c1 : W.cell? ⟨g1, 0, none⟩ = some (ptrE a1)) (c2 : W.cell? ⟨g2, 0, none⟩ = some (ptrE a2)) :
    ∀ {laid : List (String × DataW Unit)} {ps : List MemPlace}, DataW.LaidVars Tryz.prog W laid ps → PlacesOk W ps → ps.Nodup → (n1, errD t1) ∈ laid → (n2, errD t2) ∈ laid → a1 ≠ a2
  | [], _, _, _, _, hm, _ => by cases hm
  | (n0, d0) :: r, ps, h, hr, hnd, hm1, hm2 => by
    obtain ⟨g0, t0, cs, fuel, p, q, hg0, ht0, hv, hd, hq, rfl⟩ := h
    have hrq : PlacesOk W q := fun b off hb => hr b off (by simp [hb])
    rw [List.nodup_append] at hnd
    obtain ⟨_, hndq, hdis⟩ := hnd
    rcases List.mem_cons.1 hm1 with e1 | hm1'
    · rcases List.mem_cons.1 hm2 with e2 | hm2'
      · rw [← e1] at e2; cases e2; exact absurd rfl hne
      · cases e1
        obtain rfl := Option.some.inj (hg1.symm.trans hg0)
        obtain rfl := Option.some.inj (hty1.symm.trans ht0)
        obtain ⟨a, k1, k2, _⟩ := sent_head hg1 hv hd (fun b off hb => (hr b off (by simp [hb])).2)
        obtain ⟨a', k3, k4, _⟩ := sent_one hg2 hty2 hq hrq hm2'
        have x1 := ptrE_inj (Option.some.inj (c1.symm.trans k1))
        have x2 := ptrE_inj (Option.some.inj (c2.symm.trans k3))
        subst x1
        subst x2
        intro e
        exact hdis (.cell a1.block a1.off) (by simp [k2]) (.cell a2.block a2.off) k4 (by rw [e])
    · rcases List.mem_cons.1 hm2 with e2 | hm2'
      · cases e2
        obtain rfl := Option.some.inj (hg2.symm.trans hg0)
        obtain rfl := Option.some.inj (hty2.symm.trans ht0)
        obtain ⟨a, k1, k2, _⟩ := sent_head hg2 hv hd (fun b off hb => (hr b off (by simp [hb])).2)
        obtain ⟨a', k3, k4, _⟩ := sent_one hg1 hty1 hq hrq hm1'
        have x1 := ptrE_inj (Option.some.inj (c2.symm.trans k1))
        have x2 := ptrE_inj (Option.some.inj (c1.symm.trans k3))
        subst x1
        subst x2
        intro e
        exact hdis (.cell a2.block a2.off) (by simp [k2]) (.cell a1.block a1.off) k4 (by rw [e])
      · exact sent_two hg1 hty1 hg2 hty2 hne c1 c2 hq hrq hndq hm1' hm2'
theorem laid_drop {W : World} : ∀ (i : Nat) {laid : List (String × DataW Unit)}, laidMet Tryz.prog laid W → laidMet Tryz.prog (laid.drop i) W
  | 0, _, h => h
  | _ + 1, [], h => h
  | i + 1, _ :: _, h => laid_drop i (laidMet.tail h)
/-- the variable's name in Go -/
def Er.name : Er → String
  | .arg => "turnstile/api.ErrArg" | .short => "turnstile/api.ErrShort" | .form => "turnstile/api.ErrForm" | .long => "turnstile/api.ErrLong" | .sum => "turnstile/api.ErrSum" | .io => "turnstile/api.ErrIo" | .down => "turnstile/api.ErrDown"
  | .gone => "turnstile/api.ErrGone" | .there => "turnstile/api.ErrThere" | .image => "turnstile/api.ErrImage" | .gap => "turnstile/api.ErrGap" | .log => "turnstile/api.ErrLog" | .sick => "turnstile/api.ErrSick" | .config => "turnstile/api.ErrConfig" | .nil => "turnstile/api.ErrNil"
theorem Er.name_inj (x y : Er) (h : x ≠ y) : x.name ≠ y.name := by
  cases x <;> cases y <;> first | exact absurd rfl h | decide
/-- the address in an error variable -/
def ebOf (W : World) (x : Er) : Addr := match W.cell? ⟨x.var, 0, none⟩ with
  | some (.iface _ (.pointer (some a))) => a
  | _ => ⟨0, 0, none⟩
theorem glob_of_laid {W : World} {laid : List (String × DataW Unit)} (h : laidMet Tryz.prog laid W) (S : Er → Bool) (hcore : ∀ x : Er, x.core = true → S x = true)
    (hmem : ∀ x, S x = true → Tryz.prog.globalNamed x.name = some x.var ∧ (Tryz.prog.globals[x.var]?).map (·.type) = some 32 ∧ ∃ text, (x.name, errD text) ∈ laid) : Glob W W.heap.size (ebOf W) S := by
  obtain ⟨ps, hl, hnd, hr⟩ := h
  have hone : ∀ x, S x = true → W.cell? ⟨x.var, 0, none⟩ = some (ptrE (ebOf W x)) ∧ MemPlace.cell (ebOf W x).block (ebOf W x).off ∈ ps := by
    intro x hx
    obtain ⟨q1, q2, text, q3⟩ := hmem x hx
    obtain ⟨a, k1, k2, _⟩ := sent_one q1 q2 hl hr q3
    have e : ebOf W x = a := by unfold ebOf; rw [k1]; rfl
    rw [e]; exact ⟨k1, k2⟩
  refine ⟨hcore, fun x hx => (hone x hx).1, fun x hx => ⟨World.block_lt_of_cell? _ _ (hone x hx).1, ?_⟩, fun x hx => (hr _ _ (hone x hx).2).1, fun x y hx hy e => ?_, Nat.le_refl _⟩
  · obtain ⟨c, t, hb⟩ := (hr _ _ (hone x hx).2).1
    exact (Array.getElem?_eq_some_iff.1 hb).1
  · rcases Classical.em (x = y) with q | q
    · exact q
    · obtain ⟨p1, p2, _, p3⟩ := hmem x hx
      obtain ⟨p4, p5, _, p6⟩ := hmem y hy
      exact absurd e (sent_two p1 p2 p4 p5 (Er.name_inj x y q) (hone x hx).1 (hone y hy).1 hl hr hnd p3 p6)
def deb64 : List Int := [0, 1, 56, 2, 57, 49, 28, 3, 61, 58, 42, 50, 38, 29, 17, 4, 62, 47, 59, 36, 45, 43, 51, 22, 53, 39, 33, 30, 24, 18, 12, 5, 63, 55, 48, 27, 60, 41, 37, 16, 46, 35, 44, 21, 52, 32, 23, 11, 54, 26, 40, 15, 34, 20, 31, 10, 25, 14, 19, 9, 13, 8, 7, 6]
theorem deb_of_laid {W : World} {laid rest : List (String × DataW Unit)} (h : laidMet Tryz.prog laid W) (i : Nat) (hi : laid.drop i = ("math/bits.deBruijn64tab", Lib.tabData .u8 deb64) :: rest) :
    W.cell? ⟨16, 15, none⟩ = some (.int .u8 4) := by
  have h1 := laid_drop i h
  rw [hi] at h1
  have hT := Lib.tabIs_of_head (g := 16) (n := 64) (by kernel_rfl) (by kernel_rfl) Tryz.underlying202 Tryz.underlying5 (by kernel_rfl) (by kernel_rfl) h1
  exact hT.cell (by kernel_rfl) 15 (by decide)
theorem tab_of_laid {W : World} {laid rest : List (String × DataW Unit)} (h : laidMet Tryz.prog laid W) (i : Nat) (hi : laid.drop i = ("turnstile/crc.halves", Lib.tabData .u32 (halves.map fun (n : Nat) => (n : Int))) :: rest) : Tab W W.heap.size := by
  have h1 := laid_drop i h
  rw [hi] at h1
  have hT := Lib.tabIs_of_head (g := 17) (n := 16) (by kernel_rfl) (by kernel_rfl) Tryz.underlying203 Tryz.underlying115 (by kernel_rfl) (by kernel_rfl) h1
  have hc : ∀ j, j < 16 → W.cell? ⟨17, j, none⟩ = some (.int .u32 (halves.getD j 0 : Nat)) := by
    intro j hj
    have := hT.cell (g := 17) (by kernel_rfl) j (by rw [List.length_map]; exact hj)
    rw [this]
    congr 2
    have hl : j < halves.length := hj
    simp [List.getD, List.getElem?_map, List.getElem?_eq_getElem hl]
  exact ⟨hc, World.block_lt_of_cell? _ _ (hc 0 (by omega)), Nat.le_refl _⟩
theorem env_of_laid {W : World} {laid rest1 rest2 : List (String × DataW Unit)} (h : laidMet Tryz.prog laid W) (S : Er → Bool) (hcore : ∀ x : Er, x.core = true → S x = true)
    (hmem : ∀ x, S x = true → Tryz.prog.globalNamed x.name = some x.var ∧ (Tryz.prog.globals[x.var]?).map (·.type) = some 32 ∧ ∃ text, (x.name, errD text) ∈ laid)
    (i : Nat) (hi : laid.drop i = ("math/bits.deBruijn64tab", Lib.tabData .u8 deb64) :: rest1) (j : Nat) (hj : laid.drop j = ("turnstile/crc.halves", Lib.tabData .u32 (halves.map fun (n : Nat) => (n : Int))) :: rest2) : Env W W.heap.size (ebOf W) S :=
  ⟨glob_of_laid h S hcore hmem, tab_of_laid h j hj, deb_of_laid h i hi, World.block_lt_of_cell? _ _ (deb_of_laid h i hi)⟩
end Go.Proofs.YtabfcciejhbajaaGreatDoor

namespace Go.Proofs.YtabfcciejhbajaaGreatDoor
set_option maxRecDepth 100000
open Go Go.RowKit Go.ChangeShapes Go.WideShapes Go.ChangeAt
open Go.Proofs.YtabfcciejhbajaaGreatDoor

theorem ownK : ownKnob Tryz.prog.godebug = none := by kernel_rfl
theorem laidOutP : laidOutB Tryz.prog = true := by kernel_rfl
/-- what has been added above the heap's old size leaves the arguments' reading -/
theorem FrUp.below {W W' : World} (h : FrUp W.heap.size W W') : Below W.heap.size W W' :=
  ⟨h.os, h.tape, h.output, h.size, fun k hk => h.block k hk (by omega)⟩
theorem each_weights {H : Type} {P : Program} {ts : List TypeId} {ds : List (DataW H)} (h : (DataW.weightsEach P ts ds).all (· ≤ reachBytes) = true) {j : Nat} {t : TypeId} {d : DataW H} (ht : ts[j]? = some t) (hd : ds[j]? = some d) : ∀ n ∈ d.weights P t, n ≤ reachBytes := by
  intro n hn
  have := List.all_eq_true.1 h n (DataW.weights_mem_each ht hd n hn)
  simpa using this
end Go.Proofs.YtabfcciejhbajaaGreatDoor
