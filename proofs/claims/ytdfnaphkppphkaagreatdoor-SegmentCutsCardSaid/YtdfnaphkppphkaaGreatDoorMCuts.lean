/-
  The law SegmentCuts. Conditions: the table and the error variables are there; the arguments can be read.
-/
import Derived.Test.YtdfnaphkppphkaaGreatDoorM17
import Derived.Laws.AppendOwnNone
import Derived.Deep.RegionHeld3
namespace Go.Proofs.YtdfnaphkppphkaaGreatDoor
open Go Go.RowKit

/-- records of the arguments, gathered -/
structure AllAt (w wr : World) (K bs : Nat) (ow : Own) (v : Value) (xs : List (List UInt8)) (vs : List Value) : Prop where
  len : vs.length = xs.length
  row : wr.ownsRow K 24 1 v xs.length vs
  out : ∀ b, v.ownBlock = some b → ow b = none ∧ b ≠ bs
  recs : ∀ (j : Nat) u l, vs[j]? = some u → xs[j]? = some l → BytesAt w u l
/-- where the gathering stands -/
structure CutSt (w wr : World) (K first bd bs f : Nat) (D : ADisk) (ow : Own) (v : Value) (xs : List (List UInt8)) (vs : List Value) (data : List UInt8) (n N W k : Nat) : Prop where
  seg : SegSt wr bd bs K D ow ⟨nameB first, first + xs.length, n, true, false⟩ f data N
  good : GoodAt first data xs n
  all : AllAt w wr K bs ow v xs vs
  wt : 8 * xs.length ≤ W
  few : n ≤ xs.length
  ops : N ≤ 2 + k
  fr : FrUp K w wr
theorem neq_same (b : Addr) (W : World) : (binOp .neq 31 (.iface 211 (.pointer (some b))) (.iface 211 (.pointer (some b)))).run Tryz.prog W = .ok (.bool false) W := by
  obtain ⟨i, hi, hcmp⟩ := Option.map_eq_some_iff.1 isComp
  obtain ⟨j, hj, hjs⟩ := Option.map_eq_some_iff.1 isSize
  simp only [binOp]
  simp [Op.equal, Op.maxDepth, run_equalIn_iface_ptr_same (P := Tryz.prog) W 9998 b Tryz.underlying31 Tryz.underlying211 hi hcmp hj]
theorem recs_one (w : World) : RecsIn ((w.alloc (.cells #[.int .u8 120] 5 (1, 2))).alloc (.cells #[.slice (some ⟨w.heap.size, 0, none⟩) 1 1] 24)) (.slice (some ⟨w.heap.size + 1, 0, none⟩) 1 1) [[120]] := by
  have hb : ∀ (o : Obj) (w1 : World) (b : Nat), b < w1.heap.size → (w1.alloc o).heap[b]? = w1.heap[b]? := fun o w1 b h => (Go.MapKept.heap_alloc w1 o).2 b h
  have hn : ∀ (o : Obj) (w1 : World), (w1.alloc o).heap[w1.heap.size]? = some o := fun o w1 => (Go.MapKept.heap_alloc w1 o).1
  have s1 : (w.alloc (.cells #[.int .u8 120] 5 (1, 2))).heap.size = w.heap.size + 1 := by simp
  have h1 := hn (.cells #[.int .u8 120] 5 (1, 2)) w
  have h2 := hn (.cells #[.slice (some ⟨w.heap.size, 0, none⟩) 1 1] 24) (w.alloc (.cells #[.int .u8 120] 5 (1, 2)))
  rw [s1] at h2
  refine ⟨[.slice (some ⟨w.heap.size, 0, none⟩) 1 1], rfl, .inr ⟨_, 1, rfl, by simp, rfl, fun j u hu => ?_⟩, fun j u l hu hl => ?_⟩
  · rw [addr_add, cell_at h2, Nat.zero_add, ← Array.getElem?_toList]; exact hu
  · match j, hu, hl with
    | 0, hu, hl =>
      cases hu; cases hl
      exact bytes_block ((hb _ _ _ (by omega)).trans h1) rfl 1 rfl
    | j + 1, hu, _ => simp at hu
theorem pack_one {n : Nat} (h1 : 1 ≤ n) (h2 : n ≤ 4611686018427387904) : packE n [[120]] = none := by
  unfold packE
  rw [if_neg (by simp), if_neg (by unfold numbersB; rw [decide_eq_true (by simp; omega)]; simp), if_neg (by decide)]
theorem wpl_append_recs {w : World} {ops : Array Oper} {rest : List Oper} {o : Oper} {a : Act} {Q : Exit → Act → World → Prop} (hgd : o.guard = none) (s x : Operand)
    (ho : o.op = .call { callee := .builtin .append, args := #[s, x], argTypes := #[34, 34] })
    (base : Nat) (v : Value) (n : Nat) (xs : List Value) (hs : a.eval s = v) (hown : w.ownsRow base 24 1 v n xs)
    (xv : Value) (m : Nat) (news : List Value) (hx : a.eval x = xv) (hsl : SliceIs w 1 xv m news) (h1 : ∀ u ∈ news, u.oneCell' = true)
    (h63 : n + m ≤ maxLen) (hbytes : (n + m) * 24 ≤ 140737488355328) (hbase : base ≤ w.heap.size)
    (h : ∀ v' w', w'.ownsRow base 24 1 v' (n + m) (xs ++ news) → w.grownBy w' v.ownBlock → (v'.ownBlock = v.ownBlock ∨ v'.ownBlock = some w.heap.size) → wpList Tryz.prog ops Q rest (a.put o.dst v') w') :
    wpList Tryz.prog ops Q (o :: rest) a w := by
  obtain ⟨i0, hi, hi0, hi1, hi2⟩ := info_parts infoSl
  rcases hsl with ⟨q1, q2, q3⟩ | ⟨ad, c, q1, _, q3, q4⟩
  · subst q2
    subst q3
    exact wpList_append_own_none hgd s x 34 ho base 24 i0 1 Tryz.underlying34 hi v n xs hs hown (hx.trans q1) (h v w (by simpa using hown) (World.grownBy.refl w _) (.inl rfl))
  · exact wpList_append_own_at w hgd s x 34 ho base 24 i0 _ 1 24 Tryz.underlying34 hi hi0 hi1 hi2 rfl (by decide) v n xs hs hown ad m c news (hx.trans q1) q3 q4 h1 h63 hbytes hbase (fun v' w' k1 k2 _ k4 => h v' w' k1 k2 k4)
/-- behind a group's Append -/
structure MidSt (w wr : World) (K first bd bs f : Nat) (D : ADisk) (ow : Own) (v : Value) (xs : List (List UInt8)) (vs : List Value) (rs : List (List UInt8)) (data : List UInt8) (n N W k : Nat) : Prop where
  seg : SegSt wr bd bs K D ow ⟨nameB first, first + (xs ++ rs).length, n, true, false⟩ f data N
  good : GoodAt first data (xs ++ rs) n
  all : AllAt w wr K bs ow v xs vs
  wt : 8 * (xs ++ rs).length ≤ W
  few : n ≤ (xs ++ rs).length
  ops : N ≤ 2 + k
  fr : FrUp K w wr
theorem AllAt.off {w wr wr' : World} {K bs : Nat} {ow ow' : Own} {v : Value} {xs : List (List UInt8)} {vs : List Value} (h : AllAt w wr K bs ow v xs vs) (hf : Fr (fun b => ow.has b ∨ b = bs) wr wr') (he : ow.ext ow' wr) : AllAt w wr' K bs ow' v xs vs :=
  ⟨h.len, ownsRow_keep h.row (fun b hb => hf.block b (h.row.lt b hb).2 (fun q => by
    obtain ⟨q1, q2⟩ := h.out b hb
    rcases q with q | q
    · exact q q1
    · exact q2 q)), fun b hb => ⟨he b (h.row.lt b hb).2 (h.out b hb).1, (h.out b hb).2⟩, h.recs⟩
theorem MidSt.done {w wr wr' : World} {K first bd bs f : Nat} {D : ADisk} {ow : Own} {v v' : Value} {xs rs : List (List UInt8)} {vs vs1 : List Value} {data : List UInt8} {n N W k : Nat} (h : MidSt w wr K first bd bs f D ow v xs vs rs data n N W k)
    (hl : vs1.length = rs.length) (hr : ∀ (j : Nat) u l, vs1[j]? = some u → rs[j]? = some l → BytesAt w u l) (hown : wr'.ownsRow K 24 1 v' (xs.length + rs.length) (vs ++ vs1)) (hg : wr.grownBy wr' v.ownBlock) (hat : v'.ownBlock = v.ownBlock ∨ v'.ownBlock = some wr.heap.size) :
    CutSt w wr' K first bd bs f D ow v' (xs ++ rs) (vs ++ vs1) data n N W k := by
  have hF : Fr (fun b => v.ownBlock = some b) wr wr' := (Fr.refl _ _).grown hg (fun b hb _ => hb)
  refine ⟨h.seg.off hF (fun b hb => h.all.out b hb), h.good, ⟨?_, ?_, ?_, ?_⟩, h.wt, h.few, h.ops, Fr.trans h.fr (hF.mono (fun b _ hb => (h.all.row.lt b hb).1))⟩
  · rw [List.length_append, List.length_append, h.all.len, hl]
  · rw [List.length_append]; exact hown
  · intro b hb
    rcases hat with q | q
    · rw [q] at hb; exact h.all.out b hb
    · rw [q] at hb
      injection hb with hb
      exact ⟨own_none h.seg.disk (by omega), by have := h.seg.seg.lt; omega⟩
  · intro j u l hu hl'
    rcases Nat.lt_or_ge j vs.length with hj | hj
    · rw [List.getElem?_append_left hj] at hu
      rw [List.getElem?_append_left (by rw [← h.all.len]; exact hj)] at hl'
      exact h.all.recs j u l hu hl'
    · rw [List.getElem?_append_right hj] at hu
      rw [List.getElem?_append_right (by rw [← h.all.len]; exact hj), ← h.all.len] at hl'
      exact hr _ u l hu hl'
/-- the records of the groups and of the junk, gathered -/
theorem all_more {w w6 w7 w8 : World} {K bs : Nat} {ow : Own} {v v2 v8 : Value} {xs more : List (List UInt8)} {vs vs2 : List Value} (hall : AllAt w w6 K bs ow v xs vs) (_h67 : Fr (fun _ => False) w6 w7)
    (hl2 : vs2.length = more.length) (hr2 : ∀ (j : Nat) u l, vs2[j]? = some u → more[j]? = some l → BytesAt w7 u l ∧ ∀ a n c, u = .slice (some a) n c → w6.heap.size ≤ a.block ∧ a.block < w7.heap.size ∧ v2.ownBlock ≠ some a.block)
    (hown : w8.ownsRow K 24 1 v8 (xs.length + more.length) (vs ++ vs2)) (hg : w7.grownBy w8 v.ownBlock) (hlow : FrUp w.heap.size w w8) : RecsIn w8 v8 (xs ++ more) := by
  refine ⟨vs ++ vs2, by rw [List.length_append, List.length_append, hall.len, hl2], by rw [List.length_append]; exact ownsRow_slice hown, fun j u l hu hl => ?_⟩
  rcases Nat.lt_or_ge j vs.length with hj | hj
  · rw [List.getElem?_append_left hj] at hu
    rw [List.getElem?_append_left (by rw [← hall.len]; exact hj)] at hl
    exact SliceIs.low (hall.recs j u l hu hl) hlow
  · rw [List.getElem?_append_right hj] at hu
    rw [List.getElem?_append_right (by rw [← hall.len]; exact hj), ← hall.len] at hl
    obtain ⟨q1, q2⟩ := hr2 _ u l hu hl
    refine SliceIs.fr q1 ((Fr.refl (fun b => v.ownBlock = some b) w7).grown hg (fun b hb _ => hb)) (fun a n c e hq => ?_)
    have h1 := (hall.row.lt _ hq).2
    have h2 := (q2 a n c e).1
    omega
set_option maxRecDepth 100000 in
set_option maxHeartbeats 4000000 in
theorem law_cuts (w : World) (K : Nat) (eb : Er → Addr) (S : Er → Bool) (E : Env w K eb S) (hK : K = w.heap.size) (hS : S .sick = true) (first : Nat) (hf64 : first < 18446744073709551616) (v : Value) (gs : List AGroup) (hv : GrpsIn w v gs)
    (oj : Option Addr) (cj : Nat) (junk : List UInt8) (hj : BytesAt w (.slice oj junk.length cj) junk) (hjo : ∀ a, oj = some a → a.spot = none ∧ a.block < w.heap.size) (hjl : junk.length ≤ 140737488355328) :
    Calls Tryz.prog 3 #[.int .u64 first, v, .slice oj junk.length cj] w fun e w' => e = .returned (.bool true) ∧ FrUp K w w' := by
  have HA := Lib.hid (law_awake w K eb S E)
  have HE := Lib.hid E
  have HK := Lib.hid hK
  have HV := Lib.hid hv
  have HJ := Lib.hid hj
  have HJO := Lib.hid hjo
  have HSS := Lib.hid hS
  obtain ⟨o, cap, hvv⟩ : ∃ o cap, v = .slice o gs.length cap := by
    rcases hv.form with ⟨h, h2⟩ | ⟨g, off, cap, h, _⟩
    · exact ⟨none, 0, by rw [h, h2]; rfl⟩
    · exact ⟨_, _, h⟩
  subst hvv
  have hglen := hv.len
  clear E hK hv hj hjo hS
  have e2 := neq_er
  have e3 := neq_nilE
  have e4 := eql_nil
  have e5 := eql_er
  go_enter Tryz.func3, Tryz.ntmps3
  go_wp2_with fail
  refine HA.out.mono ?_
  rintro e w1 ⟨rfl, hf1⟩
  have HF1 := Lib.hid hf1
  have HH := Lib.hid (law_heavy w1 _ gs (HV.out.low (by rw [← HK.out]; exact hf1)))
  clear hf1 HA
  go_wp2_with fail
  refine HH.out.mono ?_
  rintro e w2 ⟨rfl, rfl⟩
  cases hh : decide (4194304 < weigh gs) with
  | true =>
    go_wp2_with fail
    go_ret
    exact ⟨rfl, HF1.out⟩
  | false =>
    have HW := Lib.hid (of_decide_eq_false hh)
    clear hh HH
    by_cases hj1 : junk.length ≤ 4194304
    · by_cases h1 : 1 ≤ first
      · by_cases h2 : first ≤ 2305843009213693952
        · have g1 : ¬ (4194304 : Int) < (junk.length : Int) := by omega
          have g2 : ¬ (first : Int) < 1 := by omega
          have g3 : ¬ (2305843009213693952 : Int) < (first : Int) := by omega
          have HN := Lib.hid (new_disk w2 K (Nat.le_trans HE.out.G.size HF1.out.size))
          go_wp2_with fail
          refine HN.out.mono ?_
          rintro e w3 ⟨bd, ow, rfl, hD, hfr, hbd⟩
          have HF3 := Lib.hid (Fr.trans HF1.out (FrUp.none (K := K) hfr))
          have hg : goodB first = true := decide_eq_true ⟨h1, by omega⟩
          have HG := Lib.hid hg
          have HC := Lib.hid (new_create hD (FrUp.env HE.out HF3.out) first hg)
          clear hD hfr HN hg
          go_wp2_with fail
          refine HC.out.mono ?_
          rintro e w4 ⟨bs, D, ow4, f, rfl, hst, hfr⟩
          have hF4 := Fr.trans HF3.out hfr
          have HST := Lib.hid (show CutSt w w4 K first bd bs f D ow4 (.slice none 0 0) [] [] [] 0 2 (weigh (gs.take 0)) 0 from
            ⟨hst, GoodAt.nil first, ⟨rfl, World.ownsRow_nil _ _ _ _, (fun b h => by cases h), (fun j u l h => by simp at h)⟩, by simp, Nat.zero_le _, Nat.le_refl _, hF4⟩)
          clear hst hfr hF4 HC HF3 g1 g2 g3
          go_wp2_with fail
          go_loopw [10, 11] (fun v10 v11 wr => ∃ (k n N : Nat) (xs : List (List UInt8)) (vs : List Value) (data : List UInt8) (D : ADisk) (ow : Own), v11 = .int .i64 (k : Int) ∧ k ≤ gs.length ∧ CutSt w wr K first bd bs f D ow v10 xs vs data n N (weigh (gs.take k)) k) (fun _ v11 _ => gs.length - (intOf v11).toNat)
          case atStart => exact ⟨0, 0, 2, [], [], [], D, ow4, rfl, Nat.zero_le _, HST.out⟩
          case round =>
            obtain ⟨k, n, N, xs, vs, data, D5, ow5, rfl, hk, hst⟩ := hrel
            have HS := Lib.hid hst
            obtain ⟨o10, c10, hv10⟩ := (ownsRow_slice hst.all.row).form
            subst hv10
            clear hst HST
            by_cases hlt : k < gs.length
            · obtain ⟨g, off, ho, hgK, o1, c1, q1, hrecs⟩ : ∃ g off, o = some ⟨g, off, none⟩ ∧ g < K ∧ ∃ o1 c1, wr.cell? ⟨g, off + k * 2, none⟩ = some (.slice o1 gs[k].recs.length c1) ∧ RecsIn w (.slice o1 gs[k].recs.length c1) gs[k].recs := by
                rcases HV.out.form with ⟨h, h2⟩ | ⟨g, off, cap', h, _, h3⟩
                · subst h2; simp at hlt
                · injection h with h1
                  obtain ⟨o1, c1, q1, _, q3⟩ := h3 k hlt
                  have hl := World.block_lt_of_cell? _ _ q1
                  exact ⟨g, off, h1, by have := HK.out; simp only at hl; omega, o1, c1, (HS.out.fr.cell hl (by have := HK.out; simp only at *; omega)).trans q1, q3⟩
              subst ho
              have hwt := weigh_take gs k hlt
              have hwl := weigh_le gs (k + 1)
              have hrw := weighR_count gs[k].recs
              have hmx := weigh_mem (gs[k]) gs (List.getElem_mem hlt)
              obtain ⟨rs, hrs⟩ : ∃ rs, rs = gs[k].recs := ⟨_, rfl⟩
              rw [← hrs] at hwt hrw hrecs q1 hmx
              have HRE := Lib.hid hrecs
              have HRR := Lib.hid (hrecs.low (w' := wr) (by rw [← HK.out]; exact HS.out.fr))
              obtain ⟨vs1, hvl1, hvs1, hvr1⟩ := id hrecs
              have HVL1 := Lib.hid hvl1
              have HVS1 := Lib.hid hvs1
              have HVR1 := Lib.hid hvr1
              have HON := Lib.hid (show ∀ u ∈ vs1, u.oneCell' = true from fun u hu => by
                obtain ⟨j, hj, rfl⟩ := List.getElem_of_mem hu
                obtain ⟨oo, cc, hh⟩ := (hvr1 j _ (rs[j]'(by omega)) (List.getElem?_eq_getElem hj) (List.getElem?_eq_getElem (by omega))).form
                rw [hh]; rfl)
              have hxl : xs.length ≤ 524288 := by have := HS.out.wt; have := weigh_le gs k; have := HW.out; omega
              have hnl : n ≤ 524288 := by have := HS.out.few; omega
              have hNl : N ≤ 4194310 := by have := HS.out.ops; have := weigh_count gs; have := HW.out; omega
              have hrl : rs.length ≤ 524288 := by have := HW.out; omega
              have HWT := Lib.hid (show 8 * (xs ++ rs).length ≤ weigh (gs.take (k + 1)) from by rw [List.length_append, hwt]; have := HS.out.wt; omega)
              have HWT0 := Lib.hid (show 8 * xs.length ≤ weigh (gs.take (k + 1)) from by rw [hwt]; have := HS.out.wt; omega)
              have hdl : data.length ≤ 268435456 := by have := HS.out.good.1; omega
              have HLEN := Lib.hid (show ∀ r ∈ rs, r.length ≤ 1099511627776 from fun r hr => by have := weighR_mem r rs hr; have := HW.out; omega)
              clear hrecs hwt hwl hrw hrs hvl1 hvs1 hvr1 hmx
              by_cases h0 : rs = []
              · have HMID := Lib.hid (show MidSt w wr K first bd bs f D5 ow5 (.slice o10 xs.length c10) xs vs rs data n N (weigh (gs.take (k + 1))) (k + 1) from by
                  subst h0
                  have := HS.out
                  exact ⟨by rw [List.append_nil]; exact this.seg, by rw [List.append_nil]; exact this.good, this.all, HWT.out, by rw [List.append_nil]; exact this.few, by have := this.ops; omega, this.fr⟩)
                have HAP := Lib.hid (show Calls Tryz.prog 9 #[.pointer (some ⟨bs, 0, none⟩), .slice o1 rs.length c1] wr fun e w' => e = .returned .nilIface ∧ w' = wr from by
                  subst h0; exact seg_append_none HS.out.seg.seg rfl rfl o1 c1)
                clear h0
                go_wp2_with fail
                refine HAP.out.mono ?_
                rintro e w5 ⟨rfl, rfl⟩
                go_wp2_with (at_builtin; refine wpl_append_recs rfl (.tmp 60) (.tmp 65) rfl K _ _ _ rfl HMID.out.all.row _ rs.length vs1 rfl (HVS1.out.low (by rw [← HK.out]; exact HMID.out.fr)) HON.out (by unfold maxLen; omega) (by omega) (Nat.le_trans HE.out.G.size HMID.out.fr.size) ?_; intro v6 w6 hown6 hgrow6 hat6; have HO6 := Lib.hid hown6; have HG6 := Lib.hid hgrow6; have HA6 := Lib.hid hat6; clear hown6 hgrow6 hat6)
                exact ⟨⟨k + 1, n, N, xs ++ rs, vs ++ vs1, data, D5, ow5, by go_num, by omega, HMID.out.done HVL1.out HVR1.out HO6.out HG6.out HA6.out⟩, by simp [intOf]; omega⟩
              · cases hp : packE (first + xs.length) rs with
                | some x =>
                  have HAP := Lib.hid (seg_append_bad HS.out.seg.seg (FrUp.env HE.out HS.out.fr).G rfl rfl (by simp only; omega) o1 c1 rs HRR.out (by omega) HLEN.out x hp)
                  rw [show erV eb (some x) = .iface 211 (.pointer (some (eb x))) from rfl] at HAP
                  clear h0 hp
                  go_wp2_with fail
                  refine HAP.out.mono ?_
                  rintro e w5 ⟨rfl, hf5⟩
                  have HF5 := Lib.hid hf5
                  clear hf5
                  go_wp2_with fail
                  have hst := HS.out
                  exact ⟨⟨k + 1, n, N, xs, vs, data, D5, ow5, by go_num, by omega, ⟨hst.seg.fr HF5.out, hst.good, hst.all.off (HF5.out.mono (fun _ _ h => h.elim)) (Own.ext_refl _ _), HWT0.out, hst.few, by have := hst.ops; omega, Fr.trans hst.fr (FrUp.none HF5.out)⟩⟩, by simp [intOf]; omega⟩
                | none =>
                  obtain ⟨g1, off1, ho1, hcap1⟩ : ∃ g1 off1, o1 = some ⟨g1, off1, none⟩ ∧ rs.length ≤ c1 := by
                    rcases HVS1.out with ⟨_, q, _⟩ | ⟨a, c', q, q2, q3, q4⟩
                    · exact absurd (List.eq_nil_of_length_eq_zero q) h0
                    · injection q with q1 _ q5
                      have hpos := List.length_pos_iff.2 h0
                      have hc := q4 0 (vs1[0]'(by omega)) (List.getElem?_eq_getElem (by omega))
                      have hsp := World.cell?_spot hc
                      obtain ⟨b, off, sp⟩ := a
                      have : sp = none := by simpa [Addr.add] using hsp
                      subst this
                      exact ⟨b, off, q1, by omega⟩
                  subst ho1
                  have hpl := packB_length (first + xs.length) rs
                  have HAP := Lib.hid (step_append HS.out.seg (FrUp.env HE.out HS.out.fr) rfl rfl (by simp only; omega) (by simp only; omega) (by omega) g1 off1 c1 rs HRR.out hcap1 (by omega) h0 hp (by omega))
                  have HGD := Lib.hid (HS.out.good.append (packB_good (first + xs.length) rs (.inr ((packE_none hp).resolve_left h0).2.1) ((packE_none hp).resolve_left h0).2.2))
                  clear h0 hp
                  go_wp2_with fail
                  refine HAP.out.mono ?_
                  rintro e w5 ⟨rfl, D6, ow6, hst6, hup6, hf6, hx6⟩
                  have HMID := Lib.hid (show MidSt w w5 K first bd bs f D6 ow6 (.slice o10 xs.length c10) xs vs rs (data ++ packB (first + xs.length) rs) (n + (packB (first + xs.length) rs).length / 512) (N + 1) (weigh (gs.take (k + 1))) (k + 1) from
                    ⟨by rw [List.length_append, ← Nat.add_assoc]; exact hst6, HGD.out, HS.out.all.off hf6 hx6, HWT.out, by rw [List.length_append]; have := HS.out.few; omega, by have := HS.out.ops; omega, Fr.trans HS.out.fr hup6⟩)
                  have q5 : w5.cell? ⟨g, off + k * 2, none⟩ = some (.slice (some ⟨g1, off1, none⟩) rs.length c1) := (hup6.cell (World.block_lt_of_cell? _ _ q1) (by simp only; omega)).trans q1
                  generalize (data ++ packB (first + xs.length) rs) = data2 at *
                  generalize (n + (packB (first + xs.length) rs).length / 512) = n2 at *
                  clear hst6 hup6 hf6 hx6 HAP hpl HGD
                  go_wp2_with (at_builtin; refine wpl_append_recs rfl (.tmp 60) (.tmp 65) rfl K _ _ _ rfl HMID.out.all.row _ rs.length vs1 rfl (HVS1.out.low (by rw [← HK.out]; exact HMID.out.fr)) HON.out (by unfold maxLen; omega) (by omega) (Nat.le_trans HE.out.G.size HMID.out.fr.size) ?_; intro v6 w6 hown6 hgrow6 hat6; have HO6 := Lib.hid hown6; have HG6 := Lib.hid hgrow6; have HA6 := Lib.hid hat6; clear hown6 hgrow6 hat6)
                  exact ⟨⟨k + 1, n2, N + 1, xs ++ rs, vs ++ vs1, data2, D6, ow6, by go_num, by omega, HMID.out.done HVL1.out HVR1.out HO6.out HG6.out HA6.out⟩, by simp [intOf]; omega⟩
            · have hst := HS.out
              have hwk : weigh (gs.take k) ≤ 4194304 := by have := weigh_le gs k; have := HW.out; omega
              have hxl : xs.length ≤ 524288 := by have := hst.wt; omega
              have hnl : n ≤ 524288 := by have := hst.few; omega
              have hNl : N ≤ 4194310 := by have := hst.ops; have := weigh_count gs; have := HW.out; omega
              have hdl : data.length ≤ 268435456 := by have := hst.good.1; omega
              have HB1 := Lib.hid (seg_blocks hst.seg.seg)
              have HN1 := Lib.hid (seg_name wr K eb S (FrUp.env HE.out hst.fr) first hf64)
              clear hst hwk
              go_wp2_with fail
              refine HB1.out.mono ?_
              rintro e w5 ⟨rfl, rfl⟩
              go_wp2_with fail
              refine HN1.out.mono ?_
              rintro e w6 ⟨rfl, hf6⟩
              have HF6 := Lib.hid hf6
              have HS6 := Lib.hid (show CutSt w w6 K first bd bs f D5 ow5 (.slice o10 xs.length c10) xs vs data n N (weigh (gs.take k)) k from
                ⟨HS.out.seg.fr hf6, HS.out.good, HS.out.all.off (hf6.mono (fun _ _ h => h.elim)) (Own.ext_refl _ _), HS.out.wt, HS.out.few, HS.out.ops, Fr.trans HS.out.fr (FrUp.none hf6)⟩)
              have hjb : BytesAt w6 (.slice oj junk.length cj) junk := SliceIs.low HJ.out (by rw [← HK.out]; exact HS6.out.fr)
              have hjout : OutOf ow5 (.slice oj junk.length cj) := by
                intro a m c q
                injection q with q1 _ _
                have h1 := (HJO.out a q1).2
                cases ho : ow5 a.block with
                | none => rfl
                | some r =>
                  have := own_geD HS6.out.seg.disk a.block (Own.has_some ho)
                  have := HK.out
                  omega
              have HJA := Lib.hid (step_junk HS6.out.seg (FrUp.env HE.out HS6.out.fr) (by omega) _ junk hjb hjout (by omega))
              clear hf6 HB1 HN1 hjb hjout
              go_wp2_with fail
              refine HJA.out.mono ?_
              rintro e w7 ⟨rfl, D7, ow7, hst7, hup7, hf7, hx7⟩
              have HUP7 := Lib.hid (Fr.trans HS6.out.fr hup7)
              have HALL := Lib.hid (HS6.out.all.off hf7 hx7)
              have HST7 := Lib.hid hst7
              have HNX := Lib.hid (seg_next hst7.seg)
              obtain ⟨more, n2, hsc⟩ : ∃ more n2, scanB junk [] (first + xs.length) = (more, n2) := ⟨_, _, rfl⟩
              have hE7 := FrUp.env HE.out HUP7.out
              have hSC := block_scan w7 K eb S hE7.G hE7.T oj none cj 0 junk [] (first + xs.length) (SliceIs.low HJ.out (by rw [← HK.out]; exact HUP7.out)) (fun a h => (HJO.out a h).1) (.inl ⟨rfl, rfl, rfl⟩) (fun a h => by cases h) (by omega) (by omega) (by simp)
              rw [hsc] at hSC
              have HSC := Lib.hid hSC
              have hcnt := scanB_count junk [] (first + xs.length)
              rw [hsc] at hcnt
              have hm2 : more.length ≤ 2023424 := by have := hcnt.1; simp only at this; omega
              have hn2 : n2 ≤ 8192 := by have := hcnt.2; simp only at this; omega
              have HL := Lib.hid (show scanB (data ++ junk) [] first = (xs ++ more, n + n2) from by rw [HS.out.good.2 junk, hsc])
              clear hst7 hup7 hf7 hx7 HJA hSC hcnt hE7 hsc
              go_wp2_with fail
              refine HNX.out.mono ?_
              rintro e w8 ⟨rfl, rfl⟩
              go_wp2_with fail
              refine HSC.out.mono ?_
              rintro e w9 ⟨v13, rfl, hrec9, hf9⟩
              obtain ⟨vs2, hvl2, hvo2, hve2⟩ := hrec9
              have HF9 := Lib.hid hf9
              have HUP9 := Lib.hid (Fr.trans HUP7.out (FrUp.none (K := K) hf9))
              have HST9 := Lib.hid (HST7.out.fr hf9)
              have HALL9 := Lib.hid (HALL.out.off (hf9.mono (fun _ _ h => h.elim)) (Own.ext_refl _ _))
              have HSL2 := Lib.hid (ownsRow_slice hvo2)
              have HVL2 := Lib.hid hvl2
              have HVE2 := Lib.hid hve2
              have HON2 := Lib.hid (show ∀ u ∈ vs2, u.oneCell' = true from fun u hu => by
                obtain ⟨j, hj, rfl⟩ := List.getElem_of_mem hu
                obtain ⟨oo, cc, hh⟩ := (hve2 j _ (more[j]'(by omega)) (List.getElem?_eq_getElem hj) (List.getElem?_eq_getElem (by omega))).1.form
                rw [hh]; rfl)
              obtain ⟨o13, c13, hv13⟩ := (ownsRow_slice hvo2).form
              subst hv13
              clear hf9 hvl2 hvo2 hve2 HSC HNX
              go_wp2_with (at_builtin; refine wpl_append_recs rfl (.tmp 82) (.tmp 83) rfl K _ _ _ rfl HALL9.out.row _ more.length vs2 rfl HSL2.out HON2.out (by unfold maxLen; omega) (by omega) (Nat.le_trans HE.out.G.size HUP9.out.size) ?_; intro v10' w10 hown10 hgrow10 hat10; have HO10 := Lib.hid hown10; have HG10 := Lib.hid hgrow10; have HA10 := Lib.hid hat10; clear hown10 hgrow10 hat10)
              have hfA : Fr (fun b => (Value.slice o10 xs.length c10).ownBlock = some b) w9 w10 := (Fr.refl _ _).grown HG10.out (fun b hb _ => hb)
              have hupA : FrUp K w w10 := Fr.trans HUP9.out (hfA.mono (fun b _ hb => (HALL9.out.row.lt b hb).1))
              have HUPA := Lib.hid hupA
              have HSTA := Lib.hid (HST9.out.off hfA (fun b hb => HALL9.out.out b hb))
              have HRA := Lib.hid (all_more HALL.out HF9.out HVL2.out HVE2.out HO10.out HG10.out (by rw [← HK.out]; exact hupA))
              obtain ⟨oA, cA, hvA⟩ := (ownsRow_slice HO10.out).form
              subst hvA
              have hOP := step_open HSTA.out (FrUp.env HE.out hupA) first HG.out rfl
              obtain ⟨t, ht⟩ : ∃ t, t = openSeg (data ++ junk) [] first := ⟨_, rfl⟩
              obtain ⟨bw, hbw⟩ : ∃ bw : Bool, bw = decide (junk.length = n2 * 512) := ⟨_, rfl⟩
              obtain ⟨L, hL⟩ : ∃ L, L = xs ++ more := ⟨_, rfl⟩
              have ht' : t = ⟨nameB first, first + L.length, n + n2, bw, false⟩ := by
                rw [ht, hL, hbw]
                unfold openSeg
                rw [HL.out]
                simp only [List.length_append, HS.out.good.1]
                congr 1
                simp only [decide_eq_decide]
                omega
              rw [← ht, HL.out, ← hL] at hOP
              have HT := Lib.hid ht'
              have HBW := Lib.hid hbw
              have HLL := Lib.hid hL
              have HOP := Lib.hid hOP
              have hll : L.length ≤ 2547712 := by rw [hL, List.length_append]; omega
              have hlen2 : (xs.length + more.length) = L.length := by rw [hL, List.length_append]
              rw [hlen2, ← hL] at HRA
              rw [hlen2]
              clear hfA hupA hOP ht ht' hbw hL hlen2
              go_wp2_with fail
              refine HOP.out.mono ?_
              rintro e w11 ⟨bt, vl, rfl, hrec11, hst11, hbt, hf11⟩
              have HUP11 := Lib.hid (Fr.trans HUPA.out (FrUp.none (K := K) hf11))
              have HST11 := Lib.hid hst11
              obtain ⟨ol, cl, hvl⟩ := hrec11.seen.form
              subst hvl
              have HLI := Lib.hid (law_lists w11 _ _ L L hrec11.seen (HRA.out.fr hf11) (by omega) (by omega))
              rw [decide_eq_true rfl] at HLI
              clear hrec11 hst11 hf11 HOP
              go_wp2_with fail
              refine HLI.out.mono ?_
              rintro e w12 ⟨rfl, hf12⟩
              obtain ⟨nn, hnn⟩ : ∃ nn, nn = n + n2 := ⟨_, rfl⟩
              obtain ⟨dat, hdat⟩ : ∃ dat, dat = data ++ junk := ⟨_, rfl⟩
              have hstB : SegSt w12 bd bt K D7 ow7 ⟨nameB first, first + L.length, nn, bw, false⟩ f dat (N + 1) := by
                have := HST11.out.fr hf12
                rw [HT.out, ← hnn, ← hdat] at this; exact this
              have HSTB := Lib.hid hstB
              have HUPB := Lib.hid (Fr.trans HUP11.out (FrUp.none (K := K) hf12))
              have HBT := Lib.hid (seg_blocks hstB.seg)
              have HWT := Lib.hid (seg_whole hstB.seg)
              have HOPS := Lib.hid (disk_ops hstB.disk)
              have hnnl : nn ≤ 532480 := by omega
              have hdatl : nn * 512 ≤ dat.length := by
                have h1 := (scanB_count (data ++ junk) [] first).2
                rw [HL.out, ← hnn, ← hdat] at h1
                simp only at h1; omega
              have hops := hstB.st.calm.ops
              have b1 : ((nn : Int) != (n : Int) + (n2 : Int)) = false := by rw [hnn]; simp
              have b2 : ((junk.length : Int) == (n2 : Int) * 512) = bw := by
                rw [HBW.out]
                by_cases h : junk.length = n2 * 512
                · rw [decide_eq_true h, beq_iff_eq]; omega
                · rw [decide_eq_false h, beq_eq_false_iff_ne]; omega
              have b3 : (bw != bw) = false := by cases bw <;> rfl
              have w3 : IntKind.i64.wrap ((n2 : Int) * 512) = (n2 : Int) * 512 := IntWalk.i64_in _ (by omega)
              have HDL := Lib.hid (show dat.length = n * 512 + junk.length from by rw [hdat, List.length_append, HS.out.good.1])
              have HNN := Lib.hid hnn
              clear hf12 hstB hdat hnn
              go_wp2_with fail
              refine HBT.out.mono ?_
              rintro e w13 ⟨rfl, rfl⟩
              go_wp2_with fail
              refine HWT.out.mono ?_
              rintro e w14 ⟨rfl, rfl⟩
              go_wp2_with fail
              refine HOPS.out.mono ?_
              rintro e w15 ⟨rfl, rfl⟩
              go_wp2_with fail
              refine HWT.out.mono ?_
              rintro e w16 ⟨rfl, rfl⟩
              clear b1 b2 b3 w3
              cases bw with
              | true =>
                have HCW := Lib.hid (seg_cut_whole HSTB.out.seg rfl rfl)
                have b4 : (D7.ops == D7.ops) = true := beq_self_eq_true _
                go_wp2_with fail
                refine HCW.out.mono ?_
                rintro e w17 ⟨rfl, rfl⟩
                go_wp2_with fail
                refine HOPS.out.mono ?_
                rintro e w18 ⟨rfl, rfl⟩
                go_wp2_with fail
                go_ret
                exact ⟨rfl, HUPB.out⟩
              | false =>
                clear HOPS HWT HBT
                have hEB := FrUp.env HE.out HUPB.out
                have cs : (convert 24 24 (.slice (some ⟨w16.heap.size, 0, none⟩) 1 1)).run Tryz.prog (w16.alloc (.cells #[.int .u8 120] 5)).drew = .ok (.slice (some ⟨w16.heap.size, 0, none⟩) 1 1) (w16.alloc (.cells #[.int .u8 120] 5 (1, 2))).drew := Lib.run_convert_bytes_const w16.drew 24 5 #[.int .u8 120] 1 1 Tryz.underlying24 Tryz.underlying5
                have vs : w16.cell? ⟨0, 0, none⟩ = some (.iface 211 (.pointer (some (eb .sick)))) := hEB.G.var' .sick HSS.out
                have hzs : 0 < w16.heap.size := Nat.lt_of_lt_of_le (hEB.G.lt .sick HSS.out).1 hEB.G.size
                have heq := neq_same (eb .sick)
                have HAP := Lib.hid (fun (W : World) (v : Value) (h : Fr (fun _ => False) w16 W) => seg_append_sick (HSTB.out.fr h).seg (FrUp.env HE.out (Fr.trans HUPB.out (FrUp.none h))).G HSS.out (.inr rfl) v)
                have HOP1 := Lib.hid (fun (W : World) (h : Fr (fun _ => False) w16 W) => disk_ops (HSTB.out.fr h).disk)
                have HCT := Lib.hid (fun (W : World) (h : Fr (fun _ => False) w16 W) => step_cut (HSTB.out.fr h) (FrUp.env HE.out (Fr.trans HUPB.out (FrUp.none h))) rfl rfl (by simp only; omega) (by omega) (by simp only; exact hdatl))
                rw [show erV eb (some Er.sick) = .iface 211 (.pointer (some (eb .sick))) from rfl] at HAP
                clear hEB
                go_wp2_with fail
                have w5 : IntKind.i64.wrap (D7.ops + 1) = D7.ops + 1 := IntWalk.i64_in _ (by omega)
                have HKE := Lib.hid (fun (W : World) (h : Fr (fun _ => False) w16 W) => (h.cell (a := ⟨0, 0, none⟩) hzs (fun q => q)).trans vs)
                clear hzs
                refine wp_region_noPanic ?_
                refine wp_region_held_drew (S := fun W => W.cell? ⟨0, 0, none⟩ = some (.iface 211 (.pointer (some (eb .sick))))) (by kernel_rfl) ?_ (fun hH => ?_)
                · exact vs
                refine wpAnyH_take (i := 0) (v := ?_) (by simp only [List.getElem?_toArray, List.getElem?_cons_zero]; exact rfl) (by kernel_rfl) (by kernel_rfl) (by kernel_rfl) (fun _ _ _ h => h) (Or.inl ⟨by rfl, ?_⟩) hH ?_
                rotate_left
                · (intro w hSw; (try dsimp only at hSw); go_simp; all_goals (with_reducible rfl))
                try simp only [Act.put, List.setIfInBounds_toArray, List.set_cons_zero, List.set_cons_succ]
                refine wpAnyH_take (i := 5) (v := ?_) (by simp only [List.getElem?_toArray, List.getElem?_cons_succ, List.getElem?_cons_zero]; exact rfl) (by kernel_rfl) (by kernel_rfl) (by kernel_rfl) (fun _ _ _ h => h) (Or.inl ⟨by rfl, ?_⟩) hH ?_
                rotate_left
                · (intro w hSw; (try dsimp only at hSw); go_simp; all_goals (with_reducible rfl))
                try simp only [Act.put, List.setIfInBounds_toArray, List.set_cons_zero, List.set_cons_succ]
                refine wpAnyH_ready (rs := [1]) (by kernel_rfl) (by simp) ?_
                refine AllReadyH.cons (by simp only [List.getElem?_toArray, List.getElem?_cons_succ, List.getElem?_cons_zero]; exact rfl) (fun KK hKK => ?_) AllReadyH.nil
                go_simp
                refine hKK.out _ _ ?_ (fun hH2 => ?_)
                · (first | exact vC | exact vs | (refine HKE.out _ ?_; repeat (first | exact Fr.refl _ _ | refine Fr.drew ?_ | refine Fr.alloc ?_ _)))
                clear hH hKK KK
                have hH := hH2
                clear hH2
                try simp only [Act.put, List.setIfInBounds_toArray, List.set_cons_zero, List.set_cons_succ]
                refine wpAnyH_ready (rs := [2]) (by kernel_rfl) (by simp) ?_
                refine AllReadyH.cons (by simp only [List.getElem?_toArray, List.getElem?_cons_succ, List.getElem?_cons_zero]; exact rfl) (fun KK hKK => ?_) AllReadyH.nil
                go_simp
                refine hKK.out _ _ ?_ (fun hH2 => ?_)
                · (first | exact vC | exact vs | (refine HKE.out _ ?_; repeat (first | exact Fr.refl _ _ | refine Fr.drew ?_ | refine Fr.alloc ?_ _)))
                clear hH hKK KK
                have hH := hH2
                clear hH2
                try simp only [Act.put, List.setIfInBounds_toArray, List.set_cons_zero, List.set_cons_succ]
                refine wpAnyH_ready (rs := [3]) (by kernel_rfl) (by simp) ?_
                refine AllReadyH.cons (by simp only [List.getElem?_toArray, List.getElem?_cons_succ, List.getElem?_cons_zero]; exact rfl) (fun KK hKK => ?_) AllReadyH.nil
                go_simp
                refine hKK.out _ _ ?_ (fun hH2 => ?_)
                · (first | exact vC | exact vs | (refine HKE.out _ ?_; repeat (first | exact Fr.refl _ _ | refine Fr.drew ?_ | refine Fr.alloc ?_ _)))
                clear hH hKK KK
                have hH := hH2
                clear hH2
                try simp only [Act.put, List.setIfInBounds_toArray, List.set_cons_zero, List.set_cons_succ]
                refine wpAnyH_ready (rs := [4]) (by kernel_rfl) (by simp) ?_
                refine AllReadyH.cons (by simp only [List.getElem?_toArray, List.getElem?_cons_succ, List.getElem?_cons_zero]; exact rfl) (fun KK hKK => ?_) AllReadyH.nil
                go_simp
                refine (HAP.out _ _ (by repeat (first | exact Fr.refl _ _ | refine Fr.drew ?_ | refine Fr.alloc ?_ _))).mono ?_
                rintro e wW ⟨rfl, rfl⟩
                go_wp2_with fail
                refine hKK.out _ _ ?_ (fun hH2 => ?_)
                · (first | exact vC | exact vs | (refine HKE.out _ ?_; repeat (first | exact Fr.refl _ _ | refine Fr.drew ?_ | refine Fr.alloc ?_ _)))
                clear hH hKK KK
                have hH := hH2
                clear hH2
                try simp only [Act.put, List.setIfInBounds_toArray, List.set_cons_zero, List.set_cons_succ]
                refine wpAnyH_take (i := 6) (v := ?_) (by simp only [List.getElem?_toArray, List.getElem?_cons_succ, List.getElem?_cons_zero]; exact rfl) (by kernel_rfl) (by kernel_rfl) (by kernel_rfl) (fun _ _ _ h => h) (Or.inl ⟨by rfl, ?_⟩) hH ?_
                rotate_left
                · (intro w hSw; (try dsimp only at hSw); go_simp; all_goals (with_reducible rfl))
                try simp only [Act.put, List.setIfInBounds_toArray, List.set_cons_zero, List.set_cons_succ]
                refine wpAnyH_take (i := 7) (v := ?_) (by simp only [List.getElem?_toArray, List.getElem?_cons_succ, List.getElem?_cons_zero]; exact rfl) (by kernel_rfl) (by kernel_rfl) (by kernel_rfl) (fun _ _ _ h => h) (Or.inl ⟨by rfl, ?_⟩) hH ?_
                rotate_left
                · (intro w hSw; (try dsimp only at hSw); go_simp; all_goals (with_reducible rfl))
                try simp only [Act.put, List.setIfInBounds_toArray, List.set_cons_zero, List.set_cons_succ]
                refine wpAnyH_take (i := 8) (v := ?_) (by simp only [List.getElem?_toArray, List.getElem?_cons_succ, List.getElem?_cons_zero]; exact rfl) (by kernel_rfl) (by kernel_rfl) (by kernel_rfl) (fun _ _ _ h => h) (Or.inl ⟨by rfl, ?_⟩) hH ?_
                rotate_left
                · (intro w hSw; (try dsimp only at hSw); go_simp; all_goals (with_reducible rfl))
                try simp only [Act.put, List.setIfInBounds_toArray, List.set_cons_zero, List.set_cons_succ]
                refine wpAnyH_take (i := 10) (v := ?_) (by simp only [List.getElem?_toArray, List.getElem?_cons_succ, List.getElem?_cons_zero]; exact rfl) (by kernel_rfl) (by kernel_rfl) (by kernel_rfl) (fun _ _ _ h => h) (Or.inl ⟨by rfl, ?_⟩) hH ?_
                rotate_left
                · (intro w hSw; (try dsimp only at hSw); go_simp; all_goals (with_reducible rfl))
                try simp only [Act.put, List.setIfInBounds_toArray, List.set_cons_zero, List.set_cons_succ]
                refine wpAnyH_ready (rs := [9]) (by kernel_rfl) (by simp) ?_
                refine AllReadyH.cons (by simp only [List.getElem?_toArray, List.getElem?_cons_succ, List.getElem?_cons_zero]; exact rfl) (fun KK hKK => ?_) AllReadyH.nil
                go_simp
                refine (HOP1.out _ (by repeat (first | exact Fr.refl _ _ | refine Fr.drew ?_ | refine Fr.alloc ?_ _))).mono ?_
                rintro e wW ⟨rfl, rfl⟩
                go_wp2_with fail
                refine hKK.out _ _ ?_ (fun hH2 => ?_)
                · (first | exact vC | exact vs | (refine HKE.out _ ?_; repeat (first | exact Fr.refl _ _ | refine Fr.drew ?_ | refine Fr.alloc ?_ _)))
                clear hH hKK KK
                have hH := hH2
                clear hH2
                try simp only [Act.put, List.setIfInBounds_toArray, List.set_cons_zero, List.set_cons_succ]
                refine wpAnyH_take (i := 11) (v := ?_) (by simp only [List.getElem?_toArray, List.getElem?_cons_succ, List.getElem?_cons_zero]; exact rfl) (by kernel_rfl) (by kernel_rfl) (by kernel_rfl) (fun _ _ _ h => h) (Or.inl ⟨by rfl, ?_⟩) hH ?_
                rotate_left
                · (intro w hSw; (try dsimp only at hSw); go_simp; all_goals (with_reducible rfl))
                try simp only [Act.put, List.setIfInBounds_toArray, List.set_cons_zero, List.set_cons_succ]
                refine wpAnyH_take (i := 12) (v := ?_) (by simp only [List.getElem?_toArray, List.getElem?_cons_succ, List.getElem?_cons_zero]; exact rfl) (by kernel_rfl) (by kernel_rfl) (by kernel_rfl) (fun _ _ _ h => h) (Or.inl ⟨by rfl, ?_⟩) hH ?_
                rotate_left
                · (intro w hSw; (try dsimp only at hSw); go_simp; all_goals (with_reducible rfl))
                try simp only [Act.put, List.setIfInBounds_toArray, List.set_cons_zero, List.set_cons_succ]
                refine wpAnyH_take (i := 13) (v := ?_) (by simp only [List.getElem?_toArray, List.getElem?_cons_succ, List.getElem?_cons_zero]; exact rfl) (by kernel_rfl) (by kernel_rfl) (by kernel_rfl) (fun _ _ _ h => h) (Or.inl ⟨by rfl, ?_⟩) hH ?_
                rotate_left
                · (intro w hSw; (try dsimp only at hSw); go_simp; all_goals (with_reducible rfl))
                try simp only [Act.put, List.setIfInBounds_toArray, List.set_cons_zero, List.set_cons_succ]
                refine wpAnyH_take (i := 14) (v := ?_) (by simp only [List.getElem?_toArray, List.getElem?_cons_succ, List.getElem?_cons_zero]; exact rfl) (by kernel_rfl) (by kernel_rfl) (by kernel_rfl) (fun _ _ _ h => h) (Or.inl ⟨by rfl, ?_⟩) hH ?_
                rotate_left
                · (intro w hSw; (try dsimp only at hSw); go_simp; all_goals (with_reducible rfl))
                try simp only [Act.put, List.setIfInBounds_toArray, List.set_cons_zero, List.set_cons_succ]
                refine wpAnyH_ready (rs := [15]) (by kernel_rfl) (by simp) ?_
                refine AllReadyH.cons (by simp only [List.getElem?_toArray, List.getElem?_cons_succ, List.getElem?_cons_zero]; exact rfl) (fun KK hKK => ?_) AllReadyH.nil
                go_simp
                refine (HCT.out _ (by repeat (first | exact Fr.refl _ _ | refine Fr.drew ?_ | refine Fr.alloc ?_ _))).mono ?_
                rintro e wC ⟨rfl, D8, ow8, hst8, hops8, hup8, hf8, hx8⟩
                have hOC := disk_ops hst8.disk
                rw [hops8] at hOC
                have HOPC := Lib.hid hOC
                have HWC := Lib.hid (seg_whole hst8.seg)
                have HCC := Lib.hid (seg_cut_whole hst8.seg rfl rfl)
                have HST8 := Lib.hid hst8
                have HUP8 := Lib.hid (show FrUp K w wC from Fr.trans (Fr.trans HUPB.out (FrUp.none (by repeat (first | exact Fr.refl _ _ | refine Fr.drew ?_ | refine Fr.alloc ?_ _)))) hup8)
                have vC := (FrUp.env HE.out HUP8.out).G.var' .sick HSS.out
                clear hst8 hops8 hup8 hf8 hx8 hOC
                go_wp2_with fail
                refine hKK.out _ _ ?_ (fun hH2 => ?_)
                · (first | exact vC | exact vs | (refine HKE.out _ ?_; repeat (first | exact Fr.refl _ _ | refine Fr.drew ?_ | refine Fr.alloc ?_ _)))
                clear hH hKK KK
                have hH := hH2
                clear hH2
                try simp only [Act.put, List.setIfInBounds_toArray, List.set_cons_zero, List.set_cons_succ]
                refine wpAnyH_take (i := 16) (v := ?_) (by simp only [List.getElem?_toArray, List.getElem?_cons_succ, List.getElem?_cons_zero]; exact rfl) (by kernel_rfl) (by kernel_rfl) (by kernel_rfl) (fun _ _ _ h => h) (Or.inl ⟨by rfl, ?_⟩) hH ?_
                rotate_left
                · (intro w hSw; (try dsimp only at hSw); go_simp; all_goals (with_reducible rfl))
                try simp only [Act.put, List.setIfInBounds_toArray, List.set_cons_zero, List.set_cons_succ]
                refine wpAnyH_take (i := 17) (v := ?_) (by simp only [List.getElem?_toArray, List.getElem?_cons_succ, List.getElem?_cons_zero]; exact rfl) (by kernel_rfl) (by kernel_rfl) (by kernel_rfl) (fun _ _ _ h => h) (Or.inl ⟨by rfl, ?_⟩) hH ?_
                rotate_left
                · (intro w hSw; (try dsimp only at hSw); go_simp; all_goals (with_reducible rfl))
                try simp only [Act.put, List.setIfInBounds_toArray, List.set_cons_zero, List.set_cons_succ]
                refine wpAnyH_take (i := 18) (v := ?_) (by simp only [List.getElem?_toArray, List.getElem?_cons_succ, List.getElem?_cons_zero]; exact rfl) (by kernel_rfl) (by kernel_rfl) (by kernel_rfl) (fun _ _ _ h => h) (Or.inl ⟨by rfl, ?_⟩) hH ?_
                rotate_left
                · (intro w hSw; (try dsimp only at hSw); go_simp; all_goals (with_reducible rfl))
                try simp only [Act.put, List.setIfInBounds_toArray, List.set_cons_zero, List.set_cons_succ]
                refine wpAnyH_take (i := 19) (v := ?_) (by simp only [List.getElem?_toArray, List.getElem?_cons_succ, List.getElem?_cons_zero]; exact rfl) (by kernel_rfl) (by kernel_rfl) (by kernel_rfl) (fun _ _ _ h => h) (Or.inl ⟨by rfl, ?_⟩) hH ?_
                rotate_left
                · (intro w hSw; (try dsimp only at hSw); go_simp; all_goals (with_reducible rfl))
                try simp only [Act.put, List.setIfInBounds_toArray, List.set_cons_zero, List.set_cons_succ]
                refine wpAnyH_take (i := 21) (v := ?_) (by simp only [List.getElem?_toArray, List.getElem?_cons_succ, List.getElem?_cons_zero]; exact rfl) (by kernel_rfl) (by kernel_rfl) (by kernel_rfl) (fun _ _ _ h => h) (Or.inl ⟨by rfl, ?_⟩) hH ?_
                rotate_left
                · (intro w hSw; (try dsimp only at hSw); go_simp; all_goals (with_reducible rfl))
                try simp only [Act.put, List.setIfInBounds_toArray, List.set_cons_zero, List.set_cons_succ]
                refine wpAnyH_take (i := 22) (v := ?_) (by simp only [List.getElem?_toArray, List.getElem?_cons_succ, List.getElem?_cons_zero]; exact rfl) (by kernel_rfl) (by kernel_rfl) (by kernel_rfl) (fun _ _ _ h => h) (Or.inl ⟨by rfl, ?_⟩) hH ?_
                rotate_left
                · (intro w hSw; (try dsimp only at hSw); go_simp; all_goals (with_reducible rfl))
                try simp only [Act.put, List.setIfInBounds_toArray, List.set_cons_zero, List.set_cons_succ]
                refine wpAnyH_ready (rs := [20]) (by kernel_rfl) (by simp) ?_
                refine AllReadyH.cons (by simp only [List.getElem?_toArray, List.getElem?_cons_succ, List.getElem?_cons_zero]; exact rfl) (fun KK hKK => ?_) AllReadyH.nil
                go_simp
                refine HOPC.out.mono ?_
                rintro e wW ⟨rfl, rfl⟩
                go_wp2_with fail
                refine hKK.out _ _ ?_ (fun hH2 => ?_)
                · (first | exact vC | exact vs | (refine HKE.out _ ?_; repeat (first | exact Fr.refl _ _ | refine Fr.drew ?_ | refine Fr.alloc ?_ _)))
                clear hH hKK KK
                have hH := hH2
                clear hH2
                try simp only [Act.put, List.setIfInBounds_toArray, List.set_cons_zero, List.set_cons_succ]
                refine wpAnyH_take (i := 23) (v := ?_) (by simp only [List.getElem?_toArray, List.getElem?_cons_succ, List.getElem?_cons_zero]; exact rfl) (by kernel_rfl) (by kernel_rfl) (by kernel_rfl) (fun _ _ _ h => h) (Or.inl ⟨by rfl, ?_⟩) hH ?_
                rotate_left
                · (intro w hSw; (try dsimp only at hSw); go_simp; all_goals (with_reducible rfl))
                try simp only [Act.put, List.setIfInBounds_toArray, List.set_cons_zero, List.set_cons_succ]
                refine wpAnyH_take (i := 24) (v := ?_) (by simp only [List.getElem?_toArray, List.getElem?_cons_succ, List.getElem?_cons_zero]; exact rfl) (by kernel_rfl) (by kernel_rfl) (by kernel_rfl) (fun _ _ _ h => h) (Or.inl ⟨by rfl, ?_⟩) hH ?_
                rotate_left
                · (intro w hSw; (try dsimp only at hSw); go_simp; all_goals (with_reducible rfl))
                try simp only [Act.put, List.setIfInBounds_toArray, List.set_cons_zero, List.set_cons_succ]
                refine wpAnyH_take (i := 25) (v := ?_) (by simp only [List.getElem?_toArray, List.getElem?_cons_succ, List.getElem?_cons_zero]; exact rfl) (by kernel_rfl) (by kernel_rfl) (by kernel_rfl) (fun _ _ _ h => h) (Or.inl ⟨by rfl, ?_⟩) hH ?_
                rotate_left
                · (intro w hSw; (try dsimp only at hSw); go_simp; all_goals (with_reducible rfl))
                try simp only [Act.put, List.setIfInBounds_toArray, List.set_cons_zero, List.set_cons_succ]
                refine wpAnyH_take (i := 26) (v := ?_) (by simp only [List.getElem?_toArray, List.getElem?_cons_succ, List.getElem?_cons_zero]; exact rfl) (by kernel_rfl) (by kernel_rfl) (by kernel_rfl) (fun _ _ _ h => h) (Or.inl ⟨by rfl, ?_⟩) hH ?_
                rotate_left
                · (intro w hSw; (try dsimp only at hSw); go_simp; all_goals (with_reducible rfl))
                try simp only [Act.put, List.setIfInBounds_toArray, List.set_cons_zero, List.set_cons_succ]
                refine wpAnyH_ready (rs := [27]) (by kernel_rfl) (by simp) ?_
                refine AllReadyH.cons (by simp only [List.getElem?_toArray, List.getElem?_cons_succ, List.getElem?_cons_zero]; exact rfl) (fun KK hKK => ?_) AllReadyH.nil
                go_simp
                refine HWC.out.mono ?_
                rintro e wW ⟨rfl, rfl⟩
                go_wp2_with fail
                refine hKK.out _ _ ?_ (fun hH2 => ?_)
                · (first | exact vC | exact vs | (refine HKE.out _ ?_; repeat (first | exact Fr.refl _ _ | refine Fr.drew ?_ | refine Fr.alloc ?_ _)))
                clear hH hKK KK
                have hH := hH2
                clear hH2
                try simp only [Act.put, List.setIfInBounds_toArray, List.set_cons_zero, List.set_cons_succ]
                refine wpAnyH_take (i := 28) (v := ?_) (by simp only [List.getElem?_toArray, List.getElem?_cons_succ, List.getElem?_cons_zero]; exact rfl) (by kernel_rfl) (by kernel_rfl) (by kernel_rfl) (fun _ _ _ h => h) (Or.inl ⟨by rfl, ?_⟩) hH ?_
                rotate_left
                · (intro w hSw; (try dsimp only at hSw); go_simp; all_goals (with_reducible rfl))
                try simp only [Act.put, List.setIfInBounds_toArray, List.set_cons_zero, List.set_cons_succ]
                refine wpAnyH_take (i := 29) (v := ?_) (by simp only [List.getElem?_toArray, List.getElem?_cons_succ, List.getElem?_cons_zero]; exact rfl) (by kernel_rfl) (by kernel_rfl) (by kernel_rfl) (fun _ _ _ h => h) (Or.inl ⟨by rfl, ?_⟩) hH ?_
                rotate_left
                · (intro w hSw; (try dsimp only at hSw); go_simp; all_goals (with_reducible rfl))
                try simp only [Act.put, List.setIfInBounds_toArray, List.set_cons_zero, List.set_cons_succ]
                refine wpAnyH_take (i := 30) (v := ?_) (by simp only [List.getElem?_toArray, List.getElem?_cons_succ, List.getElem?_cons_zero]; exact rfl) (by kernel_rfl) (by kernel_rfl) (by kernel_rfl) (fun _ _ _ h => h) (Or.inl ⟨by rfl, ?_⟩) hH ?_
                rotate_left
                · (intro w hSw; (try dsimp only at hSw); go_simp; all_goals (with_reducible rfl))
                try simp only [Act.put, List.setIfInBounds_toArray, List.set_cons_zero, List.set_cons_succ]
                refine wpAnyH_take (i := 31) (v := ?_) (by simp only [List.getElem?_toArray, List.getElem?_cons_succ, List.getElem?_cons_zero]; exact rfl) (by kernel_rfl) (by kernel_rfl) (by kernel_rfl) (fun _ _ _ h => h) (Or.inl ⟨by rfl, ?_⟩) hH ?_
                rotate_left
                · (intro w hSw; (try dsimp only at hSw); go_simp; all_goals (with_reducible rfl))
                try simp only [Act.put, List.setIfInBounds_toArray, List.set_cons_zero, List.set_cons_succ]
                refine wpAnyH_ready (rs := [32]) (by kernel_rfl) (by simp) ?_
                refine AllReadyH.cons (by simp only [List.getElem?_toArray, List.getElem?_cons_succ, List.getElem?_cons_zero]; exact rfl) (fun KK hKK => ?_) AllReadyH.nil
                go_simp
                refine HCC.out.mono ?_
                rintro e wW ⟨rfl, rfl⟩
                go_wp2_with fail
                refine hKK.out _ _ ?_ (fun hH2 => ?_)
                · (first | exact vC | exact vs | (refine HKE.out _ ?_; repeat (first | exact Fr.refl _ _ | refine Fr.drew ?_ | refine Fr.alloc ?_ _)))
                clear hH hKK KK
                have hH := hH2
                clear hH2
                try simp only [Act.put, List.setIfInBounds_toArray, List.set_cons_zero, List.set_cons_succ]
                refine wpAnyH_take (i := 33) (v := ?_) (by simp only [List.getElem?_toArray, List.getElem?_cons_succ, List.getElem?_cons_zero]; exact rfl) (by kernel_rfl) (by kernel_rfl) (by kernel_rfl) (fun _ _ _ h => h) (Or.inl ⟨by rfl, ?_⟩) hH ?_
                rotate_left
                · (intro w hSw; (try dsimp only at hSw); go_simp; all_goals (with_reducible rfl))
                try simp only [Act.put, List.setIfInBounds_toArray, List.set_cons_zero, List.set_cons_succ]
                refine wpAnyH_take (i := 34) (v := ?_) (by simp only [List.getElem?_toArray, List.getElem?_cons_succ, List.getElem?_cons_zero]; exact rfl) (by kernel_rfl) (by kernel_rfl) (by kernel_rfl) (fun _ _ _ h => h) (Or.inl ⟨by rfl, ?_⟩) hH ?_
                rotate_left
                · (intro w hSw; (try dsimp only at hSw); go_simp; all_goals (with_reducible rfl))
                try simp only [Act.put, List.setIfInBounds_toArray, List.set_cons_zero, List.set_cons_succ]
                refine wpAnyH_take (i := 35) (v := ?_) (by simp only [List.getElem?_toArray, List.getElem?_cons_succ, List.getElem?_cons_zero]; exact rfl) (by kernel_rfl) (by kernel_rfl) (by kernel_rfl) (fun _ _ _ h => h) (Or.inl ⟨by rfl, ?_⟩) hH ?_
                rotate_left
                · (intro w hSw; (try dsimp only at hSw); go_simp; all_goals (with_reducible rfl))
                try simp only [Act.put, List.setIfInBounds_toArray, List.set_cons_zero, List.set_cons_succ]
                refine wpAnyH_take (i := 36) (v := ?_) (by simp only [List.getElem?_toArray, List.getElem?_cons_succ, List.getElem?_cons_zero]; exact rfl) (by kernel_rfl) (by kernel_rfl) (by kernel_rfl) (fun _ _ _ h => h) (Or.inl ⟨by rfl, ?_⟩) hH ?_
                rotate_left
                · (intro w hSw; (try dsimp only at hSw); go_simp; all_goals (with_reducible rfl))
                try simp only [Act.put, List.setIfInBounds_toArray, List.set_cons_zero, List.set_cons_succ]
                refine wpAnyH_take (i := 38) (v := ?_) (by simp only [List.getElem?_toArray, List.getElem?_cons_succ, List.getElem?_cons_zero]; exact rfl) (by kernel_rfl) (by kernel_rfl) (by kernel_rfl) (fun _ _ _ h => h) (Or.inl ⟨by rfl, ?_⟩) hH ?_
                rotate_left
                · (intro w hSw; (try dsimp only at hSw); go_simp; all_goals (with_reducible rfl))
                try simp only [Act.put, List.setIfInBounds_toArray, List.set_cons_zero, List.set_cons_succ]
                refine wpAnyH_take (i := 39) (v := ?_) (by simp only [List.getElem?_toArray, List.getElem?_cons_succ, List.getElem?_cons_zero]; exact rfl) (by kernel_rfl) (by kernel_rfl) (by kernel_rfl) (fun _ _ _ h => h) (Or.inl ⟨by rfl, ?_⟩) hH ?_
                rotate_left
                · (intro w hSw; (try dsimp only at hSw); go_simp; all_goals (with_reducible rfl))
                try simp only [Act.put, List.setIfInBounds_toArray, List.set_cons_zero, List.set_cons_succ]
                refine wpAnyH_ready (rs := [37]) (by kernel_rfl) (by simp) ?_
                refine AllReadyH.cons (by simp only [List.getElem?_toArray, List.getElem?_cons_succ, List.getElem?_cons_zero]; exact rfl) (fun KK hKK => ?_) AllReadyH.nil
                go_simp
                refine HOPC.out.mono ?_
                rintro e wW ⟨rfl, rfl⟩
                go_wp2_with fail
                refine hKK.out _ _ ?_ (fun hH2 => ?_)
                · (first | exact vC | exact vs | (refine HKE.out _ ?_; repeat (first | exact Fr.refl _ _ | refine Fr.drew ?_ | refine Fr.alloc ?_ _)))
                clear hH hKK KK
                have hH := hH2
                clear hH2
                try simp only [Act.put, List.setIfInBounds_toArray, List.set_cons_zero, List.set_cons_succ]
                refine wpAnyH_take (i := 40) (v := ?_) (by simp only [List.getElem?_toArray, List.getElem?_cons_succ, List.getElem?_cons_zero]; exact rfl) (by kernel_rfl) (by kernel_rfl) (by kernel_rfl) (fun _ _ _ h => h) (Or.inl ⟨by rfl, ?_⟩) hH ?_
                rotate_left
                · (intro w hSw; (try dsimp only at hSw); go_simp; all_goals (with_reducible rfl))
                try simp only [Act.put, List.setIfInBounds_toArray, List.set_cons_zero, List.set_cons_succ]
                refine wpAnyH_take (i := 41) (v := ?_) (by simp only [List.getElem?_toArray, List.getElem?_cons_succ, List.getElem?_cons_zero]; exact rfl) (by kernel_rfl) (by kernel_rfl) (by kernel_rfl) (fun _ _ _ h => h) (Or.inl ⟨by rfl, ?_⟩) hH ?_
                rotate_left
                · (intro w hSw; (try dsimp only at hSw); go_simp; all_goals (with_reducible rfl))
                try simp only [Act.put, List.setIfInBounds_toArray, List.set_cons_zero, List.set_cons_succ]
                refine wpAnyH_done (by kernel_rfl) ?_ _
                refine NoPanic.normal ?_
                clear cs HAP HOP1 HCT vs hH HOPC HWC HCC vC w5 HKE heq
                have hE8 := FrUp.env HE.out HUP8.out
                have HNM := Lib.hid (seg_name wW K eb S hE8 first hf64)
                obtain ⟨dat2, hdat2⟩ : ∃ d2, d2 = dat.take (nn * 512) := ⟨_, rfl⟩
                have hst8 : SegSt wW bd bt K D8 ow8 ⟨nameB first, first + L.length, nn, true, false⟩ f dat2 (N + 1 + 1) := by
                  have := HST8.out
                  rw [hdat2]; exact this
                have hdl2 : dat2.length = nn * 512 := by rw [hdat2, List.length_take]; omega
                have HST := Lib.hid hst8
                have HDL2 := Lib.hid hdl2
                clear hE8 hdat2 hst8 hdl2 HST8
                go_wp2_with fail
                refine HNM.out.mono ?_
                rintro e wN ⟨rfl, hfN⟩
                have HUPN := Lib.hid (Fr.trans HUP8.out (FrUp.none (K := K) hfN))
                have HSTN := Lib.hid (HST.out.fr hfN)
                obtain ⟨cN, hcN⟩ := HSTN.out.disk
                have hRD := read_ok hcN (nameB first) f HSTN.out.st.calm.down HSTN.out.st.has
                rw [HSTN.out.st.data] at hRD
                have HRD := Lib.hid hRD
                clear hfN hcN hRD HNM
                go_wp2_with fail
                refine HRD.out.mono ?_
                rintro e wR ⟨vr, vr2, lr, rfl, hrow, _, _, hfR⟩
                obtain ⟨oR, cR, hvR⟩ := (ownsRow_slice hrow).form
                subst hvR
                have HUPR := Lib.hid (Fr.trans HUPN.out (FrUp.none (K := K) hfR))
                have HSTR := Lib.hid (HSTN.out.fr hfR)
                have HBR := Lib.hid (seg_blocks HSTR.out.seg)
                have b5 : ((dat2.length : Int) == (nn : Int) * 512) = true := by rw [beq_iff_eq]; have := HDL2.out; omega
                have w6 : IntKind.i64.wrap ((nn : Int) * 512) = (nn : Int) * 512 := IntWalk.i64_in _ (by omega)
                clear hrow hfR HRD
                go_wp2_with fail
                refine HBR.out.mono ?_
                rintro e wS ⟨rfl, rfl⟩
                have cs : (convert 24 24 (.slice (some ⟨wS.heap.size, 0, none⟩) 1 1)).run Tryz.prog (wS.alloc (.cells #[.int .u8 120] 5)) = .ok (.slice (some ⟨wS.heap.size, 0, none⟩) 1 1) (wS.alloc (.cells #[.int .u8 120] 5 (1, 2))) := Lib.run_convert_bytes_const wS 24 5 #[.int .u8 120] 1 1 Tryz.underlying24 Tryz.underlying5
                go_wp2_with fail
                have hrec := recs_one wS
                have hfT : Fr (fun _ => False) wS ((wS.alloc (.cells #[.int .u8 120] 5 (1, 2))).alloc (.cells #[.slice (some ⟨wS.heap.size, 0, none⟩) 1 1] 24)) := ((Fr.refl _ _).alloc _).alloc _
                clear cs
                generalize ((wS.alloc (.cells #[.int .u8 120] 5 (1, 2))).alloc (.cells #[.slice (some ⟨wS.heap.size, 0, none⟩) 1 1] 24)) = wT at *
                have HUPT := Lib.hid (Fr.trans HUPR.out (FrUp.none (K := K) hfT))
                have HAP := Lib.hid (step_append (HSTR.out.fr hfT) (FrUp.env HE.out HUPT.out) rfl rfl (by simp only; omega) (by simp only; omega) (by omega) (wS.heap.size + 1) 0 1 [[120]] hrec (by decide) (by decide) (by simp) (pack_one (by simp only; omega) (by simp only; omega)) (by have := HDL2.out; simp only [List.length_singleton]; omega))
                generalize wS.heap.size + 1 = z at *
                clear hrec hfT
                refine HAP.out.mono ?_
                rintro e wU ⟨rfl, D9, ow9, hst9, hup9, _, _⟩
                have HUPU := Lib.hid (Fr.trans HUPT.out hup9)
                have HNX := Lib.hid (seg_next hst9.seg)
                have u1 : IntKind.u64.wrap (L.length : Int) = L.length := by rw [IntKind.wrap_u64]; omega
                have u2 : IntKind.u64.wrap ((first : Int) + (L.length : Int)) = ((first + L.length : Nat) : Int) := by rw [IntKind.wrap_u64]; omega
                have u3 : IntKind.u64.wrap (((first + L.length : Nat) : Int) + 1) = ((first + L.length + 1 : Nat) : Int) := by rw [IntKind.wrap_u64]; omega
                clear hst9 hup9 HAP
                go_wp2_with fail
                refine HNX.out.mono ?_
                rintro e wV ⟨rfl, rfl⟩
                go_wp2_with fail
                go_ret
                exact ⟨rfl, HUPU.out⟩
        · have g2 : (2305843009213693952 : Int) < (first : Int) := by omega
          have g1 : ¬ (4194304 : Int) < (junk.length : Int) := by omega
          have g3 : ¬ (first : Int) < 1 := by omega
          go_wp2_with fail
          go_ret
          exact ⟨rfl, HF1.out⟩
      · have g2 : (first : Int) < 1 := by omega
        have g1 : ¬ (4194304 : Int) < (junk.length : Int) := by omega
        go_wp2_with fail
        go_ret
        exact ⟨rfl, HF1.out⟩
    · have g1 : (4194304 : Int) < (junk.length : Int) := by omega
      go_wp2_with fail
      go_ret
      exact ⟨rfl, HF1.out⟩
end Go.Proofs.YtdfnaphkppphkaaGreatDoor
