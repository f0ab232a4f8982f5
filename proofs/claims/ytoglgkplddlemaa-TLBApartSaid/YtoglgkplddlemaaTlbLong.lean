/- TLBLong: the rule of reuse for some thousand uses: for every number of slots, every list of uses, every count. No condition. -/
import Derived.Test.YtoglgkplddlemaaTlbE
import Derived.Test.YtoglgkplddlemaaTlbF
import Derived.Maps.AppendAt
import Derived.Deep.DeepCutAuto
import Derived.Deep.CutBlock
import Derived.Deep.CutRange
namespace Go.Proofs.Ytoglgkplddlemaa
open Go.RowKit Go.Cl
open Go.Maps (Keyed)
open Go.ChangeMaps (setBlock)
set_option linter.unusedVariables false
set_option linter.unusedSimpArgs false
attribute [local go_sem] lt_add_one' blk_alloc_past blk_alloc_at blk_drew blk_setCell_ne blk_setBlock_ne blk_setBlock_eq cell_setBlock_ne frozen_setBlock_ne size_setBlock

def encT (t : Int × Int) : List Value := [.int .i64 t.1, .int .u32 t.2]
theorem info32 : (Try.prog.info? 32).map (fun i => (i.zero, i.size, i.bytes)) = some (some (.agg #[.int .i64 0, .int .u32 0]), 2, 16) := by kernel_rfl

/-- The uses that are gone through: what a slice's cells hold. -/
def USl (w : World) (oa : Option Addr) (cap : Nat) (us : List UseT) : Prop :=
  us.length ≤ cap ∧ cap ≤ maxLen ∧ ∀ i u, us[i]? = some u → ∃ b o, oa = some ⟨b, o, none⟩ ∧ w.cell? ⟨b, o + i * 3, none⟩ = some (.int .i64 u.1) ∧ w.cell? ⟨b, o + i * 3 + 1, none⟩ = some (.int .i64 u.2.1) ∧ w.cell? ⟨b, o + i * 3 + 2, none⟩ = some (.int .i64 u.2.2) ∧ UseOk u

theorem cell_spot {w : World} {a : Addr} {v : Value} (h : w.cell? a = some v) : a.spot = none := by
  unfold World.cell? at h
  split at h
  · split at h
    · cases h
    · rename_i hs; simpa using hs
  · cases h

theorem uSl_of {w : World} {v : Value} {us : List UseT} (h : UsesAre w v us) : ∃ oa cap, v = .slice oa us.length cap ∧ USl w oa cap us := by
  rcases h with ⟨rfl, rfl⟩ | ⟨a, cap, rfl, h1, h2, h3⟩
  · exact ⟨none, 0, rfl, by simp, by simp [maxLen], by simp⟩
  · refine ⟨some a, cap, rfl, h1, h2, fun i u hu => ?_⟩
    have hlen : 0 < us.length := by have := (List.getElem?_eq_some_iff.1 hu).1; omega
    have hsp : a.spot = none := cell_spot (by simpa [Addr.add] using (h3 0 _ (List.getElem?_eq_getElem hlen)).1)
    obtain ⟨c0, c1, c2, hok⟩ := h3 i u hu
    obtain ⟨b, o, sp⟩ := a
    simp only at hsp
    subst hsp
    have e : ∀ k, (⟨b, o, none⟩ : Addr).add k = ⟨b, o + k, none⟩ := fun k => by
      simp only [Addr.add]
      split
      · rename_i h; rw [h]; rfl
      · rfl
    rw [e] at c0 c1 c2
    exact ⟨b, o, rfl, c0, by rw [Nat.add_assoc]; exact c1, by rw [Nat.add_assoc]; exact c2, hok⟩

theorem uSl_take {w : World} {oa : Option Addr} {cap : Nat} {us : List UseT} (h : USl w oa cap us) (k : Nat) : USl w oa cap (us.take k) := by
  refine ⟨by have := h.1; simp; omega, h.2.1, fun i u hu => h.2.2 i u ?_⟩
  rw [List.getElem?_take] at hu
  split at hu
  · exact hu
  · cases hu

theorem uSl_frame {w w' : World} {oa : Option Addr} {cap : Nat} {us : List UseT} (h : USl w oa cap us) (hb : Below w.heap.size w w') : USl w' oa cap us := by
  refine ⟨h.1, h.2.1, fun i u hu => ?_⟩
  obtain ⟨b, o, h1, h2, h3, h4, h5⟩ := h.2.2 i u hu
  have hl := World.block_lt_of_cell? _ _ h2
  exact ⟨b, o, h1, (hb.cell (p := ⟨b, o + i * 3, none⟩) hl).trans h2, (hb.cell (p := ⟨b, o + i * 3 + 1, none⟩) hl).trans h3, (hb.cell (p := ⟨b, o + i * 3 + 2, none⟩) hl).trans h4, h5⟩

theorem enc_at {T : List (Int × Int)} {i : Nat} {t : Int × Int} (h : T[i]? = some t) : (T.flatMap encT)[i * 2]? = some (.int .i64 t.1) ∧ (T.flatMap encT)[i * 2 + 1]? = some (.int .u32 t.2) := by
  induction T generalizing i with
  | nil => simp at h
  | cons x T ih =>
    cases i with
    | zero => simp at h; subst h; simp [encT]
    | succ i =>
      simp only [List.getElem?_cons_succ] at h
      obtain ⟨h1, h2⟩ := ih h
      have e1 : (i + 1) * 2 = i * 2 + 2 := by omega
      constructor
      · rw [e1]
        simpa [encT] using h1
      · rw [e1, show i * 2 + 2 + 1 = (i * 2 + 1) + 2 by omega]
        simpa [encT] using h2

/-- A tag of the row of tags. -/
theorem tag_cell {w : World} {base : Nat} {v : Value} {T : List (Int × Int)} (h : w.ownsRow base 32 2 v T.length (T.flatMap encT)) {i : Nat} {t : Int × Int} (hi : T[i]? = some t) : ∃ g cap, v = .slice (some ⟨g, 0, none⟩) T.length cap ∧ T.length ≤ cap ∧ cap ≤ maxLen ∧ w.cell? ⟨g, i * 2, none⟩ = some (.int .i64 t.1) ∧ w.cell? ⟨g, i * 2 + 1, none⟩ = some (.int .u32 t.2) := by
  have hlt : i < T.length := (List.getElem?_eq_some_iff.1 hi).1
  obtain ⟨h1, h2⟩ := h
  rcases h2 with h2 | ⟨g, cap, cur, hv, hg', hh, hc, hm, hcs, hx⟩
  · omega
  · obtain ⟨e1, e2⟩ := enc_at hi
    rw [← hx] at e1 e2
    rw [List.getElem?_take_of_lt (by omega)] at e1 e2
    exact ⟨g, cap, hv, hc, hm, by simpa [World.cell?, hh] using e1, by simpa [World.cell?, hh] using e2⟩

theorem row_len {w : World} {base : Nat} {v : Value} {sz n : Nat} {xs : List Value} {e : TypeId} (h : w.ownsRow base e sz v n xs) : ∃ oa cap, v = .slice oa n cap := by
  rcases h.2 with ⟨rfl, rfl⟩ | ⟨g, cap, cur, hv, _⟩
  · exact ⟨none, 0, rfl⟩
  · exact ⟨_, cap, hv⟩

theorem spot_at {T : List (Int × Int)} {t x : Int × Int} (h : T[spot T t]? = some x) : x = t := by
  unfold spot at h
  obtain ⟨hl, hx⟩ := List.getElem?_eq_some_iff.1 h
  have := List.findIdx_getElem (w := hl)
  rw [hx] at this
  simpa using this

theorem spot_before {T : List (Int × Int)} {t x : Int × Int} {a : Nat} (h : a < spot T t) (hx : T[a]? = some x) : x ≠ t := by
  unfold spot at h
  have := List.not_of_lt_findIdx h
  obtain ⟨hl, hx⟩ := List.getElem?_eq_some_iff.1 hx
  rw [hx] at this
  simpa using this

theorem row_tlb32 {w : World} {base : Nat} {sz : Nat} {v : Value} {n : Nat} {xs : List Value} (h : w.ownsRow base 32 sz v n xs) {b m : Nat} {sl now : Int} {L : List En} (ht : TlbIs w b m sl now L) : ∀ g, v.ownBlock = some g → ¬ (g = b ∨ g = m) := by
  intro g hg e
  obtain ⟨_, cur, hc⟩ := row_block h hg
  rcases e with rfl | rfl
  · rw [ht.st] at hc
    cases hc
  · obtain ⟨es, clock, hb, _⟩ := ht.mp
    have h2 : blk w g = some (.map es clock) := hb
    rw [h2] at hc
    cases hc

theorem row_base {w : World} {base base' : Nat} {e : TypeId} {sz : Nat} {v : Value} {n : Nat} {xs : List Value} (h : w.ownsRow base e sz v n xs) (hb : base' ≤ base) : w.ownsRow base' e sz v n xs := by
  obtain ⟨h1, h2⟩ := h
  refine ⟨h1, ?_⟩
  rcases h2 with h2 | ⟨g, cap, cur, hv, hg', r⟩
  · exact .inl h2
  · exact .inr ⟨g, cap, cur, hv, by omega, r⟩

theorem enc_len (X : List (Int × Int)) : (X.flatMap encT).length = X.length * 2 := by
  induction X with
  | nil => rfl
  | cons x X ih => simp only [List.flatMap_cons, List.length_append, List.length_cons, ih]; simp [encT]; omega

theorem without_step {T : List (Int × Int)} {k S : Nat} {t : Int × Int} (h : T[k]? = some t) : (T.take (k + 1)).eraseIdx S = if k = S then (T.take k).eraseIdx S else (T.take k).eraseIdx S ++ [t] := by
  obtain ⟨hl, hx⟩ := List.getElem?_eq_some_iff.1 h
  rw [List.take_succ_eq_append_getElem hl, hx, List.eraseIdx_append]
  have hlen : (T.take k).length = k := by rw [List.length_take]; omega
  rw [hlen]
  by_cases h1 : k = S
  · rw [if_neg (by omega), if_pos h1]
    subst h1
    rw [Nat.sub_self, List.eraseIdx_of_length_le (l := T.take k) (by omega)]
    simp
  · rw [if_neg h1]
    by_cases h2 : S < k
    · rw [if_pos h2]
    · rw [if_neg h2, List.eraseIdx_of_length_le (l := T.take k) (by omega), List.eraseIdx_of_length_le (l := [t]) (by simp; omega)]

theorem cell_two_new (w : World) (x y : Value) (t : TypeId) : ∀ j u, [x, y][j]? = some u → (w.alloc (.cells #[x, y] t)).cell? ((⟨w.heap.size, 0, none⟩ : Addr).add j) = some u := by
  intro j u h
  match j, h with
  | 0, h => simp at h; subst h; simp [Addr.add]
  | 1, h => simp at h; subst h; simp [Addr.add]
  | j + 2, h => simp at h

structure LongInv (w : World) (b m n k : Nat) (T : List (Int × Int)) (s : Value) (wr : World) : Prop where
  tlb : ∃ L now, now ≤ 2 * (k : Int) ∧ TlbIs wr b m (1 + (n : Int)) now L ∧ Held L T (n + 1)
  row : wr.ownsRow w.heap.size 32 2 s T.length (T.flatMap encT)
  ok : ∀ t ∈ T, TagOk t.1 t.2
  blw : Below w.heap.size w wr
  len : T.length ≤ k
  lo : w.heap.size ≤ b ∧ w.heap.size ≤ m

theorem idx_nat (k D len : Nat) (h : 0 < len) : ∃ j : Nat, j < len ∧ ((k : Int) + (k : Int) / (1 + (D : Int))) % (len : Int) = (j : Int) := by
  refine ⟨((k : Int) + (k : Int) / (1 + (D : Int))).toNat % len, Nat.mod_lt _ h, ?_⟩
  have : 0 ≤ (k : Int) / (1 + (D : Int)) := Int.ediv_nonneg (by omega) (by omega)
  rw [Int.natCast_emod, Int.toNat_of_nonneg (by omega)]

set_option maxHeartbeats 1000000 in
set_option maxRecDepth 100000 in
theorem long_core (sl : Int) (hs : I64 sl) (v : Value) (us : List UseT) (rounds turn : Int) (hr : I64 rounds) (ht : I64 turn) (w : World) (hu : UsesAre w v us) :
    Calls Try.prog 3 #[.int .i64 sl, v, .int .i64 rounds, .int .i64 turn] w fun e w' => e = .returned (.bool true) ∧ Below w.heap.size w w' := by
  have hp := pick_any sl 64 hs (by omega) (by omega)
  have bp := pickI_bd sl 64 (by omega)
  obtain ⟨n, hn⟩ : ∃ n : Nat, pickI sl 64 = n := ⟨(pickI sl 64).toNat, by omega⟩
  rw [hn] at hp bp
  obtain ⟨bp, bp'⟩ := bp
  clear hn
  obtain ⟨oa, cap, rfl, hU⟩ := uSl_of hu
  obtain ⟨i0, hi, hz0, hz1, hz2⟩ := info_parts info32
  clear hu
  have hcm := hU.2.1
  have hlc := hU.1
  unfold maxLen at hcm
  go_enter Try.func3, Try.ntmps3
  go_wp2_with fail
  refine (works_ok _).mono ?_
  rintro e wa ⟨rfl, ga⟩
  have GA := Lib.hid ga
  clear ga
  go_wp2_with fail
  refine (hp _).mono ?_
  rintro e wb ⟨rfl, rfl⟩
  go_wp2_with fail
  refine (new_ok (1 + (n : Int)) (by omega) (by omega) _).mono ?_
  rintro e wn ⟨b, m, rfl, h1, hb, hm, g1⟩
  have BB := Lib.hid (And.intro hb hm)
  have H1 := Lib.hid h1
  have G1 := Lib.hid g1
  have HU := Lib.hid hU
  clear hb hm h1 g1 hU
  go_upto_if 42 with (fail)
  go_cut [1] from 21 (fun s1 wc => ∃ us' : List UseT, s1 = .slice oa us'.length cap ∧ USl w oa cap us' ∧ us'.length ≤ 100 ∧ wc = wn)
  case first =>
    by_cases hbig : (us.length : Int) > 100
    · go_wp2
      go_meet
      case rel => 
        exact ⟨us.take 100, by rw [List.length_take]; congr 1; omega, uSl_take HU.out 100, by simp; omega, rfl⟩
    · go_wp2
      go_meet
      case rel => exact ⟨us, rfl, HU.out, by omega, rfl⟩
  case rest =>
    obtain ⟨us', rfl, hU', h100, rfl⟩ := hcut
    have HU' := Lib.hid hU'
    clear hU' HU hlc
    go_wp2
    have hpr := pick_any rounds 6000 hr (by omega) (by omega)
    have bpr := pickI_bd rounds 6000 (by omega)
    obtain ⟨R, hR⟩ : ∃ R : Nat, pickI rounds 6000 = R := ⟨(pickI rounds 6000).toNat, by omega⟩
    rw [hR] at hpr bpr
    obtain ⟨bpr, bpr'⟩ := bpr
    clear hR
    have hpt := pick_any turn 50 ht (by omega) (by omega)
    have bpt := pickI_bd turn 50 (by omega)
    obtain ⟨D, hD⟩ : ∃ D : Nat, pickI turn 50 = D := ⟨(pickI turn 50).toNat, by omega⟩
    rw [hD] at hpt bpt
    obtain ⟨bpt, bpt'⟩ := bpt
    clear hD
    go_loopg [13, 14] R (fun g s13 s14 wr => ∃ (k : Nat) (T : List (Int × Int)), k + g = R ∧ s14 = .int .i64 k ∧ LongInv w b m n k T s13 wr)
    case atStart =>
      refine ⟨0, [], by omega, rfl, ⟨⟨[], 0, by omega, H1.out, ⟨List.nodup_nil, by simp⟩⟩, ⟨by simp, .inl ⟨rfl, rfl⟩⟩, by simp, ?_, by simp, ?_⟩⟩
      · exact (GA.out.below (Nat.le_refl _) (by simp)).trans (G1.out.below GA.out.size (by simp))
      · have := BB.out
        have := GA.out.size
        omega
    case round =>
      obtain ⟨k, T, hkg, rfl, hI⟩ := hrel
      have KG := Lib.hid hkg
      have HI := Lib.hid hI
      clear hI
      have hkR : (k : Int) ≤ 6000 := by omega
      cases gk with
      | zero =>
        have hk : ¬ ((k : Int) < (R : Int)) := by omega
        clear hkg
        go_wp2_with fail
        refine (hpr _).mono ?_
        rintro e w1 ⟨rfl, rfl⟩
        go_wp2
        go_ret
        exact ⟨rfl, HI.out.blw⟩
      | succ g =>
        have hk : (k : Int) < (R : Int) := by omega
        clear hkg
        by_cases hne : 0 < us'.length
        · obtain ⟨j, hj, hjx⟩ := idx_nat k D us'.length hne
          obtain ⟨u, huj⟩ : ∃ u, us'[j]? = some u := ⟨_, List.getElem?_eq_getElem hj⟩
          obtain ⟨ub, uo, rfl, c0, c1, c2, u0, u1, u2⟩ := (uSl_frame HU'.out HI.out.blw).2.2 j u huj
          have HUJ := Lib.hid huj
          clear huj
          have hq : ((k : Int) / (1 + (D : Int))) ≤ 6000 := Int.le_trans (Int.ediv_le_self _ (by omega)) (by omega)
          have hq0 : 0 ≤ ((k : Int) / (1 + (D : Int))) := Int.ediv_nonneg (by omega) (by omega)
          go_wp2_with fail
          refine (hpr _).mono ?_
          rintro e w1 ⟨rfl, rfl⟩
          go_wp2_with fail
          refine (hpt _).mono ?_
          rintro e w1 ⟨rfl, rfl⟩
          go_wp2_with fail
          refine (tag_any u.1 u.2.1 u.2.2 u0 u1 _).mono ?_
          rintro e w2 ⟨rfl, g2⟩
          have tOk := tagOk_of u.1 u.2.1
          generalize tagC u.1 = tc at tOk ⊢
          generalize tagP u.2.1 = tp at tOk ⊢
          have TOK := Lib.hid tOk
          have G2 := Lib.hid g2
          clear g2 tOk c0 c1 c2 u0 u1 u2 hj hjx hq hq0
          go_upto_block 2 with (fail)
          obtain ⟨A, hA⟩ : ∃ A, A = w2.heap.size := ⟨_, rfl⟩
          obtain ⟨w3, hw3⟩ : ∃ w3 : World, w3 = w2.alloc (.cells #[.int .i64 tc, .int .u32 tp] 32) := ⟨_, rfl⟩
          have k3 : blk w3 A = some (.cells #[.int .i64 tc, .int .u32 tp] 32 (0, 0)) := by rw [hw3, hA]; simp (disch := (first | omega | (simp only [World.size_alloc, World.size_drew, World.size_setCell, size_setBlock] <;> omega) | fail)) only [blk_drew, blk_alloc_past, blk_alloc_at, blk_setCell_ne, blk_setCell_eq, blk_setBlock_ne, blk_setBlock_eq]
          have c3 : Chg (fun _ => False) w1 w3 := by rw [hw3]; exact G2.out.alloc _
          have a3 : w1.heap.size ≤ A := by rw [hA]; exact G2.out.size
          rw [← hw3, ← hA]
          have K3 := Lib.hid k3
          have C3 := Lib.hid c3
          have A3 := Lib.hid a3
          have LE := Lib.hid (row_len HI.out.row)
          clear hw3 k3 c3 a3 hA
          obtain ⟨oT, capT, hsT⟩ := LE.out
          have HST := Lib.hid hsT
          rw [hsT]
          clear hsT
          obtain ⟨S, hS⟩ : ∃ S, S = spot T (tc, tp) := ⟨_, rfl⟩
          have HS := Lib.hid hS
          clear hS
          go_cut [16] from 70 to 83 (fun s16 wc => s16 = .int .i64 S ∧ Chg (fun _ => False) w3 wc)
          case first =>
            go_wp2
            go_loopg [16] S (fun g2 s16 wx => ∃ a : Nat, a + g2 = S ∧ s16 = .int .i64 a ∧ Chg (fun _ => False) w3 wx)
            case atStart => exact ⟨0, by omega, rfl, Chg.refl _ _⟩
            case round =>
              obtain ⟨a, hag, rfl, cx⟩ := hrel
              have CX := Lib.hid cx
              have AG := Lib.hid hag
              have kx := cx.blk' K3.out (by simp)
              have x0 := cell_of_blk kx 0
              have x1 := cell_of_blk kx 1
              have xl := blk_lt kx
              simp only [List.getElem?_toArray, List.getElem?_cons_zero, List.getElem?_cons_succ] at x0 x1
              have KX := Lib.hid kx
              clear kx cx
              have hT6 := HI.out.len
              cases gk with
              | zero =>
                have haS : a = spot T (tc, tp) := by rw [← HS.out]; omega
                by_cases haT : a < T.length
                · obtain ⟨t, hta⟩ : ∃ t, T[a]? = some t := ⟨_, List.getElem?_eq_getElem haT⟩
                  have htt : t = (tc, tp) := spot_at (haS ▸ hta)
                  subst htt
                  obtain ⟨g0, cap0, hv0, hc0, hm0, y0, y1⟩ := tag_cell (row_frame (row_frame HI.out.row C3.out (by simp)) CX.out (by simp)) hta
                  have e0 := HST.out.symm.trans hv0
                  simp only [Value.slice.injEq, true_and] at e0
                  obtain ⟨rfl, rfl⟩ := e0
                  unfold maxLen at hm0
                  clear hta hv0 hag haS
                  go_wp2
                  go_region
                  go_wp2
                  go_meet
                  case rel => exact ⟨by have := AG.out; go_num, CX.out.drew⟩
                · clear hag haS
                  go_wp2
                  go_region
                  go_wp2
                  go_meet
                  case rel => exact ⟨by have := AG.out; go_num, CX.out.drew⟩
              | succ g2 =>
                have haS : a < spot T (tc, tp) := by rw [← HS.out]; omega
                have haT : a < T.length := Nat.lt_of_lt_of_le haS (List.findIdx_le_length)
                obtain ⟨t, hta⟩ : ∃ t, T[a]? = some t := ⟨_, List.getElem?_eq_getElem haT⟩
                have htne : ¬ (t.1 = tc ∧ t.2 = tp) := fun e => spot_before haS hta (by rw [← e.1, ← e.2])
                obtain ⟨g0, cap0, hv0, hc0, hm0, y0, y1⟩ := tag_cell (row_frame (row_frame HI.out.row C3.out (by simp)) CX.out (by simp)) hta
                have e0 := HST.out.symm.trans hv0
                simp only [Value.slice.injEq, true_and] at e0
                obtain ⟨rfl, rfl⟩ := e0
                unfold maxLen at hm0
                have HTA := Lib.hid hta
                clear hta hv0 hag
                by_cases ht1 : t.1 = tc
                · have ht2 : ¬ t.2 = tp := fun e => htne ⟨ht1, e⟩
                  clear htne
                  go_wp2
                  go_region
                  go_wp2
                  go_roundg g2
                  case measure => omega
                  case rel => exact ⟨a + 1, by have := AG.out; omega, by go_num, CX.out.drew⟩
                · clear htne
                  go_wp2
                  go_region
                  go_wp2
                  go_roundg g2
                  case measure => omega
                  case rel => exact ⟨a + 1, by have := AG.out; omega, by go_num, CX.out.drew⟩
          case rest =>
            obtain ⟨rfl, cx⟩ := hcut
            have CX := Lib.hid cx
            have kx := cx.blk' K3.out (by simp)
            have x0 := cell_of_blk kx 0
            have x1 := cell_of_blk kx 1
            have xl := blk_lt kx
            simp only [List.getElem?_toArray, List.getElem?_cons_zero, List.getElem?_cons_succ] at x0 x1
            have KX := Lib.hid kx
            clear kx cx
            obtain ⟨L, now, hnow, hT, hheld⟩ := HI.out.tlb
            have hTc := (hT.frame C3.out (by simp) (by simp)).frame CX.out (by simp) (by simp)
            have HTC := Lib.hid hTc
            have HH := Lib.hid hheld
            have hit := held_hit hheld tc tp
            rw [← HS.out] at hit
            have LOOK := fun wx : World => fun c : Chg (fun _ => False) wc wx => look_ok (hTc.frame c (by simp) (by simp)) TOK.out (by omega)
            have LK := Lib.hid LOOK
            have HIT := Lib.hid hit
            have tl6 := HI.out.len
            have BMA : b < A ∧ m < A := by have := hT.facts; have := A3.out; omega
            have BM := Lib.hid BMA
            have BLO := Lib.hid HI.out.lo
            clear BMA
            clear hT hheld hTc hit LOOK
            have three : (S < T.length ∧ S < n + 1) ∨ (¬ S < T.length) ∨ (S < T.length ∧ ¬ S < n + 1) := by omega
            rcases three with ⟨h1, h2⟩ | h1 | ⟨h1, h2⟩
            focus
              have hs : (hitE L tc tp).isSome = true := by rw [HIT.out]; simp; omega
              obtain ⟨e0, he0⟩ := Option.isSome_iff_exists.1 hs
              have v1 : lookV L tc tp = .tuple #[.agg #[.int .u32 e0.f, .int .u8 e0.r], .bool true] := by simp [lookV, he0]
              have hheld2 := held_look HH.out e0.f e0.r now hs
              have l1 : lookL L tc tp now = bump L tc tp e0.f e0.r now := by simp [lookL, he0]
              have n1 : lookNow L tc tp now = now + 1 := by simp [lookNow, he0]
              have N1 := Lib.hid (And.intro v1 (And.intro l1 n1))
              have HH2 := Lib.hid hheld2
              have h2' : (S : Int) < 1 + (n : Int) := by omega
              clear hs he0 v1 l1 n1 hheld2
              go_wp2_with fail
              refine (LK.out _ (by repeat (first | exact Chg.refl _ _ | apply Chg.drew | (refine Chg.setCell ?_ (by simp) _) | (refine Chg.alloc ?_ _) | (refine Chg.setBlock ?_ (by simp) _)))).mono ?_
              rintro e wl ⟨rfl, hq, cq⟩
              rw [N1.out.2.1, N1.out.2.2] at hq
              rw [N1.out.1]
              have kl := cq.blk' KX.out (by have := BM.out; omega)
              have xq := blk_lt kl
              obtain ⟨wq, hwq⟩ : ∃ wq : World, wq = wl.alloc (.cells #[.int .u32 e0.f, .int .u8 e0.r] 38) := ⟨_, rfl⟩
              have cA : Chg (fun i => i = b ∨ i = m) wc wq := by rw [hwq]; exact cq.alloc _
              have kq : blk wq A = some (.cells #[.int .i64 tc, .int .u32 tp] 32 (0, 0)) := by rw [hwq]; simp (disch := (first | omega | (simp only [World.size_alloc, World.size_drew, World.size_setCell, size_setBlock] <;> omega) | fail)) only [blk_drew, blk_alloc_past, blk_alloc_at, blk_setCell_ne, blk_setCell_eq, blk_setBlock_ne, blk_setBlock_eq]; exact kl
              have FIN : ∃ L' now', now' ≤ 2 * ((k + 1 : Nat) : Int) ∧ TlbIs wq b m (1 + (n : Int)) now' L' ∧ Held L' (front T (tc, tp)) (n + 1) :=
                ⟨_, now + 1, by omega, hq.frame (S := fun _ => False) (by rw [hwq]; repeat (first | exact Chg.refl _ _ | apply Chg.drew | (refine Chg.setCell ?_ (by simp) _) | (refine Chg.alloc ?_ _) | (refine Chg.setBlock ?_ (by simp) _))) (by simp) (by simp), HH2.out⟩
              have WQ := Lib.hid hwq
              have KQ := Lib.hid kq
              have CQ := Lib.hid cA
              have FI := Lib.hid FIN
              clear hq cq cA kq hwq FIN kl xq
              go_upto_region 21 with (fail)
              rw [← WQ.out]
            rotate_left
            focus
              have hs : (hitE L tc tp).isSome = false := by rw [HIT.out]; simp; omega
              have he0 : hitE L tc tp = none := by simpa using hs
              have v1 : lookV L tc tp = .tuple #[.agg #[.int .u32 0, .int .u8 0], .bool false] := by simp [lookV, he0]
              have l1 : lookL L tc tp now = L := by simp [lookL, he0]
              have n1 : lookNow L tc tp now = now := by simp [lookNow, he0]
              have N1 := Lib.hid (And.intro v1 (And.intro l1 n1))
              have HS0 := Lib.hid hs
              clear hs he0 v1 l1 n1
              go_wp2_with fail
              refine (LK.out _ (by repeat (first | exact Chg.refl _ _ | apply Chg.drew | (refine Chg.setCell ?_ (by simp) _) | (refine Chg.alloc ?_ _) | (refine Chg.setBlock ?_ (by simp) _)))).mono ?_
              rintro e wl ⟨rfl, hq, cq⟩
              rw [N1.out.2.1, N1.out.2.2] at hq
              rw [N1.out.1]
              have kl := cq.blk' KX.out (by have := BM.out; omega)
              have xq := blk_lt kl
              have z0 := cell_of_blk kl 0
              have z1 := cell_of_blk kl 1
              simp only [List.getElem?_toArray, List.getElem?_cons_zero, List.getElem?_cons_succ] at z0 z1
              have PUT := fun (f : Int) (wx : World) => fun c : Chg (fun _ => False) wl wx => put_ok (f := f) (r := 0) (hq.frame c (by simp) (by simp)) TOK.out (by omega) (by omega)
              have PT := Lib.hid PUT
              have KL := Lib.hid kl
              have CL := Lib.hid cq
              clear hq cq kl PUT
              go_wp2_with fail
              refine (PT.out _ _ (by repeat (first | exact Chg.refl _ _ | apply Chg.drew | (refine Chg.setCell ?_ (by simp) _) | (refine Chg.alloc ?_ _) | (refine Chg.setBlock ?_ (by simp) _)))).mono ?_
              rintro e wq ⟨rfl, hq, cq⟩
              have cA : Chg (fun i => i = b ∨ i = m) wc wq := Chg.step (b := wl.alloc _) (CL.out.alloc _) cq (fun i _ h => h) (fun i _ h => h)
              have kq : blk wq A = some (.cells #[.int .i64 tc, .int .u32 tp] 32 (0, 0)) := cq.blk' (by simp (disch := (first | omega | (simp only [World.size_alloc, World.size_drew, World.size_setCell, size_setBlock] <;> omega) | fail)) only [blk_drew, blk_alloc_past, blk_alloc_at, blk_setCell_ne, blk_setCell_eq, blk_setBlock_ne, blk_setBlock_eq]; exact KL.out) (by have := BM.out; omega)
              have FIN : ∃ L' now', now' ≤ 2 * ((k + 1 : Nat) : Int) ∧ TlbIs wq b m (1 + (n : Int)) now' L' ∧ Held L' (front T (tc, tp)) (n + 1) :=
                ⟨_, now + 1, by omega, hq, by have := held_put HH.out (f := k) (r := 0) (now := now) HS0.out (by omega); rw [show ((n + 1 : Nat) : Int) = 1 + (n : Int) by omega] at this; exact this⟩
              have WQ : Hid (wq = wq) := rfl
              have KQ := Lib.hid kq
              have CQ := Lib.hid cA
              have FI := Lib.hid FIN
              clear hq cq cA kq FIN z0 z1 xq
              go_upto_region 21 with (fail)
            rotate_left
            focus
              have hs : (hitE L tc tp).isSome = false := by rw [HIT.out]; simp; omega
              have he0 : hitE L tc tp = none := by simpa using hs
              have v1 : lookV L tc tp = .tuple #[.agg #[.int .u32 0, .int .u8 0], .bool false] := by simp [lookV, he0]
              have l1 : lookL L tc tp now = L := by simp [lookL, he0]
              have n1 : lookNow L tc tp now = now := by simp [lookNow, he0]
              have N1 := Lib.hid (And.intro v1 (And.intro l1 n1))
              have HS0 := Lib.hid hs
              have h2' : ¬ ((S : Int) < 1 + (n : Int)) := by omega
              clear hs he0 v1 l1 n1
              go_wp2_with fail
              refine (LK.out _ (by repeat (first | exact Chg.refl _ _ | apply Chg.drew | (refine Chg.setCell ?_ (by simp) _) | (refine Chg.alloc ?_ _) | (refine Chg.setBlock ?_ (by simp) _)))).mono ?_
              rintro e wl ⟨rfl, hq, cq⟩
              rw [N1.out.2.1, N1.out.2.2] at hq
              rw [N1.out.1]
              have kl := cq.blk' KX.out (by have := BM.out; omega)
              have xq := blk_lt kl
              have z0 := cell_of_blk kl 0
              have z1 := cell_of_blk kl 1
              simp only [List.getElem?_toArray, List.getElem?_cons_zero, List.getElem?_cons_succ] at z0 z1
              have PUT := fun (f : Int) (wx : World) => fun c : Chg (fun _ => False) wl wx => put_ok (f := f) (r := 0) (hq.frame c (by simp) (by simp)) TOK.out (by omega) (by omega)
              have PT := Lib.hid PUT
              have KL := Lib.hid kl
              have CL := Lib.hid cq
              clear hq cq kl PUT
              go_wp2_with fail
              refine (PT.out _ _ (by repeat (first | exact Chg.refl _ _ | apply Chg.drew | (refine Chg.setCell ?_ (by simp) _) | (refine Chg.alloc ?_ _) | (refine Chg.setBlock ?_ (by simp) _)))).mono ?_
              rintro e wq ⟨rfl, hq, cq⟩
              have cA : Chg (fun i => i = b ∨ i = m) wc wq := Chg.step (b := wl.alloc _) (CL.out.alloc _) cq (fun i _ h => h) (fun i _ h => h)
              have kq : blk wq A = some (.cells #[.int .i64 tc, .int .u32 tp] 32 (0, 0)) := cq.blk' (by simp (disch := (first | omega | (simp only [World.size_alloc, World.size_drew, World.size_setCell, size_setBlock] <;> omega) | fail)) only [blk_drew, blk_alloc_past, blk_alloc_at, blk_setCell_ne, blk_setCell_eq, blk_setBlock_ne, blk_setBlock_eq]; exact KL.out) (by have := BM.out; omega)
              have FIN : ∃ L' now', now' ≤ 2 * ((k + 1 : Nat) : Int) ∧ TlbIs wq b m (1 + (n : Int)) now' L' ∧ Held L' (front T (tc, tp)) (n + 1) :=
                ⟨_, now + 1, by omega, hq, by have := held_put HH.out (f := k) (r := 0) (now := now) HS0.out (by omega); rw [show ((n + 1 : Nat) : Int) = 1 + (n : Int) by omega] at this; exact this⟩
              have WQ : Hid (wq = wq) := rfl
              have KQ := Lib.hid kq
              have CQ := Lib.hid cA
              have FI := Lib.hid FIN
              clear hq cq cA kq FIN z0 z1 xq
              go_upto_region 21 with (fail)
            rotate_left
            all_goals
              have kq := KQ.out
              have xq := blk_lt kq
              have z0 := cell_of_blk kq 0
              have z1 := cell_of_blk kq 1
              simp only [List.getElem?_toArray, List.getElem?_cons_zero, List.getElem?_cons_succ] at z0 z1
              clear kq
              go_wp2
              obtain ⟨wz, hwz⟩ : ∃ wz : World, wz = wq.alloc (.cells #[.int .i64 tc, .int .u32 tp] 32) := ⟨_, rfl⟩
              have cz : Chg (fun _ => False) wq wz := by rw [hwz]; repeat (first | exact Chg.refl _ _ | apply Chg.drew | (refine Chg.setCell ?_ (by simp) _) | (refine Chg.alloc ?_ _) | (refine Chg.setBlock ?_ (by simp) _))
              have kz : blk wz wq.heap.size = some (.cells #[.int .i64 tc, .int .u32 tp] 32 (0, 0)) := by rw [hwz]; simp (disch := (first | omega | (simp only [World.size_alloc, World.size_drew, World.size_setCell, size_setBlock] <;> omega) | fail)) only [blk_drew, blk_alloc_past, blk_alloc_at, blk_setCell_ne, blk_setCell_eq, blk_setBlock_ne, blk_setBlock_eq]
              rw [← hwz]
              have CZ := Lib.hid cz
              have KZ := Lib.hid kz
              clear hwz cz kz
              have RQ := Lib.hid (row_frame (row_frame (row_frame (row_frame HI.out.row C3.out (by simp)) CX.out (by simp)) CQ.out (fun g hg => row_tlb32 (row_frame (row_frame HI.out.row C3.out (by simp)) CX.out (by simp)) HTC.out g hg)) CZ.out (by simp))
              go_loopg [19, 20] T.length (fun g3 s19 s20 wx => ∃ (kk : Nat) (X : List (Int × Int)), kk + g3 = T.length ∧ s20 = .int .i64 kk ∧ Aside (X = (tc, tp) :: (T.take kk).eraseIdx S) ∧ wx.ownsRow wq.heap.size 32 2 s19 X.length (X.flatMap encT) ∧ Chg (fun _ => False) wq wx ∧ X.length ≤ kk + 1)
              case atStart =>
                refine ⟨0, [(tc, tp)], by omega, rfl, by show _ = _; simp, ⟨by simp [encT], .inr ⟨wq.heap.size, 1, #[.int .i64 tc, .int .u32 tp], rfl, Nat.le_refl _, KZ.out, by simp, by simp [maxLen], by simp, by simp [encT]⟩⟩, CZ.out, by simp⟩
              case round =>
                obtain ⟨kk, X, hkk, rfl, HX, hrow, cx, hXl⟩ := hrel
                have KK := Lib.hid hkk
                have CXX := Lib.hid cx
                have hTl : T.length ≤ 6000 := by omega
                cases gk with
                | zero =>
                  have hkn : ¬ (kk < T.length) := by omega
                  clear hkk cx
                  have HROW := Lib.hid hrow
                  clear hrow
                  go_wp2
                  go_roundg g
                  case measure => omega
                  case rel =>
                    have e1 : X = front T (tc, tp) := by
                      rw [HX.out, List.take_of_length_le (by omega), HS.out]
                      rfl
                    rw [e1] at HROW
                    obtain ⟨L', now', f1, f2, f3⟩ := FI.out
                    have hb0 := HI.out.blw
                    have q1 : Below w.heap.size w wq := (hb0.trans ((C3.out.below hb0.size (by simp)).trans (CX.out.below (by have := C3.out.size; have := hb0.size; omega) (by simp)))).trans (CQ.out.below (by have := CX.out.size; have := C3.out.size; have := hb0.size; omega) (fun i hi h => by have := BLO.out; omega))
                    refine ⟨k + 1, front T (tc, tp), by have := KG.out; omega, by go_num, ⟨⟨L', now', f1, f2.frame CXX.out (by simp) (by simp), f3⟩, row_base HROW.out q1.size, ?_, q1.trans (CXX.out.below q1.size (by simp)), ?_, BLO.out⟩⟩
                    · intro t htm
                      rcases List.mem_cons.1 htm with rfl | htm
                      · exact TOK.out
                      · exact HI.out.ok t (List.mem_of_mem_eraseIdx htm)
                    · rw [← e1]
                      have := HI.out.len
                      have := KK.out
                      omega
                | succ g4 =>
                  have hkn : kk < T.length := by omega
                  obtain ⟨t, htk⟩ : ∃ t, T[kk]? = some t := ⟨_, List.getElem?_eq_getElem hkn⟩
                  obtain ⟨g0, cap0, hv0, hc0, hm0, y0, y1⟩ := tag_cell (row_frame (row_frame (row_frame (row_frame HI.out.row C3.out (by simp)) CX.out (by simp)) CQ.out (fun g hg => row_tlb32 (row_frame (row_frame HI.out.row C3.out (by simp)) CX.out (by simp)) HTC.out g hg)) cx (by simp)) htk
                  have e0 := HST.out.symm.trans hv0
                  simp only [Value.slice.injEq, true_and] at e0
                  obtain ⟨rfl, rfl⟩ := e0
                  unfold maxLen at hm0
                  have ST := Lib.hid (without_step (S := S) htk)
                  clear hkk cx htk hv0
                  by_cases hkS : kk = S
                  · have HROW := Lib.hid hrow
                    clear hrow
                    have HKS := Lib.hid hkS
                    have hkS2 : ((kk : Int) == (S : Int)) = true := by simp; omega
                    have hkS3 : ((kk : Int) != (S : Int)) = false := by simp; omega
                    clear hkS
                    go_wp2
                    go_roundg g4
                    case measure => omega
                    case rel => exact ⟨kk + 1, X, by have := KK.out; omega, by go_num, by show _ = _; rw [ST.out, if_pos HKS.out]; exact HX.out, HROW.out, CXX.out, by omega⟩
                  · have hkS2 : ((kk : Int) == (S : Int)) = false := by simp; omega
                    have hkS3 : ((kk : Int) != (S : Int)) = true := by simp; omega
                    have HKS := Lib.hid hkS
                    clear hkS
                    go_wp2_with (at_builtin; refine wpList_append_own _ rfl _ _ 29 rfl wq.heap.size 32 i0 (.agg #[.int .i64 0, .int .u32 0]) 2 16 Try.underlying29 hi hz0 hz1 hz2 rfl (by decide) _ _ _ rfl (hrow.alloc _) ⟨wr.heap.size, 0, none⟩ 1 1 [.int .i64 t.1, .int .u32 t.2] rfl rfl ?_ ?_ ?_ ?_ ?_ ?_)
                    · exact cell_two_new _ _ _ _
                    · intro u hu
                      simp at hu
                      rcases hu with rfl | rfl <;> rfl
                    · unfold maxLen; omega
                    · omega
                    · have := CXX.out.size
                      simp
                      omega
                    · intro v' w' hown hgrow hnn
                      have HO := Lib.hid hown
                      have HGr := Lib.hid hgrow
                      have RB := Lib.hid (fun g hg => (row_block hrow (g := g) hg).1)
                      clear hown hgrow hnn hrow
                      go_wp2
                      go_roundg g4
                      case measure => omega
                      case rel =>
                        refine ⟨kk + 1, X ++ [t], by have := KK.out; omega, by go_num, by show _ = _; rw [ST.out, if_neg HKS.out, HX.out]; rfl, ?_, ?_, by simp; omega⟩
                        · rw [List.flatMap_append, List.length_append]
                          exact HO.out
                        · refine Chg.trans (b := wr.alloc _) (CXX.out.alloc _) (Chg.of_grown HGr.out) (fun i hi h => ?_)
                          have := RB.out i h.symm
                          omega
        · have hz : us'.length = 0 := by omega
          rw [hz]
          clear hne
          go_wp2_with fail
          refine (hpr _).mono ?_
          rintro e w1 ⟨rfl, rfl⟩
          go_wp2
          go_ret
          exact ⟨rfl, HI.out.blw⟩

theorem long_walk (w : World) (a0 : Int) (w0 : (Lit.int .i64 a0).wf = true) {v : Value} (hv : ∃ us, UsesAre w v us) (a2 : Int) (w2 : (Lit.int .i64 a2).wf = true) (a3 : Int) (w3 : (Lit.int .i64 a3).wf = true) :
    Calls Try.prog 3 #[.int .i64 a0, v, .int .i64 a2, .int .i64 a3] w fun e w' => e = .returned (.bool true) ∧ Below w.heap.size w w' := by
  obtain ⟨us, hu⟩ := hv
  exact long_core a0 (i64_of w0) v us a2 a3 (i64_of w2) (i64_of w3) w hu
end Go.Proofs.Ytoglgkplddlemaa
