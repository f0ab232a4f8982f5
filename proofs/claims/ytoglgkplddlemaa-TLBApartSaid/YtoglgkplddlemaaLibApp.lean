/- append onto an owned row from whatever source, at plain regions and at regions that draw; owned rows cut, read and written. Generic: no program. No condition. -/
import Derived.Test.YtoglgkplddlemaaLibMaps
import Derived.Deep.AppendLies
import Derived.Laws.AppendOwnNone
namespace Go.Cl
open Go.RowKit

/-- What a slice value that is appended holds: so many elements of so many cells. -/
def SrcIs (w : World) (size : Nat) (oa : Option Addr) (m : Nat) (news : List Value) : Prop :=
  news.length = m * size ∧ (∀ u ∈ news, u.oneCell' = true) ∧ ((oa = none ∧ m = 0) ∨ ∃ ad, oa = some ad ∧ ∀ j u, news[j]? = some u → w.cell? (ad.add j) = some u)

theorem SrcIs.none {w : World} {size : Nat} : SrcIs w size none 0 [] := ⟨by simp, by simp, .inl ⟨rfl, rfl⟩⟩
theorem SrcIs.some {w : World} {size : Nat} {ad : Addr} {m : Nat} {news : List Value} (hl : news.length = m * size) (h1 : ∀ u ∈ news, u.oneCell' = true) (h : ∀ j u, news[j]? = some u → w.cell? (ad.add j) = some u) : SrcIs w size (some ad) m news := ⟨hl, h1, .inr ⟨ad, rfl, h⟩⟩

theorem SrcIs.frame {S : Nat → Prop} {w w' : World} {size : Nat} {oa : Option Addr} {m : Nat} {news : List Value} (h : SrcIs w size oa m news) (hc : Chg S w w') (hs : ∀ i, i < w.heap.size → ¬ S i) : SrcIs w' size oa m news := by
  obtain ⟨h1, h2, h3 | ⟨ad, h3, h4⟩⟩ := h
  · exact ⟨h1, h2, .inl h3⟩
  · refine ⟨h1, h2, .inr ⟨ad, h3, fun j u hu => ?_⟩⟩
    have h5 := h4 j u hu
    have hl := World.block_lt_of_cell? _ _ h5
    exact (World.cell?_of_block (hc.block _ hl (hs _ hl))).trans h5

/-- THE LAW. -/
theorem run_app {P : Program} (w : World) (t ty : TypeId) (base : Nat) (e : TypeId) (i : TypeInfo) (z : Value) (size bytes : Nat) (ht : P.underlying t = some (.slice e)) (hi : P.info? e = some i) (hz : i.zero = some z)
    (hsize : i.size = size) (hby : i.bytes = bytes) (hzs : z.cells.size = size) (hsz : 0 < size)
    (v : Value) (n : Nat) (xs : List Value) (hown : w.ownsRow base e size v n xs) (oa : Option Addr) (m c : Nat) (news : List Value) (hs : SrcIs w size oa m news) (hc0 : oa = none → c = 0)
    (h63 : n + m ≤ maxLen) (hbytes : (n + m) * bytes ≤ 140737488355328) (hbase : base ≤ w.heap.size) :
    ∃ v' w', (Builtin.append_ #[t, t] ty #[v, .slice oa m c]).run P w = .ok v' w' ∧ w'.ownsRow base e size v' (n + m) (xs ++ news) ∧ w.grownBy w' v.ownBlock ∧ (v'.ownBlock = v.ownBlock ∨ v'.ownBlock = some w.heap.size) := by
  obtain ⟨hl, h1, ⟨rfl, rfl⟩ | ⟨ad, rfl, hc⟩⟩ := hs
  · have : news = [] := List.length_eq_zero_iff.1 (by omega)
    subst this
    obtain rfl := hc0 rfl
    refine ⟨v, w, run_append_owned_none (P := P) (w := w) base t ty e i size ht hi v n xs hown, by simpa using hown, ⟨rfl, rfl, rfl, Nat.le_refl _, fun _ _ _ => rfl⟩, .inl rfl⟩
  · obtain ⟨v', w', hr, h2, h3, _, h5⟩ := run_append_own_at (P := P) w base t ty e i z size bytes ht hi hz hsize hby hzs hsz v n xs hown ad m c news hl hc h1 h63 hbytes hbase
    exact ⟨v', w', hr, h2, h3, h5⟩

theorem wp_app {P : Program} (w : World) {o : Oper} {a : Act} {K : Act → World → Prop} {Q : Exit → Act → World → Prop} (s x : Operand) (t : TypeId)
    (ho : o.op = .call { callee := .builtin .append, args := #[s, x], argTypes := #[t, t] })
    (base : Nat) (e : TypeId) (i : TypeInfo) (z : Value) (size bytes : Nat) (ht : P.underlying t = some (.slice e)) (hi : P.info? e = some i) (hz : i.zero = some z)
    (hsize : i.size = size) (hby : i.bytes = bytes) (hzs : z.cells.size = size) (hsz : 0 < size)
    (v : Value) (n : Nat) (xs : List Value) (hs : a.eval s = v) (hown : w.ownsRow base e size v n xs)
    (oa : Option Addr) (m c : Nat) (news : List Value) (hx : a.eval x = .slice oa m c) (hsrc : SrcIs w size oa m news) (hc0 : oa = none → c = 0)
    (h63 : n + m ≤ maxLen) (hbytes : (n + m) * bytes ≤ 140737488355328) (hbase : base ≤ w.heap.size)
    (h : ∀ v' w', w'.ownsRow base e size v' (n + m) (xs ++ news) → w.grownBy w' v.ownBlock → (v'.ownBlock = v.ownBlock ∨ v'.ownBlock = some w.heap.size) → K (a.put o.dst v') w') : o.wp P a w K Q := by
  obtain ⟨v', w', hr, h2, h3, h4⟩ := run_app (P := P) w t o.type base e i z size bytes ht hi hz hsize hby hzs hsz v n xs hown oa m c news hsrc hc0 h63 hbytes hbase
  unfold Oper.wp execOp
  simp only [ho, resolve, invoke, builtin, Sem.run_bind, Sem.run_pure, Result.andThen_ok, List.map_toArray, List.map_cons, List.map_nil, hs, hx, hr]
  exact h v' w' h2 h3 h4

theorem wpList_app {P : Program} {w : World} {ops : Array Oper} {rest : List Oper} {o : Oper} {a : Act} {Q : Exit → Act → World → Prop} (hgd : o.guard = none) (s x : Operand) (t : TypeId)
    (ho : o.op = .call { callee := .builtin .append, args := #[s, x], argTypes := #[t, t] })
    (base : Nat) (e : TypeId) (i : TypeInfo) (z : Value) (size bytes : Nat) (ht : P.underlying t = some (.slice e)) (hi : P.info? e = some i) (hz : i.zero = some z)
    (hsize : i.size = size) (hby : i.bytes = bytes) (hzs : z.cells.size = size) (hsz : 0 < size)
    (v : Value) (n : Nat) (xs : List Value) (hs : a.eval s = v) (hown : w.ownsRow base e size v n xs)
    (oa : Option Addr) (m c : Nat) (news : List Value) (hx : a.eval x = .slice oa m c) (hsrc : SrcIs w size oa m news) (hc0 : oa = none → c = 0)
    (h63 : n + m ≤ maxLen) (hbytes : (n + m) * bytes ≤ 140737488355328) (hbase : base ≤ w.heap.size)
    (h : ∀ v' w', w'.ownsRow base e size v' (n + m) (xs ++ news) → w.grownBy w' v.ownBlock → (v'.ownBlock = v.ownBlock ∨ v'.ownBlock = some w.heap.size) → wpList P ops Q rest (a.put o.dst v') w') : wpList P ops Q (o :: rest) a w :=
  wpList_plain hgd fun _ hK => wp_app w s x t ho base e i z size bytes ht hi hz hsize hby hzs hsz v n xs hs hown oa m c news hx hsrc hc0 h63 hbytes hbase fun v' w' h2 h3 h4 => hK _ _ (h v' w' h2 h3 h4)

theorem step_app {P : Program} {w : World} {ops : Array Oper} {o : Oper} {a : Act} {K : Act → World → Prop} {Q : Exit → Act → World → Prop} {E : Prop} (hgd : o.guard = none) (s x : Operand) (t : TypeId)
    (ho : o.op = .call { callee := .builtin .append, args := #[s, x], argTypes := #[t, t] })
    (base : Nat) (e : TypeId) (i : TypeInfo) (z : Value) (size bytes : Nat) (ht : P.underlying t = some (.slice e)) (hi : P.info? e = some i) (hz : i.zero = some z)
    (hsize : i.size = size) (hby : i.bytes = bytes) (hzs : z.cells.size = size) (hsz : 0 < size)
    (v : Value) (n : Nat) (xs : List Value) (hs : a.eval s = v) (hown : w.ownsRow base e size v n xs)
    (oa : Option Addr) (m c : Nat) (news : List Value) (hx : a.eval x = .slice oa m c) (hsrc : SrcIs w size oa m news) (hc0 : oa = none → c = 0)
    (h63 : n + m ≤ maxLen) (hbytes : (n + m) * bytes ≤ 140737488355328) (hbase : base ≤ w.heap.size)
    (h : ∀ v' w', w'.ownsRow base e size v' (n + m) (xs ++ news) → w.grownBy w' v.ownBlock → (v'.ownBlock = v.ownBlock ∨ v'.ownBlock = some w.heap.size) → K (a.put o.dst v') w') :
    if Region.wanted o (yielded ops a.tmps) = true then Oper.wp P o a w K Q else E := by
  have hw : Region.wanted o (yielded ops a.tmps) = true := by simp [Region.wanted, hgd]
  rw [if_pos hw]
  exact wp_app w s x t ho base e i z size bytes ht hi hz hsize hby hzs hsz v n xs hs hown oa m c news hx hsrc hc0 h63 hbytes hbase h

/-! ### owned rows -/
theorem cell_of_blk' {w : World} {b : Nat} {c : Array Value} {t : TypeId} {fr : Nat × Nat} (h : blk w b = some (.cells c t fr)) {i : Nat} : w.cell? ⟨b, i, none⟩ = c[i]? := cell_of_blk h i
theorem addr_add (b o j : Nat) : (⟨b, o, none⟩ : Addr).add j = ⟨b, o + j, none⟩ := by unfold Addr.add; split <;> simp_all

/-- A cell of an owned row of elements of any size. -/
theorem row_at {w : World} {base : Nat} {e : TypeId} {size : Nat} {v : Value} {n : Nat} {xs : List Value} (h : w.ownsRow base e size v n xs) (hn : 0 < n) :
    ∃ g cap cur, v = .slice (some ⟨g, 0, none⟩) n cap ∧ base ≤ g ∧ n ≤ cap ∧ cap ≤ maxLen ∧ blk w g = some (.cells cur e (0, 0)) ∧ cur.size = cap * size ∧ ∀ j x, xs[j]? = some x → w.cell? ⟨g, j, none⟩ = some x := by
  obtain ⟨h1, h2⟩ := h
  rcases h2 with h2 | ⟨g, cap, cur, hv, hg', hh, hc, hm, hcs, hx⟩
  · omega
  · refine ⟨g, cap, cur, hv, hg', hc, hm, hh, hcs, fun j x hj => ?_⟩
    rw [← hx] at hj
    have hlt : j < n * size := by
      rcases Nat.lt_or_ge j (n * size) with h | h
      · exact h
      · rw [List.getElem?_eq_none (by simp; omega)] at hj; cases hj
    rw [List.getElem?_take_of_lt hlt] at hj
    simp [World.cell?, hh]
    simpa using hj

/-- The source that an owned row is. -/
theorem src_of_row {w : World} {base : Nat} {e : TypeId} {size : Nat} {v : Value} {n : Nat} {xs : List Value} (h : w.ownsRow base e size v n xs) (h1 : ∀ u ∈ xs, u.oneCell' = true) : ∃ oa c, v = .slice oa n c ∧ SrcIs w size oa n xs ∧ n ≤ c ∧ c ≤ maxLen ∧ (oa = none → c = 0) := by
  by_cases hn : 0 < n
  · obtain ⟨g, cap, cur, rfl, _, hc, hm, _, _, hx⟩ := row_at h hn
    exact ⟨_, cap, rfl, SrcIs.some h.1 h1 fun j u hu => by rw [addr_add, Nat.zero_add]; exact hx j u hu, hc, hm, fun h => by cases h⟩
  · have hn0 : n = 0 := by omega
    subst hn0
    have hxs : xs = [] := List.length_eq_zero_iff.1 (by have := h.1; omega)
    subst hxs
    rcases h.2 with ⟨rfl, _⟩ | ⟨g, cap, cur, rfl, _, _, hc, hm, _, _⟩
    · exact ⟨none, 0, rfl, SrcIs.none, by omega, by simp, fun _ => rfl⟩
    · exact ⟨_, cap, rfl, SrcIs.some (by simp) (by simp) (by simp), by omega, hm, fun h => by cases h⟩

theorem row_form {w : World} {base : Nat} {e : TypeId} {size : Nat} {v : Value} {n : Nat} {xs : List Value} (h : w.ownsRow base e size v n xs) : ∃ oa c, v = .slice oa n c ∧ n ≤ c ∧ c ≤ maxLen ∧ (oa = none → n = 0 ∧ c = 0) ∧ ∀ a, oa = some a → a = ⟨a.block, 0, none⟩ := by
  rcases h.2 with ⟨rfl, rfl⟩ | ⟨g, cap, cur, rfl, _, _, hc, hm, _, _⟩
  · exact ⟨_, _, rfl, by simp, by simp, fun _ => ⟨rfl, rfl⟩, fun a h => by cases h⟩
  · exact ⟨_, _, rfl, hc, hm, fun h => (by cases h), fun a h => (by cases h; rfl)⟩

/-- Its first k elements. -/
theorem row_cut {w : World} {base : Nat} {e : TypeId} {size : Nat} {oa : Option Addr} {n cap : Nat} {xs : List Value} (h : w.ownsRow base e size (.slice oa n cap) n xs) {k : Nat} (hk : k ≤ n) : w.ownsRow base e size (.slice oa k cap) k (xs.take (k * size)) := by
  obtain ⟨h1, h2⟩ := h
  have hks : k * size ≤ n * size := Nat.mul_le_mul_right _ hk
  refine ⟨by rw [List.length_take, h1]; omega, ?_⟩
  rcases h2 with ⟨h2, h3⟩ | ⟨g, cap', cur, hv, hb, hh, hc, hm, hcs, hx⟩
  · simp at h2
    exact .inl ⟨by simp [h2]; omega, by omega⟩
  · simp at hv
    obtain ⟨rfl, rfl⟩ := hv
    refine .inr ⟨g, cap, cur, rfl, hb, hh, by omega, hm, hcs, ?_⟩
    rw [← hx, List.take_take, Nat.min_eq_left hks]
end Go.Cl
