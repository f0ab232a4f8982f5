/- What append does to a row from any source, and that a row that moves leaves all that lay there as it was. Generic: no program. No condition. -/
import Derived.Test.YtfihpiommicdbaaDoorLibApp
namespace Go.Cl

/-- The new row lies in its own block, or nothing that lay there has turned. -/
theorem app_keep {P : Program} (w : World) (t ty : TypeId) (base : Nat) (e : TypeId) (i : TypeInfo) (z : Value) (size bytes : Nat) (ht : P.underlying t = some (.slice e)) (hi : P.info? e = some i) (hz : i.zero = some z)
    (hsize : i.size = size) (hby : i.bytes = bytes) (v : Value) (n : Nat) (xs : List Value) (hown : w.ownsRow base e size v n xs) (oa : Option Addr) (m c : Nat) (news : List Value) (hs : SrcIs w size oa m news) (hc0 : oa = none → c = 0)
    (h63 : n + m ≤ maxLen) (hbytes : (n + m) * bytes ≤ 140737488355328) {v' : Value} {w' : World} (hr : (Builtin.append_ #[t, t] ty #[v, .slice oa m c]).run P w = .ok v' w') : v'.ownBlock = v.ownBlock ∨ Chg (fun _ => False) w w' := by
  subst hsize
  subst hby
  have hsmall : n + m ≤ 9223372036854775807 := by simp only [maxLen] at h63; omega
  obtain ⟨hl, h1, ⟨rfl, rfl⟩ | ⟨ad, rfl, hc⟩⟩ := hs
  · have : news = [] := List.length_eq_zero_iff.1 (by omega)
    subst this
    obtain rfl := hc0 rfl
    have hx := run_append_owned_none (P := P) (w := w) base t ty e i i.size ht hi v n xs hown
    rw [hx] at hr
    cases hr
    exact .inl rfl
  · rcases hown.2 with ⟨rfl, rfl⟩ | ⟨g, cap, cur, rfl, hbg, hg, hnc, hcm, hcs, htake⟩
    · by_cases hm : m = 0
      · subst hm
        have hn : news = [] := List.eq_nil_of_length_eq_zero (by simpa using hl)
        subst hn
        have hx : (Builtin.append_ #[t, t] ty #[.slice none 0 0, .slice (some ad) 0 c]).run P w = .ok (.slice none 0 0) w := by
          simp [Builtin.append_, run_underlying ht, sizeOf, typeInfo, hi, Builtin.lenOf, Builtin.firstCells, loadCells, loadCellsFrom]
        rw [hx] at hr
        cases hr
        exact .inl rfl
      · have hx := run_append_nil (P := P) w t ty e i z ht hi hz ad m c news hl hc (by omega) (by omega) (by have hb := hbytes; simp only [Nat.zero_add] at hb; omega)
        rw [hx] at hr
        cases hr
        exact .inr ((Chg.refl (fun _ => False) w).drew.alloc _)
    · by_cases hroom : n + m ≤ cap
      · have hfit : n * i.size + news.length ≤ cur.size := by rw [hl, hcs, ← Nat.add_mul]; exact Nat.mul_le_mul_right _ hroom
        have hx := run_append_room (P := P) w t ty e i ht hi g n cap cur hg ad m c news hl hc h1 hroom hfit
        rw [hx] at hr
        cases hr
        exact .inl rfl
      · have holds : ∀ j u, xs[j]? = some u → w.cell? ((⟨g, 0, none⟩ : Addr).add j) = some u := hown.cells (g := g) rfl
        have hx := run_append_grow (P := P) w t ty e i z ht hi hz ⟨g, 0, none⟩ n cap xs hown.1 holds ad m c news hl hc (by omega) (by omega) (growslice_fits (by omega) hbytes)
        rw [hx] at hr
        cases hr
        exact .inr ((Chg.refl (fun _ => False) w).drew.alloc _)

theorem wpList_app2 {P : Program} {w : World} {ops : Array Oper} {rest : List Oper} {o : Oper} {a : Act} {Q : Exit → Act → World → Prop} (hgd : o.guard = none) (s x : Operand) (t : TypeId)
    (ho : o.op = .call { callee := .builtin .append, args := #[s, x], argTypes := #[t, t] })
    (base : Nat) (e : TypeId) (i : TypeInfo) (z : Value) (size bytes : Nat) (ht : P.underlying t = some (.slice e)) (hi : P.info? e = some i) (hz : i.zero = some z)
    (hsize : i.size = size) (hby : i.bytes = bytes) (hzs : z.cells.size = size) (hsz : 0 < size)
    (v : Value) (n : Nat) (xs : List Value) (hs : a.eval s = v) (hown : w.ownsRow base e size v n xs)
    (oa : Option Addr) (m c : Nat) (news : List Value) (hx : a.eval x = .slice oa m c) (hsrc : SrcIs w size oa m news) (hc0 : oa = none → c = 0)
    (h63 : n + m ≤ maxLen) (hbytes : (n + m) * bytes ≤ 140737488355328) (hbase : base ≤ w.heap.size)
    (h : ∀ v' w', w'.ownsRow base e size v' (n + m) (xs ++ news) → w.grownBy w' v.ownBlock → (v'.ownBlock = v.ownBlock ∨ v'.ownBlock = some w.heap.size) → (v'.ownBlock = v.ownBlock ∨ Chg (fun _ => False) w w') → wpList P ops Q rest (a.put o.dst v') w') : wpList P ops Q (o :: rest) a w :=
  wpList_plain hgd fun _ hK => by
    obtain ⟨v', w', hr, h2, h3, h4⟩ := run_app (P := P) w t o.type base e i z size bytes ht hi hz hsize hby hzs hsz v n xs hown oa m c news hsrc hc0 h63 hbytes hbase
    have hk := app_keep (P := P) w t o.type base e i z size bytes ht hi hz hsize hby v n xs hown oa m c news hsrc hc0 h63 hbytes hr
    unfold Oper.wp execOp
    simp only [ho, resolve, invoke, builtin, Sem.run_bind, Sem.run_pure, Result.andThen_ok, List.map_toArray, List.map_cons, List.map_nil, hs, hx, hr]
    exact hK _ _ (h v' w' h2 h3 h4 hk)
end Go.Cl
