/- A part of my own abstract layer. -/
import Derived.Test.YtcijochjfncefaaGreatDoorK43Am4
import Derived.Deep.DeepAppendWide
namespace Go.AM
open Go Go.RowKit
set_option linter.unusedVariables false
set_option linter.unusedSimpArgs false
section
variable {U : Univ} {O : Out} {P : Program} {S : Nat → Prop} {ι : Lay} {w : World} {rs : List (Nat × AVal U)} {a : Act} {ops : Array Oper} {o : Oper}
theorem run_append_placeW {T ty E : TypeId} {t : Ty} {by_ : Nat} (hT : RowOk P U T E t by_) {v : Value} {n : Nat} {xs : List Value} (hown : w.ownsRow 0 E (t.width U.wd) v n xs)
    (ad : Addr) (m c : Nat) {news : List Value} (hl : news.length = m * t.width U.wd) (hnews : ∀ j u, news[j]? = some u → w.cell? (ad.add j) = some u) (h1 : ∀ u ∈ news, u.oneCell' = true)
    (h63 : n + m ≤ maxLen) (hbytes : ((n + m) + (n + m) / 4 + 192) * by_ ≤ 281474976710656) :
    ∃ v' w', (Builtin.append_ #[T, T] ty #[v, .slice (some ad) m c]).run P w = .ok v' w' ∧ w'.ownsRow 0 E (t.width U.wd) v' (n + m) (xs ++ news) ∧ w.grownBy w' v.ownBlock ∧
      ∀ b, v'.ownBlock = some b → w.heap.size ≤ b ∨ v.ownBlock = some b := by
  obtain ⟨i, z, hi, hz, hs, hby, hzs⟩ := hT.info
  obtain ⟨v', w', hr, ho, hg, hnil⟩ := run_append_own_wide (P := P) w 0 T ty E i z (t.width U.wd) by_ hT.sl.under hi hz hs hby hzs hT.pos v n xs hown ad m c news hl hnews h1 h63 hbytes (Nat.zero_le _)
  refine ⟨v', w', hr, ho, hg, ?_⟩
  rcases hown.2 with ⟨rfl, rfl⟩ | ⟨g, cap, cur, rfl, _, h3, h4, h5, h6, h7⟩
  · by_cases hm : m = 0
    · rw [hnil.2 ⟨rfl, hm⟩]; intro b hb; cases hb
    · have h2 := run_append_nil (P := P) w T ty E i z hT.sl.under hi hz ad m c news (by rw [hs]; exact hl) hnews (by omega) (by unfold maxLen at h63; omega) (by rw [hby]; rw [Nat.zero_add] at hbytes; exact Nat.le_trans (Nat.mul_le_mul_right _ (by omega)) hbytes)
      obtain ⟨rfl, _⟩ := ok_inj (hr.symm.trans h2)
      intro b hb
      simp [Value.ownBlock] at hb
      exact .inl (by omega)
  · by_cases hroom : n + m ≤ cap
    · obtain ⟨w'', h2, _⟩ := run_append_fits (P := P) (ty := ty) (w := w) 0 T E i (t.width U.wd) hT.sl.under hi hs g n cap xs hown ad m c news hl hnews h1 hroom
      obtain ⟨rfl, _⟩ := ok_inj (hr.symm.trans h2)
      exact fun b hb => .inr hb
    · have h2 := run_append_grow (P := P) w T ty E i z hT.sl.under hi hz ⟨g, 0, none⟩ n cap xs (by rw [hs]; exact hown.1) (hown.cells (g := g) rfl) ad m c news (by rw [hs]; exact hl) hnews (by omega)
        (by unfold maxLen at h63; omega) (growslice_fits_wide (by omega) (by rw [hby]; exact hbytes))
      obtain ⟨rfl, _⟩ := ok_inj (hr.symm.trans h2)
      intro b hb
      simp [Value.ownBlock] at hb
      exact .inl (by omega)

theorem sok_appendW {T E : TypeId} {t : Ty} {by_ n d : Nat} {xs ys : List (t.den U.T)} {fx : Bool} {x y : Operand} {v : AVal U} {vw : List (Nat × Blk U)} (hg : o.guard = none) (_ : o.dst = some d)
    (ho : o.op = .call { callee := .builtin .append, args := #[x, y], argTypes := #[T, T] }) (hT : RowOk P U T E t by_) (hby : 1 ≤ by_)
    (hx : Opd U rs x (.vec n (t.width U.wd) 0 xs.length)) (hy : Opd U rs y v) (hv : View U vw v (.p (.list t) ys)) (_ : n ∉ nm vw) (hlim : (xs.length + ys.length + (xs.length + ys.length) / 4 + 192) * by_ ≤ 281474976710656) :
    SOk U O P ops o { rs := rs, ro := vw, cb := [(n, .row E t xs fx)], ws := .vec d (t.width U.wd) 0 (xs.length + ys.length), pb := [(d, .row E t (xs ++ ys) false)], nn := [d] } := by
  intro S ι w a hlt hgl hrs hro hcb hown K Q hK
  have hB := hcb _ List.mem_cons_self
  obtain ⟨cs, hel, hrow, hplace⟩ := own_of rfl hB (hx.ev hrs) rfl rfl
  obtain ⟨ds, hdl, hys⟩ := view_cells hT.pos hv hro (hy.ev hrs)
  have hsz := hlim
  have h63 : xs.length + ys.length ≤ maxLen := by
    have := Nat.mul_le_mul_left (xs.length + ys.length + (xs.length + ys.length) / 4 + 192) hby
    unfold maxLen; omega
  have hnewl : (rowCells ys.length ds).length = ys.length * t.width U.wd := flatMap_range_length _ _ _ fun i hi => (hdl i hi).length
  have hone : ∀ u ∈ rowCells ys.length ds, u.oneCell' = true := fun u hu => by
    obtain ⟨i, hi, hu⟩ := List.mem_flatMap.1 hu
    exact (hdl i (List.mem_range.1 hi)).one u hu
  obtain ⟨v', w', hr, ho', hg', hp⟩ : ∃ v' w', (Builtin.append_ #[T, T] o.type #[a.eval x, a.eval y]).run P w = .ok v' w' ∧
      w'.ownsRow 0 E (t.width U.wd) v' (xs.length + ys.length) (rowCells xs.length cs ++ rowCells ys.length ds) ∧ w.grownBy w' (a.eval x).ownBlock ∧ ∀ b, v'.ownBlock = some b → w.heap.size ≤ b ∨ (a.eval x).ownBlock = some b := by
    rcases hys with ⟨rfl, hu⟩ | ⟨ad, cap, hu, hc⟩
    · obtain ⟨i, z, hi, hz, hs, hb', hzs⟩ := hT.info
      rw [hu]
      refine ⟨_, w, run_append_owned_none (P := P) (ty := o.type) (w := w) 0 T E i (t.width U.wd) hT.sl.under hi _ _ _ hrow, ?_, ⟨rfl, rfl, rfl, Nat.le_refl _, fun _ _ _ => rfl⟩, fun b hb => .inr hb⟩
      simpa [rowCells] using hrow
    · rw [hu]
      exact run_append_placeW hT hrow ad ys.length cap hnewl hc hone h63 hsz
  have hzl : (xs ++ ys).length = xs.length + ys.length := List.length_append
  have hels : ∀ (i : Nat) (h : i < (xs ++ ys).length), Rd U O S w t (xs ++ ys)[i] (if i < xs.length then cs i else ds (i - xs.length)) := fun i hi => by
    by_cases h : i < xs.length
    · rw [if_pos h, List.getElem_append_left h]; exact hel i h
    · rw [if_neg h, List.getElem_append_right (by omega)]
      exact hdl (i - xs.length) (by omega)
  rw [rowCells_append, ← hzl] at ho'
  obtain ⟨ι', hN, hV⟩ := nx_append (s := { rs := rs, ro := vw, cb := [(n, .row E t xs fx)], ws := .vec d (t.width U.wd) 0 (xs.length + ys.length), pb := [(d, .row E t (xs ++ ys) false)], nn := [d] })
    (ι := ι) rfl rfl hlt hg' (fun b hb => by
      obtain ⟨c, hc⟩ := hplace b hb
      have := hown.out n (by simp) b c hc
      exact ⟨this.1, this.2, n, by simp, c, hc⟩) hels ho' hp
  refine opWp_plain hg ?_
  unfold Oper.wp
  rw [exec_append ho, run_vOf hr]
  rw [hzl] at hV
  exact hK v' S ι' w' hN hV

theorem sok_appendW' {T E : TypeId} {t : Ty} {by_ n d : Nat} {xs ys : List (t.den U.T)} {fx : Bool} {x y : Operand} {v : AVal U} {vw : List (Nat × Blk U)} (hg : o.guard = none) (hd : o.dst = some d)
    (ho : o.op = .call { callee := .builtin .append, args := #[x, y], argTypes := #[T, T] }) (hT : RowOk P U T E t by_) (hby : 1 ≤ by_)
    (hx : Opd U rs x (.vec n (t.width U.wd) 0 xs.length)) (hy : Opd U rs y v) (hv : View U vw v (.p (.list t) ys)) (hvw : n ∉ nm vw) (hlim : (xs.length + ys.length + (xs.length + ys.length) / 4 + 192) * by_ ≤ 281474976710656) :
    SOk U O P ops o { rs := rs, ro := vw, cb := [(n, .row E t xs fx)], ws := .vec d (t.width U.wd) 0 (xs ++ ys).length, pb := [(d, .row E t (xs ++ ys) false)], nn := [d] } := by
  rw [List.length_append]
  exact sok_appendW hg hd ho hT hby hx hy hv hvw hlim
end
end Go.AM
