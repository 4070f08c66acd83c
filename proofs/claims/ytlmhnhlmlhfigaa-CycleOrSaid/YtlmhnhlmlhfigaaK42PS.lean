/- A part of the proof of a given law: PS. Own work, printed in part by a program of mine. -/
import Derived.Test.YtlmhnhlmlhfigaaK42AmM3
import Derived.Test.YtlmhnhlmlhfigaaK42TryShelf
namespace Go.Proofs.Ytlmhnhlmlhfigaa
open Go Go.AM Go.RowKit Go.ChangeShapes Go.Shelf
set_option linter.unusedVariables false
set_option linter.unusedSimpArgs false
set_option maxRecDepth 100000
def pCloneR.f (k : Nat) (xs : List (List UInt8)) : Option (List (List UInt8)) := if xs.length * 16 ≤ 140737488355328 then some xs else none
theorem pCloneR.ok {U : Univ} (O : Out) (k : Nat) (xs out : List (List UInt8)) (h : pCloneR.f k xs = some out) : COk U O Try.prog 33 { ar := [.p (.list .str) xs], r := .vec 60500 1 0 out.length, bs' := [(60500, .row 9 .str out false)], nn := [60500] } := by
  unfold pCloneR.f at h
  split at h
  case isFalse => cases h
  rename_i hlen
  cases h
  intro S ι w vs hlt hgl has hbs hown
  obtain ⟨u, us', rfl, hu, hus⟩ := has
  have hus : us' = [] := hus
  subst hus
  have fin : ∀ e w' (v' : Value) (news : List Value), e = Ending.returned v' → w'.ownsRow w.heap.size 9 1 v' xs.length news → Below w.heap.size w w' → (∀ (i : Nat) (h : i < xs.length), ∃ q : ByteArray, q.data.toList = xs[i] ∧ news[i]? = some (.string q)) →
      ∃ u S' ι', e = .returned u ∧ Nx U O (CSpec.l { ar := [.p (.list .str) xs], r := .vec 60500 1 0 xs.length, bs' := [(60500, .row 9 .str xs false)], nn := [60500] }) S ι w S' ι' w' ∧ VV U O S' ι' w' (.vec 60500 1 0 xs.length) u := fun e w' v' news he hrow hw hel => by
    obtain ⟨ι', h1, h2⟩ := Nx.rowBlk (U := U) (O := O) (t := .str) (ι := ι) (d := 60500) (s := CSpec.l { ar := [.p (.list .str) xs], r := .vec 60500 1 0 xs.length, bs' := [(60500, .row 9 .str xs false)], nn := [60500] }) (xs := xs) hrow hw rfl rfl rfl rfl hlt fun i hi => by
      obtain ⟨q, h3, h4⟩ := hel i hi
      refine ⟨[.string q], rd_strof h3, fun j hj => ?_⟩
      obtain rfl : j = 0 := by simpa [Ty.width] using hj
      simpa [Ty.width] using h4
    exact ⟨v', S, ι', he, h1, h2⟩
  rcases VV.list_iff.1 hu with ⟨rfl, rfl⟩ | ⟨rfl, ad, cap, rfl⟩ | ⟨b, o, cap, cs, rfl, hS, hcap, hel, hcell⟩
  · exact (Try.slices_Clone_string_nil 0 0 w).mono fun e w' ⟨he, hw⟩ => fin e w' _ [] he (World.ownsRow_nil _ _ _ _) (hw ▸ Below.refl _ _) fun i hi => (Nat.not_lt_zero _ hi).elim
  · exact (Try.slices_Clone_string_zero ad cap w).mono fun e w' ⟨v', he, hrow, hne, hw⟩ => fin e w' v' [] he hrow hw fun i hi => (Nat.not_lt_zero _ hi).elim
  · obtain ⟨qs, hq⟩ : ∃ qs : List ByteArray, qs.map (·.data.toList) = xs := ⟨xs.map fun x => ⟨x.toArray⟩, by simp [Function.comp_def]⟩
    have hql : qs.length = xs.length := by rw [← hq]; simp
    have hat : ∀ j (hj : j < xs.length), (qs[j]'(by omega)).data.toList = xs[j] := fun j hj => by
      have := congrArg (fun l => l[j]?) hq
      simp only [List.getElem?_map, List.getElem?_eq_getElem (show j < qs.length by omega), Option.map_some] at this
      rw [List.getElem?_eq_getElem hj] at this
      exact Option.some.inj this
    have key : ∀ j, j < qs.length → w.cell? ⟨b, o + j, none⟩ = some (.string (qs.getD j ByteArray.empty)) := fun j hj => by
      have hjx := Nat.lt_of_lt_of_eq hj hql
      have h2 := hcell j 0 hjx (by simp [Ty.width])
      obtain ⟨q, h3, h4⟩ := rd_strq (hel j hjx)
      rw [h4] at h2
      have e1 : qs.getD j ByteArray.empty = qs[j] := by simp [List.getD, hj]
      rw [e1, bytes_ext ((hat j hjx).trans h3)]
      simpa [Ty.width] using h2
    exact (Try.slices_Clone_string b o xs.length cap qs w (by omega) hlen key).mono fun e w' ⟨v', he, hrow, hne, hw⟩ => fin e w' v' _ he hrow hw fun i hi => ⟨qs[i]'(by omega), hat i hi, by
      simp [hql, List.getElem?_eq_getElem (show i < qs.length by omega), hi]⟩

def pSortR.f (k : Nat) (xs : List (List UInt8)) : Option (List (List UInt8)) := if xs.length < 4611686018427387904 then some (xs.mergeSort fun x y => decide (x ≤ y)) else none
theorem pSortR.ok {U : Univ} (O : Out) (k : Nat) (xs out : List (List UInt8)) (h : pSortR.f k xs = some out) :
    COk U O Try.prog 34 { ar := [.vec 100000 1 0 xs.length], r := .tup [], bs := [(100000, .row 9 .str xs false)], bs' := [(100000, .row 9 .str out false)] } := by
  unfold pSortR.f at h
  split at h
  case isFalse => cases h
  rename_i hlen
  cases h
  intro S ι w vs hlt hgl has hbs hown
  obtain ⟨u, us', rfl, hu, hus⟩ := has
  have hus : us' = [] := hus
  subst hus
  have hB := hbs (100000, .row 9 .str xs false) (by simp)
  rcases row_of hB hu with ⟨h1, rfl, h3, rfl⟩ | ⟨b, c, arr, h1, rfl, h2, h3, h4, h5, h6, h7⟩
  · refine (Try.slices_Sort_string_none none 0 w).mono fun e w' ⟨he, hw⟩ => ?_
    subst hw
    have e0 : (([] : List (List UInt8)).mergeSort fun x y => decide (x ≤ y)) = [] := by simp
    rw [e0]
    exact ⟨_, S, ι, he, (Nx.refl ({ ws := .tup [] } : LSpec U) rfl rfl hlt).frame rfl [(100000, .row 9 .str [] false)] (by simp) hbs hown hlt, ⟨[], rfl, rfl⟩⟩
  · have ho := hown.out 100000 (by simp [nm]) b c h1
    refine (Try.slices_Sort_string b 0 c xs w h7 ho.2 hlen).mono fun e w' ⟨he, n, os, hw⟩ => ?_
    exact ⟨_, S, ι, he, sort_nx rfl rfl h1 h2 h3 h4 (by simp) h5 ho.1 hlt hw, ⟨[], rfl, rfl⟩⟩

def pCompactRR.f (k : Nat) (xs : List (List UInt8)) : Option (List (List UInt8)) := if xs.length ≤ 9223372036854775807 then some (Lib.compact xs) else none
theorem pCompactRR.ok {U : Univ} (O : Out) (k : Nat) (xs out : List (List UInt8)) (h : pCompactRR.f k xs = some out) :
    COk U O Try.prog 35 { ar := [.vec 100000 1 0 xs.length], r := .vec 60500 1 0 out.length, bs := [(100000, .row 9 .str xs false)], bs' := [(60500, .row 9 .str out false)], nn := [60500] } := by
  unfold pCompactRR.f at h
  split at h
  case isFalse => cases h
  rename_i hlen
  cases h
  intro S ι w vs hlt hgl has hbs hown
  obtain ⟨u, us', rfl, hu, hus⟩ := has
  have hus : us' = [] := hus
  subst hus
  have hB := hbs (100000, .row 9 .str xs false) (by simp)
  rcases row_of hB hu with ⟨h1, rfl, h3, rfl⟩ | ⟨b, c, arr, h1, rfl, h2, h3, h4, h5, h6, h7⟩
  · refine (Try.slices_Compact_string_empty none 0 w).mono fun e w' ⟨he, hw⟩ => ?_
    subst hw
    obtain ⟨ι', g1, g2⟩ := rowNil_nx (U := U) (O := O) (S := S) (ι := ι) (w := w') (d := 100000) (d' := 60500) (E := 9) (xs := []) (s := CSpec.l { ar := [.vec 100000 1 0 0], r := .vec 60500 1 0 0, bs := [(100000, .row 9 .str [] false)], bs' := [(60500, .row 9 .str [] false)], nn := [60500] }) rfl rfl rfl hlt
    exact ⟨_, S, ι', he, g1, g2⟩
  · have ho := hown.out 100000 (by simp [nm]) b c h1
    have hcl := compact_len xs
    refine (Try.slices_Compact_string b 0 c xs w h7 hlen h5).mono fun e w' ⟨he, q, hw⟩ => ?_
    obtain ⟨ι', g1, g2⟩ := compactRow_nx (U := U) (O := O) (d' := 60500) (s := CSpec.l { ar := [.vec 100000 1 0 xs.length], r := .vec 60500 1 0 (Lib.compact (α := List UInt8) xs).length, bs := [(100000, .row 9 .str xs false)], bs' := [(60500, .row 9 .str (Lib.compact (α := List UInt8) xs) false)], nn := [60500] }) rfl rfl rfl h1 h2 h3 h4 (by omega) ho.1 hlt hw
    exact ⟨_, S, ι', he, g1, g2⟩

def pDeleteRR.f (k : Nat) (xs : List (List UInt8)) (i j : Int) : Option (List (List UInt8)) := if 0 ≤ i ∧ i < j ∧ j ≤ (xs.length : Int) then some (xs.take i.toNat ++ xs.drop j.toNat) else none
theorem pDeleteRR.ok {U : Univ} (O : Out) (k : Nat) (xs : List (List UInt8)) (i j : Int) (out : List (List UInt8)) (h : pDeleteRR.f k xs i j = some out) :
    COk U O Try.prog 32 { ar := [.vec 100000 1 0 xs.length, .p (.int .i64) i, .p (.int .i64) j], r := .vec 60500 1 0 out.length, bs := [(100000, .row 9 .str xs false)], bs' := [(60500, .row 9 .str out false)], nn := [60500] } := by
  unfold pDeleteRR.f at h
  split at h
  case isFalse => cases h
  rename_i hij
  obtain ⟨h0, h1, h2⟩ := hij
  cases h
  obtain ⟨i, rfl⟩ := Int.eq_ofNat_of_zero_le h0
  obtain ⟨j, rfl⟩ := Int.eq_ofNat_of_zero_le (show 0 ≤ j by omega)
  have hi : i < j := by omega
  have hj : j ≤ xs.length := by omega
  simp only [Int.toNat_natCast]
  intro S ι w vs hlt hgl has hbs hown
  obtain ⟨u, us', rfl, hu, u1, us1, rfl, hu1, u2, us2, rfl, hu2, hus⟩ := has
  have hus : us2 = [] := hus
  subst hus
  have hu1 := VV.int_iff.1 hu1
  have hu2 := VV.int_iff.1 hu2
  subst hu1 hu2
  have hB := hbs (100000, .row 9 .str xs false) (by simp)
  rcases row_of hB hu with ⟨h1, rfl, h3, rfl⟩ | ⟨b, c, arr, h1, rfl, h2, h3, h4, h5, h6, h7⟩
  · simp at hj; omega
  · have ho := hown.out 100000 (by simp [nm]) b c h1
    refine (Try.slices_Delete_string b 0 c i j xs w h7 h5 (by unfold maxLen at h4; omega) (by omega) hj).mono fun e w' ⟨he, q, hw⟩ => ?_
    have hl : (xs.take i ++ xs.drop j).length = xs.length - (j - i) := by simp; omega
    obtain ⟨ι', g1, g2⟩ := compactRow_nx (U := U) (O := O) (d' := 60500) (s := CSpec.l { ar := [.vec 100000 1 0 xs.length, .p (.int .i64) (i : Int), .p (.int .i64) (j : Int)], r := .vec 60500 1 0 (xs.take i ++ xs.drop j).length, bs := [(100000, .row 9 .str xs false)], bs' := [(60500, .row 9 .str (xs.take i ++ xs.drop j) false)], nn := [60500] }) rfl rfl rfl h1 h2 h3 h4 (by omega) ho.1 hlt hw
    rw [hl] at g2
    exact ⟨_, S, ι', he, g1, by rw [hl]; exact g2⟩
end Go.Proofs.Ytlmhnhlmlhfigaa
