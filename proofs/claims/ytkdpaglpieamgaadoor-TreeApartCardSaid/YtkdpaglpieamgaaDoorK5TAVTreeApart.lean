/- A part of the proof of a given law: TAVTreeApart. Own work, printed in part by a program of mine. -/
import Derived.Test.YtkdpaglpieamgaaDoorK5TAVA
namespace Go.Proofs.YtkdpaglpieamgaaDoor
open Go Go.AM Go.ChangeShapes Go.ChangeAt Go.RowKit
set_option linter.unusedVariables false
set_option linter.unusedSimpArgs false
set_option maxRecDepth 100000
abbrev Ac := T_millwrightlaw02_Act
theorem feq (x : Fl) : (x.f_Name == x.f_Name && (x.f_Content == x.f_Content && (x.f_Time == x.f_Time && true))) = true := by simp
theorem law_loop (k : Nat) (a : List Fl) (ha : a.length ≤ 1000) (c : Ac) (m m' : Mp) (h0 : ∀ f ∈ a, mget f.f_Name m = some f) (h1 : ∀ f ∈ a, f.f_Name ≠ c.f_File.f_Name → mget f.f_Name m' = some f) : ∀ (l : List Fl) (fuel i : Nat), a.drop i = l → l.length < fuel →
    millwrightlaw02_TreeApart.l11 k a c m m' fuel (i : Int) = some (.inl ())
  | _, 0, _, _, h => by omega
  | [], f + 1, i, hl, _ => by
    have := at_nil hl
    unfold millwrightlaw02_TreeApart.l11
    rw [if_neg (by simp; omega)]
  | x :: r, f + 1, i, hl, hf => by
    obtain ⟨g1, g2, g3⟩ := at_drop hl
    have hx : x ∈ a := List.mem_of_mem_drop (hl ▸ List.mem_cons_self)
    have ih := law_loop k a ha c m m' h0 h1 r f (i + 1) g2 (by simpa using hf)
    unfold millwrightlaw02_TreeApart.l11 millwrightlaw02_TreeApart.j22 millwrightlaw02_TreeApart.j15
    rw [if_pos (by simp; exact g3), g1, Option.bind_some, wr1 (by omega), ih]
    by_cases hn : x.f_Name = c.f_File.f_Name
    · rw [if_pos (by simpa using hn)]
    · rw [if_neg (by simpa using hn), get_eq, Option.bind_some, get_eq, Option.bind_some, h1 x hx hn, h0 x hx]
      simp only [Option.isSome_some, Bool.not_true, Bool.false_eq_true, if_false, Option.getD_some, feq]
theorem alive02_eq : millwrightlaw02_alive.f 400 = some true := by decide +kernel
theorem j28_eq (k : Nat) (hk : 2000 < k) (a : List Fl) (ha : a.length ≤ 50) (c : Ac) (m m' : Mp) (h0 : ∀ f ∈ a, mget f.f_Name m = some f) (h1 : ∀ n, n ≠ c.f_File.f_Name → mget n m' = mget n m) (h2 : m'.length ≤ a.length + 1) (h3 : Short m') :
    millwrightlaw02_TreeApart.j28 k a c m m' = some true := by
  unfold millwrightlaw02_TreeApart.j28
  have e : millwrightlaw02_TreeApart.l11 k a c m m' k 0 = _ := law_loop k a (by omega) c m m' h0 (fun f hf hne => by rw [h1 _ hne]; exact h0 f hf) a k 0 rfl (by omega)
  rw [e]
  simp only [Option.bind_some]
  unfold millwrightlaw02_TreeApart.j9
  rw [names_eq k m' (by omega) h3, Option.bind_some, wr1 (by omega)]
  simp; omega
theorem treeApart_true (a0 : List Fl) (a1 : Ac) (_ : Wf Un (.list (.named 3)) a0) (_ : Wf Un (.named 4) a1) : ∃ k, millwrightlaw02_TreeApart.f k a0 a1 = some true := by
  refine ⟨4000, ?_⟩
  have ali : millwrightlaw02_alive.f 4000 = some true := by decide +kernel
  unfold millwrightlaw02_TreeApart.f
  rw [ali, Option.bind_some, if_neg (by decide)]
  obtain ⟨b, e1, e2⟩ := long_f 4000 (by omega) a0 50 (by omega)
  rw [e1, Option.bind_some]
  have main : b = false → millwrightlaw02_TreeApart.j64 4000 a0 a1 = some true := fun hb => by
    have hl := e2 hb
    unfold millwrightlaw02_TreeApart.j64 tree_Of.f tree_New.f
    rw [Option.bind_some]
    rcases of_loop 4000 (by omega) a0 (by omega) a0 4000 0 [] (by omega) rfl (by omega) (fun f hf => by simp at hf) (by simp) (fun y hy => by cases hy) with ⟨e, he, h⟩ | ⟨m, h, h1, h2, h3⟩
    · have h' : tree_Of.l6 4000 a0 4000 [] 0 = _ := h
      rw [h', Option.bind_some, Option.bind_some, if_neg (by simp), if_pos (by simpa using he)]
    · have h' : tree_Of.l6 4000 a0 4000 [] 0 = _ := h
      rw [h', Option.bind_some]
      unfold tree_Of.j3
      rw [Option.bind_some, if_pos rfl, if_neg (by simp)]
      unfold tree_Tree_Copy_m0.f pMapClone.f
      rw [Option.bind_some, Option.bind_some]
      simp only
      rw [put_eq 4000 (by omega), touch_eq 4000 (by omega), rem_eq]
      have hput : ∀ f : Fl, f.f_Name = a1.f_File.f_Name → millwrightlaw02_TreeApart.j28 4000 a0 a1 m (putS m f).2 = some true := fun f hf =>
        j28_eq 4000 (by omega) a0 (by omega) a1 m _ h1 (fun n hn => by
          unfold putS
          simp only
          split
          · exact mget_put_ne _ (by rw [hf]; exact hn) m
          · rfl) (by have := putS_len m f; omega) (h3.putS f)
      simp only [Option.bind_some]
      split
      · exact hput _ rfl
      split
      · exact hput _ rfl
      split
      · refine j28_eq 4000 (by omega) a0 (by omega) a1 m _ h1 (fun n hn => ?_) (by have := remS_len m a1.f_File.f_Name; omega) (h3.remS _)
        unfold remS
        split
        · exact mget_del_ne hn m
        · rfl
      · exact j28_eq 4000 (by omega) a0 (by omega) a1 m m h1 (fun n hn => rfl) (by omega) h3
  unfold millwrightlaw02_TreeApart.j67
  cases b with
  | true => rfl
  | false =>
    rw [main rfl]
    simp
end Go.Proofs.YtkdpaglpieamgaaDoor
