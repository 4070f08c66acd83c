/- What a name given a time is, and which other names are left as they were. -/
import Derived.Test.YtcblgpcgdihcbaaGreatDoorK18SAVH
namespace Go.Proofs.YtcblgpcgdihcbaaGreatDoor.St
open Go Go.AM Go.ChangeShapes Go.ChangeAt Go.RowKit
set_option linter.unusedVariables false
set_option linter.unusedSimpArgs false
set_option maxRecDepth 100000
theorem put_fail {m : Mp} {f : Fl} (h : (Tr.putS m f).1 ≠ 0) : (Tr.putS m f).2 = m := by
  have : Tr.mayS m f ≠ 0 := h
  unfold Tr.putS
  rw [if_neg this]
theorem put_done {m : Mp} {f : Fl} (h : (Tr.putS m f).1 = 0) : (Tr.putS m f).2 = mput f.f_Name f m := by
  have : Tr.mayS m f = 0 := h
  unfold Tr.putS
  rw [if_pos this]
theorem set_fail {m : Mp} {n : Tx} {t : Int} (h : (setS m n t).1 ≠ 0) : (setS m n t).2 = m := by
  rcases setS_cases m n t with ⟨f, e, _⟩ | ⟨e, _⟩
  · rw [e] at h ⊢; exact put_fail h
  · exact e
def keyS (s : Tx) : Tx := if (memS s).2.2 then (memS s).1 else s
theorem of_key {m m' : Mp} {o : Tx} (h : mget (keyS o) m' = mget (keyS o) m) : ofS m' o = ofS m o := by
  unfold keyS at h
  unfold ofS content
  cases hx : (memS o).2.2 with
  | true => rw [hx, if_pos rfl] at h; rw [if_pos rfl, if_pos rfl, h]
  | false => rw [hx, if_neg (by decide)] at h; rw [if_neg (by decide), if_neg (by decide), h]
theorem set_get {m : Mp} {n : Tx} {t : Int} {o : Tx} (hne : o ≠ keyS n) : mget o (setS m n t).2 = mget o m := by
  rcases setS_cases m n t with ⟨f, e, _, hn⟩ | ⟨e, _⟩
  · rw [e]
    by_cases h0 : (Tr.putS m f).1 = 0
    · rw [put_done h0, mget_put_ne _ (by rw [hn]; exact hne)]
    · rw [put_fail h0]
  · rw [e]
theorem set_other {m : Mp} {n : Tx} {t : Int} {o : Tx} (hne : keyS o ≠ keyS n) : ofS (setS m n t).2 o = ofS m o := of_key (set_get hne)
theorem setC_mem {c s : Tx} {x : Mb} (hc : c.length ≤ 1800) (hx : Ar.Sm x) (h : (setC c x).2 = 0) : ∃ l, Ar.makeS l = ((setC c x).1, 0) ∧ x ∈ l := by
  by_cases hl : ∃ l, Ar.makeS l = (c, 0)
  · obtain ⟨l, hl⟩ := hl
    rw [setC_yes hl hx] at h ⊢
    exact ⟨_, Prod.ext rfl h, Ar.put_self l x⟩
  · by_cases h0 : c = []
    · subst h0
      rw [setC_nil hx] at h ⊢
      exact ⟨_, Prod.ext rfl h, List.mem_singleton.2 rfl⟩
    · rw [setC_no hc hl h0] at h; cases h
theorem set_own {m : Mp} (hb : Bound m) {n : Tx} (hn : n.length ≤ 1000) {t : Int} (h : (setS m n t).1 = 0) : ofS (setS m n t).2 n = t := by
  unfold setS at h ⊢
  unfold ofS
  cases hx : (memS n).2.2 with
  | false =>
    rw [hx, if_neg (by decide)] at h
    rw [if_neg (by decide), if_neg (by decide), put_done h]
    simp only
    rw [mget_put_same]; rfl
  | true =>
    rw [hx, if_pos rfl] at h
    rw [if_pos rfl, if_pos rfl]
    unfold setMS at h ⊢
    by_cases ht : t < 1 ∨ t > 549755813888
    · rw [if_pos ht] at h; cases h
    · rw [if_neg ht] at h ⊢
      by_cases h0 : (setC (content m (memS n).1) (mbS m (memS n).1 (memS n).2.1 t)).2 = 0
      · rw [if_pos h0] at h ⊢
        have hc := content_len hb (memS n).1
        have sm := mb_sm hb (lib := (memS n).1) (x := (memS n).2.1) (t := t) (mem_len n hn).2 (by omega) (by omega)
        obtain ⟨l, h1, h2⟩ := setC_mem (s := []) (by omega) sm h0
        obtain ⟨_, _, _, hnd, _⟩ := Ar.make_ok h1
        rw [put_done h]
        have e : content (mput (memS n).1 (T_tree_File.mk (memS n).1 (setC (content m (memS n).1) (mbS m (memS n).1 (memS n).2.1 t)).1 t) m) (memS n).1 = (setC (content m (memS n).1) (mbS m (memS n).1 (memS n).2.1 t)).1 := by
          unfold content
          rw [mget_put_same]; rfl
        simp only
        rw [e, findC_yes h1]
        have := Ar.findM_mem hnd h2
        have e2 : (mbS m (memS n).1 (memS n).2.1 t).f_Name = (memS n).2.1 := rfl
        rw [e2] at this
        rw [this]; rfl
      · rw [if_neg h0] at h; exact absurd h h0
end Go.Proofs.YtcblgpcgdihcbaaGreatDoor.St
