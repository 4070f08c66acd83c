/- What becomes of a tree, if a name is given a time: as the document has it. -/
import Derived.Test.YtcblgpcgdihcbaaGreatDoorK17SSVH
import Derived.Test.YtcblgpcgdihcbaaGreatDoorK17SSTC
namespace Go.Proofs.YtcblgpcgdihcbaaGreatDoor.St
open Go Go.AM Go.ChangeShapes Go.ChangeAt Go.RowKit
set_option linter.unusedVariables false
set_option linter.unusedSimpArgs false
set_option maxRecDepth 100000
theorem rcontent_eq (k : Nat) (hk : 2000 < k) (m : Mp) (hK : Tr.Keyed m) (hm : m.length ≤ 1000) (n : Tx) : millwrightref04_content_m0.f k (Tr.vals m) n = some (content m n) := by
  unfold millwrightref04_content_m0.f content
  rw [Tr.at_eq k _ _ (by rw [Tr.vals_len]; omega) (by rw [Tr.vals_len]; omega), Option.bind_some]
  rcases Tr.atI_spec n m hK with ⟨q1, q2⟩ | ⟨v, j, q1, q2, q3⟩
  · rw [q1, q2, if_pos (by decide)]; rfl
  · have hj := (List.getElem?_eq_some_iff.1 q3).1
    rw [q1, q2, if_neg (by simp), idx_at rfl hj, Option.bind_some, (List.getElem?_eq_some_iff.1 q3).2]; rfl
def turn (x : Tx) (t : Int) (m : Mb) : Mb := if m.f_Name == x then T_ar_Member.mk m.f_Name t m.f_Content else m
theorem set_loop (k : Nat) (a : List Fl) (t : Int) (v1 : Tx × Tx × Bool) (l : List Mb) (b : Bool) (hl : l.length ≤ 1000) : ∀ (r : List Mb) (fuel i : Nat) (out : List Mb) (d : Bool), l.drop i = r → r.length < fuel → out.length ≤ i →
    millwrightref04_Set_m0.l19 k a t v1 (l, b) fuel out d (i : Int) = some (out ++ r.map (turn v1.2.1 t), d || r.any fun m => m.f_Name == v1.2.1)
  | _, 0, _, _, _, _, h, _ => by omega
  | [], f + 1, i, out, d, hd, _, _ => by
    have := Tr.at_nil hd
    unfold millwrightref04_Set_m0.l19
    rw [if_neg (by simp; omega)]; simp
  | m :: r, f + 1, i, out, d, hd, hf, ho => by
    obtain ⟨g1, g2, g3⟩ := Tr.at_drop hd
    unfold millwrightref04_Set_m0.l19 millwrightref04_Set_m0.j32 millwrightref04_Set_m0.j27
    rw [if_pos (by simp; exact g3), g1, Option.bind_some, Tr.wr1 (by omega)]
    have ih := fun o d' (h : o.length ≤ i + 1) => set_loop k a t v1 l b hl r f (i + 1) o d' g2 (by simpa using hf) h
    cases hx : m.f_Name == v1.2.1 with
    | true =>
      rw [if_pos rfl, if_pos (Tr.lim_ok (by omega)), ih _ _ (by simp; omega)]
      simp [turn, hx]
    | false =>
      rw [if_neg (by decide), if_pos (Tr.lim_ok (by omega)), ih _ _ (by simp; omega)]
      simp [turn, hx]
theorem turned {l : List Mb} (hn : (l.map (·.f_Name)).Nodup) (x : Tx) (t : Int) :
    (if (l.any fun m => m.f_Name == x) then l.map (turn x t) else l.map (turn x t) ++ [T_ar_Member.mk x t []]) = Ar.putS l (T_ar_Member.mk x t (Ar.findM l x).1.f_Content) := by
  rcases Ar.put_cases l (T_ar_Member.mk x t (Ar.findM l x).1.f_Content) with ⟨j, y, hj, hy, _, e⟩ | ⟨h, _, e⟩
  · simp only at hy
    obtain ⟨hjl, hjy⟩ := List.getElem?_eq_some_iff.1 hj
    have hmem : y ∈ l := hjy ▸ List.getElem_mem hjl
    have hany : (l.any fun m => m.f_Name == x) = true := List.any_eq_true.2 ⟨y, hmem, by simpa using hy⟩
    have hf : Ar.findM l x = (y, true) := by rw [← hy]; exact Ar.findM_mem hn hmem
    rw [hany, if_pos rfl, e, hf]
    refine List.ext_getElem? fun i => ?_
    rw [List.getElem?_map, List.getElem?_set]
    by_cases hij : j = i
    · subst hij
      rw [if_pos rfl, if_pos hjl, hj]
      simp [turn, hy]
    · rw [if_neg hij]
      cases hi : l[i]? with
      | none => rfl
      | some z =>
        have hz : z.f_Name ≠ x := fun hz => by
          obtain ⟨hil, hiz⟩ := List.getElem?_eq_some_iff.1 hi
          have hp := List.pairwise_iff_getElem.1 hn
          rcases Nat.lt_or_gt_of_ne hij with hlt | hlt
          · exact hp j i (by simpa using hjl) (by simpa using hil) hlt (by simp [hjy, hiz, hy, hz])
          · exact hp i j (by simpa using hil) (by simpa using hjl) hlt (by simp [hjy, hiz, hy, hz])
        simp [turn, hz]
  · simp only at h
    have hany : (l.any fun m => m.f_Name == x) = false := List.any_eq_false.2 fun m hm => by simpa using h m hm
    have hf : Ar.findM l x = (T_ar_Member.mk [] 0 [], false) := by
      unfold Ar.findM
      rw [List.find?_eq_none.2 fun m hm => by simpa using h m hm]
    rw [hany, if_neg (by decide), e, hf]
    congr 1
    have : l.map (turn x t) = l.map id := List.map_congr_left fun m hm => by simp [turn, h m hm]
    rw [this, List.map_id]
theorem refparse_nil (k : Nat) : millwrightref03_Parse.f k [] = some ([], false) := rfl
theorem rset_arc (k : Nat) (hk : 4000 ≤ k) (m : Mp) (hg : Tr.Good m) (hm : m.length ≤ 1000) (v1 : Tx × Tx × Bool) (h1 : v1.1.length ≤ 1000) (h2 : v1.2.1.length ≤ 1000) (t : Int) (ht1 : 1 ≤ t) (ht2 : t ≤ 549755813888) (l : List Mb) (b : Bool) (hn : (l.map (·.f_Name)).Nodup) (hl : Ar.SmL l) (h9 : l.length ≤ 900) (hc : (Ar.findM l v1.2.1).1.f_Content.length ≤ 900) :
    millwrightref04_Set_m0.j35 k (Tr.vals m) t v1 (l, b) = some (if (Ar.makeS (Ar.putS l (T_ar_Member.mk v1.2.1 t (Ar.findM l v1.2.1).1.f_Content))).2 = 0 then (((Tr.putS m ⟨v1.1, (Ar.makeS (Ar.putS l (T_ar_Member.mk v1.2.1 t (Ar.findM l v1.2.1).1.f_Content))).1, t⟩).1 : Int), Tr.vals (Tr.putS m ⟨v1.1, (Ar.makeS (Ar.putS l (T_ar_Member.mk v1.2.1 t (Ar.findM l v1.2.1).1.f_Content))).1, t⟩).2) else (((Ar.makeS (Ar.putS l (T_ar_Member.mk v1.2.1 t (Ar.findM l v1.2.1).1.f_Content))).2 : Int), Tr.vals m)) := by
  unfold millwrightref04_Set_m0.j35
  have e := set_loop k (Tr.vals m) t v1 l b (by omega) l k 0 [] false rfl (by omega) (by simp)
  have e' : millwrightref04_Set_m0.l19 k (Tr.vals m) t v1 (l, b) k [] false 0 = _ := e
  rw [e', Option.bind_some, List.nil_append, Bool.false_or]
  simp only
  have tl := turned hn v1.2.1 t
  have sm : Ar.Sm (T_ar_Member.mk v1.2.1 t (Ar.findM l v1.2.1).1.f_Content) := by refine ⟨?_, ?_, ?_, ?_⟩ <;> simp only <;> omega
  have fin : millwrightref04_Set_m0.j12 k (Tr.vals m) t v1 (Ar.putS l (T_ar_Member.mk v1.2.1 t (Ar.findM l v1.2.1).1.f_Content)) = some (if (Ar.makeS (Ar.putS l (T_ar_Member.mk v1.2.1 t (Ar.findM l v1.2.1).1.f_Content))).2 = 0 then (((Tr.putS m ⟨v1.1, (Ar.makeS (Ar.putS l (T_ar_Member.mk v1.2.1 t (Ar.findM l v1.2.1).1.f_Content))).1, t⟩).1 : Int), Tr.vals (Tr.putS m ⟨v1.1, (Ar.makeS (Ar.putS l (T_ar_Member.mk v1.2.1 t (Ar.findM l v1.2.1).1.f_Content))).1, t⟩).2) else (((Ar.makeS (Ar.putS l (T_ar_Member.mk v1.2.1 t (Ar.findM l v1.2.1).1.f_Content))).2 : Int), Tr.vals m)) := by
    unfold millwrightref04_Set_m0.j12
    rw [Ar.make_ref k hk _ (Ar.put_sm hl h9 sm), Option.bind_some]
    simp only
    by_cases h0 : (Ar.makeS (Ar.putS l (T_ar_Member.mk v1.2.1 t (Ar.findM l v1.2.1).1.f_Content))).2 = 0
    · rw [if_neg (by simp [h0]), if_pos h0, Tr.rput_eq k m _ (by omega) hm (by simp only; omega) hg.rising hg.keyed]; rfl
    · rw [if_pos (by simpa using h0), if_neg h0]
  unfold millwrightref04_Set_m0.j15
  cases ha : (l.any fun m => m.f_Name == v1.2.1) with
  | true =>
    rw [ha, if_pos rfl] at tl
    rw [if_neg (by decide), tl, fin]
  | false =>
    rw [ha, if_neg (by decide)] at tl
    rw [if_pos (by decide), if_pos (Tr.lim_ok (by simp; omega)), tl, fin]
theorem rset_eq (k : Nat) (hk : 4000 ≤ k) (m : Mp) (hg : Tr.Good m) (hb : Bound m) (hm : m.length ≤ 1000) (n : Tx) (hn : n.length ≤ 1000) (t : Int) : millwrightref04_Set_m0.f k (Tr.vals m) n t = some (((setS m n t).1 : Int), Tr.vals (setS m n t).2) := by
  unfold millwrightref04_Set_m0.f setS
  rw [rmem_eq k n hn (by omega), Option.bind_some]
  cases hx : (memS n).2.2 with
  | false =>
    rw [if_pos (by decide), if_neg (by decide), Tr.rtouch_eq k m n t (by omega) hm hn hg]; rfl
  | true =>
    rw [if_neg (by decide), if_pos rfl]
    unfold setMS
    have hlen := mem_len n hn
    have hc := content_len hb (memS n).1
    have tail : ¬ (t < 1 ∨ t > 549755813888) → millwrightref04_Set_m0.j40 k (Tr.vals m) t (memS n) = some (((if (setC (content m (memS n).1) (mbS m (memS n).1 (memS n).2.1 t)).2 = 0 then Tr.putS m ⟨(memS n).1, (setC (content m (memS n).1) (mbS m (memS n).1 (memS n).2.1 t)).1, t⟩ else ((setC (content m (memS n).1) (mbS m (memS n).1 (memS n).2.1 t)).2, m)).1 : Int), Tr.vals (if (setC (content m (memS n).1) (mbS m (memS n).1 (memS n).2.1 t)).2 = 0 then Tr.putS m ⟨(memS n).1, (setC (content m (memS n).1) (mbS m (memS n).1 (memS n).2.1 t)).1, t⟩ else ((setC (content m (memS n).1) (mbS m (memS n).1 (memS n).2.1 t)).2, m)).2) := fun ht => by
      unfold millwrightref04_Set_m0.j40
      rw [rcontent_eq k (by omega) m hg.keyed hm, Option.bind_some]
      have sm := mb_sm hb (lib := (memS n).1) (x := (memS n).2.1) (t := t) hlen.2 (by omega) (by omega)
      by_cases h : ∃ l, Ar.makeS l = (content m (memS n).1, 0)
      · obtain ⟨l, h⟩ := h
        obtain ⟨_, _, _, hnd, h8, _⟩ := Ar.make_ok h
        have h9 : l.length ≤ 900 := by
          have : ∀ l : List Mb, l.length ≤ Ar.tot l := fun l => by
            induction l with
            | nil => simp
            | cons m r ih => rw [Ar.tot, List.length_cons]; unfold Ar.sizeS; omega
          have := this l; omega
        rw [Ar.refparse_yes k hk h, Option.bind_some, if_neg (by simp)]
        unfold millwrightref04_Set_m0.j38
        rw [if_neg (by decide), rset_arc k hk m hg hm (memS n) hlen.1 hlen.2 t (by omega) (by omega) l true hnd (Ar.make_sm h).1 h9 (findM_len h _)]
        have e1 : setC (content m (memS n).1) (mbS m (memS n).1 (memS n).2.1 t) = Ar.makeS (Ar.putS l (T_ar_Member.mk (memS n).2.1 t (Ar.findM l (memS n).2.1).1.f_Content)) := by
          rw [setC_yes h sm]; unfold mbS; rw [findC_yes h]
        rw [e1]
        split <;> rfl
      · by_cases h0 : content m (memS n).1 = []
        · have e1 : setC (content m (memS n).1) (mbS m (memS n).1 (memS n).2.1 t) = Ar.makeS (Ar.putS [] (T_ar_Member.mk (memS n).2.1 t (Ar.findM [] (memS n).2.1).1.f_Content)) := by
            rw [h0, setC_nil sm]; unfold mbS; rw [findC_no (by omega) h]; rfl
          rw [e1, h0, refparse_nil, Option.bind_some, if_pos (by simp)]
          unfold millwrightref04_Set_m0.j38
          rw [if_neg (by decide), rset_arc k hk m hg hm (memS n) hlen.1 hlen.2 t (by omega) (by omega) [] false (by simp) ⟨by simp, by simp⟩ (by simp) (by simp [Ar.findM])]
          split <;> rfl
        · obtain ⟨l, hp⟩ := Ar.refparse_no k hk (by omega) h
          rw [hp, Option.bind_some, if_pos (by simp), setC_no (by omega) h h0]
          unfold millwrightref04_Set_m0.j38
          rw [if_pos (by simp; exact List.length_pos_iff.2 h0)]; rfl
    by_cases h1 : t < 1
    · rw [if_pos (by simpa using h1), if_pos (.inl h1)]; rfl
    · rw [if_neg (by simpa using h1)]
      unfold millwrightref04_Set_m0.j43
      by_cases h2 : t > 549755813888
      · rw [if_pos (by simpa using h2), if_pos (.inr h2)]; rfl
      · rw [if_neg (by simpa using h2), if_neg (by omega), tail (by omega)]
theorem Tr.Good.rem {m : Mp} (h : Tr.Good m) (n : Tx) : Tr.Good (Tr.remS m n).2 := by
  unfold Tr.remS
  split
  · exact h.del n
  · exact h
theorem good_set {m : Mp} (h : Tr.Good m) (n : Tx) (t : Int) : Tr.Good (setS m n t).2 := by
  rcases setS_cases m n t with ⟨f, e, _⟩ | ⟨e, _⟩
  · rw [e]; exact h.put f
  · rw [e]; exact h
end Go.Proofs.YtcblgpcgdihcbaaGreatDoor.St
