/- A part of the proof of a given law: CYVF. Own work, printed in part by a program of mine. -/
import Derived.Test.YtlmhnhlmlhfigaaK42CYVE
namespace Go.Proofs.Ytlmhnhlmlhfigaa
open Go Go.AM Go.ChangeShapes Go.ChangeAt Go.RowKit
set_option linter.unusedVariables false
set_option linter.unusedSimpArgs false
set_option maxRecDepth 100000
def lst (w : List Tx) : Tx := (w[w.length - 1]?).getD []
theorem lst_app (w : List Tx) (x : Tx) : lst (w ++ [x]) = x := by simp [lst]
theorem lst_idx {w : List Tx} (h : w ≠ []) (hl : w.length ≤ 1000) : idx w (IntKind.i64.wrap ((w.length : Int) - 1)) = some (lst w) := by
  have hp : 0 < w.length := List.length_pos_iff.2 h
  have e : IntKind.i64.wrap ((w.length : Int) - 1) = ((w.length - 1 : Nat) : Int) := by rw [w64 (by omega) (by omega)]; omega
  rw [e, idx_at rfl (by omega)]
  simp [lst, show w.length - 1 < w.length by omega]
def fresh : List Tx → List Tx → List Tx
  | _, [] => []
  | sn, x :: r => if hasB sn x then fresh sn r else x :: fresh (sn ++ [x]) r
structure Sn (U sn : List Tx) : Prop where
  nd : sn.Nodup
  sub : ∀ x ∈ sn, x ∈ U
theorem Sn.len {U sn : List Tx} (h : Sn U sn) : sn.length ≤ U.length := nodup_len h.nd h.sub
theorem fresh_sub : ∀ (l sn : List Tx) (x : Tx), x ∈ fresh sn l → x ∈ l
  | [], _, _, h => by cases h
  | y :: r, sn, x, h => by
    unfold fresh at h
    split at h
    · exact List.mem_cons_of_mem _ (fresh_sub r sn x h)
    · rcases List.mem_cons.1 h with rfl | h
      · exact List.mem_cons_self
      · exact List.mem_cons_of_mem _ (fresh_sub r _ x h)
theorem Sn.snoc {U sn : List Tx} (h : Sn U sn) {x : Tx} (hx : x ∈ U) (hn : hasB sn x = false) : Sn U (sn ++ [x]) := by
  have hn : x ∉ sn := by simpa [hasB] using hn
  refine ⟨?_, fun y hy => ?_⟩
  · rw [List.nodup_append]
    exact ⟨h.nd, by simp, fun y hy z hz => by simp at hz; subst hz; exact fun e => hn (e ▸ hy)⟩
  · rcases List.mem_append.1 hy with hy | hy
    · exact h.sub y hy
    · simp at hy; subst hy; exact hx
theorem Sn.fresh {U : List Tx} : ∀ (l : List Tx) {sn : List Tx}, Sn U sn → (∀ x ∈ l, x ∈ U) → Sn U (sn ++ fresh sn l)
  | [], sn, h, _ => by unfold Ytlmhnhlmlhfigaa.fresh; rw [List.append_nil]; exact h
  | x :: r, sn, h, hl => by
    unfold Ytlmhnhlmlhfigaa.fresh
    split
    · exact Sn.fresh r h fun y hy => hl y (List.mem_cons_of_mem _ hy)
    · rename_i hb
      have := Sn.fresh r (h.snoc (hl x List.mem_cons_self) (by simpa using hb)) fun y hy => hl y (List.mem_cons_of_mem _ hy)
      rw [List.append_assoc] at this
      exact this
theorem fresh_app : ∀ (l l' sn : List Tx), fresh sn (l ++ l') = fresh sn l ++ fresh (sn ++ fresh sn l) l'
  | [], l', sn => by simp [fresh]
  | x :: r, l', sn => by
    rw [List.cons_append, show fresh sn (x :: (r ++ l')) = if hasB sn x then fresh sn (r ++ l') else x :: fresh (sn ++ [x]) (r ++ l') from rfl, show fresh sn (x :: r) = if hasB sn x then fresh sn r else x :: fresh (sn ++ [x]) r from rfl]
    split
    · exact fresh_app r l' sn
    · rw [fresh_app r l' (sn ++ [x])]
      simp
def lvN (s : Tx → List Tx) : List (List Tx) → List Tx → List (List Tx)
  | [], _ => []
  | w :: r, sn => (fresh sn (s (lst w))).map (fun x => w ++ [x]) ++ lvN s r (sn ++ fresh sn (s (lst w)))
def lvS (s : Tx → List Tx) : List (List Tx) → List Tx → List Tx
  | [], sn => sn
  | w :: r, sn => lvS s r (sn ++ fresh sn (s (lst w)))
theorem lv_app (s : Tx → List Tx) : ∀ (l l' : List (List Tx)) (sn : List Tx), lvN s (l ++ l') sn = lvN s l sn ++ lvN s l' (lvS s l sn) ∧ lvS s (l ++ l') sn = lvS s l' (lvS s l sn)
  | [], l', sn => ⟨rfl, rfl⟩
  | w :: r, l', sn => by
    obtain ⟨h1, h2⟩ := lv_app s r l' (sn ++ fresh sn (s (lst w)))
    simp only [List.cons_append, lvN, lvS, h1, h2, List.append_assoc]
    exact ⟨trivial, trivial⟩
theorem lvS_mem (s : Tx → List Tx) : ∀ (l : List (List Tx)) (sn : List Tx) (x : Tx), x ∈ lvS s l sn → x ∈ sn ∨ ∃ w ∈ l, x ∈ s (lst w)
  | [], sn, x, h => .inl h
  | w :: r, sn, x, h => by
    rcases lvS_mem s r _ x h with h | ⟨w', hw, h⟩
    · rcases List.mem_append.1 h with h | h
      · exact .inl h
      · exact .inr ⟨w, List.mem_cons_self, fresh_sub _ _ _ h⟩
    · exact .inr ⟨w', List.mem_cons_of_mem _ hw, h⟩
theorem lvN_mem (s : Tx → List Tx) : ∀ (l : List (List Tx)) (sn : List Tx) (w' : List Tx), w' ∈ lvN s l sn → ∃ w ∈ l, ∃ x ∈ s (lst w), w' = w ++ [x]
  | [], sn, w', h => by cases h
  | w :: r, sn, w', h => by
    rcases List.mem_append.1 h with h | h
    · obtain ⟨x, hx, rfl⟩ := List.mem_map.1 h
      exact ⟨w, List.mem_cons_self, x, fresh_sub _ _ _ hx, rfl⟩
    · obtain ⟨v, hv, x, hx, e⟩ := lvN_mem s r _ w' h
      exact ⟨v, List.mem_cons_of_mem _ hv, x, hx, e⟩
theorem lvS_sn {U : List Tx} (s : Tx → List Tx) (hU : ∀ x y, y ∈ s x → y ∈ U) : ∀ (l : List (List Tx)) (sn : List Tx), Sn U sn → Sn U (lvS s l sn)
  | [], sn, h => h
  | w :: r, sn, h => lvS_sn s hU r _ (h.fresh _ fun x hx => hU _ x hx)

theorem grow_loop (k : Nat) (hk : 20000 < k) (a : List Nd) (n : Tx) (v1 : List (List Tx)) (v12 : Int) (w to U : List Tx) (hw : w.length ≤ 1000) (ht : to.length ≤ 1000) (hU : U.length ≤ 200) : ∀ (l : List Tx) (fuel i : Nat) (nx : List (List Tx)) (sn : List Tx), to.drop i = l → l.length < fuel →
    (∀ x ∈ l, x ∈ U) → Sn U sn → nx.length ≤ sn.length → millwrightref25_first.l31 k a n v1 v12 w to fuel nx sn (i : Int) = some (nx ++ (fresh sn l).map (fun x => w ++ [x]), sn ++ fresh sn l)
  | _, 0, _, _, _, _, h, _, _, _ => by omega
  | [], f + 1, i, nx, sn, hl, _, _, _, _ => by
    have := at_nil hl
    unfold millwrightref25_first.l31
    rw [if_neg (by simp; omega)]; simp [fresh]
  | x :: r, f + 1, i, nx, sn, hl, hf, hs, hS, hn => by
    obtain ⟨g1, g2, g3⟩ := at_drop hl
    have hsl := hS.len
    have ih := fun nx sn h1 h2 => grow_loop k hk a n v1 v12 w to U hw ht hU r f (i + 1) nx sn g2 (by simpa using hf) (fun y hy => hs y (List.mem_cons_of_mem _ hy)) h1 h2
    unfold millwrightref25_first.l31 millwrightref25_first.j39
    rw [if_pos (by simp; exact g3), g1, Option.bind_some, has1_eq k (by omega) sn (by omega), Option.bind_some, wr1 (by omega)]
    unfold fresh
    cases hb : hasB sn x with
    | true => rw [if_neg (by simp), ih nx sn hS hn, if_pos rfl]
    | false =>
      rw [if_pos (by simp), if_pos (lim_ok (by omega)), if_pos (lim2 (by simp; omega)), if_pos (lim_ok (by simp; omega)), if_pos (lim_ok (by omega)), ih _ _ (hS.snoc (hs x List.mem_cons_self) hb) (by simp; omega), if_neg (by simp)]
      simp
theorem level_loop (k : Nat) (hk : 20000 < k) (a : List Nd) (ha : Small a) (n : Tx) (W : List (List Tx)) (U : List Tx) (hU : U.length ≤ 200) (hsU : ∀ x y, y ∈ suc a x → y ∈ U) (hW : W.length ≤ 100000) : ∀ (l : List (List Tx)) (fuel i : Nat) (nx : List (List Tx)) (sn : List Tx), W.drop i = l → l.length < fuel →
    (∀ w ∈ l, w ≠ [] ∧ w.length ≤ 1000 ∧ hasB (suc a (lst w)) n = false) → Sn U sn → nx.length ≤ sn.length → millwrightref25_first.l13 k a n W fuel nx sn (i : Int) = some (.inl (nx ++ lvN (suc a) l sn, lvS (suc a) l sn))
  | _, 0, _, _, _, _, h, _, _, _ => by omega
  | [], f + 1, i, nx, sn, hl, _, _, _, _ => by
    have := at_nil hl
    unfold millwrightref25_first.l13
    rw [if_neg (by simp; omega)]; simp [lvN, lvS]
  | w :: r, f + 1, i, nx, sn, hl, hf, hs, hS, hn => by
    obtain ⟨g1, g2, g3⟩ := at_drop hl
    obtain ⟨w1, w2, w3⟩ := hs w List.mem_cons_self
    have hsl := ha.suc (lst w)
    have hS' := hS.fresh (suc a (lst w)) fun x hx => hsU _ x hx
    have ih := level_loop k hk a ha n W U hU hsU hW r f (i + 1) (nx ++ (fresh sn (suc a (lst w))).map (fun x => w ++ [x])) (sn ++ fresh sn (suc a (lst w))) g2 (by simpa using hf) (fun y hy => hs y (List.mem_cons_of_mem _ hy)) hS' (by simp; omega)
    unfold millwrightref25_first.l13 millwrightref25_first.j21
    have e : millwrightref25_first.l31 k a n W (i : Int) w (suc a (lst w)) k nx sn 0 = _ := grow_loop k hk a n W (i : Int) w (suc a (lst w)) U w2 (by omega) hU (suc a (lst w)) k 0 nx sn rfl (by omega) (fun x hx => hsU _ x hx) hS hn
    rw [if_pos (by simp; exact g3), rix g1, lst_idx w1 w2, Option.bind_some, to2_eq k hk a ha, Option.bind_some, has1_eq k (by omega) _ (by omega), Option.bind_some, w3, if_neg (by simp), e, Option.bind_some, wr1 (by omega), ih]
    simp [lvN, lvS]
theorem level_hit (k : Nat) (hk : 20000 < k) (a : List Nd) (ha : Small a) (n : Tx) (W : List (List Tx)) (U : List Tx) (hU : U.length ≤ 200) (hsU : ∀ x y, y ∈ suc a x → y ∈ U) (hW : W.length ≤ 100000) (g : List Tx) (post : List (List Tx)) (hg : g ≠ [] ∧ g.length ≤ 1000 ∧ hasB (suc a (lst g)) n = true) :
    ∀ (pre : List (List Tx)) (fuel i : Nat) (nx : List (List Tx)) (sn : List Tx), W.drop i = pre ++ g :: post → pre.length + 1 < fuel →
    (∀ w ∈ pre, w ≠ [] ∧ w.length ≤ 1000 ∧ hasB (suc a (lst w)) n = false) → Sn U sn → nx.length ≤ sn.length → millwrightref25_first.l13 k a n W fuel nx sn (i : Int) = some (.inr g)
  | _, 0, _, _, _, _, h, _, _, _ => by omega
  | [], f + 1, i, nx, sn, hl, hf, hs, hS, hn => by
    obtain ⟨g1, g2, g3⟩ := at_drop hl
    obtain ⟨w1, w2, w3⟩ := hg
    have hsl := ha.suc (lst g)
    unfold millwrightref25_first.l13
    rw [if_pos (by simp; exact g3), rix g1, lst_idx w1 w2, Option.bind_some, to2_eq k hk a ha, Option.bind_some, has1_eq k (by omega) _ (by omega), Option.bind_some, w3, if_pos rfl]
  | w :: r, f + 1, i, nx, sn, hl, hf, hs, hS, hn => by
    rw [List.cons_append] at hl
    obtain ⟨g1, g2, g3⟩ := at_drop hl
    obtain ⟨w1, w2, w3⟩ := hs w List.mem_cons_self
    have hsl := ha.suc (lst w)
    have hS' := hS.fresh (suc a (lst w)) fun x hx => hsU _ x hx
    have ih := level_hit k hk a ha n W U hU hsU hW g post hg r f (i + 1) (nx ++ (fresh sn (suc a (lst w))).map (fun x => w ++ [x])) (sn ++ fresh sn (suc a (lst w))) g2 (by simp at hf ⊢; omega) (fun y hy => hs y (List.mem_cons_of_mem _ hy)) hS' (by simp; omega)
    unfold millwrightref25_first.l13 millwrightref25_first.j21
    have e : millwrightref25_first.l31 k a n W (i : Int) w (suc a (lst w)) k nx sn 0 = _ := grow_loop k hk a n W (i : Int) w (suc a (lst w)) U w2 (by omega) hU (suc a (lst w)) k 0 nx sn rfl (by omega) (fun x hx => hsU _ x hx) hS hn
    rw [if_pos (by simp; exact g3), rix g1, lst_idx w1 w2, Option.bind_some, to2_eq k hk a ha, Option.bind_some, has1_eq k (by omega) _ (by omega), Option.bind_some, w3, if_neg (by simp), e, Option.bind_some, wr1 (by omega), ih]
structure Lv (s : Tx → List Tx) (U : List Tx) (n : Tx) (j v : Nat) (G : List Tx) (walks : List (List Tx)) (ends : List Tx) : Prop where
  sn : Sn U ends
  num : walks.length ≤ ends.length
  wk : ∀ w ∈ walks, w ≠ [] ∧ w.length = j + 1 ∧ Wk s j n (lst w)
  en : ∀ x ∈ ends, ∃ i, i ≤ j ∧ Wk s i n x
  at' : ∃ pre post, walks = pre ++ G :: post ∧ ∀ w ∈ pre, ¬ Wk s (v + 1) (lst w) n
theorem lvN_num (s : Tx → List Tx) : ∀ (l : List (List Tx)) (sn : List Tx), (lvN s l sn).length ≤ (lvS s l sn).length ∧ sn.length + (lvN s l sn).length = (lvS s l sn).length
  | [], sn => ⟨Nat.zero_le _, rfl⟩
  | w :: r, sn => by
    obtain ⟨h1, h2⟩ := lvN_num s r (sn ++ fresh sn (s (lst w)))
    simp only [lvN, lvS, List.length_append, List.length_map] at h1 h2 ⊢
    omega
theorem first_loop (k : Nat) (hk : 20000 < k) (a : List Nd) (ha : Small a) (n : Tx) (U : List Tx) (hU : U.length ≤ 200) (hsU : ∀ x y, y ∈ suc a x → y ∈ U) (e : Nat) (he : e ≤ 100) (hmin : ∀ d, d < e → ¬ Wk (suc a) (d + 1) n n) :
    ∀ (v j fuel : Nat) (G r : List Tx) (walks : List (List Tx)) (ends : List Tx), j + v = e → Way (suc a) n (v + 1) (lst G) (lst G :: r) → Lv (suc a) U n j v G walks ends → v < fuel → millwrightref25_first.l3 k a n fuel walks ends = some (G ++ r)
  | _, _, 0, _, _, _, _, _, _, _, h => by omega
  | 0, j, f + 1, G, r, walks, ends, hj, hW, hL, _ => by
    obtain ⟨pre, post, hw, hpre⟩ := hL.at'
    cases hW with
    | @go _ _ p l1 l2 _ q1 q2 q3 q4 q5 =>
    cases q5
    have q3 : p = n := q3
    have hn : n ∈ suc a (lst G) := by rw [q1, ← q3]; simp
    have hl := hL.sn.len
    have hnum := hL.num
    have hwl : walks.length = pre.length + 1 + post.length := by rw [hw]; simp; omega
    have hws : ∀ w ∈ walks, w ≠ [] ∧ w.length ≤ 1000 := fun w hw => by
      obtain ⟨h1, h2, _⟩ := hL.wk w hw
      exact ⟨h1, by omega⟩
    have hG := hws G (by rw [hw]; simp)
    have e := level_hit k hk a ha n walks U hU hsU (by omega) G post ⟨hG.1, hG.2, by simpa [hasB] using hn⟩ pre k 0 [] ends hw (by omega) (fun w hm => by
      obtain ⟨h1, h2⟩ := hws w (by rw [hw]; exact List.mem_append.2 (.inl hm))
      refine ⟨h1, h2, ?_⟩
      have := hpre w hm
      simp only [hasB, decide_eq_false_iff_not]
      exact fun h => this ⟨n, h, rfl⟩) hL.sn (Nat.zero_le _)
    unfold millwrightref25_first.l3
    rw [if_pos (lim2 (by simp; omega)), List.nil_append]
    have e : millwrightref25_first.l13 k a n walks k [] ends 0 = _ := e
    rw [e, Option.bind_some, List.append_nil]
  | v + 1, j, f + 1, G, r, walks, ends, hj, hW, hL, hf => by
    obtain ⟨pre, post, hw, hpre⟩ := hL.at'
    cases hW with
    | @go _ _ p l1 l2 _ q1 q2 q3 q4 q5 =>
    cases q5 with
    | @go _ _ p' l1' l2' r' z1 z2 z3 z4 z5 =>
    have hl := hL.sn.len
    have hnum := hL.num
    have hws : ∀ w ∈ walks, w ≠ [] ∧ w.length ≤ 1000 ∧ hasB (suc a (lst w)) n = false := fun w hw => by
      obtain ⟨h1, h2, h3⟩ := hL.wk w hw
      refine ⟨h1, by omega, ?_⟩
      simp only [hasB, decide_eq_false_iff_not]
      exact fun h => hmin j (by omega) (h3.snoc h)
    have e := level_loop k hk a ha n walks U hU hsU (by omega) walks k 0 [] ends rfl (by omega) hws hL.sn (Nat.zero_le _)
    have happ := lv_app (suc a) pre (G :: post) ends
    have happ1 := happ.1
    rw [← hw] at happ1
    have hpn : hasB (lvS (suc a) pre ends ++ fresh (lvS (suc a) pre ends) l1) p = false := by
      simp only [hasB, decide_eq_false_iff_not]
      intro h
      rcases List.mem_append.1 h with h | h
      · rcases lvS_mem _ _ _ _ h with h | ⟨w, hwm, h⟩
        · obtain ⟨i, hi, hwi⟩ := hL.en p h
          have := hwi.trans q3
          exact hmin (i + v) (by omega) this
        · exact hpre w hwm ⟨p, h, q3⟩
      · exact q2 p (fresh_sub _ _ _ h) q3
    have hfr : fresh (lvS (suc a) pre ends) (suc a (lst G)) = fresh (lvS (suc a) pre ends) l1 ++ p :: fresh ((lvS (suc a) pre ends ++ fresh (lvS (suc a) pre ends) l1) ++ [p]) l2 := by
      rw [q1, fresh_app]
      congr 1
      rw [fresh, hpn]; rfl
    have hpl : lst (G ++ [p]) = p := lst_app G p
    have ih := first_loop k hk a ha n U hU hsU _ he hmin v (j + 1) f (G ++ [p]) r' (lvN (suc a) walks ends) (lvS (suc a) walks ends) (by omega) (by rw [hpl]; exact .go z1 z2 z3 z4 z5) ?_ (by omega)
    · unfold millwrightref25_first.l3 millwrightref25_first.j9
      rw [if_pos (lim2 (by simp; omega)), List.nil_append]
      have e : millwrightref25_first.l13 k a n walks k [] ends 0 = _ := e
      rw [e, Option.bind_some]
      show millwrightref25_first.l3 k a n f ([] ++ lvN (suc a) walks ends) (lvS (suc a) walks ends) = _
      rw [List.nil_append, ih]; simp
    · refine ⟨lvS_sn _ hsU _ _ hL.sn, (lvN_num _ _ _).1, fun w' hw' => ?_, fun x hx => ?_, ⟨lvN (suc a) pre ends ++ (fresh (lvS (suc a) pre ends) l1).map (fun x => G ++ [x]), (fresh ((lvS (suc a) pre ends ++ fresh (lvS (suc a) pre ends) l1) ++ [p]) l2).map (fun x => G ++ [x]) ++ lvN (suc a) post (lvS (suc a) pre ends ++ fresh (lvS (suc a) pre ends) (suc a (lst G))), ?_, fun w' hw' => ?_⟩⟩
      · obtain ⟨w, hwm, x, hx, rfl⟩ := lvN_mem _ _ _ _ hw'
        obtain ⟨h1, h2, h3⟩ := hL.wk w hwm
        refine ⟨by simp, by simp [h2], ?_⟩
        rw [lst_app]; exact h3.snoc hx
      · rcases lvS_mem _ _ _ _ hx with h | ⟨w, hwm, h⟩
        · obtain ⟨i, hi, hwi⟩ := hL.en x h
          exact ⟨i, by omega, hwi⟩
        · exact ⟨j + 1, Nat.le_refl _, (hL.wk w hwm).2.2.snoc h⟩
      · rw [happ1, lvN, hfr]
        simp
      · rcases List.mem_append.1 hw' with hw' | hw'
        · obtain ⟨w, hwm, x, hx, rfl⟩ := lvN_mem _ _ _ _ hw'
          rw [lst_app]
          exact fun h => hpre w hwm ⟨x, hx, h⟩
        · obtain ⟨x, hx, rfl⟩ := List.mem_map.1 hw'
          rw [lst_app]
          exact q2 x (fresh_sub _ _ _ hx)
theorem first_eq {k : Nat} (hk : 20000 < k) {a : List Nd} (ha : Small a) {n : Tx} {e : Nat} {r : List Tx} (hm : ∀ d, d < e → ¬ Wk (suc a) (d + 1) n n) (he : e ≤ 100) (hW : Way (suc a) n (e + 1) n (n :: r)) : millwrightref25_first.f k a n = some (n :: r) := by
  unfold millwrightref25_first.f
  have hn := ha.names
  have e1 := first_loop k hk a ha n (n :: namesL a) (by simp; omega) (fun x y h => List.mem_cons_of_mem _ (suc_names h).1) e he hm e 0 k [n] r [[n]] [n] (by omega) hW
    ⟨⟨by simp, fun x hx => by simp at hx; subst hx; exact List.mem_cons_self⟩, Nat.le_refl _, fun w hw => by simp at hw; subst hw; exact ⟨by simp, rfl, rfl⟩, fun x hx => by simp at hx; subst hx; exact ⟨0, Nat.le_refl _, rfl⟩, [], [], rfl, fun w hw => by cases hw⟩ (by omega)
  rw [e1]; rfl
end Go.Proofs.Ytlmhnhlmlhfigaa
