/- The abstract layer, part M2: pointers that may be nil. -/
import Derived.Test.YthmbbdemecljpaaDoorK11AmM1
namespace Go.AM
set_option linter.unusedVariables false

section
variable {U : Univ} {O : Out} {P : Program} {ops : Array Oper} {o : Oper}

/-! ### turned into such, at an end -/
theorem Conv.optNew {st : St U} (m : Nat) (B : Blk U) (hn : st.names.contains m = false) (hlo : m < K0) : Conv U O st ⟨st.sl, (m, .opt false B) :: st.hp⟩ := by
  intro B' S ι a w hR
  have hn' : m ∉ st.names := by simpa using hn
  have hR' := hR.lay' (ι' := fun k => if k = m then none else ι k) (fun k hk => if_neg fun (e : k = m) => hn' (e ▸ hk)) (fun k hk => if_neg (by omega))
  refine ⟨S, _, { hR' with hp := fun x hx => ?_, own := ⟨fun k hk b c hb => ?_, fun k hk j hj hne b c c' hb => ?_⟩, mine := fun k hk b c hb => ?_ }⟩
  · rcases List.mem_cons.1 hx with rfl | h1
    · exact fun h => by cases h
    · exact hR'.hp x h1
  · rcases List.mem_cons.1 hk with rfl | h1
    · simp at hb
    · exact hR'.own.out k h1 b c hb
  · rcases List.mem_cons.1 hk with rfl | h1
    · simp at hb
    · rcases List.mem_cons.1 hj with rfl | h2
      · simp
      · exact hR'.own.sep k h1 j h2 hne b c c' hb
  · rcases List.mem_cons.1 hk with rfl | h1
    · simp at hb
    · exact hR'.mine k h1 b c hb
theorem Conv.optNil {st : St U} (t m : Nat) (hin : (t, AVal.lit (.pointer none)) ∈ st.sl) : Conv U O st ⟨setA st.sl t (.opt false m), st.hp⟩ := by
  intro B S ι a w hR
  refine ⟨S, ι, { hR with sl := fun x hx => ?_ }⟩
  rcases mem_setA hx with rfl | ⟨h1, _⟩
  · exact ⟨(fun h => by cases h), fun _ => (hR.sl _ hin).1⟩
  · exact hR.sl x h1
theorem Conv.optLoc {st : St U} (t n : Nat) (hin : (t, AVal.loc n 0) ∈ st.sl) : Conv U O st ⟨setA st.sl t (.opt true n), st.hp⟩ := by
  intro B S ι a w hR
  refine ⟨S, ι, { hR with sl := fun x hx => ?_ }⟩
  rcases mem_setA hx with rfl | ⟨h1, _⟩
  · exact ⟨fun _ => hR.sl _ hin, fun h => by cases h⟩
  · exact hR.sl x h1
theorem Conv.optBlk {st : St U} (n : Nat) (B : Blk U) (hin : (n, B) ∈ st.hp) : Conv U O st ⟨st.sl, setA st.hp n (.opt true B)⟩ := by
  intro B' S ι a w hR
  have hm : ∀ k ∈ nm (setA st.hp n (Blk.opt true B)), k ∈ nm st.hp := fun k hk => by
    obtain ⟨x, hx, rfl⟩ := List.mem_map.1 hk
    rcases mem_setA hx with rfl | ⟨h1, _⟩
    · exact List.mem_map.2 ⟨_, hin, rfl⟩
    · exact List.mem_map.2 ⟨_, h1, rfl⟩
  refine ⟨S, ι, { hR with hp := fun x hx => ?_, own := ⟨fun k hk => hR.own.out k (hm k hk), fun k hk j hj => hR.own.sep k (hm k hk) j (hm j hj)⟩, mine := fun k hk => hR.mine k (hm k hk) }⟩
  rcases mem_setA hx with rfl | ⟨h1, _⟩
  · exact fun _ => hR.hp _ hin
  · exact hR.hp x h1

/-! ### taken, where it is known -/
theorem sok_optT {rs : List (Nat × AVal U)} {q : Bool} {n : Nat} (h : SOk U O P ops o { rs := rs, ws := .opt q n }) (hq : q = true) : SOk U O P ops o { rs := rs, ws := .loc n 0 } := by
  intro S ι w a hlt hgl hrs hro hcb hown K Q hK
  refine h S ι w a hlt hgl hrs hro hcb hown K Q fun u S' ι' w' hN hu => hK u S' ι' w' ⟨hN.os, hN.tape, hN.output, hN.size, hN.sub, hN.new, hN.lt, hN.keep, hN.lay, hN.blk, hN.plc, hN.sep⟩ (hu.1 hq)
theorem sok_optF {rs : List (Nat × AVal U)} {q : Bool} {n : Nat} (h : SOk U O P ops o { rs := rs, ws := .opt q n }) (hq : q = false) : SOk U O P ops o { rs := rs, ws := .lit (.pointer none) } := by
  intro S ι w a hlt hgl hrs hro hcb hown K Q hK
  refine h S ι w a hlt hgl hrs hro hcb hown K Q fun u S' ι' w' hN hu => hK u S' ι' w' ⟨hN.os, hN.tape, hN.output, hN.size, hN.sub, hN.new, hN.lt, hN.keep, hN.lay, hN.blk, hN.plc, hN.sep⟩ ⟨hu.2 hq, rfl⟩
/-- The blocks of a pointer that is known to be there. -/
theorem sok_openG {s : LSpec U} {q : Bool} (bs : List (Nat × Blk U)) (h : SOk U O P ops o s) (h1 : s.cb = []) (h2 : s.pb = []) (h3 : s.nn = []) (hq : q = true) :
    SOk U O P ops o { s with cb := bs.map (fun x => (x.1, .opt q x.2)), pb := bs } := by
  intro S ι w a hlt hgl hrs hro hcb hown K Q hK
  have hnm : nm (bs.map (fun x => (x.1, Blk.opt q x.2))) = nm bs := by simp [nm, Function.comp_def]
  have hown1 : Own S ι w (nm s.ro ++ nm s.cb) := by
    rw [h1]
    exact ⟨fun n hn => hown.out n (List.mem_append.2 (.inl (by simpa using hn))), fun n hn m hm => hown.sep n (List.mem_append.2 (.inl (by simpa using hn))) m (List.mem_append.2 (.inl (by simpa using hm)))⟩
  refine h S ι w a hlt hgl hrs hro (by rw [h1]; simp) hown1 K Q fun u S' ι' w' hN hu => hK u S' ι' w' ?_ hu
  have hι : ι' = ι := funext fun n => hN.lay n (by rw [h3]; simp)
  have hin : ∀ n ∈ nm bs, n ∈ nm s.ro ++ nm (bs.map (fun x => (x.1, Blk.opt q x.2))) := fun n hn => List.mem_append.2 (.inr (by rw [hnm]; exact hn))
  have hkeep : ∀ b, b < w.heap.size → w'.heap[b]? = w.heap[b]? := fun b hb => hN.keep b hb (by rw [h1]; simp)
  refine ⟨hN.os, hN.tape, hN.output, hN.size, hN.sub, fun b hb => ?_, hN.lt, fun b hb _ => hkeep b hb, hN.lay, fun x hx => ?_, fun n hn b c hb => ?_, fun n hn m hm hne b c c' hb => ?_⟩
  · rcases hN.new b hb with h | h | ⟨m, hm, _⟩
    · exact .inl h
    · exact .inr (.inl h)
    · rw [h1] at hm; cases hm
  · have hb := hcb (x.1, .opt q x.2) (List.mem_map.2 ⟨x, hx, rfl⟩) hq
    exact BR.mono (fun b hb => hkeep b (hlt b hb)) hN.sub (by rw [hι]) (fun _ _ => by rw [hι]) (fun b c hb => hkeep b (hown.out x.1 (hin _ (List.mem_map.2 ⟨x, hx, rfl⟩)) b c hb).2) hb
  · rw [hι] at hb
    obtain ⟨o1, o2⟩ := hown.out n (hin n hn) b c hb
    refine ⟨fun hS => ?_, Nat.lt_of_lt_of_le o2 hN.size, .inr ⟨n, by rw [hnm]; exact hn, c, hb⟩⟩
    rcases hN.new b hS with h | h | ⟨m, hm, _⟩
    · exact o1 h
    · omega
    · rw [h1] at hm; cases hm
  · rw [hι] at hb ⊢
    exact hown.sep n (hin n hn) m (hin m hm) hne b c c' hb
theorem sok_open {rs : List (Nat × AVal U)} {ws : AVal U} {q : Bool} (bs : List (Nat × Blk U)) (h : SOk U O P ops o { rs := rs, ws := ws }) (hq : q = true) :
    SOk U O P ops o { rs := rs, ws := ws, cb := bs.map (fun x => (x.1, .opt q x.2)), pb := bs } := sok_openG (s := { rs := rs, ws := ws }) bs h rfl rfl rfl hq
end
end Go.AM
